/-
  'Less' of the document is the order of bytes; 'has' is membership. Conditions: lengths that fit a number of 64 bits. 'More', 'Within', 'Same' of both texts, of rows of texts. Conditions: lengths that fit. 'More' and 'Within' of the program: by a map that counts. Conditions: lengths that fit.
-/
import Derived.Test.YtgkalmmlgkaabaaGreatT3
import Derived.Test.YtgkalmmlgkaabaaGreatT2
import Derived.Test.YtgkalmmlgkaabaaGreatM5
import Derived.Test.YtgkalmmlgkaabaaGreatM6
import Derived.KernelRfl
namespace Go.Proofs.YtgkalmmlgkaabaaGreat.Am
open Go.Proofs

theorem index_str {T : TE} {t : Nat} {ti : TI} (ht : T t = some ti) (hk : ti.k = .string) {s : List UInt8} {k : IntKind} {i : Nat} (h : i < s.length) : index T t (.str s) (.int k (i : Nat)) = some (.int .u8 s[i].toNat) := by
  unfold index
  simp [ht, hk, h]

theorem bl_drop : ∀ (i : Nat) (a b : List UInt8), i ≤ a.length → i ≤ b.length → a.take i = b.take i → Op.bytesLess a b = Op.bytesLess (a.drop i) (b.drop i)
  | 0, a, b, _, _, _ => by simp
  | i + 1, [], b, h, _, _ => by simp at h
  | i + 1, _ :: _, [], _, h, _ => by simp at h
  | i + 1, x :: a, y :: b, h1, h2, h => by
    simp only [List.take_succ_cons, List.cons.injEq] at h
    obtain ⟨rfl, h⟩ := h
    simp only [List.drop_succ_cons]
    rw [← bl_drop i a b (by simpa using h1) (by simpa using h2) h]
    simp [Op.bytesLess]

theorem bl_ne {a b : List UInt8} {i : Nat} (ha : i < a.length) (hb : i < b.length) (h : a.take i = b.take i) (hne : a[i] ≠ b[i]) : Op.bytesLess a b = decide (a[i] < b[i]) := by
  rw [bl_drop i a b (by omega) (by omega) h, List.drop_eq_getElem_cons ha, List.drop_eq_getElem_cons hb]
  simp [Op.bytesLess, hne]

theorem bl_end {a b : List UInt8} {i : Nat} (ha : i ≤ a.length) (hb : i ≤ b.length) (h : a.take i = b.take i) (he : i = a.length ∨ i = b.length) : Op.bytesLess a b = decide (a.length < b.length) := by
  rw [bl_drop i a b ha hb h]
  rcases he with rfl | rfl
  · rw [List.drop_length]
    by_cases hl : a.length < b.length
    · rw [List.drop_eq_getElem_cons hl]
      simp [Op.bytesLess, hl]
    · have : a.length = b.length := by omega
      rw [this, List.drop_length]
      simp [Op.bytesLess]
  · rw [List.drop_length]
    have : ¬ a.length < b.length := by omega
    rw [decide_eq_false this]
    cases a.drop b.length <;> simp [Op.bytesLess]

theorem wrap_small {n : Int} (h : 0 ≤ n) (h2 : n < 9223372036854775808) : IntKind.i64.wrap n = n := by
  have e : n % (2 ^ IntKind.i64.bits : Int) = n := Int.emod_eq_of_lt h (by show n < 18446744073709551616; omega)
  unfold IntKind.wrap
  rw [e]
  have : ¬ n ≥ (2 ^ (IntKind.i64.bits - 1) : Int) := by show ¬ n ≥ 9223372036854775808; omega
  simp [this]

set_option maxRecDepth 100000 in
theorem less_to (a b : List UInt8) (ha : a.length < 9223372036854775808) (st : St) : CallsTo TT EE RR 5 [.str a, .str b] st (.bool (Op.bytesLess a b), st) := by
  refine callsTo_pure (fi := x5.fi) rfl rfl rfl ?_
  conv => whnf
  refine w_rounds (α := { i : Nat // i ≤ a.length ∧ i ≤ b.length ∧ a.take i = b.take i }) (fun i => mkF 37 [(0, .str a), (1, .str b), (5, .int .i64 i.1)]) (fun _ => ⟨[], 0⟩) (fun i => a.length - i.1) ⟨0, by simp, by simp, by simp⟩ ?_ ?_ ?_
  · kernel_rfl
  · kernel_rfl
  rintro ⟨i, hia, hib, hab⟩
  conv => whnf
  split
  · rename_i h1
    have h1 : i < a.length := by simpa using h1
    conv => whnf
    split
    · rename_i h2
      have h2 : i < b.length := by simpa using h2
      conv => whnf
      refine ⟨_, index_str (ti := ti9) rfl rfl h1, ?_⟩
      conv => whnf
      refine ⟨_, index_str (ti := ti9) rfl rfl h2, ?_⟩
      conv => whnf
      split
      · rename_i h3
        have h3 : a[i] ≠ b[i] := by
          intro he
          rw [he] at h3
          simp at h3
        conv => whnf
        refine ⟨_, index_str (ti := ti9) rfl rfl h1, ?_⟩
        conv => whnf
        refine ⟨_, index_str (ti := ti9) rfl rfl h2, ?_⟩
        conv => whnf
        refine ⟨.inl rfl, _, rfl, ?_⟩
        show some (AV.bool _) = some (AV.bool _)
        rw [bl_ne h1 h2 hab h3]
        congr 2
        rw [decide_eq_decide, UInt8.lt_iff_toNat_lt]
        omega
      · rename_i h3
        have h3 : a[i] = b[i] := by
          simp at h3
          exact UInt8.toNat_inj.1 (by omega)
        conv => whnf
        refine ⟨⟨i + 1, by omega, by omega, ?_⟩, ?_, ?_, rfl⟩
        · rw [List.take_succ_eq_append_getElem h1, List.take_succ_eq_append_getElem h2, hab, h3]
        · show a.length - (i + 1) < a.length - i
          omega
        · have e : IntKind.i64.wrap ((i : Int) + 1) = ((i + 1 : Nat) : Int) := by
            rw [wrap_small (by omega) (by omega)]; omega
          show clear _ _ = mkF 37 [(0, .str a), (1, .str b), (5, .int .i64 ((i + 1 : Nat) : Int))]
          rw [← e]
          kernel_rfl
    · rename_i h2
      have h2 : ¬ i < b.length := by simpa using h2
      conv => whnf
      refine ⟨.inl rfl, _, rfl, ?_⟩
      show some (AV.bool _) = some (AV.bool _)
      rw [bl_end hia hib hab (.inr (by omega))]
      simp
  · rename_i h1
    have h1 : ¬ i < a.length := by simpa using h1
    conv => whnf
    refine ⟨.inl rfl, _, rfl, ?_⟩
    show some (AV.bool _) = some (AV.bool _)
    rw [bl_end hia hib hab (.inl (by omega))]
    simp

/-- a row of texts -/
def SL (l : List (List UInt8)) (v : AV) : Prop := (v = .nils ∧ l = []) ∨ ∃ full, v = .fsl l.length 1 (l.map .str) full true

theorem ix_fsl {l : List (List UInt8)} {full : Bool} {k : IntKind} {i : Nat} (h : i < l.length) : indexAddr TT 22 (.fsl l.length 1 (l.map .str) full true) (.int k (i : Nat)) = some (.fptr [.str l[i]] 0) := by
  have e1 : TT 22 = some ti22 := by kernel_rfl
  have e2 : TT 9 = some ti9 := by kernel_rfl
  unfold indexAddr
  simp only [e1, ti22, e2, ti9]
  have h2 : (((l.map AV.str).drop (i * 1)).take 1) = [AV.str l[i]] := by
    rw [Nat.mul_one, List.drop_eq_getElem_cons (by simpa using h)]
    simp
  rw [if_pos ⟨trivial, by omega, by omega⟩]
  simp only [Int.toNat_natCast, h2]

theorem ld_str {objs : List Obj} {s : List UInt8} : load TT objs 9 (.fptr [.str s] 0) = some (.str s) := by kernel_rfl

set_option maxRecDepth 100000 in
theorem has_to (l : List (List UInt8)) (v : AV) (hv : SL l v) (s : List UInt8) (hl : l.length < 4611686018427387904) (st : St) : CallsTo TT EE RR 14 [v, .str s] st (.bool (l.contains s), st) := by
  rcases hv with ⟨rfl, rfl⟩ | ⟨full, rfl⟩
  · refine callsTo_pure (fi := x14.fi) rfl rfl rfl ?_
    conv => whnf
    refine w_rounds (α := Unit) (fun _ => mkF 18 [(0, .nils), (1, .str s), (5, .int .i64 0)]) (fun _ => ⟨[], 0⟩) (fun _ => 0) () ?_ ?_ ?_
    · kernel_rfl
    · kernel_rfl
    rintro ⟨⟩
    conv => whnf
    refine ⟨.inl rfl, _, rfl, rfl⟩
  · refine callsTo_pure (fi := x14.fi) rfl rfl rfl ?_
    conv => whnf
    refine w_rounds (α := { i : Nat // i ≤ l.length ∧ (l.take i).contains s = false }) (fun i => mkF 18 [(0, .fsl l.length 1 (l.map .str) full true), (1, .str s), (5, .int .i64 i.1)]) (fun _ => ⟨[], 0⟩) (fun i => l.length - i.1) ⟨0, by simp, by simp⟩ ?_ ?_ ?_
    · kernel_rfl
    · kernel_rfl
    rintro ⟨i, hi, hno⟩
    conv => whnf
    split
    · rename_i h1
      have h1 : i < l.length := by simpa using h1
      conv => whnf
      refine ⟨_, ix_fsl h1, ?_⟩
      conv => whnf
      refine ⟨_, ld_str, ?_⟩
      conv => whnf
      split
      · rename_i h2
        have h2 : l[i] = s := by simpa using h2
        conv => whnf
        refine ⟨.inl rfl, _, rfl, ?_⟩
        have : l.contains s = true := by
          rw [List.contains_iff_mem]
          exact h2 ▸ List.getElem_mem h1
        rw [this]
        rfl
      · rename_i h2
        have h2 : ¬ l[i] = s := by simpa using h2
        conv => whnf
        refine ⟨⟨i + 1, by omega, ?_⟩, ?_, ?_, rfl⟩
        · have h3 : s ∉ l.take i := by simpa using hno
          have h4 : s ∉ l.take (i + 1) := by
            rw [List.take_succ_eq_append_getElem h1]
            simp only [List.mem_append, List.mem_singleton]
            rintro (h | h)
            · exact h3 h
            · exact h2 h.symm
          simpa using h4
        · show l.length - (i + 1) < l.length - i
          omega
        · have e : IntKind.i64.wrap ((i : Int) + 1) = ((i + 1 : Nat) : Int) := by
            rw [wrap_small (by omega) (by omega)]; omega
          show clear _ _ = mkF 18 [(0, .fsl l.length 1 (l.map .str) full true), (1, .str s), (5, .int .i64 ((i + 1 : Nat) : Int))]
          rw [← e]
          kernel_rfl
    · rename_i h1
      have h1 : ¬ i < l.length := by simpa using h1
      conv => whnf
      refine ⟨.inl rfl, _, rfl, ?_⟩
      have hil : i = l.length := by omega
      rw [hil, List.take_length] at hno
      rw [hno]
      rfl
end Go.Proofs.YtgkalmmlgkaabaaGreat.Am

namespace Go.Proofs.YtgkalmmlgkaabaaGreat.Am
open Go.Proofs

theorem SL.closed {l : List (List UInt8)} {v : AV} (h : SL l v) : v.closed = true := by
  rcases h with ⟨rfl, _⟩ | ⟨_, rfl⟩ <;> rfl

/-- a row that grows, as object number r -/
def accV (r : Nat) (acc : List (List UInt8)) : AV := match acc with
  | [] => .nils
  | _ :: l => .sl r 0 (l.length + 1) 1 l.length
def accO (pre : List Obj) (acc : List (List UInt8)) : List Obj := match acc with
  | [] => pre
  | s :: l => pre ++ [.cells ((s :: l).map .str) l.length]
/-- the same, handed back -/
def resV (acc : List (List UInt8)) : AV := match acc with
  | [] => .nils
  | s :: l => .fsl (l.length + 1) 1 ((s :: l).map .str) false true

theorem resV_sl (acc : List (List UInt8)) : SL acc (resV acc) := by
  cases acc with
  | nil => exact .inl ⟨rfl, rfl⟩
  | cons s l => exact .inr ⟨false, by simp [resV]⟩

theorem tt22 : TT 22 = some ti22 := by kernel_rfl
theorem tt9 : TT 9 = some ti9 := by kernel_rfl

theorem append_acc {pre : List Obj} {acc : List (List UInt8)} {s : List UInt8} {full so : Bool} (h : acc.length + 1 ≤ 2147483648) :
    append TT ⟨accO pre acc, 0⟩ 22 (accV pre.length acc) (.fsl 1 1 [.str s] full so) = some (accV pre.length (acc ++ [s]), ⟨accO pre (acc ++ [s]), 0⟩) := by
  have hv : ∀ objs, view objs 1 (.fsl 1 1 [.str s] full so) = some (1, [.str s]) := fun _ => rfl
  unfold append
  simp only [tt22, ti22, tt9, ti9, hv]
  cases acc with
  | nil =>
    simp only [accV, accO]
    rw [if_neg (by omega), if_pos (by unfold lim; omega)]
    rfl
  | cons x l =>
    simp only [accV, accO, List.cons_append]
    rw [if_neg (by omega)]
    have e1 : (pre ++ [Obj.cells ((x :: l).map .str) l.length])[pre.length]? = some (Obj.cells ((x :: l).map .str) l.length) := by simp
    simp only [e1]
    rw [if_pos ⟨Nat.zero_le _, trivial, trivial, by unfold lim; simpa using h⟩]
    have e2 : (((x :: l).map AV.str).drop 0).take ((l.length + 1) * 1) = (x :: l).map .str := by
      rw [List.drop_zero, Nat.mul_one]
      exact List.take_of_length_le (by simp)
    rw [e2]
    simp

theorem mapM_str (f : AV → Option AV) (hf : ∀ s, f (.str s) = some (.str s)) : ∀ l : List (List UInt8), (l.map AV.str).mapM f = some (l.map AV.str)
  | [] => rfl
  | s :: l => by
    rw [List.map_cons, List.mapM_cons, hf, mapM_str f hf l]
    rfl

theorem all_str : ∀ l : List (List UInt8), (l.map AV.str).all AV.solid = true
  | [] => rfl
  | s :: l => by rw [List.map_cons, List.all_cons, all_str l]; rfl

theorem frz_sl {objs : List Obj} {n0 d r off n s g gen : Nat} {c cs : List AV} (h : ¬ r < n0) (hr : objs[r]? = some (.cells c gen)) (hg : gen = g) (hm : ((c.drop off).take (n * s)).mapM (frz objs n0 d) = some cs) : frz objs n0 (d + 1) (.sl r off n s g) = some (.fsl n s cs false (cs.all AV.solid)) := by
  rw [frz]
  simp only [h, if_false, hr, hg, if_true, hm]

theorem frz_str (objs : List Obj) (n0 d : Nat) (s : List UInt8) : frz objs n0 (d + 1) (.str s) = some (.str s) := rfl

theorem frz_acc (pre : List Obj) (acc : List (List UInt8)) : frz (accO pre acc) 0 12 (accV pre.length acc) = some (resV acc) := by
  cases acc with
  | nil => rfl
  | cons x l =>
    have e1 : (pre ++ [Obj.cells ((x :: l).map .str) l.length])[pre.length]? = some (Obj.cells ((x :: l).map .str) l.length) := by simp
    have e2 : (((x :: l).map AV.str).drop 0).take ((l.length + 1) * 1) = (x :: l).map .str := by
      rw [List.drop_zero, Nat.mul_one]
      exact List.take_of_length_le (by simp)
    have := frz_sl (objs := pre ++ [Obj.cells ((x :: l).map .str) l.length]) (n0 := 0) (d := 11) (r := pre.length) (off := 0) (n := l.length + 1) (s := 1) (cs := (x :: l).map .str) (Nat.not_lt_zero _) e1 rfl (by rw [e2]; exact mapM_str _ (frz_str _ 0 10) _)
    rw [all_str] at this
    exact this

def moreL (a b : List (List UInt8)) : List (List UInt8) := b.filter fun s => !a.contains s

theorem filter_take_succ {α : Type} (p : α → Bool) {l : List α} {i : Nat} (h : i < l.length) : (l.take (i + 1)).filter p = (l.take i).filter p ++ (if p l[i] then [l[i]] else []) := by
  rw [List.take_succ_eq_append_getElem h, List.filter_append]
  congr 1
  by_cases hp : p l[i] = true <;> simp [hp]

theorem inc64 {i : Nat} (h : i < 4611686018427387904) : IntKind.i64.wrap ((i : Int) + 1) = ((i + 1 : Nat) : Int) := by
  rw [wrap_small (by omega) (by omega)]; omega

set_option maxRecDepth 100000 in
theorem refMore_to (a b : List (List UInt8)) (va vb : AV) (ha : SL a va) (hb : SL b vb) (hal : a.length < 2147483648) (hbl : b.length < 2147483648) (st : St) : CallsTo TT EE RR 10 [va, vb] st (resV (moreL a b), st) := by
  have hcl : [va, vb].all AV.closed = true := by simp [ha.closed, hb.closed]
  refine callsTo_pure (fi := x10.fi) rfl rfl hcl ?_
  rcases hb with ⟨rfl, rfl⟩ | ⟨full, rfl⟩
  · conv => whnf
    refine w_upd (α := Unit) (fun _ => []) (fun _ => ⟨[], 0⟩) (fun _ => 0) () ?_ ?_ ?_
    · kernel_rfl
    · kernel_rfl
    rintro ⟨⟩
    conv => whnf
    exact ⟨.inl rfl, _, rfl, rfl⟩
  · conv => whnf
    refine w_upd (α := { i : Nat // i ≤ b.length }) (fun i => [(5, accV 0 (moreL a (b.take i.1))), (6, .int .i64 i.1)]) (fun i => ⟨accO [] (moreL a (b.take i.1)), 0⟩) (fun i => b.length - i.1) ⟨0, by simp⟩ ?_ ?_ ?_
    · kernel_rfl
    · kernel_rfl
    rintro ⟨i, hi⟩
    conv => whnf
    split
    · rename_i h1
      have h1 : i < b.length := by simpa using h1
      conv => whnf
      refine ⟨_, ix_fsl h1, ?_⟩
      conv => whnf
      refine ⟨_, ld_str, ?_⟩
      conv => whnf
      refine ⟨_, has_to a va ha b[i] (by omega) _, ?_⟩
      conv => whnf
      have hm := filter_take_succ (fun s => !a.contains s) h1
      split
      · rename_i h2
        have h2 : a.contains b[i] = false := by simpa using h2
        conv => whnf
        refine ⟨_, ix_fsl h1, ?_⟩
        conv => whnf
        refine ⟨_, ld_str, ?_⟩
        conv => whnf
        have hlen : (moreL a (b.take i)).length + 1 ≤ 2147483648 := by
          have : (moreL a (b.take i)).length ≤ (b.take i).length := List.length_filter_le _ _
          rw [List.length_take] at this
          omega
        refine ⟨_, append_acc (pre := []) hlen, ?_⟩
        conv => whnf
        have e : moreL a (b.take i) ++ [b[i]] = moreL a (b.take (i + 1)) := by
          unfold moreL
          rw [hm, h2]
          rfl
        refine ⟨⟨i + 1, by omega⟩, ?_, ?_, ?_⟩
        · show b.length - (i + 1) < b.length - i
          omega
        · show clear _ _ = updF _ [(5, accV 0 (moreL a (b.take (i + 1)))), (6, .int .i64 ((i + 1 : Nat) : Int))]
          rw [← inc64 (by omega), ← e]
          kernel_rfl
        · show _ = St.mk (accO [] (moreL a (b.take (i + 1)))) 0
          rw [← e]
      · rename_i h2
        have h2 : a.contains b[i] = true := by simpa using h2
        conv => whnf
        have e : moreL a (b.take i) = moreL a (b.take (i + 1)) := by
          unfold moreL
          rw [hm, h2]
          simp
        refine ⟨⟨i + 1, by omega⟩, ?_, ?_, ?_⟩
        · show b.length - (i + 1) < b.length - i
          omega
        · show clear _ _ = updF _ [(5, accV 0 (moreL a (b.take (i + 1)))), (6, .int .i64 ((i + 1 : Nat) : Int))]
          rw [← inc64 (by omega), ← e]
          kernel_rfl
        · show _ = St.mk (accO [] (moreL a (b.take (i + 1)))) 0
          rw [← e]
    · rename_i h1
      have h1 : ¬ i < b.length := by simpa using h1
      conv => whnf
      refine ⟨.inl rfl, _, rfl, ?_⟩
      have hil : i = b.length := by omega
      show frz (accO [] (moreL a (b.take i))) 0 12 (accV 0 (moreL a (b.take i))) = _
      rw [hil, List.take_length]
      exact frz_acc [] _

theorem same_drop {a b : List (List UInt8)} {i : Nat} (ha : i < a.length) (hb : i < b.length) (h : a.take i = b.take i) (he : a[i] = b[i]) : a.take (i + 1) = b.take (i + 1) := by
  rw [List.take_succ_eq_append_getElem ha, List.take_succ_eq_append_getElem hb, h, he]

set_option maxRecDepth 100000 in
theorem same_to (a b : List (List UInt8)) (va vb : AV) (ha : SL a va) (hb : SL b vb) (hal : a.length < 2147483648) (st : St) : CallsTo TT EE RR 9 [va, vb] st (.bool (decide (a = b)), st) := by
  have hcl : [va, vb].all AV.closed = true := by simp [ha.closed, hb.closed]
  refine callsTo_pure (fi := x9.fi) rfl rfl hcl ?_
  rcases ha with ⟨rfl, rfl⟩ | ⟨full, rfl⟩ <;> rcases hb with ⟨rfl, rfl⟩ | ⟨full2, rfl⟩
  · conv => whnf
    refine w_upd (α := Unit) (fun _ => []) (fun _ => ⟨[], 0⟩) (fun _ => 0) () ?_ ?_ ?_
    · kernel_rfl
    · kernel_rfl
    rintro ⟨⟩
    conv => whnf
    exact ⟨.inl rfl, _, rfl, rfl⟩
  · conv => whnf
    split
    · rename_i h
      have h : ¬ (0 = b.length) := by
        intro h0
        rw [← h0] at h
        simp at h
      conv => whnf
      refine ⟨.inl rfl, _, rfl, ?_⟩
      have : ([] : List (List UInt8)) ≠ b := by rintro rfl; exact h rfl
      rw [decide_eq_false this]
      rfl
    · rename_i h
      have h : b.length = 0 := by
        simp only [bne_eq_false_iff_eq] at h
        omega
      have hb0 : b = [] := List.length_eq_zero_iff.1 h
      subst hb0
      conv => whnf
      refine w_upd (α := Unit) (fun _ => []) (fun _ => ⟨[], 0⟩) (fun _ => 0) () ?_ ?_ ?_
      · kernel_rfl
      · kernel_rfl
      rintro ⟨⟩
      conv => whnf
      exact ⟨.inl rfl, _, rfl, rfl⟩
  · conv => whnf
    split
    · rename_i h
      have h : ¬ (a.length = 0) := by
        intro h0
        rw [h0] at h
        simp at h
      conv => whnf
      refine ⟨.inl rfl, _, rfl, ?_⟩
      have : a ≠ [] := by rintro rfl; exact h rfl
      rw [decide_eq_false this]
      rfl
    · rename_i h
      have h : a.length = 0 := by
        simp only [bne_eq_false_iff_eq] at h
        omega
      have hb0 : a = [] := List.length_eq_zero_iff.1 h
      subst hb0
      conv => whnf
      refine w_upd (α := Unit) (fun _ => []) (fun _ => ⟨[], 0⟩) (fun _ => 0) () ?_ ?_ ?_
      · kernel_rfl
      · kernel_rfl
      rintro ⟨⟩
      conv => whnf
      exact ⟨.inl rfl, _, rfl, rfl⟩
  · conv => whnf
    split
    · rename_i h
      have h : ¬ (a.length = b.length) := by
        intro h0
        rw [h0] at h
        simp at h
      conv => whnf
      refine ⟨.inl rfl, _, rfl, ?_⟩
      have : a ≠ b := by rintro rfl; exact h rfl
      rw [decide_eq_false this]
      rfl
    · rename_i h
      have h : a.length = b.length := by
        simp only [bne_eq_false_iff_eq] at h
        omega
      conv => whnf
      refine w_upd (α := { i : Nat // i ≤ a.length ∧ a.take i = b.take i }) (fun i => [(5, .int .i64 i.1)]) (fun _ => ⟨[], 0⟩) (fun i => a.length - i.1) ⟨0, by simp, by simp⟩ ?_ ?_ ?_
      · kernel_rfl
      · kernel_rfl
      rintro ⟨i, hi, hab⟩
      conv => whnf
      split
      · rename_i h1
        have h1 : i < a.length := by simpa using h1
        have h2 : i < b.length := by omega
        conv => whnf
        refine ⟨_, ix_fsl h1, ?_⟩
        conv => whnf
        refine ⟨_, ld_str, ?_⟩
        conv => whnf
        refine ⟨_, ix_fsl h2, ?_⟩
        conv => whnf
        refine ⟨_, ld_str, ?_⟩
        conv => whnf
        split
        · rename_i h3
          have h3 : a[i] ≠ b[i] := by
            intro he
            rw [he] at h3
            simp at h3
          conv => whnf
          refine ⟨.inl rfl, _, rfl, ?_⟩
          have : a ≠ b := by rintro rfl; exact h3 rfl
          rw [decide_eq_false this]
          rfl
        · rename_i h3
          have h3 : a[i] = b[i] := by simpa using h3
          conv => whnf
          refine ⟨⟨i + 1, by omega, same_drop h1 h2 hab h3⟩, ?_, ?_, rfl⟩
          · show a.length - (i + 1) < a.length - i
            omega
          · show clear _ _ = updF _ [(5, .int .i64 ((i + 1 : Nat) : Int))]
            rw [← inc64 (by omega)]
            kernel_rfl
      · rename_i h1
        have h1 : ¬ i < a.length := by simpa using h1
        conv => whnf
        refine ⟨.inl rfl, _, rfl, ?_⟩
        have hil : i = a.length := by omega
        have : a = b := by
          rw [hil, List.take_length, h, List.take_length] at hab
          exact hab
        rw [decide_eq_true this]
        rfl

set_option maxRecDepth 100000 in
theorem refWithin_to (a b : List (List UInt8)) (va vb : AV) (ha : SL a va) (hb : SL b vb) (hal : a.length < 2147483648) (hbl : b.length < 2147483648) (st : St) : CallsTo TT EE RR 8 [va, vb] st (.bool (decide (moreL b a = [])), st) := by
  have hcl : [va, vb].all AV.closed = true := by simp [ha.closed, hb.closed]
  refine callsTo_pure (fi := x8.fi) rfl rfl hcl ?_
  conv => whnf
  refine ⟨_, refMore_to b a vb va hb ha hbl hal _, ?_⟩
  have hr := resV_sl (moreL b a)
  generalize resV (moreL b a) = v at hr
  rcases hr with ⟨rfl, h⟩ | ⟨full, rfl⟩
  · conv => whnf
    refine ⟨.inl rfl, _, rfl, ?_⟩
    rw [decide_eq_true h]
    rfl
  · conv => whnf
    refine ⟨.inl rfl, _, rfl, ?_⟩
    show some (AV.bool _) = some (AV.bool _)
    congr 2
    rw [Bool.eq_iff_iff]
    simp
end Go.Proofs.YtgkalmmlgkaabaaGreat.Am

namespace Go.Proofs.YtgkalmmlgkaabaaGreat.Am
open Go.Proofs

def keysE (es : List (AV × AV × Nat)) : Prop := ∀ e ∈ es, ∃ s, e.1 = .str s

theorem find_put (s : List UInt8) (v : AV) : ∀ (es : List (AV × AV × Nat)) (clock : Nat), keysE es → ∃ es' c', putE (.str s) v clock es = some (es', c') ∧ keysE es' ∧ ∀ t, findE (.str t) es' = if t = s then some (some v) else findE (.str t) es
  | [], clock, _ => by
    refine ⟨[(.str s, v, clock)], clock + 1, rfl, by intro e he; simp at he; exact ⟨s, by rw [he]⟩, fun t => ?_⟩
    by_cases h : t = s
    · subst h; simp [findE, scalEq]
    · have hf : (t == s) = false := by simpa using h
      simp [findE, scalEq, hf, h]
  | (k, u, b) :: es, clock, hk => by
    obtain ⟨k', hk'⟩ := hk (k, u, b) (by simp)
    simp only at hk'
    subst hk'
    by_cases h : s = k'
    · subst h
      refine ⟨(.str s, v, b) :: es, clock, by simp [putE, scalEq], ?_, fun t => ?_⟩
      · intro e he
        rcases List.mem_cons.1 he with rfl | he
        · exact ⟨s, rfl⟩
        · exact hk e (by simp [he])
      · by_cases ht : t = s
        · subst ht; simp [findE, scalEq]
        · have hf : (t == s) = false := by simpa using ht
          simp [findE, scalEq, hf, ht]
    · obtain ⟨es', c', h1, h2, h3⟩ := find_put s v es clock (fun e he => hk e (by simp [he]))
      have hf0 : (s == k') = false := by simpa using h
      refine ⟨(.str k', u, b) :: es', c', by simp [putE, scalEq, hf0, h1], ?_, fun t => ?_⟩
      · intro e he
        rcases List.mem_cons.1 he with rfl | he
        · exact ⟨k', rfl⟩
        · exact h2 e he
      · by_cases ht : t = k'
        · subst ht
          simp [findE, scalEq, Ne.symm h]
        · have hf : (t == k') = false := by simpa using ht
          simp only [findE, scalEq, hf, h3]

def cntV (n : Nat) : Option AV := if n = 0 then none else some (.int .i64 n)

/-- the map counts -/
def Counts (l : List (List UInt8)) (es : List (AV × AV × Nat)) : Prop := keysE es ∧ ∀ s, findE (.str s) es = some (cntV (l.count s))

theorem tt40 : TT 40 = some ti40 := by kernel_rfl
theorem tt3 : TT 3 = some ti3 := by kernel_rfl

theorem lookup_cnt {l : List (List UInt8)} {es : List (AV × AV × Nat)} {clock fl : Nat} {rest : List Obj} (h : Counts l es) (s : List UInt8) : lookup TT ({ objs := Obj.map es clock :: rest, floor := fl } : St).objs 40 (.map 0) (.str s) false = some (.int .i64 (l.count s : Nat)) := by
  have hk : keyT TT 9 (.str s) = true := by kernel_rfl
  unfold lookup
  simp only [tt40, ti40, tt3, hk, if_true, List.getElem?_cons_zero, h.2 s, cntV]
  by_cases hc : l.count s = 0
  · simp [hc, orZero, ti3]
  · simp [hc, orZero]

theorem update_cnt {l : List (List UInt8)} {es : List (AV × AV × Nat)} {clock : Nat} (h : Counts l es) (s : List UInt8) (hl : l.length < 2147483648) :
    ∃ es' c', mapUpdate TT { objs := [Obj.map es clock], floor := 0 } 40 (.map 0) (.str s) (.int .i64 (IntKind.i64.wrap ((l.count s : Nat) + 1))) = some { objs := [Obj.map es' c'], floor := 0 } ∧ Counts (l ++ [s]) es' := by
  have hk : keyT TT 9 (.str s) = true := by kernel_rfl
  obtain ⟨es', c', h1, h2, h3⟩ := find_put s (.int .i64 (IntKind.i64.wrap ((l.count s : Nat) + 1))) es clock h.1
  refine ⟨es', c', ?_, h2, fun t => ?_⟩
  · unfold mapUpdate
    simp only [tt40, ti40, List.getElem?_cons_zero, hk, h1]
    rfl
  · rw [h3 t]
    have hcl : l.count s ≤ l.length := List.count_le_length
    rw [inc64 (by omega)]
    by_cases ht : t = s
    · subst ht
      simp [cntV, List.count_append]
    · rw [if_neg ht, h.2 t]
      have : ([s] : List (List UInt8)).count t = 0 := by simp [Ne.symm ht]
      simp [cntV, List.count_append, this]

theorem take_add {α : Type} {l : List α} {i : Nat} (h : i < l.length) : l.take (i + 1) = l.take i ++ [l[i]] := List.take_succ_eq_append_getElem h

theorem cnt_zero {a : List (List UInt8)} {s : List UInt8} (h : ((a.count s : Nat) : Int) = 0) : a.contains s = false := by
  have : a.count s = 0 := by omega
  rw [List.count_eq_zero] at this
  simpa using this

theorem cnt_pos {a : List (List UInt8)} {s : List UInt8} (h : ¬ ((a.count s : Nat) : Int) = 0) : a.contains s = true := by
  cases hc : a.contains s with
  | true => rfl
  | false =>
    have : s ∉ a := by simpa using hc
    rw [← List.count_eq_zero] at this
    exact absurd (by omega) h

theorem lookup_cnt2 {l acc : List (List UInt8)} {es : List (AV × AV × Nat)} {clock fl : Nat} (h : Counts l es) (s : List UInt8) : lookup TT ({ objs := accO [Obj.map es clock] acc, floor := fl } : St).objs 40 (.map 0) (.str s) false = some (.int .i64 (l.count s : Nat)) := by
  cases acc with
  | nil => exact lookup_cnt (rest := []) h s
  | cons x xs => exact lookup_cnt (rest := [.cells ((x :: xs).map .str) xs.length]) h s

set_option maxRecDepth 100000 in
theorem more_to (a b : List (List UInt8)) (va vb : AV) (ha : SL a va) (hb : SL b vb) (hal : a.length < 2147483648) (hbl : b.length < 2147483648) (st : St) : CallsTo TT EE RR 6 [va, vb] st (resV (moreL a b), st) := by
  have hcl : [va, vb].all AV.closed = true := by simp [ha.closed, hb.closed]
  refine callsTo_pure (fi := x6.fi) rfl rfl hcl ?_
  rcases ha with ⟨rfl, rfl⟩ | ⟨full, rfl⟩
  · conv => whnf
    refine w_upd (α := Unit) (fun _ => []) (fun _ => ⟨[.map [] 0], 0⟩) (fun _ => 0) () ?_ ?_ ?_
    · kernel_rfl
    · kernel_rfl
    rintro ⟨⟩
    · have hcnt : Counts [] [] := ⟨by intro e he; simp at he, fun s => by simp [findE, cntV]⟩
      conv => whnf
      rcases hb with ⟨rfl, rfl⟩ | ⟨fullb, rfl⟩
      · conv => whnf
        refine w_upd (α := Unit) (fun _ => []) (fun _ => ⟨[.map [] 0], 0⟩) (fun _ => 0) () ?_ ?_ ?_
        · kernel_rfl
        · kernel_rfl
        rintro ⟨⟩
        conv => whnf
        exact ⟨.inl rfl, _, rfl, rfl⟩
      · conv => whnf
        refine w_upd (α := { i : Nat // i ≤ b.length }) (fun i => [(8, accV 1 (moreL [] (b.take i.1))), (25, .int .i64 i.1)]) (fun i => ⟨accO [.map [] 0] (moreL [] (b.take i.1)), 0⟩) (fun i => b.length - i.1) ⟨0, by simp⟩ ?_ ?_ ?_
        · kernel_rfl
        · kernel_rfl
        rintro ⟨i, hi⟩
        conv => whnf
        split
        · rename_i h1
          have h1 : i < b.length := by simpa using h1
          conv => whnf
          refine ⟨_, ix_fsl h1, ?_⟩
          conv => whnf
          refine ⟨_, ld_str, ?_⟩
          conv => whnf
          refine ⟨_, lookup_cnt2 hcnt b[i], ?_⟩
          conv => whnf
          have hm := filter_take_succ (fun s => !([] : List (List UInt8)).contains s) h1
          have h2 : ([] : List (List UInt8)).contains b[i] = false := rfl
          have hlen : (moreL [] (b.take i)).length + 1 ≤ 2147483648 := by
            have : (moreL [] (b.take i)).length ≤ (b.take i).length := List.length_filter_le _ _
            rw [List.length_take] at this
            omega
          refine ⟨_, append_acc (pre := [.map [] 0]) hlen, ?_⟩
          conv => whnf
          have e : moreL [] (b.take i) ++ [b[i]] = moreL [] (b.take (i + 1)) := by
            unfold moreL
            rw [hm, h2]
            rfl
          refine ⟨⟨i + 1, by omega⟩, ?_, ?_, ?_⟩
          · show b.length - (i + 1) < b.length - i
            omega
          · show clear _ _ = updF _ [(8, accV 1 (moreL [] (b.take (i + 1)))), (25, .int .i64 ((i + 1 : Nat) : Int))]
            rw [← inc64 (by omega), ← e]
            kernel_rfl
          · show _ = St.mk (accO [.map [] 0] (moreL [] (b.take (i + 1)))) 0
            rw [← e]
        · rename_i h1
          have h1 : ¬ i < b.length := by simpa using h1
          conv => whnf
          refine ⟨.inl rfl, _, rfl, ?_⟩
          have hil : i = b.length := by omega
          show frz (accO [.map [] 0] (moreL [] (b.take i))) 0 12 (accV 1 (moreL [] (b.take i))) = _
          rw [hil, List.take_length]
          exact frz_acc [.map [] 0] _
  · conv => whnf
    refine w_upd (α := { p : Nat × List (AV × AV × Nat) × Nat // p.1 ≤ a.length ∧ Counts (a.take p.1) p.2.1 }) (fun p => [(14, .int .i64 p.1.1)]) (fun p => ⟨[.map p.1.2.1 p.1.2.2], 0⟩) (fun p => a.length - p.1.1) ⟨(0, [], 0), by simp, by intro e he; simp at he, fun s => by simp [findE, cntV]⟩ ?_ ?_ ?_
    · kernel_rfl
    · kernel_rfl
    rintro ⟨⟨i, es, clock⟩, hi, hcnt⟩
    conv => whnf
    split
    · rename_i h1
      have h1 : i < a.length := by simpa using h1
      conv => whnf
      refine ⟨_, ix_fsl h1, ?_⟩
      conv => whnf
      refine ⟨_, ld_str, ?_⟩
      conv => whnf
      refine ⟨_, lookup_cnt hcnt a[i], ?_⟩
      conv => whnf
      obtain ⟨es', c', hu, hc'⟩ := update_cnt (clock := clock) hcnt a[i] (by
        rw [List.length_take]
        show min i a.length < _
        omega)
      refine ⟨_, hu, ?_⟩
      conv => whnf
      refine ⟨⟨(i + 1, es', c'), by show i + 1 ≤ a.length; omega, by rw [take_add h1]; exact hc'⟩, ?_, ?_, rfl⟩
      · show a.length - (i + 1) < a.length - i
        omega
      · show clear _ _ = updF _ [(14, .int .i64 ((i + 1 : Nat) : Int))]
        rw [← inc64 (by omega)]
        kernel_rfl
    · rename_i h1
      have h1 : ¬ i < a.length := by simpa using h1
      have hil : i = a.length := by have : i ≤ a.length := hi; omega
      subst hil
      have hcnt : Counts a es := by
        have : Counts (a.take a.length) es := hcnt
        rwa [List.take_length] at this
      conv => whnf
      rcases hb with ⟨rfl, rfl⟩ | ⟨fullb, rfl⟩
      · conv => whnf
        refine w_upd (α := Unit) (fun _ => []) (fun _ => ⟨[.map es clock], 0⟩) (fun _ => 0) () ?_ ?_ ?_
        · kernel_rfl
        · kernel_rfl
        rintro ⟨⟩
        conv => whnf
        exact ⟨.inl rfl, _, rfl, rfl⟩
      · conv => whnf
        refine w_upd (α := { i : Nat // i ≤ b.length }) (fun i => [(8, accV 1 (moreL a (b.take i.1))), (25, .int .i64 i.1)]) (fun i => ⟨accO [.map es clock] (moreL a (b.take i.1)), 0⟩) (fun i => b.length - i.1) ⟨0, by simp⟩ ?_ ?_ ?_
        · kernel_rfl
        · kernel_rfl
        rintro ⟨i, hi⟩
        conv => whnf
        split
        · rename_i h1
          have h1 : i < b.length := by simpa using h1
          conv => whnf
          refine ⟨_, ix_fsl h1, ?_⟩
          conv => whnf
          refine ⟨_, ld_str, ?_⟩
          conv => whnf
          refine ⟨_, lookup_cnt2 hcnt b[i], ?_⟩
          conv => whnf
          have hm := filter_take_succ (fun s => !a.contains s) h1
          split
          · rename_i h2
            have h2 : a.contains b[i] = false := cnt_zero (by simpa using h2)
            conv => whnf
            have hlen : (moreL a (b.take i)).length + 1 ≤ 2147483648 := by
              have : (moreL a (b.take i)).length ≤ (b.take i).length := List.length_filter_le _ _
              rw [List.length_take] at this
              omega
            refine ⟨_, append_acc (pre := [.map es clock]) hlen, ?_⟩
            conv => whnf
            have e : moreL a (b.take i) ++ [b[i]] = moreL a (b.take (i + 1)) := by
              unfold moreL
              rw [hm, h2]
              rfl
            refine ⟨⟨i + 1, by omega⟩, ?_, ?_, ?_⟩
            · show b.length - (i + 1) < b.length - i
              omega
            · show clear _ _ = updF _ [(8, accV 1 (moreL a (b.take (i + 1)))), (25, .int .i64 ((i + 1 : Nat) : Int))]
              rw [← inc64 (by omega), ← e]
              kernel_rfl
            · show _ = St.mk (accO [.map es clock] (moreL a (b.take (i + 1)))) 0
              rw [← e]
          · rename_i h2
            have h2 : a.contains b[i] = true := cnt_pos (by simpa using h2)
            conv => whnf
            have e : moreL a (b.take i) = moreL a (b.take (i + 1)) := by
              unfold moreL
              rw [hm, h2]
              simp
            refine ⟨⟨i + 1, by omega⟩, ?_, ?_, ?_⟩
            · show b.length - (i + 1) < b.length - i
              omega
            · show clear _ _ = updF _ [(8, accV 1 (moreL a (b.take (i + 1)))), (25, .int .i64 ((i + 1 : Nat) : Int))]
              rw [← inc64 (by omega), ← e]
              kernel_rfl
            · show _ = St.mk (accO [.map es clock] (moreL a (b.take (i + 1)))) 0
              rw [← e]
        · rename_i h1
          have h1 : ¬ i < b.length := by simpa using h1
          conv => whnf
          refine ⟨.inl rfl, _, rfl, ?_⟩
          have hil : i = b.length := by omega
          show frz (accO [.map es clock] (moreL a (b.take i))) 0 12 (accV 1 (moreL a (b.take i))) = _
          rw [hil, List.take_length]
          exact frz_acc [.map es clock] _
end Go.Proofs.YtgkalmmlgkaabaaGreat.Am
