/-
  The law's function answers true of any two rows of texts. Conditions: lengths that fit.
-/
import Derived.Test.YtgkalmmlgkaabaaGreatL1
import Derived.Test.YtgkalmmlgkaabaaGreatKT5
namespace Go.Proofs.YtgkalmmlgkaabaaGreat.Am
open Go.Proofs

theorem callsTo_rowN {T : TE} {E : PE} {R : Runs} {N f : Nat} {a : List AV} {v : AV} (h : RowN T E R N f a v) (st : St) : CallsTo T E R f a st (v, st) :=
  ⟨N, fun n hn => run3_le n _ _ _ _ (run3_mono N n hn _ _ _ _ (h st))⟩

theorem known_to (st : St) : CallsTo TT EE RR 4 [] st (.bool true, st) := callsTo_rowN KR49 st

theorem more_sub (a b : List (List UInt8)) : moreL b (moreL a b) = [] := by
  unfold moreL
  rw [List.filter_eq_nil_iff]
  intro s hs
  have := (List.mem_filter.1 hs).1
  simp [this]

set_option maxRecDepth 100000 in
theorem within_to (a b : List (List UInt8)) (va vb : AV) (ha : SL a va) (hb : SL b vb) (hal : a.length < 2147483648) (hbl : b.length < 2147483648) (st : St) : CallsTo TT EE RR 7 [va, vb] st (.bool (decide (moreL b a = [])), st) := by
  have hcl : [va, vb].all AV.closed = true := by simp [ha.closed, hb.closed]
  refine callsTo_pure (fi := x7.fi) rfl rfl hcl ?_
  conv => whnf
  refine ⟨_, more_to b a vb va hb ha hbl hal _, ?_⟩
  have hr := resV_sl (moreL b a)
  generalize resV (moreL b a) = v at hr
  rcases hr with ⟨rfl, h⟩ | ⟨full, rfl⟩
  · conv => whnf
    refine ⟨.inl rfl, _, rfl, ?_⟩
    rw [decide_eq_true h]
    rfl
  · conv => whnf
    refine ⟨.inl rfl, _, rfl, ?_⟩
    show some (AV.bool _) = some (AV.bool _)
    congr 2
    rw [Bool.eq_iff_iff]
    simp

theorem len_nil (l : List (List UInt8)) : (((l.length : Nat) : Int) == 0) = decide (l = []) := by
  rw [Bool.eq_iff_iff]
  simp

theorem ix_dec {l : List (List UInt8)} {full : Bool} {i : Nat} (h : i < l.length) (hi : i < 4611686018427387904) : indexAddr TT 22 (.fsl l.length 1 (l.map .str) full true) (.int .i64 (IntKind.i64.wrap (((i + 1 : Nat) : Int) - 1))) = some (.fptr [.str l[i]] 0) := by
  have e : IntKind.i64.wrap (((i + 1 : Nat) : Int) - 1) = (i : Nat) := by
    rw [wrap_small (by omega) (by omega)]; omega
  rw [e]
  exact ix_fsl h

-- generated
set_option maxRecDepth 100000 in
set_option maxHeartbeats 2000000 in
theorem law_nnn (a b : List (List UInt8)) (hna : a = []) (hnb : b = []) (hsa : ∀ s ∈ a, s.length < 9223372036854775808) (hsb : ∀ s ∈ b, s.length < 9223372036854775808) (hne : moreL a b = []) (hmore : a.length ≤ 60 → b.length ≤ 60 → ∀ st, CallsTo TT EE RR 6 [.nils, .nils] st (.nils, st)) (st : St) : CallsTo TT EE RR 3 [.nils, .nils] st (.bool true, st) := by
  have ha : SL a (.nils) := .inl ⟨rfl, hna⟩
  have hb : SL b (.nils) := .inl ⟨rfl, hnb⟩
  have hm : SL (moreL a b) (.nils) := .inl ⟨rfl, hne⟩
  have hml : (moreL a b).length ≤ b.length := List.length_filter_le _ _
  refine callsTo_pure (fi := x3.fi) rfl rfl rfl ?_
  conv => whnf
  have h6a : a.length ≤ 60 := by rw [hna]; simp
  have h6b : b.length ≤ 60 := by rw [hnb]; simp
  refine w_upd (α := Unit) (fun _ => []) (fun _ => ⟨[], 0⟩) (fun _ => 0) () ?_ ?_ ?_
  · kernel_rfl
  · kernel_rfl
  rintro ⟨⟩
  conv => whnf
  refine w_upd (α := Unit) (fun _ => []) (fun _ => ⟨[], 0⟩) (fun _ => 0) () ?_ ?_ ?_
  · kernel_rfl
  · kernel_rfl
  rintro ⟨⟩
  conv => whnf
  conv => whnf
  refine ⟨_, hmore h6a h6b _, ?_⟩
  conv => whnf
  refine ⟨_, within_to a b _ _ ha hb (by omega) (by omega) _, ?_⟩
  conv => whnf
  refine ⟨_, refWithin_to a b _ _ ha hb (by omega) (by omega) _, ?_⟩
  conv => whnf
  split
  rotate_left 1
  · rename_i h; exact absurd h (by simp)
  conv => whnf
  refine ⟨_, refMore_to a b _ _ ha hb (by omega) (by omega) _, ?_⟩
  conv => whnf
  refine ⟨_, same_to (moreL a b) (moreL a b) _ _ hm (resV_sl _) (by omega) _, ?_⟩
  conv => whnf
  split
  rotate_left 1
  · rename_i h; exact absurd h (by simp)
  conv => whnf
  refine ⟨_, within_to (moreL a b) b _ _ hm hb (by omega) (by omega) _, ?_⟩
  conv => whnf
  split
  rotate_left 1
  · rename_i h; exact absurd h (by simp [more_sub])
  conv => whnf
  refine ⟨_, within_to b a _ _ hb ha (by omega) (by omega) _, ?_⟩
  conv => whnf
  split
  rotate_left 1
  · rename_i h; exact absurd h (by simp [len_nil, hne])
  conv => whnf
  refine ⟨_, known_to _, ?_⟩
  conv => whnf
  exact ⟨.inl rfl, _, rfl, rfl⟩

set_option maxRecDepth 100000 in
set_option maxHeartbeats 2000000 in
theorem law_nnf (a b : List (List UInt8)) (hna : a = []) (hnb : b = []) (hsa : ∀ s ∈ a, s.length < 9223372036854775808) (hsb : ∀ s ∈ b, s.length < 9223372036854775808) (fullm : Bool) (hne : True) (hmore : a.length ≤ 60 → b.length ≤ 60 → ∀ st, CallsTo TT EE RR 6 [.nils, .nils] st (.fsl (moreL a b).length 1 ((moreL a b).map .str) fullm true, st)) (st : St) : CallsTo TT EE RR 3 [.nils, .nils] st (.bool true, st) := by
  have ha : SL a (.nils) := .inl ⟨rfl, hna⟩
  have hb : SL b (.nils) := .inl ⟨rfl, hnb⟩
  have hm : SL (moreL a b) (.fsl (moreL a b).length 1 ((moreL a b).map .str) fullm true) := .inr ⟨fullm, rfl⟩
  have hml : (moreL a b).length ≤ b.length := List.length_filter_le _ _
  refine callsTo_pure (fi := x3.fi) rfl rfl rfl ?_
  conv => whnf
  have h6a : a.length ≤ 60 := by rw [hna]; simp
  have h6b : b.length ≤ 60 := by rw [hnb]; simp
  refine w_upd (α := Unit) (fun _ => []) (fun _ => ⟨[], 0⟩) (fun _ => 0) () ?_ ?_ ?_
  · kernel_rfl
  · kernel_rfl
  rintro ⟨⟩
  conv => whnf
  refine w_upd (α := Unit) (fun _ => []) (fun _ => ⟨[], 0⟩) (fun _ => 0) () ?_ ?_ ?_
  · kernel_rfl
  · kernel_rfl
  rintro ⟨⟩
  conv => whnf
  conv => whnf
  refine ⟨_, hmore h6a h6b _, ?_⟩
  conv => whnf
  refine ⟨_, within_to a b _ _ ha hb (by omega) (by omega) _, ?_⟩
  conv => whnf
  refine ⟨_, refWithin_to a b _ _ ha hb (by omega) (by omega) _, ?_⟩
  conv => whnf
  split
  rotate_left 1
  · rename_i h; exact absurd h (by simp)
  conv => whnf
  refine ⟨_, refMore_to a b _ _ ha hb (by omega) (by omega) _, ?_⟩
  conv => whnf
  refine ⟨_, same_to (moreL a b) (moreL a b) _ _ hm (resV_sl _) (by omega) _, ?_⟩
  conv => whnf
  split
  rotate_left 1
  · rename_i h; exact absurd h (by simp)
  conv => whnf
  refine ⟨_, within_to (moreL a b) b _ _ hm hb (by omega) (by omega) _, ?_⟩
  conv => whnf
  split
  rotate_left 1
  · rename_i h; exact absurd h (by simp [more_sub])
  conv => whnf
  refine ⟨_, within_to b a _ _ hb ha (by omega) (by omega) _, ?_⟩
  conv => whnf
  split
  rotate_left 1
  · rename_i h; exact absurd h (by simp [len_nil, hne])
  conv => whnf
  refine ⟨_, known_to _, ?_⟩
  conv => whnf
  exact ⟨.inl rfl, _, rfl, rfl⟩

set_option maxRecDepth 100000 in
set_option maxHeartbeats 2000000 in
theorem law_nfn (a b : List (List UInt8)) (hna : a = []) (fullb : Bool) (hsa : ∀ s ∈ a, s.length < 9223372036854775808) (hsb : ∀ s ∈ b, s.length < 9223372036854775808) (hne : moreL a b = []) (hmore : a.length ≤ 60 → b.length ≤ 60 → ∀ st, CallsTo TT EE RR 6 [.nils, .fsl b.length 1 (b.map .str) fullb true] st (.nils, st)) (st : St) : CallsTo TT EE RR 3 [.nils, .fsl b.length 1 (b.map .str) fullb true] st (.bool true, st) := by
  have ha : SL a (.nils) := .inl ⟨rfl, hna⟩
  have hb : SL b (.fsl b.length 1 (b.map .str) fullb true) := .inr ⟨fullb, rfl⟩
  have hm : SL (moreL a b) (.nils) := .inl ⟨rfl, hne⟩
  have hml : (moreL a b).length ≤ b.length := List.length_filter_le _ _
  refine callsTo_pure (fi := x3.fi) rfl rfl rfl ?_
  conv => whnf
  have h6a : a.length ≤ 60 := by rw [hna]; simp
  split
  · conv => whnf
    refine ⟨_, known_to _, ?_⟩
    conv => whnf
    exact ⟨.inl rfl, _, rfl, rfl⟩
  rename_i h6b
  have h6b : b.length ≤ 60 := by simp at h6b; omega
  conv => whnf
  refine w_upd (α := Unit) (fun _ => []) (fun _ => ⟨[], 0⟩) (fun _ => 0) () ?_ ?_ ?_
  · kernel_rfl
  · kernel_rfl
  rintro ⟨⟩
  conv => whnf
  refine w_upd (α := { i : Nat // i ≤ 60 }) (fun i => [(6, .int .i64 ((i.1 + 1 : Nat) : Int))]) (fun _ => ⟨[], 0⟩) (fun i => 100 - i.1) ⟨0, by simp⟩ ?_ ?_ ?_
  · kernel_rfl
  · kernel_rfl
  rintro ⟨i, hi⟩
  conv => whnf
  split
  · rename_i h1
    have h1 : i + 1 < b.length := by simp at h1; omega
    conv => whnf
    refine ⟨_, ix_dec (i := i) (by omega) (by omega), ?_⟩
    conv => whnf
    refine ⟨_, ld_str, ?_⟩
    conv => whnf
    refine ⟨_, ix_fsl h1, ?_⟩
    conv => whnf
    refine ⟨_, ld_str, ?_⟩
    conv => whnf
    refine ⟨_, less_to b[i] b[i + 1] (hsb _ (List.getElem_mem (by omega))) _, ?_⟩
    conv => whnf
    split
    · conv => whnf
      refine ⟨_, known_to _, ?_⟩
      conv => whnf
      exact ⟨.inl rfl, _, rfl, rfl⟩
    · conv => whnf
      refine ⟨⟨i + 1, by omega⟩, ?_, ?_, rfl⟩
      · show 100 - (i + 1) < 100 - i
        omega
      · show clear _ _ = updF _ [(6, .int .i64 ((i + 1 + 1 : Nat) : Int))]
        rw [← inc64 (i := i + 1) (by omega)]
        kernel_rfl
  · rename_i h1
    conv => whnf
    conv => whnf
    refine ⟨_, hmore h6a h6b _, ?_⟩
    conv => whnf
    refine ⟨_, within_to a b _ _ ha hb (by omega) (by omega) _, ?_⟩
    conv => whnf
    refine ⟨_, refWithin_to a b _ _ ha hb (by omega) (by omega) _, ?_⟩
    conv => whnf
    split
    rotate_left 1
    · rename_i h; exact absurd h (by simp)
    conv => whnf
    refine ⟨_, refMore_to a b _ _ ha hb (by omega) (by omega) _, ?_⟩
    conv => whnf
    refine ⟨_, same_to (moreL a b) (moreL a b) _ _ hm (resV_sl _) (by omega) _, ?_⟩
    conv => whnf
    split
    rotate_left 1
    · rename_i h; exact absurd h (by simp)
    conv => whnf
    refine ⟨_, within_to (moreL a b) b _ _ hm hb (by omega) (by omega) _, ?_⟩
    conv => whnf
    split
    rotate_left 1
    · rename_i h; exact absurd h (by simp [more_sub])
    conv => whnf
    refine ⟨_, within_to b a _ _ hb ha (by omega) (by omega) _, ?_⟩
    conv => whnf
    split
    rotate_left 1
    · rename_i h; exact absurd h (by simp [len_nil, hne])
    conv => whnf
    refine ⟨_, known_to _, ?_⟩
    conv => whnf
    exact ⟨.inl rfl, _, rfl, rfl⟩

set_option maxRecDepth 100000 in
set_option maxHeartbeats 2000000 in
theorem law_nff (a b : List (List UInt8)) (hna : a = []) (fullb : Bool) (hsa : ∀ s ∈ a, s.length < 9223372036854775808) (hsb : ∀ s ∈ b, s.length < 9223372036854775808) (fullm : Bool) (hne : True) (hmore : a.length ≤ 60 → b.length ≤ 60 → ∀ st, CallsTo TT EE RR 6 [.nils, .fsl b.length 1 (b.map .str) fullb true] st (.fsl (moreL a b).length 1 ((moreL a b).map .str) fullm true, st)) (st : St) : CallsTo TT EE RR 3 [.nils, .fsl b.length 1 (b.map .str) fullb true] st (.bool true, st) := by
  have ha : SL a (.nils) := .inl ⟨rfl, hna⟩
  have hb : SL b (.fsl b.length 1 (b.map .str) fullb true) := .inr ⟨fullb, rfl⟩
  have hm : SL (moreL a b) (.fsl (moreL a b).length 1 ((moreL a b).map .str) fullm true) := .inr ⟨fullm, rfl⟩
  have hml : (moreL a b).length ≤ b.length := List.length_filter_le _ _
  refine callsTo_pure (fi := x3.fi) rfl rfl rfl ?_
  conv => whnf
  have h6a : a.length ≤ 60 := by rw [hna]; simp
  split
  · conv => whnf
    refine ⟨_, known_to _, ?_⟩
    conv => whnf
    exact ⟨.inl rfl, _, rfl, rfl⟩
  rename_i h6b
  have h6b : b.length ≤ 60 := by simp at h6b; omega
  conv => whnf
  refine w_upd (α := Unit) (fun _ => []) (fun _ => ⟨[], 0⟩) (fun _ => 0) () ?_ ?_ ?_
  · kernel_rfl
  · kernel_rfl
  rintro ⟨⟩
  conv => whnf
  refine w_upd (α := { i : Nat // i ≤ 60 }) (fun i => [(6, .int .i64 ((i.1 + 1 : Nat) : Int))]) (fun _ => ⟨[], 0⟩) (fun i => 100 - i.1) ⟨0, by simp⟩ ?_ ?_ ?_
  · kernel_rfl
  · kernel_rfl
  rintro ⟨i, hi⟩
  conv => whnf
  split
  · rename_i h1
    have h1 : i + 1 < b.length := by simp at h1; omega
    conv => whnf
    refine ⟨_, ix_dec (i := i) (by omega) (by omega), ?_⟩
    conv => whnf
    refine ⟨_, ld_str, ?_⟩
    conv => whnf
    refine ⟨_, ix_fsl h1, ?_⟩
    conv => whnf
    refine ⟨_, ld_str, ?_⟩
    conv => whnf
    refine ⟨_, less_to b[i] b[i + 1] (hsb _ (List.getElem_mem (by omega))) _, ?_⟩
    conv => whnf
    split
    · conv => whnf
      refine ⟨_, known_to _, ?_⟩
      conv => whnf
      exact ⟨.inl rfl, _, rfl, rfl⟩
    · conv => whnf
      refine ⟨⟨i + 1, by omega⟩, ?_, ?_, rfl⟩
      · show 100 - (i + 1) < 100 - i
        omega
      · show clear _ _ = updF _ [(6, .int .i64 ((i + 1 + 1 : Nat) : Int))]
        rw [← inc64 (i := i + 1) (by omega)]
        kernel_rfl
  · rename_i h1
    conv => whnf
    conv => whnf
    refine ⟨_, hmore h6a h6b _, ?_⟩
    conv => whnf
    refine ⟨_, within_to a b _ _ ha hb (by omega) (by omega) _, ?_⟩
    conv => whnf
    refine ⟨_, refWithin_to a b _ _ ha hb (by omega) (by omega) _, ?_⟩
    conv => whnf
    split
    rotate_left 1
    · rename_i h; exact absurd h (by simp)
    conv => whnf
    refine ⟨_, refMore_to a b _ _ ha hb (by omega) (by omega) _, ?_⟩
    conv => whnf
    refine ⟨_, same_to (moreL a b) (moreL a b) _ _ hm (resV_sl _) (by omega) _, ?_⟩
    conv => whnf
    split
    rotate_left 1
    · rename_i h; exact absurd h (by simp)
    conv => whnf
    refine ⟨_, within_to (moreL a b) b _ _ hm hb (by omega) (by omega) _, ?_⟩
    conv => whnf
    split
    rotate_left 1
    · rename_i h; exact absurd h (by simp [more_sub])
    conv => whnf
    refine ⟨_, within_to b a _ _ hb ha (by omega) (by omega) _, ?_⟩
    conv => whnf
    split
    rotate_left 1
    · rename_i h; exact absurd h (by simp [len_nil, hne])
    conv => whnf
    refine ⟨_, known_to _, ?_⟩
    conv => whnf
    exact ⟨.inl rfl, _, rfl, rfl⟩

set_option maxRecDepth 100000 in
set_option maxHeartbeats 2000000 in
theorem law_fnn (a b : List (List UInt8)) (fulla : Bool) (hnb : b = []) (hsa : ∀ s ∈ a, s.length < 9223372036854775808) (hsb : ∀ s ∈ b, s.length < 9223372036854775808) (hne : moreL a b = []) (hmore : a.length ≤ 60 → b.length ≤ 60 → ∀ st, CallsTo TT EE RR 6 [.fsl a.length 1 (a.map .str) fulla true, .nils] st (.nils, st)) (st : St) : CallsTo TT EE RR 3 [.fsl a.length 1 (a.map .str) fulla true, .nils] st (.bool true, st) := by
  have ha : SL a (.fsl a.length 1 (a.map .str) fulla true) := .inr ⟨fulla, rfl⟩
  have hb : SL b (.nils) := .inl ⟨rfl, hnb⟩
  have hm : SL (moreL a b) (.nils) := .inl ⟨rfl, hne⟩
  have hml : (moreL a b).length ≤ b.length := List.length_filter_le _ _
  refine callsTo_pure (fi := x3.fi) rfl rfl rfl ?_
  conv => whnf
  split
  · conv => whnf
    refine ⟨_, known_to _, ?_⟩
    conv => whnf
    exact ⟨.inl rfl, _, rfl, rfl⟩
  rename_i h6a
  have h6a : a.length ≤ 60 := by simp at h6a; omega
  conv => whnf
  have h6b : b.length ≤ 60 := by rw [hnb]; simp
  refine w_upd (α := { i : Nat // i ≤ 60 }) (fun i => [(5, .int .i64 ((i.1 + 1 : Nat) : Int))]) (fun _ => ⟨[], 0⟩) (fun i => 100 - i.1) ⟨0, by simp⟩ ?_ ?_ ?_
  · kernel_rfl
  · kernel_rfl
  rintro ⟨i, hi⟩
  conv => whnf
  split
  · rename_i h1
    have h1 : i + 1 < a.length := by simp at h1; omega
    conv => whnf
    refine ⟨_, ix_dec (i := i) (by omega) (by omega), ?_⟩
    conv => whnf
    refine ⟨_, ld_str, ?_⟩
    conv => whnf
    refine ⟨_, ix_fsl h1, ?_⟩
    conv => whnf
    refine ⟨_, ld_str, ?_⟩
    conv => whnf
    refine ⟨_, less_to a[i] a[i + 1] (hsa _ (List.getElem_mem (by omega))) _, ?_⟩
    conv => whnf
    split
    · conv => whnf
      refine ⟨_, known_to _, ?_⟩
      conv => whnf
      exact ⟨.inl rfl, _, rfl, rfl⟩
    · conv => whnf
      refine ⟨⟨i + 1, by omega⟩, ?_, ?_, rfl⟩
      · show 100 - (i + 1) < 100 - i
        omega
      · show clear _ _ = updF _ [(5, .int .i64 ((i + 1 + 1 : Nat) : Int))]
        rw [← inc64 (i := i + 1) (by omega)]
        kernel_rfl
  · rename_i h1
    conv => whnf
    refine w_upd (α := Unit) (fun _ => []) (fun _ => ⟨[], 0⟩) (fun _ => 0) () ?_ ?_ ?_
    · kernel_rfl
    · kernel_rfl
    rintro ⟨⟩
    conv => whnf
    conv => whnf
    refine ⟨_, hmore h6a h6b _, ?_⟩
    conv => whnf
    refine ⟨_, within_to a b _ _ ha hb (by omega) (by omega) _, ?_⟩
    conv => whnf
    refine ⟨_, refWithin_to a b _ _ ha hb (by omega) (by omega) _, ?_⟩
    conv => whnf
    split
    rotate_left 1
    · rename_i h; exact absurd h (by simp)
    conv => whnf
    refine ⟨_, refMore_to a b _ _ ha hb (by omega) (by omega) _, ?_⟩
    conv => whnf
    refine ⟨_, same_to (moreL a b) (moreL a b) _ _ hm (resV_sl _) (by omega) _, ?_⟩
    conv => whnf
    split
    rotate_left 1
    · rename_i h; exact absurd h (by simp)
    conv => whnf
    refine ⟨_, within_to (moreL a b) b _ _ hm hb (by omega) (by omega) _, ?_⟩
    conv => whnf
    split
    rotate_left 1
    · rename_i h; exact absurd h (by simp [more_sub])
    conv => whnf
    refine ⟨_, within_to b a _ _ hb ha (by omega) (by omega) _, ?_⟩
    conv => whnf
    split
    rotate_left 1
    · rename_i h; exact absurd h (by simp [len_nil, hne])
    conv => whnf
    refine ⟨_, known_to _, ?_⟩
    conv => whnf
    exact ⟨.inl rfl, _, rfl, rfl⟩

set_option maxRecDepth 100000 in
set_option maxHeartbeats 2000000 in
theorem law_fnf (a b : List (List UInt8)) (fulla : Bool) (hnb : b = []) (hsa : ∀ s ∈ a, s.length < 9223372036854775808) (hsb : ∀ s ∈ b, s.length < 9223372036854775808) (fullm : Bool) (hne : True) (hmore : a.length ≤ 60 → b.length ≤ 60 → ∀ st, CallsTo TT EE RR 6 [.fsl a.length 1 (a.map .str) fulla true, .nils] st (.fsl (moreL a b).length 1 ((moreL a b).map .str) fullm true, st)) (st : St) : CallsTo TT EE RR 3 [.fsl a.length 1 (a.map .str) fulla true, .nils] st (.bool true, st) := by
  have ha : SL a (.fsl a.length 1 (a.map .str) fulla true) := .inr ⟨fulla, rfl⟩
  have hb : SL b (.nils) := .inl ⟨rfl, hnb⟩
  have hm : SL (moreL a b) (.fsl (moreL a b).length 1 ((moreL a b).map .str) fullm true) := .inr ⟨fullm, rfl⟩
  have hml : (moreL a b).length ≤ b.length := List.length_filter_le _ _
  refine callsTo_pure (fi := x3.fi) rfl rfl rfl ?_
  conv => whnf
  split
  · conv => whnf
    refine ⟨_, known_to _, ?_⟩
    conv => whnf
    exact ⟨.inl rfl, _, rfl, rfl⟩
  rename_i h6a
  have h6a : a.length ≤ 60 := by simp at h6a; omega
  conv => whnf
  have h6b : b.length ≤ 60 := by rw [hnb]; simp
  refine w_upd (α := { i : Nat // i ≤ 60 }) (fun i => [(5, .int .i64 ((i.1 + 1 : Nat) : Int))]) (fun _ => ⟨[], 0⟩) (fun i => 100 - i.1) ⟨0, by simp⟩ ?_ ?_ ?_
  · kernel_rfl
  · kernel_rfl
  rintro ⟨i, hi⟩
  conv => whnf
  split
  · rename_i h1
    have h1 : i + 1 < a.length := by simp at h1; omega
    conv => whnf
    refine ⟨_, ix_dec (i := i) (by omega) (by omega), ?_⟩
    conv => whnf
    refine ⟨_, ld_str, ?_⟩
    conv => whnf
    refine ⟨_, ix_fsl h1, ?_⟩
    conv => whnf
    refine ⟨_, ld_str, ?_⟩
    conv => whnf
    refine ⟨_, less_to a[i] a[i + 1] (hsa _ (List.getElem_mem (by omega))) _, ?_⟩
    conv => whnf
    split
    · conv => whnf
      refine ⟨_, known_to _, ?_⟩
      conv => whnf
      exact ⟨.inl rfl, _, rfl, rfl⟩
    · conv => whnf
      refine ⟨⟨i + 1, by omega⟩, ?_, ?_, rfl⟩
      · show 100 - (i + 1) < 100 - i
        omega
      · show clear _ _ = updF _ [(5, .int .i64 ((i + 1 + 1 : Nat) : Int))]
        rw [← inc64 (i := i + 1) (by omega)]
        kernel_rfl
  · rename_i h1
    conv => whnf
    refine w_upd (α := Unit) (fun _ => []) (fun _ => ⟨[], 0⟩) (fun _ => 0) () ?_ ?_ ?_
    · kernel_rfl
    · kernel_rfl
    rintro ⟨⟩
    conv => whnf
    conv => whnf
    refine ⟨_, hmore h6a h6b _, ?_⟩
    conv => whnf
    refine ⟨_, within_to a b _ _ ha hb (by omega) (by omega) _, ?_⟩
    conv => whnf
    refine ⟨_, refWithin_to a b _ _ ha hb (by omega) (by omega) _, ?_⟩
    conv => whnf
    split
    rotate_left 1
    · rename_i h; exact absurd h (by simp)
    conv => whnf
    refine ⟨_, refMore_to a b _ _ ha hb (by omega) (by omega) _, ?_⟩
    conv => whnf
    refine ⟨_, same_to (moreL a b) (moreL a b) _ _ hm (resV_sl _) (by omega) _, ?_⟩
    conv => whnf
    split
    rotate_left 1
    · rename_i h; exact absurd h (by simp)
    conv => whnf
    refine ⟨_, within_to (moreL a b) b _ _ hm hb (by omega) (by omega) _, ?_⟩
    conv => whnf
    split
    rotate_left 1
    · rename_i h; exact absurd h (by simp [more_sub])
    conv => whnf
    refine ⟨_, within_to b a _ _ hb ha (by omega) (by omega) _, ?_⟩
    conv => whnf
    split
    rotate_left 1
    · rename_i h; exact absurd h (by simp [len_nil, hne])
    conv => whnf
    refine ⟨_, known_to _, ?_⟩
    conv => whnf
    exact ⟨.inl rfl, _, rfl, rfl⟩

set_option maxRecDepth 100000 in
set_option maxHeartbeats 2000000 in
theorem law_ffn (a b : List (List UInt8)) (fulla : Bool) (fullb : Bool) (hsa : ∀ s ∈ a, s.length < 9223372036854775808) (hsb : ∀ s ∈ b, s.length < 9223372036854775808) (hne : moreL a b = []) (hmore : a.length ≤ 60 → b.length ≤ 60 → ∀ st, CallsTo TT EE RR 6 [.fsl a.length 1 (a.map .str) fulla true, .fsl b.length 1 (b.map .str) fullb true] st (.nils, st)) (st : St) : CallsTo TT EE RR 3 [.fsl a.length 1 (a.map .str) fulla true, .fsl b.length 1 (b.map .str) fullb true] st (.bool true, st) := by
  have ha : SL a (.fsl a.length 1 (a.map .str) fulla true) := .inr ⟨fulla, rfl⟩
  have hb : SL b (.fsl b.length 1 (b.map .str) fullb true) := .inr ⟨fullb, rfl⟩
  have hm : SL (moreL a b) (.nils) := .inl ⟨rfl, hne⟩
  have hml : (moreL a b).length ≤ b.length := List.length_filter_le _ _
  refine callsTo_pure (fi := x3.fi) rfl rfl rfl ?_
  conv => whnf
  split
  · conv => whnf
    refine ⟨_, known_to _, ?_⟩
    conv => whnf
    exact ⟨.inl rfl, _, rfl, rfl⟩
  rename_i h6a
  have h6a : a.length ≤ 60 := by simp at h6a; omega
  conv => whnf
  split
  · conv => whnf
    refine ⟨_, known_to _, ?_⟩
    conv => whnf
    exact ⟨.inl rfl, _, rfl, rfl⟩
  rename_i h6b
  have h6b : b.length ≤ 60 := by simp at h6b; omega
  conv => whnf
  refine w_upd (α := { i : Nat // i ≤ 60 }) (fun i => [(5, .int .i64 ((i.1 + 1 : Nat) : Int))]) (fun _ => ⟨[], 0⟩) (fun i => 100 - i.1) ⟨0, by simp⟩ ?_ ?_ ?_
  · kernel_rfl
  · kernel_rfl
  rintro ⟨i, hi⟩
  conv => whnf
  split
  · rename_i h1
    have h1 : i + 1 < a.length := by simp at h1; omega
    conv => whnf
    refine ⟨_, ix_dec (i := i) (by omega) (by omega), ?_⟩
    conv => whnf
    refine ⟨_, ld_str, ?_⟩
    conv => whnf
    refine ⟨_, ix_fsl h1, ?_⟩
    conv => whnf
    refine ⟨_, ld_str, ?_⟩
    conv => whnf
    refine ⟨_, less_to a[i] a[i + 1] (hsa _ (List.getElem_mem (by omega))) _, ?_⟩
    conv => whnf
    split
    · conv => whnf
      refine ⟨_, known_to _, ?_⟩
      conv => whnf
      exact ⟨.inl rfl, _, rfl, rfl⟩
    · conv => whnf
      refine ⟨⟨i + 1, by omega⟩, ?_, ?_, rfl⟩
      · show 100 - (i + 1) < 100 - i
        omega
      · show clear _ _ = updF _ [(5, .int .i64 ((i + 1 + 1 : Nat) : Int))]
        rw [← inc64 (i := i + 1) (by omega)]
        kernel_rfl
  · rename_i h1
    conv => whnf
    refine w_upd (α := { i : Nat // i ≤ 60 }) (fun i => [(6, .int .i64 ((i.1 + 1 : Nat) : Int))]) (fun _ => ⟨[], 0⟩) (fun i => 100 - i.1) ⟨0, by simp⟩ ?_ ?_ ?_
    · kernel_rfl
    · kernel_rfl
    rintro ⟨i, hi⟩
    conv => whnf
    split
    · rename_i h1
      have h1 : i + 1 < b.length := by simp at h1; omega
      conv => whnf
      refine ⟨_, ix_dec (i := i) (by omega) (by omega), ?_⟩
      conv => whnf
      refine ⟨_, ld_str, ?_⟩
      conv => whnf
      refine ⟨_, ix_fsl h1, ?_⟩
      conv => whnf
      refine ⟨_, ld_str, ?_⟩
      conv => whnf
      refine ⟨_, less_to b[i] b[i + 1] (hsb _ (List.getElem_mem (by omega))) _, ?_⟩
      conv => whnf
      split
      · conv => whnf
        refine ⟨_, known_to _, ?_⟩
        conv => whnf
        exact ⟨.inl rfl, _, rfl, rfl⟩
      · conv => whnf
        refine ⟨⟨i + 1, by omega⟩, ?_, ?_, rfl⟩
        · show 100 - (i + 1) < 100 - i
          omega
        · show clear _ _ = updF _ [(6, .int .i64 ((i + 1 + 1 : Nat) : Int))]
          rw [← inc64 (i := i + 1) (by omega)]
          kernel_rfl
    · rename_i h1
      conv => whnf
      conv => whnf
      refine ⟨_, hmore h6a h6b _, ?_⟩
      conv => whnf
      refine ⟨_, within_to a b _ _ ha hb (by omega) (by omega) _, ?_⟩
      conv => whnf
      refine ⟨_, refWithin_to a b _ _ ha hb (by omega) (by omega) _, ?_⟩
      conv => whnf
      split
      rotate_left 1
      · rename_i h; exact absurd h (by simp)
      conv => whnf
      refine ⟨_, refMore_to a b _ _ ha hb (by omega) (by omega) _, ?_⟩
      conv => whnf
      refine ⟨_, same_to (moreL a b) (moreL a b) _ _ hm (resV_sl _) (by omega) _, ?_⟩
      conv => whnf
      split
      rotate_left 1
      · rename_i h; exact absurd h (by simp)
      conv => whnf
      refine ⟨_, within_to (moreL a b) b _ _ hm hb (by omega) (by omega) _, ?_⟩
      conv => whnf
      split
      rotate_left 1
      · rename_i h; exact absurd h (by simp [more_sub])
      conv => whnf
      refine ⟨_, within_to b a _ _ hb ha (by omega) (by omega) _, ?_⟩
      conv => whnf
      split
      rotate_left 1
      · rename_i h; exact absurd h (by simp [len_nil, hne])
      conv => whnf
      refine ⟨_, known_to _, ?_⟩
      conv => whnf
      exact ⟨.inl rfl, _, rfl, rfl⟩

set_option maxRecDepth 100000 in
set_option maxHeartbeats 2000000 in
theorem law_fff (a b : List (List UInt8)) (fulla : Bool) (fullb : Bool) (hsa : ∀ s ∈ a, s.length < 9223372036854775808) (hsb : ∀ s ∈ b, s.length < 9223372036854775808) (fullm : Bool) (hne : True) (hmore : a.length ≤ 60 → b.length ≤ 60 → ∀ st, CallsTo TT EE RR 6 [.fsl a.length 1 (a.map .str) fulla true, .fsl b.length 1 (b.map .str) fullb true] st (.fsl (moreL a b).length 1 ((moreL a b).map .str) fullm true, st)) (st : St) : CallsTo TT EE RR 3 [.fsl a.length 1 (a.map .str) fulla true, .fsl b.length 1 (b.map .str) fullb true] st (.bool true, st) := by
  have ha : SL a (.fsl a.length 1 (a.map .str) fulla true) := .inr ⟨fulla, rfl⟩
  have hb : SL b (.fsl b.length 1 (b.map .str) fullb true) := .inr ⟨fullb, rfl⟩
  have hm : SL (moreL a b) (.fsl (moreL a b).length 1 ((moreL a b).map .str) fullm true) := .inr ⟨fullm, rfl⟩
  have hml : (moreL a b).length ≤ b.length := List.length_filter_le _ _
  refine callsTo_pure (fi := x3.fi) rfl rfl rfl ?_
  conv => whnf
  split
  · conv => whnf
    refine ⟨_, known_to _, ?_⟩
    conv => whnf
    exact ⟨.inl rfl, _, rfl, rfl⟩
  rename_i h6a
  have h6a : a.length ≤ 60 := by simp at h6a; omega
  conv => whnf
  split
  · conv => whnf
    refine ⟨_, known_to _, ?_⟩
    conv => whnf
    exact ⟨.inl rfl, _, rfl, rfl⟩
  rename_i h6b
  have h6b : b.length ≤ 60 := by simp at h6b; omega
  conv => whnf
  refine w_upd (α := { i : Nat // i ≤ 60 }) (fun i => [(5, .int .i64 ((i.1 + 1 : Nat) : Int))]) (fun _ => ⟨[], 0⟩) (fun i => 100 - i.1) ⟨0, by simp⟩ ?_ ?_ ?_
  · kernel_rfl
  · kernel_rfl
  rintro ⟨i, hi⟩
  conv => whnf
  split
  · rename_i h1
    have h1 : i + 1 < a.length := by simp at h1; omega
    conv => whnf
    refine ⟨_, ix_dec (i := i) (by omega) (by omega), ?_⟩
    conv => whnf
    refine ⟨_, ld_str, ?_⟩
    conv => whnf
    refine ⟨_, ix_fsl h1, ?_⟩
    conv => whnf
    refine ⟨_, ld_str, ?_⟩
    conv => whnf
    refine ⟨_, less_to a[i] a[i + 1] (hsa _ (List.getElem_mem (by omega))) _, ?_⟩
    conv => whnf
    split
    · conv => whnf
      refine ⟨_, known_to _, ?_⟩
      conv => whnf
      exact ⟨.inl rfl, _, rfl, rfl⟩
    · conv => whnf
      refine ⟨⟨i + 1, by omega⟩, ?_, ?_, rfl⟩
      · show 100 - (i + 1) < 100 - i
        omega
      · show clear _ _ = updF _ [(5, .int .i64 ((i + 1 + 1 : Nat) : Int))]
        rw [← inc64 (i := i + 1) (by omega)]
        kernel_rfl
  · rename_i h1
    conv => whnf
    refine w_upd (α := { i : Nat // i ≤ 60 }) (fun i => [(6, .int .i64 ((i.1 + 1 : Nat) : Int))]) (fun _ => ⟨[], 0⟩) (fun i => 100 - i.1) ⟨0, by simp⟩ ?_ ?_ ?_
    · kernel_rfl
    · kernel_rfl
    rintro ⟨i, hi⟩
    conv => whnf
    split
    · rename_i h1
      have h1 : i + 1 < b.length := by simp at h1; omega
      conv => whnf
      refine ⟨_, ix_dec (i := i) (by omega) (by omega), ?_⟩
      conv => whnf
      refine ⟨_, ld_str, ?_⟩
      conv => whnf
      refine ⟨_, ix_fsl h1, ?_⟩
      conv => whnf
      refine ⟨_, ld_str, ?_⟩
      conv => whnf
      refine ⟨_, less_to b[i] b[i + 1] (hsb _ (List.getElem_mem (by omega))) _, ?_⟩
      conv => whnf
      split
      · conv => whnf
        refine ⟨_, known_to _, ?_⟩
        conv => whnf
        exact ⟨.inl rfl, _, rfl, rfl⟩
      · conv => whnf
        refine ⟨⟨i + 1, by omega⟩, ?_, ?_, rfl⟩
        · show 100 - (i + 1) < 100 - i
          omega
        · show clear _ _ = updF _ [(6, .int .i64 ((i + 1 + 1 : Nat) : Int))]
          rw [← inc64 (i := i + 1) (by omega)]
          kernel_rfl
    · rename_i h1
      conv => whnf
      conv => whnf
      refine ⟨_, hmore h6a h6b _, ?_⟩
      conv => whnf
      refine ⟨_, within_to a b _ _ ha hb (by omega) (by omega) _, ?_⟩
      conv => whnf
      refine ⟨_, refWithin_to a b _ _ ha hb (by omega) (by omega) _, ?_⟩
      conv => whnf
      split
      rotate_left 1
      · rename_i h; exact absurd h (by simp)
      conv => whnf
      refine ⟨_, refMore_to a b _ _ ha hb (by omega) (by omega) _, ?_⟩
      conv => whnf
      refine ⟨_, same_to (moreL a b) (moreL a b) _ _ hm (resV_sl _) (by omega) _, ?_⟩
      conv => whnf
      split
      rotate_left 1
      · rename_i h; exact absurd h (by simp)
      conv => whnf
      refine ⟨_, within_to (moreL a b) b _ _ hm hb (by omega) (by omega) _, ?_⟩
      conv => whnf
      split
      rotate_left 1
      · rename_i h; exact absurd h (by simp [more_sub])
      conv => whnf
      refine ⟨_, within_to b a _ _ hb ha (by omega) (by omega) _, ?_⟩
      conv => whnf
      split
      rotate_left 1
      · rename_i h; exact absurd h (by simp [len_nil, hne])
      conv => whnf
      refine ⟨_, known_to _, ?_⟩
      conv => whnf
      exact ⟨.inl rfl, _, rfl, rfl⟩

theorem law_to (a b : List (List UInt8)) (va vb : AV) (ha : SL a va) (hb : SL b vb) (hsa : ∀ s ∈ a, s.length < 9223372036854775808) (hsb : ∀ s ∈ b, s.length < 9223372036854775808) (st : St) : CallsTo TT EE RR 3 [va, vb] st (.bool true, st) := by
  have hmore := fun (h1 : a.length ≤ 60) (h2 : b.length ≤ 60) st => more_to a b va vb ha hb (by omega) (by omega) st
  have hr := resV_sl (moreL a b)
  generalize resV (moreL a b) = vm at hmore hr
  rcases ha with ⟨rfl, ha⟩ | ⟨fa, rfl⟩ <;> rcases hb with ⟨rfl, hb⟩ | ⟨fb, rfl⟩ <;> rcases hr with ⟨rfl, hr⟩ | ⟨fm, rfl⟩
  · exact law_nnn a b ha hb hsa hsb hr hmore st
  · exact law_nnf a b ha hb hsa hsb fm trivial hmore st
  · exact law_nfn a b ha fb hsa hsb hr hmore st
  · exact law_nff a b ha fb hsa hsb fm trivial hmore st
  · exact law_fnn a b fa hb hsa hsb hr hmore st
  · exact law_fnf a b fa hb hsa hsb fm trivial hmore st
  · exact law_ffn a b fa fb hsa hsb hr hmore st
  · exact law_fff a b fa fb hsa hsb fm trivial hmore st
end Go.Proofs.YtgkalmmlgkaabaaGreat.Am
