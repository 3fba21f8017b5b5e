/-
  OutsLists: whatever two rows of texts come in, the law's function answers true, and they read as before. Conditions: none.
-/
import Derived.Test.YtgkalmmlgkaabaaGreatL2
import Derived.Test.YtgkalmmlgkaabaaGreatL3
import Derived.Test.YtgkalmmlgkaabaaGreatM5
import Derived.Test.YtgkalmmlgkaabaaGreatRows
import Derived.WalkKit
import Derived.ProofKit
import Derived.OpenShut
import Derived.ShutString
import Derived.ChangeOld
import Derived.Below
namespace Go.Proofs.YtgkalmmlgkaabaaGreat.Am
open Go.Proofs

theorem und22 : Tryz.prog.underlying 22 = some (.slice 9) := Tryz.underlying22
theorem und9 : Tryz.prog.underlying 9 = some .string := Tryz.underlying9

theorem plain22 : plainT Tryz.prog 5 22 = true := by kernel_rfl

/-- a row of texts that came in -/
theorem arg_sl {a : AV} (h : ArgOk Tryz.prog 22 a) : ∃ l : List (List UInt8), SL l a ∧ ∀ s ∈ l, s.length < 9223372036854775808 := by
  obtain ⟨avs, hs, h⟩ := h
  have hv : avs = [a] := by
    rcases h with ⟨⟨fs, hf⟩, _⟩ | ⟨_, h⟩
    · rw [und22] at hf; cases hf
    · exact h
  subst hv
  generalize ht : (22 : TypeId) = t at hs
  generalize hl : [a] = l at hs
  cases hs with
  | bool hu => subst ht; rw [und22] at hu; cases hu
  | int hu => subst ht; rw [und22] at hu; cases hu
  | str hu => subst ht; rw [und22] at hu; cases hu
  | nils hu =>
    simp only [List.cons.injEq, and_true] at hl
    subst hl
    exact ⟨[], .inl ⟨rfl, rfl⟩, by simp⟩
  | struct hu => subst ht; rw [und22] at hu; cases hu
  | @sl t e s parts hu hc hle hp hq =>
    subst ht
    rw [und22] at hu
    cases hu
    simp only [List.cons.injEq, and_true] at hl
    subst hl
    have hs1 : s = 1 := by rw [← hc]; kernel_rfl
    subst hs1
    have key : ∀ parts : List (List AV), (∀ p ∈ parts, Shp Tryz.prog 9 p) → ∃ l : List (List UInt8), parts.flatten = l.map .str ∧ l.length = parts.length ∧ ∀ s ∈ l, s.length < 9223372036854775808 := by
      intro parts
      induction parts with
      | nil => intro _; exact ⟨[], rfl, rfl, by simp⟩
      | cons p parts ih =>
        intro h
        obtain ⟨l, h1, h2, h3⟩ := ih (fun q hq => h q (by simp [hq]))
        have hp := h p (by simp)
        generalize ht : (9 : TypeId) = t at hp
        cases hp with
        | str hu hl =>
          rename_i s
          refine ⟨s :: l, by rw [List.flatten_cons, h1]; rfl, by simp [h2], ?_⟩
          intro q hq
          rcases List.mem_cons.1 hq with rfl | hq
          · unfold maxLen at hl; omega
          · exact h3 q hq
        | bool hu => subst ht; rw [und9] at hu; cases hu
        | int hu => subst ht; rw [und9] at hu; cases hu
        | nils hu => subst ht; rw [und9] at hu; cases hu
        | sl hu => subst ht; rw [und9] at hu; cases hu
        | struct hu => subst ht; rw [und9] at hu; cases hu
    obtain ⟨l, h1, h2, h3⟩ := key parts hq
    refine ⟨l, .inr ⟨false, ?_⟩, h3⟩
    rw [h1, h2]
end Go.Proofs.YtgkalmmlgkaabaaGreat.Am

namespace Go.Proofs.YtgkalmmlgkaabaaGreat
open Go.ChangeShapes Go.WideShapes Go.ChangeAt Go.RowKit
open Go.Proofs.YtgkalmmlgkaabaaGreat.Am

theorem own : ownKnob Tryz.prog.godebug = none := by kernel_rfl
theorem laidOut : laidOutB Tryz.prog = true := by kernel_rfl

theorem walk (v0 v1 : Value) (w : World) (a0 a1 : AV) (h0 : RelV (memOf w) [] a0 v0) (h1 : RelV (memOf w) [] a1 v1) (k0 : ArgOk Tryz.prog 22 a0) (k1 : ArgOk Tryz.prog 22 a1) :
    Calls Tryz.prog 3 #[v0, v1] w fun e w' => e = .returned (.bool true) ∧ Below w.heap.size w w' := by
  obtain ⟨l0, s0, b0⟩ := arg_sl k0
  obtain ⟨l1, s1, b1⟩ := arg_sl k1
  obtain ⟨N, hN⟩ := law_to l0 l1 a0 a1 s0 s1 b0 b1 ⟨[], 0⟩
  have hs := call_sound tOk eOk rr_sound N 3 [a0, a1] ⟨[], 0⟩ _ _ (hN N (Nat.le_refl _))
  refine (hs.2 (memOf w) [] w [v0, v1] rfl ?_ (inv_start w)).mono ?_
  · intro i x y hx hy
    match i with
    | 0 => simp at hx hy; subst hx; subst hy; exact h0
    | 1 => simp at hx hy; subst hx; subst hy; exact h1
    | i + 2 => simp at hx
  · rintro e w' ⟨V, M', G', rfl, hv, _, hE, _⟩
    cases hv
    exact ⟨rfl, hE.os, hE.tape, hE.output, hE.size, fun k hk => hE.other k hk (fun r e h => by simp at h)⟩

set_option maxRecDepth 100000 in
theorem lifted (os : Os) (started : os.Started) (H : Type) (enc : TypeId × Value → H) :
    ReturnsInHanded {} Tryz.checked os 3 .any (Rows.outsListsSpec.pre6 enc Tryz.prog Tryz.f3 Rows.outsListsRow.domain false) (Rows.outsListsSpec.post enc Tryz.prog Tryz.f3 false true false false) := by
  refine returnsInHanded_of_change (C := Tryz.checked) own started (by kernel_rfl) Tryz.func3
    (ChangeSpec.witness6 (enc := enc) (C := Tryz.checked) false ⟨#[], #[.slice none 0 0, .slice none 0 0], []⟩ 8 (by kernel_rfl) (by kernel_rfl) (by kernel_rfl) (by kernel_rfl)) ?_
  intro W base args ds gs before hval0 hW hcnd _
  have hval : ∀ (j : Nat) t v, Tryz.f3.params[j]? = some t → args[j]? = some v → Value.okWide Tryz.prog W .any base t v := hval0
  have hW' := hW
  obtain ⟨p, q, hA0, hV, rfl, hfz, hnd⟩ := hW
  have hA : DataW.TrodAll enc Tryz.prog W 0 (fun _ => true) true Tryz.f3.params.toList args.toList ds p := hA0
  rw [Tryz.params3] at hA hval
  obtain ⟨v0, vs0, d0, ds0, p0, q0, hargs, rfl, rfl, h0, r0⟩ := trodAll_cons hA
  obtain ⟨v1, vs1, d1, ds1, p1, q1, rfl, rfl, rfl, h1, r1⟩ := trodAll_cons r0
  obtain ⟨rfl, rfl, rfl⟩ := trodAll_nil r1
  obtain rfl : args = #[v0, v1] := by cases args; simp_all
  obtain ⟨rfl, rfl⟩ := trodVars_none hV
  have lt0 : ∀ x ∈ p0, x.block < W.heap.size := by obtain ⟨m, hm⟩ := h0; exact DataW.trod_lt m _ _ _ hm
  have lt1 : ∀ x ∈ p1, x.block < W.heap.size := by obtain ⟨m, hm⟩ := h1; exact DataW.trod_lt m _ _ _ hm
  obtain ⟨a0, e0, k0⟩ := read_arg plain22 h0 (hval 0 22 v0 rfl rfl)
  obtain ⟨a1, e1, k1⟩ := read_arg plain22 h1 (hval 1 22 v1 rfl rfl)
  clear hA0 hval0
  refine (walk v0 v1 W a0 a1 e0 e1 k0 k1).mono fun e W' ⟨he, bel⟩ => ?_
  subst he
  exact ⟨_, rfl, _, _, _, [], _, [], hW', trodAll_mk1 (shut_bool Tryz.underlying4 _), (trodAll_cons_mk (Below.trod laidOut (by kernel_rfl) (of_decide_eq_true (by kernel_rfl)) h0 bel lt0) (trodAll_cons_mk (Below.trod laidOut (by kernel_rfl) (of_decide_eq_true (by kernel_rfl)) h1 bel lt1) trodAll_mk0)), rfl, bel.frame _, fun h => by cases h⟩

theorem over : Rows.outsListsRow.holds Tryz.pinned (OpenSpec.ofChange Rows.outsListsSpec) :=
  OpenClaim.holds_of_wide 3 Tryz.f3 rfl rfl rfl rfl rfl rfl rfl ⟨rfl, rfl, rfl, rfl, rfl⟩ rfl rfl rfl rfl rfl (by kernel_rfl) Tryz.func3 (by kernel_rfl)
    (of_decide_eq_true (by kernel_rfl)) (by unfold Func.isWrapper; first | (rw [if_pos (by decide +kernel)]; kernel_rfl) | (rw [if_neg (by decide +kernel)]; exact ⟨rfl, rfl⟩))
    (fun os started H enc _ => lifted os started H enc)

/-- the statement -/
theorem proved : Rows.OutsListsSaid := over
#print axioms proved
end Go.Proofs.YtgkalmmlgkaabaaGreat
