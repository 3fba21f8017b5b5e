/-
  What came in, as values of the abstract machine: of types made of booleans, numbers, texts, slices and structs. Conditions: none.
-/
import Derived.Test.YtgkalmmlgkaabaaGreatM3
import Derived.ChangeArms
import Derived.WideShapes
namespace Go.Proofs.YtgkalmmlgkaabaaGreat.Am

/-- a value of a type, cell by cell -/
inductive Shp (P : Program) : TypeId → List AV → Prop where
  | bool {t b} (h : P.underlying t = some .bool) : Shp P t [.bool b]
  | int {t k n} (h : P.underlying t = some (.int k)) (hw : (Lit.int k n).wf = true) : Shp P t [.int k n]
  | str {t s} (h : P.underlying t = some .string) (hl : s.length ≤ maxLen) : Shp P t [.str s]
  | nils {t e} (h : P.underlying t = some (.slice e)) : Shp P t [.nils]
  | sl {t e s} {parts : List (List AV)} (h : P.underlying t = some (.slice e)) (hs : P.cellsOf e = s) (hl : parts.length ≤ maxLen) (hp : ∀ p ∈ parts, p.length = s) (hq : ∀ p ∈ parts, Shp P e p) : Shp P t [.fsl parts.length s parts.flatten false true]
  | struct {t fs} {parts : List (List AV)} (h : P.underlying t = some (.struct fs)) (hl : parts.length = fs.toList.length) (hq : ∀ (i : Nat) (f : Field) (p : List AV), fs.toList[i]? = some f → parts[i]? = some p → Shp P f.type p) : Shp P t parts.flatten

theorem mem_get {α : Type} {l : List α} {x : α} (h : x ∈ l) : ∃ i : Nat, l[i]? = some x := List.getElem?_of_mem h

theorem Shp.solid {P : Program} {t : TypeId} {avs : List AV} (h : Shp P t avs) : ∀ x ∈ avs, x.solid = true := by
  induction h with
  | bool => intro x hx; simp at hx; subst hx; rfl
  | int => intro x hx; simp at hx; subst hx; rfl
  | str => intro x hx; simp at hx; subst hx; rfl
  | nils => intro x hx; simp at hx; subst hx; rfl
  | sl => intro x hx; simp at hx; subst hx; rfl
  | struct h hl hq ih =>
    intro x hx
    obtain ⟨p, hp, hxp⟩ := List.mem_flatten.1 hx
    obtain ⟨i, hi⟩ := mem_get hp
    have hlt := lt_of_get hi
    rw [hl] at hlt
    exact ih i _ p (List.getElem?_eq_getElem hlt) hi x hxp

def contig (P : Program) : List Field → Nat → Nat → Bool
  | [], off, total => off == total
  | f :: fs, off, total => f.offset == off && contig P fs (off + P.cellsOf f.type) total

def plainT (P : Program) : Nat → TypeId → Bool
  | 0, _ => false
  | n + 1, t => match P.underlying t with
    | some .bool | some (.int _) | some .string => true
    | some (.slice e) => decide (0 < P.cellsOf e) && plainT P n e
    | some (.struct fs) => contig P fs.toList 0 (P.cellsOf t) && fs.toList.all (fun f => plainT P n f.type)
    | _ => false

/-- the memory as it is -/
def memOf (w : World) : Mem := fun b o => w.cell? ⟨b, o, none⟩

section
variable {P : Program} {M : Mem} {G : List GE}

theorem relL_app {cs ds : List AV} {xs ys : List Value} (h : RelL M G cs xs) (k : RelL M G ds ys) : RelL M G (cs ++ ds) (xs ++ ys) := by
  refine ⟨by simp [h.1, k.1], ?_, ?_⟩
  · intro x hx
    rcases List.mem_append.1 hx with hx | hx
    · exact h.2.1 x hx
    · exact k.2.1 x hx
  · intro i x y hx hy
    by_cases hi : i < cs.length
    · rw [List.getElem?_append_left hi] at hx
      rw [List.getElem?_append_left (h.1 ▸ hi)] at hy
      exact h.2.2 i x y hx hy
    · rw [List.getElem?_append_right (by omega)] at hx
      rw [List.getElem?_append_right (by have := h.1; omega), ← h.1] at hy
      exact k.2.2 _ x y hx hy

theorem struct_rel {cs : List Value} : ∀ (fs : List Field) (off : Nat), contig P fs off cs.length = true →
    (∀ f ∈ fs, ∃ avs, RelL M G avs ((cs.drop f.offset).take (P.cellsOf f.type)) ∧ Shp P f.type avs) →
    ∃ parts : List (List AV), parts.length = fs.length ∧ (∀ (i : Nat) (f : Field) (p : List AV), fs[i]? = some f → parts[i]? = some p → Shp P f.type p) ∧ RelL M G parts.flatten (cs.drop off)
  | [], off, hc, _ => by
    simp only [contig, beq_iff_eq] at hc
    subst hc
    exact ⟨[], rfl, by simp, by simp [RelL]⟩
  | f :: fs, off, hc, hf => by
    simp only [contig, Bool.and_eq_true, beq_iff_eq] at hc
    obtain ⟨rfl, hc⟩ := hc
    obtain ⟨avs, h1, h2⟩ := hf f (by simp)
    obtain ⟨parts, h3, h4, h5⟩ := struct_rel fs _ hc (fun g hg => hf g (by simp [hg]))
    refine ⟨avs :: parts, by simp [h3], ?_, ?_⟩
    · intro i g p hi hp
      match i with
      | 0 => simp at hi hp; subst hi; subst hp; exact h2
      | i + 1 => exact h4 i g p (by simpa using hi) (by simpa using hp)
    · rw [List.flatten_cons]
      have : cs.drop f.offset = (cs.drop f.offset).take (P.cellsOf f.type) ++ cs.drop (f.offset + P.cellsOf f.type) := by
        rw [← List.drop_drop, List.take_append_drop]
      rw [this]
      exact relL_app h1 h5

theorem pick_list {α : Type} {Q : Nat → α → Prop} : ∀ n : Nat, (∀ i, i < n → ∃ a, Q i a) → ∃ l : List α, l.length = n ∧ ∀ (i : Nat) (a : α), l[i]? = some a → Q i a
  | 0, _ => ⟨[], rfl, by simp⟩
  | n + 1, h => by
    obtain ⟨l, h1, h2⟩ := pick_list n (fun i hi => h i (by omega))
    obtain ⟨a, ha⟩ := h n (by omega)
    refine ⟨l ++ [a], by simp [h1], ?_⟩
    intro i b hb
    by_cases hi : i < l.length
    · rw [List.getElem?_append_left hi] at hb; exact h2 i b hb
    · rw [List.getElem?_append_right (by omega)] at hb
      have : i - l.length = 0 := by have := lt_of_get hb; simp at this; omega
      rw [this] at hb
      simp at hb
      subst hb
      have : i = n := by omega
      subst this
      exact ha

theorem flatGet {α : Type} {s : Nat} : ∀ (parts : List (List α)), (∀ p ∈ parts, p.length = s) → ∀ (i : Nat) (x : α), parts.flatten[i]? = some x → ∃ j k p, i = j * s + k ∧ k < s ∧ parts[j]? = some p ∧ p[k]? = some x
  | [], _, i, x, h => by simp at h
  | p :: parts, hp, i, x, h => by
    have hl := hp p (by simp)
    rw [List.flatten_cons] at h
    by_cases hi : i < p.length
    · rw [List.getElem?_append_left hi] at h
      exact ⟨0, i, p, by omega, by omega, rfl, h⟩
    · rw [List.getElem?_append_right (by omega)] at h
      obtain ⟨j, k, q, h1, h2, h3, h4⟩ := flatGet parts (fun q hq => hp q (by simp [hq])) _ x h
      refine ⟨j + 1, k, q, ?_, h2, by simpa using h3, h4⟩
      rw [Nat.add_mul]; omega

theorem flatLength {α : Type} {s : Nat} : ∀ (parts : List (List α)), (∀ p ∈ parts, p.length = s) → parts.flatten.length = parts.length * s
  | [], _ => by simp
  | p :: parts, hp => by
    rw [List.flatten_cons, List.length_append, flatLength parts (fun q hq => hp q (by simp [hq])), hp p (by simp), List.length_cons, Nat.add_mul]; omega

theorem cells_at {w : World} {a : Addr} {s : Nat} {cs : List Value} (h : w.cells? 0 a s = some cs) : cs.length = s ∧ ∀ (k : Nat) (y : Value), cs[k]? = some y → w.cell? (a.add k) = some y := by
  unfold World.cells? at h
  rw [if_pos (Nat.zero_le _)] at h
  have hl := mapM_some_length h
  rw [List.length_range] at hl
  refine ⟨hl, fun k y hk => ?_⟩
  have hlt : k < s := by have := lt_of_get hk; omega
  have := mapM_some_get h k k (by rw [List.getElem?_range hlt])
  rw [this, hk]

theorem read_shp {H : Type} {enc : TypeId × Value → H} {held : Bool} {w : World} : ∀ (n : Nat) (t : TypeId) (fuel : Nat) (cs : List Value) (x : DataW H × List MemPlace), plainT P n t = true → DataW.trod enc P w 0 (fun _ => true) held fuel t cs = some x →
    ∃ avs, RelL (memOf w) [] avs cs ∧ Shp P t avs
  | 0, _, _, _, _, hp, _ => by simp [plainT] at hp
  | n + 1, t, fuel, cs, x, hp, h => by
    unfold plainT at hp
    have one : ∀ (v : AV) (V : Value), v.isCell = true → RelV (memOf w) [] v V → RelL (memOf w) [] [v] [V] := by
      intro v V hc hr
      refine ⟨rfl, by simpa using hc, ?_⟩
      intro i a b ha hb
      match i with
      | 0 => simp at ha hb; subst ha; subst hb; exact hr
      | i + 1 => simp at ha
    split at hp <;> try cases hp
    · rename_i hu
      obtain ⟨b, rfl, rfl⟩ := DataW.trod_bool hu h
      exact ⟨_, one _ _ rfl .bool, .bool hu⟩
    · rename_i k hu
      obtain ⟨b, rfl, rfl, hw⟩ := DataW.trod_int hu h
      exact ⟨_, one _ _ rfl .int, .int hu hw⟩
    · rename_i hu
      obtain ⟨s, rfl, rfl, hw⟩ := DataW.trod_string hu h
      have hsz : s.data.toList.length ≤ maxLen := by rw [Array.length_toList]; exact hw
      refine ⟨[.str s.data.toList], one _ _ rfl ?_, .str hu hsz⟩
      have : Value.string s = .string ⟨s.data.toList.toArray⟩ := by simp
      rw [this]; exact .str
    · rename_i e hu
      simp only [Bool.and_eq_true, decide_eq_true_eq] at hp
      obtain ⟨hs, hp⟩ := hp
      rcases DataW.trod_slice hu h with ⟨rfl, _⟩ | ⟨a, len, cap, elems, rest, m, _, rfl, _, _, hlc, hcm, hel, he, hsp, _⟩
      · exact ⟨[.nils], one _ _ rfl .nils, .nils hu⟩
      · have hparts : ∀ i, i < len → ∃ p : List AV, ∃ ys : List Value, w.cells? 0 (a.add (i * P.cellsOf e)) (P.cellsOf e) = some ys ∧ RelL (memOf w) [] p ys ∧ Shp P e p := by
          intro i hi
          have h1 := he i hi
          have h2 : elems[i]? = some elems[i] := List.getElem?_eq_getElem (by omega)
          rw [h2, Option.bind_eq_some_iff] at h1
          obtain ⟨ys, h3, h4⟩ := h1
          obtain ⟨avs, h5, h6⟩ := read_shp n e m ys _ hp h4
          exact ⟨avs, ys, h3, h5, h6⟩
        obtain ⟨parts, hpl, hpq⟩ := pick_list len hparts
        have hlen : ∀ p ∈ parts, p.length = P.cellsOf e := by
          intro p hp'
          obtain ⟨i, hi⟩ := mem_get hp'
          obtain ⟨ys, h3, h5, _⟩ := hpq i p hi
          rw [h5.1]; exact (cells_at h3).1
        have hshp : Shp P t [.fsl parts.length (P.cellsOf e) parts.flatten false true] := .sl hu rfl (by omega) hlen (fun p hp' => by
          obtain ⟨i, hi⟩ := mem_get hp'
          exact (hpq i p hi).choose_spec.2.2)
        rw [hpl] at hshp
        refine ⟨_, one _ _ rfl ?_, hshp⟩
        by_cases hspot : a.spot = none
        · obtain ⟨b, off, spot⟩ := a
          simp only at hspot
          subst hspot
          have hget : ∀ (i : Nat) (x : AV), parts.flatten[i]? = some x → ∃ y, w.cell? ⟨b, off + i, none⟩ = some y ∧ RelV (memOf w) [] x y ∧ x.isCell = true := by
            intro i x hx
            obtain ⟨j, k, p, rfl, hk, hj, hpk⟩ := flatGet parts hlen i x hx
            obtain ⟨ys, h3, h5, _⟩ := hpq j p hj
            obtain ⟨h6, h7⟩ := cells_at h3
            have hky : k < ys.length := by omega
            have := h7 k ys[k] (List.getElem?_eq_getElem hky)
            rw [Addr.add_lit, Addr.add_lit, Nat.add_assoc] at this
            exact ⟨_, this, h5.2.2 k x _ hpk (List.getElem?_eq_getElem hky), h5.2.1 x (List.mem_of_getElem? hpk)⟩
          have hfl := flatLength parts hlen
          rw [hpl] at hfl
          refine .fsl (f := fun i => (w.cell? ⟨b, off + i, none⟩).getD Go.undef) hfl hlc (by intro h; cases h) ?_ ?_ ?_
          · intro x hx
            obtain ⟨i, hi⟩ := mem_get hx
            exact (hget i x hi).choose_spec.2.2
          · intro i hi
            obtain ⟨y, hy, _⟩ := hget i _ (List.getElem?_eq_getElem hi)
            show w.cell? _ = _
            rw [hy]; rfl
          · intro i x hx
            obtain ⟨y, hy, hr, _⟩ := hget i x hx
            simp only [hy, Option.getD_some]
            exact hr
        · have nospot : ∀ cs', w.cells? 0 (a.add (0 * P.cellsOf e)) (P.cellsOf e) = some cs' → False := by
            intro cs' hc
            obtain ⟨h6, h7⟩ := cells_at hc
            have h0 : 0 < cs'.length := by omega
            have := World.cell?_spot (h7 0 cs'[0] (List.getElem?_eq_getElem h0))
            exact hspot (by simpa [Addr.add] using this)
          have hl0 : len = 0 := by
            rcases Nat.eq_zero_or_pos len with h0 | h0
            · exact h0
            · obtain ⟨p, ys, h3, _⟩ := hparts 0 h0
              exact (nospot ys h3).elim
          have hc0 : cap = 0 := by
            rcases Nat.eq_zero_or_pos cap with h0 | h0
            · exact h0
            · obtain ⟨hr1, hr2⟩ := hsp rfl
              have h1 := hr2 0 (by omega)
              have h2 : rest[0]? = some rest[0] := List.getElem?_eq_getElem (by omega)
              rw [h2, Option.bind_eq_some_iff] at h1
              obtain ⟨ys, h3, _⟩ := h1
              exact (nospot ys (by simpa [hl0] using h3)).elim
          subst hl0; subst hc0
          have hp0 : parts = [] := List.length_eq_zero_iff.1 hpl
          subst hp0
          exact .fsl0
    · rename_i fs hu
      simp only [Bool.and_eq_true, List.all_eq_true] at hp
      obtain ⟨hc, hp⟩ := hp
      obtain ⟨xs, m, _, _, hl, hxl, hx⟩ := DataW.trod_struct hu h
      rw [← hl] at hc
      obtain ⟨parts, h1, h2, h3⟩ := struct_rel (M := memOf w) (G := []) fs.toList 0 hc (by
        intro f hf
        obtain ⟨i, hi⟩ := mem_get hf
        have hi' : fs[i]? = some f := by simpa using hi
        have hlt : i < xs.length := by rw [hxl]; exact (Array.getElem?_eq_some_iff.1 hi').1
        have := hx i f hi'
        rw [List.getElem?_eq_getElem hlt] at this
        exact read_shp n f.type m _ _ (hp f hf) this)
      exact ⟨parts.flatten, by simpa using h3, .struct hu h1 h2⟩

/-- an argument -/
def ArgOk (P : Program) (t : TypeId) (a : AV) : Prop := ∃ avs, Shp P t avs ∧ (((∃ fs, P.underlying t = some (.struct fs)) ∧ a = .agg avs) ∨ ((∀ fs, P.underlying t ≠ some (.struct fs)) ∧ avs = [a]))

theorem ArgOk.closed {t : TypeId} {a : AV} (h : ArgOk P t a) : a.closed = true := by
  obtain ⟨avs, h1, ⟨_, rfl⟩ | ⟨_, rfl⟩⟩ := h
  · simp only [AV.closed, List.all_eq_true]
    exact h1.solid
  · have := h1.solid a (by simp)
    cases a <;> first | exact this | simp [AV.solid] at this

theorem read_arg {H : Type} {enc : TypeId × Value → H} {held : Bool} {w : World} {n : Nat} {t : TypeId} {v : Value} {d : DataW H} {ps : List MemPlace} (hp : plainT P n t = true) (h : DataW.Trod enc P w 0 (fun _ => true) held t v d ps) (hok : Value.okWide P w .any 0 t v) :
    ∃ a, RelV (memOf w) [] a v ∧ ArgOk P t a := by
  obtain ⟨fuel, hf⟩ := h
  obtain ⟨avs, hr, hs⟩ := read_shp n t fuel _ _ hp hf
  have single : ∀ (hn : ∀ fs, P.underlying t ≠ some (.struct fs)), v.cells.toList = [v] → ∃ a, RelV (memOf w) [] a v ∧ ArgOk P t a := by
    intro hn hc
    rw [hc] at hr
    match avs, hr.1 with
    | [a], _ => exact ⟨a, hr.2.2 0 a v rfl rfl, [a], hs, .inr ⟨hn, rfl⟩⟩
  cases n with
  | zero => simp [plainT] at hp
  | succ n =>
    unfold plainT at hp
    split at hp <;> try cases hp
    · rename_i hu
      obtain ⟨b, rfl⟩ := WideShapes.okWide_bool hu hok
      exact single (by intro fs h; rw [hu] at h; cases h) rfl
    · rename_i k hu
      obtain ⟨b, rfl⟩ := WideShapes.okWide_int hu hok
      exact single (by intro fs h; rw [hu] at h; cases h) rfl
    · rename_i hu
      obtain ⟨b, rfl⟩ := WideShapes.okWide_string hu hok
      exact single (by intro fs h; rw [hu] at h; cases h) rfl
    · rename_i e hu
      obtain ⟨a, len, cap, rfl⟩ := WideShapes.okWide_slice hu hok
      exact single (by intro fs h; rw [hu] at h; cases h) rfl
    · rename_i fs hu
      obtain ⟨cs, rfl, _⟩ := WideShapes.okWide_struct hu hok
      refine ⟨.agg avs, ?_, avs, hs, .inl ⟨⟨fs, hu⟩, rfl⟩⟩
      obtain ⟨cs⟩ := cs
      exact .agg hr.1 hr.2.1 hr.2.2

theorem inv_start (w : World) : Inv (memOf w) [] [] w :=
  ⟨rfl, fun r o e h => by simp at h, fun _ _ _ h => h, fun r s e e' h => by simp at h, fun r e o h => by simp at h, fun r e h => by simp at h⟩

end
end Go.Proofs.YtgkalmmlgkaabaaGreat.Am
