/-
  The function 'least' answers the least key of a map, in whatever order the keys come. Conditions: none.
-/
import Derived.Test.YtgkalmmlgkaabaaGreatT2
import Derived.Test.YtgkalmmlgkaabaaGreatT3
import Derived.Maps.RangeRun
import Derived.Deep.Draws
import Derived.LoopTactic
import Derived.WalkKit
namespace Go.Proofs.YtgkalmmlgkaabaaGreat.Am
open Go.Proofs

theorem lessB_irrefl : ∀ a : List UInt8, Op.bytesLess a a = false
  | [] => rfl
  | x :: a => by simp [Op.bytesLess, lessB_irrefl a]

theorem lessB_trans : ∀ a b c : List UInt8, Op.bytesLess a b = true → Op.bytesLess b c = true → Op.bytesLess a c = true
  | [], [], _, h, _ => by simp [Op.bytesLess] at h
  | [], _ :: _, [], _, h => by simp [Op.bytesLess] at h
  | [], _ :: _, _ :: _, _, _ => by simp [Op.bytesLess]
  | _ :: _, [], _, h, _ => by simp [Op.bytesLess] at h
  | _ :: _, _ :: _, [], _, h => by simp [Op.bytesLess] at h
  | x :: a, y :: b, z :: c, h, k => by
    simp only [Op.bytesLess, Bool.or_eq_true, decide_eq_true_eq, Bool.and_eq_true, beq_iff_eq] at h k ⊢
    rcases h with h | ⟨rfl, h⟩
    · rcases k with k | ⟨rfl, k⟩
      · exact .inl (UInt8.lt_trans h k)
      · exact .inl h
    · rcases k with k | ⟨rfl, k⟩
      · exact .inl k
      · exact .inr ⟨rfl, lessB_trans a b c h k⟩

theorem lessB_total : ∀ a b : List UInt8, Op.bytesLess a b = false → Op.bytesLess b a = false → a = b
  | [], [], _, _ => rfl
  | [], _ :: _, h, _ => by simp [Op.bytesLess] at h
  | _ :: _, [], _, h => by simp [Op.bytesLess] at h
  | x :: a, y :: b, h, k => by
    simp only [Op.bytesLess, Bool.or_eq_false_iff, decide_eq_false_iff_not, Bool.and_eq_false_imp, beq_iff_eq] at h k
    have hxy : x = y := UInt8.le_antisymm (UInt8.not_lt.1 k.1) (UInt8.not_lt.1 h.1)
    subst hxy
    rw [lessB_total a b (h.2 rfl) (k.2 rfl)]

/-- it is one of them, and none is less -/
def IsLeast (l : List (List UInt8)) (b : List UInt8) : Prop := b ∈ l ∧ ∀ s ∈ l, Op.bytesLess s b = false

theorem IsLeast.uniq {l : List (List UInt8)} {a b : List UInt8} (ha : IsLeast l a) (hb : IsLeast l b) : a = b :=
  lessB_total a b (hb.2 a ha.1) (ha.2 b hb.1)

theorem leastL_is : ∀ l : List (List UInt8), (leastL l = none ∧ l = []) ∨ ∃ b, leastL l = some b ∧ IsLeast l b
  | [] => .inl ⟨rfl, rfl⟩
  | s :: l => by
    right
    unfold leastL
    rcases leastL_is l with ⟨h, rfl⟩ | ⟨b, h, h1, h2⟩
    · rw [h]
      exact ⟨s, rfl, by simp, by simp [lessB_irrefl]⟩
    · rw [h]
      cases hb : Op.bytesLess b s with
      | true =>
        refine ⟨b, by simp [hb], by simp [h1], ?_⟩
        intro t ht
        rcases List.mem_cons.1 ht with rfl | ht
        · cases hc : Op.bytesLess t b with
          | false => rfl
          | true => have := lessB_trans _ _ _ hb hc; rw [lessB_irrefl] at this; cases this
        · exact h2 t ht
      | false =>
        refine ⟨s, by simp [hb], by simp, ?_⟩
        intro t ht
        rcases List.mem_cons.1 ht with rfl | ht
        · exact lessB_irrefl _
        · cases hc : Op.bytesLess t s with
          | false => rfl
          | true =>
            by_cases hts : Op.bytesLess b t = true
            · have := lessB_trans _ _ _ hts hc; rw [hb] at this; cases this
            · have := lessB_total t b (h2 t ht) (by simpa using hts)
              subst this
              rw [hb] at hc; cases hc

def keyB : Value → List UInt8
  | .string s => s.data.toList
  | _ => []

/-- what the loop has at a time -/
def Sofar (es : Array MapEntry) (seen : Array Nat) (best sm : Value) : Prop :=
  (sm = .bool false ∧ best = .string ⟨#[]⟩ ∧ ∀ x ∈ es.toList, seen.contains x.born = false) ∨
  ∃ e ∈ es.toList, sm = .bool true ∧ best = e.key ∧ seen.contains e.born = true ∧ ∀ x ∈ es.toList, seen.contains x.born = true → Op.bytesLess (keyB x.key) (keyB e.key) = false

theorem set_it (w : World) (k : Nat) (o o' : Go.Obj) : ChangeMaps.setBlock ((w.drewN k).alloc o) w.heap.size o' = (w.drewN k).alloc o' := by
  have hp : (w.heap.push o).setIfInBounds w.heap.size o' = w.heap.push o' := by
    apply Array.toList_inj.1
    simp
  show ({ (w.drewN k).alloc o with heap := (w.heap.push o).setIfInBounds w.heap.size o' } : World) = _
  rw [hp]
  rfl

theorem set_it2 (w : World) (k : Nat) (o o' : Go.Obj) : ChangeMaps.setBlock ((w.drewN k).alloc o).drew w.heap.size o' = (w.drewN (k + 1)).alloc o' := by
  have hp : (w.heap.push o).setIfInBounds w.heap.size o' = w.heap.push o' := by
    apply Array.toList_inj.1
    simp
  show ({ ((w.drewN k).alloc o).drew with heap := (w.heap.push o).setIfInBounds w.heap.size o' } : World) = _
  rw [hp]
  rfl

set_option maxRecDepth 1000000 in
theorem least_walk (bm : Nat) (es : Array MapEntry) (clock : Nat) (w : World) (hb : w.heap[bm]? = some (.map es clock)) (h1 : ∀ x ∈ es.toList, x.born < clock) (h2 : (es.toList.map (·.born)).Nodup) (hk : ∀ x ∈ es.toList, ∃ s, x.key = .string s) :
    Calls Tryz.prog 42 #[.map (some bm)] w fun e w' => ∃ best sm seen k, e = .returned best ∧ Sofar es seen best sm ∧ (leftOf es seen).size = 0 ∧ w' = (w.drewN k).alloc (.mapIter (some bm) clock seen clock) := by
  have hrg := run_range_map (P := Tryz.prog) w 40 9 3 bm es clock Tryz.underlying40 hb
  go_enter Tryz.func42, Tryz.ntmps42
  go_wp2
  go_loopw [3, 4] (fun best sm w' => ∃ (seen : Array Nat) (k : Nat), w' = (w.drewN k).alloc (.mapIter (some bm) clock seen clock) ∧ Sofar es seen best sm) (fun _ _ w' => (leftOf es (w'.iterSeen w.heap.size)).size)
  case atStart => exact ⟨#[], 0, rfl, .inl ⟨rfl, rfl, by simp⟩⟩
  case round =>
    obtain ⟨seen, k, rfl, hso⟩ := hrel
    have hr : ((w.drewN k).alloc (.mapIter (some bm) clock seen clock)).heap[w.heap.size]? = some (.mapIter (some bm) clock seen clock) := heap_alloc_new (w.drewN k) _
    have hlt : bm < w.heap.size := (Array.getElem?_eq_some_iff.1 hb).1
    have hbm : ((w.drewN k).alloc (.mapIter (some bm) clock seen clock)).heap[bm]? = some (.map es clock) := by rw [heap_alloc_old (w.drewN k) _ hlt]; exact hb
    rcases run_next_at (P := Tryz.prog) ((w.drewN k).alloc (.mapIter (some bm) clock seen clock)) 0 w.heap.size bm clock clock seen es clock hr hbm h1 (Nat.le_refl _) with ⟨h0, hrun⟩ | ⟨e, he, w2, hal2, hrun⟩
    · have hnx : ∀ ty, (Instr.next (.pointer (some ⟨w.heap.size, 0, none⟩)) false ty).run Tryz.prog ((w.drewN k).alloc (.mapIter (some bm) clock seen clock)) = _ := fun _ => hrun
      go_wp2
      go_ret
      exact ⟨_, _, seen, k, rfl, hso, h0, rfl⟩
    · obtain ⟨s, hs⟩ := hk e (mem_left he).1
      obtain ⟨k', hw2⟩ : ∃ k', ChangeMaps.setBlock w2 w.heap.size (.mapIter (some bm) clock (seen.push e.born) clock) = (w.drewN k').alloc (.mapIter (some bm) clock (seen.push e.born) clock) := by
        rcases hal2 with rfl | rfl
        · exact ⟨k, set_it w k _ _⟩
        · exact ⟨k + 1, set_it2 w k _ _⟩
      rw [hw2, hs] at hrun
      have hr2 : ((w.drewN k').alloc (.mapIter (some bm) clock (seen.push e.born) clock)).heap[w.heap.size]? = some (.mapIter (some bm) clock (seen.push e.born) clock) := heap_alloc_new (w.drewN k') _
      have hbm2 : ((w.drewN k').alloc (.mapIter (some bm) clock (seen.push e.born) clock)).heap[bm]? = some (.map es clock) := by rw [heap_alloc_old (w.drewN k') _ hlt]; exact hb
      have hen := run_entry_at (P := Tryz.prog) _ w.heap.size bm clock seen es clock e hr2 hbm2 (mem_left he).1 h2
      rw [hs] at hen
      have hnx : ∀ ty, (Instr.next (.pointer (some ⟨w.heap.size, 0, none⟩)) false ty).run Tryz.prog ((w.drewN k).alloc (.mapIter (some bm) clock seen clock)) = _ := fun _ => hrun
      have hmeas : (leftOf es (((w.drewN k').alloc (.mapIter (some bm) clock (seen.push e.born) clock)).iterSeen w.heap.size)).size < (leftOf es (((w.drewN k).alloc (.mapIter (some bm) clock seen clock)).iterSeen w.heap.size)).size := by
        have e1 := World.iterSeen_alloc (w.drewN k') (some bm) clock (seen.push e.born) clock
        have e2 := World.iterSeen_alloc (w.drewN k) (some bm) clock seen clock
        simp only [World.heap_drewN] at e1 e2
        rw [e1, e2]
        exact left_shrinks es seen e he
      rcases hso with ⟨rfl, rfl, hno⟩ | ⟨e0, he0, rfl, rfl, hse0, hmin⟩
      · have hk2 : Sofar es (seen.push e.born) (.string s) (.bool true) := by
          refine .inr ⟨e, (mem_left he).1, rfl, hs.symm, by rw [contains_push]; simp, ?_⟩
          intro x hx hc
          rw [contains_push] at hc
          rw [hno x hx, Bool.false_or] at hc
          obtain rfl := born_inj h2 hx (mem_left he).1 (beq_iff_eq.1 hc)
          exact lessB_irrefl _
        clear hw2 hr2 hbm2 hr hbm hal2 hno
        go_wp2
        go_roundw
        case rel => exact ⟨seen.push e.born, k', rfl, hk2⟩
        case measure => exact hmeas
      · obtain ⟨s0, hs0⟩ := hk e0 he0
        rw [hs0]
        have hcmp : Op.bytesLess (keyB e.key) (keyB e0.key) = Op.bytesLess s.toList s0.toList := by
          rw [hs, hs0]; simp [keyB, ByteArray.toList_eq]
        have hk2 : Op.bytesLess s.toList s0.toList = true → Sofar es (seen.push e.born) (.string s) (.bool true) := by
          intro hl
          refine .inr ⟨e, (mem_left he).1, rfl, hs.symm, by rw [contains_push]; simp, ?_⟩
          intro x hx hc
          rw [contains_push] at hc
          rcases Bool.or_eq_true _ _ ▸ hc with hc | hc
          · have := hmin x hx hc
            cases hq : Op.bytesLess (keyB x.key) (keyB e.key) with
            | false => rfl
            | true =>
              have := lessB_trans _ _ _ hq (hcmp.trans hl)
              rw [hmin x hx hc] at this; cases this
          · obtain rfl := born_inj h2 hx (mem_left he).1 (beq_iff_eq.1 hc)
            exact lessB_irrefl _
        have hk3 : Op.bytesLess s.toList s0.toList = false → Sofar es (seen.push e.born) (.string s0) (.bool true) := by
          intro hl
          refine .inr ⟨e0, he0, rfl, hs0.symm, by rw [contains_push, hse0]; rfl, ?_⟩
          intro x hx hc
          rw [contains_push] at hc
          rcases Bool.or_eq_true _ _ ▸ hc with hc | hc
          · exact hmin x hx hc
          · obtain rfl := born_inj h2 hx (mem_left he).1 (beq_iff_eq.1 hc)
            exact hcmp.trans hl
        clear hw2 hr2 hbm2 hr hbm hal2 hmin hcmp
        by_cases hl : Op.bytesLess s.toList s0.toList = true
        · have hk4 := hk2 hl
          clear hk2 hk3
          go_wp2
          go_roundw
          case rel => exact ⟨seen.push e.born, k', rfl, hk4⟩
          case measure => exact hmeas
        · have hl' : Op.bytesLess s.toList s0.toList = false := by simpa using hl
          have hk4 := hk3 hl'
          clear hk2 hk3 hl
          go_wp2
          go_roundw
          case rel => exact ⟨seen.push e.born, k', rfl, hk4⟩
          case measure => exact hmeas

section
variable {M : Mem} {G : List GE}

theorem texts_rel : ∀ (es : List (AV × AV × Nat)) (ens : List MapEntry) (l : List (List UInt8)), RelE M G es ens → textsE es = some l → l = ens.map (fun x => keyB x.key) ∧ ∀ x ∈ ens, ∃ s, x.key = .string s
  | [], [], l, _, h => by
    simp only [textsE, Option.some.injEq] at h
    subst h
    exact ⟨rfl, by simp⟩
  | (k, v, b) :: es, n :: ens, l, hr, h => by
    obtain ⟨h1, h2, h3, h4⟩ := hr.2 0 k v b n rfl rfl
    cases k <;> simp only [textsE] at h <;> try cases h
    rename_i s
    split at h <;> cases h
    rename_i l' hl
    obtain ⟨rfl, h6⟩ := texts_rel es ens l' hr.tail hl
    generalize hK : n.key = K at h3
    cases h3
    refine ⟨by simp [hK, keyB], ?_⟩
    intro x hx
    rcases List.mem_cons.1 hx with rfl | hx
    · exact ⟨_, hK⟩
    · exact h6 x hx
  | [], _ :: _, _, hr, _ => by have := hr.1; simp at this
  | _ :: _, [], _, hr, _ => by have := hr.1; simp at this

theorem fresh_rel (clock : Nat) : ∀ (es : List (AV × AV × Nat)) (ens : List MapEntry), RelE M G es ens → freshE clock es = true → (∀ x ∈ ens, x.born < clock) ∧ (ens.map (·.born)).Nodup ∧ ∀ x ∈ ens, ∃ e ∈ es, e.2.2 = x.born
  | [], [], _, _ => ⟨by simp, by simp, by simp⟩
  | (k, v, b) :: es, n :: ens, hr, h => by
    obtain ⟨h1, h2, h3, h4⟩ := hr.2 0 k v b n rfl rfl
    simp only [freshE, Bool.and_eq_true, List.all_eq_true] at h
    obtain ⟨⟨g1, g2⟩, g3⟩ := h
    obtain ⟨i1, i2, i3⟩ := fresh_rel clock es ens hr.tail g3
    refine ⟨?_, ?_, ?_⟩
    · intro x hx
      rcases List.mem_cons.1 hx with rfl | hx
      · rw [h1]; simpa using g1
      · exact i1 x hx
    · rw [List.map_cons, List.nodup_cons]
      refine ⟨?_, i2⟩
      intro hm
      obtain ⟨x, hx, hxb⟩ := List.mem_map.1 hm
      obtain ⟨e, he, heb⟩ := i3 x hx
      have := g2 e he
      rw [heb, hxb, h1] at this
      simp at this
    · intro x hx
      rcases List.mem_cons.1 hx with rfl | hx
      · exact ⟨_, List.mem_cons_self, h1.symm⟩
      · obtain ⟨e, he, heb⟩ := i3 x hx
        exact ⟨e, List.mem_cons_of_mem _ he, heb⟩
  | [], _ :: _, hr, _ => by have := hr.1; simp at this
  | _ :: _, [], hr, _ => by have := hr.1; simp at this

end

theorem rr_sound : CallSound Tryz.prog RR := by
  intro f args st v st' h
  unfold RR at h
  split at h
  · rename_i hf
    have := Nat.eq_of_beq_eq_true hf
    subst this
    split at h <;> try cases h
    rename_i m
    split at h <;> cases h
    rename_i hl
    unfold leastR at hl
    split at hl <;> try cases hl
    rename_i r
    split at hl <;> try cases hl
    rename_i es clock ho
    split at hl <;> try cases hl
    rename_i hfr
    split at hl <;> cases hl
    rename_i l htx
    refine ⟨⟨Tryz.f42, Tryz.func42, rfl, by kernel_rfl⟩, ?_⟩
    intro M G w cargs hlen hrel hI
    obtain ⟨X, rfl⟩ : ∃ X, cargs = [X] := by
      match cargs, hlen with
      | [X], _ => exact ⟨X, rfl⟩
    obtain ⟨e, ens, g1, g2, rfl, g3, g4⟩ := map_get hI ho (hrel 0 _ X rfl rfl)
    obtain ⟨h1, h2, _⟩ := fresh_rel clock es ens.toList g4 hfr
    obtain ⟨rfl, hk⟩ := texts_rel es ens.toList l g4 htx
    refine (least_walk e.blk ens clock w g3 h1 h2 hk).mono ?_
    rintro _ w' ⟨best, sm, seen, k, rfl, hso, h0, rfl⟩
    have hbest : best = .string ⟨((leastL (ens.toList.map fun x => keyB x.key)).getD []).toArray⟩ := by
      rcases hso with ⟨_, rfl, hno⟩ | ⟨e0, he0, _, rfl, _, hmin⟩
      · have hemp : ens.toList = [] := by
          cases hl : ens.toList with
          | nil => rfl
          | cons x xs =>
            have hx : x ∈ ens.toList := by rw [hl]; simp
            have := all_seen ens seen h0 x hx
            rw [hno x hx] at this; cases this
        rw [hemp]
        rfl
      · obtain ⟨s, hs⟩ := hk e0 he0
        have hIs : IsLeast (ens.toList.map fun x => keyB x.key) (keyB e0.key) := by
          refine ⟨List.mem_map.2 ⟨e0, he0, rfl⟩, ?_⟩
          intro t ht
          obtain ⟨x, hx, rfl⟩ := List.mem_map.1 ht
          exact hmin x hx (all_seen ens seen h0 x hx)
        rcases leastL_is (ens.toList.map fun x => keyB x.key) with ⟨_, hn⟩ | ⟨b, hb, hbl⟩
        · have := hIs.1
          rw [hn] at this
          cases this
        · have := hbl.uniq hIs
          rw [hb, this, hs]
          simp [keyB]
    refine ⟨_, M, G, rfl, ?_, ?_, ?_, rfl⟩
    · rw [hbest]; exact .str
    · have hI1 : Inv M G st.objs (w.drewN k) := ⟨hI.len, hI.obj, hI.mem, hI.inj, hI.sep, hI.blt⟩
      exact hI1.alloc _
    · have hE : Ext st.floor M G (w.drewN k) M G ((w.drewN k).alloc (.mapIter (some e.blk) clock seen clock)) :=
        ⟨rfl, rfl, rfl, by simp, MLe.refl _, fun r e h => ⟨e, h, .inl rfl⟩, fun r e h => .inl ⟨e, h, rfl⟩, fun b hb _ => push_old _ _ hb, fun _ _ _ h => .inl h⟩
      exact ⟨hE.os, hE.tape, hE.output, hE.size, hE.mle, hE.keep, hE.blk, hE.other, hE.fresh⟩
  · cases h

end Go.Proofs.YtgkalmmlgkaabaaGreat.Am
