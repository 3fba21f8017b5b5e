/-
  One operation, a row of operations in the order of the text, and a call's end. Conditions: none. Of what an operation's answer depends; two operations that may be done in either order. Conditions: none. A region that draws its order: a check of its canonical order, by computing. Conditions: none. A region that draws its order: whatever order is drawn, the canonical order's result comes out. Conditions: none. A region that draws its order: each step, and all of them. Conditions: none. The code of a function, and calls: the abstract machine tells what the model does. Conditions: none. A call, whole: what the abstract machine computes is what a call of the model ends with. Conditions: none. Tables of types and functions, and what is to be checked of them. Conditions: none.
-/
import Derived.Test.YtgkalmmlgkaabaaGreatM2
import Derived.LoopN
import Derived.Laws.Sem
namespace Go.Proofs.YtgkalmmlgkaabaaGreat.Am

/-- what is so of a frame and objects, here and there; fl: the first object that may be changed -/
def Ok (M0 : Mem) (G0 : List GE) (w0 : World) (fl : Nat) (fr : List AV) (st : St) (a : Act) (w : World) : Prop :=
  ∃ M G, RelF M G fr a.tmps ∧ a.defers = [] ∧ Inv M G st.objs w ∧ Ext fl M0 G0 w0 M G w ∧ st.floor = fl

def CallSound (P : Program) (run : Runs) : Prop :=
  ∀ f args st v st', run f args st = some (v, st') → (∃ fn, P.funcs[f]? = some fn ∧ fn.body.isSome = true ∧ (fn.name == "runtime.NumGoroutine") = false) ∧
    ∀ (M : Mem) (G : List GE) (w : World) (cargs : List Value), args.length = cargs.length → (∀ (i : Nat) (x : AV) (y : Value), args[i]? = some x → cargs[i]? = some y → RelV M G x y) → Inv M G st.objs w →
      Calls P f ⟨cargs⟩ w (fun e w' => ∃ V M' G', e = .returned V ∧ RelV M' G' v V ∧ Inv M' G' st'.objs w' ∧ Ext st.floor M G w M' G' w' ∧ st'.floor = st.floor)

section
variable {P : Program} {T : TE} {E : PE} {run : Runs} {M0 : Mem} {G0 : List GE} {w0 : World} {fl : Nat}

theorem put_defers' (a : Act) (d : Option Tmp) (v : Value) : (a.put d v).defers = a.defers := by cases d <;> rfl

theorem Ok.step {fr : List AV} {st' : St} {a : Act} {w w' : World} {M M' : Mem} {G G' : List GE} (hF : RelF M G fr a.tmps) (hd : a.defers = []) (hE0 : Ext fl M0 G0 w0 M G w) (hI' : Inv M' G' st'.objs w') (hE : Ext fl M G w M' G' w')
    (hfl : st'.floor = fl) (d : Option Tmp) {v : AV} {V : Value} (hv : RelV M' G' v V) : Ok M0 G0 w0 fl (put fr d v) st' (a.put d V) w' :=
  ⟨M', G', (hF.mono hE.mle hE.gle).put d hv, by rw [put_defers']; exact hd, hI', hE0.trans hE, hfl⟩

theorem rel_append {M : Mem} {G : List GE} {xs ys : List AV} {us vs : List Value} (hl : xs.length = us.length) (h1 : ∀ (i : Nat) (x : AV) (y : Value), xs[i]? = some x → us[i]? = some y → RelV M G x y) (h2 : ∀ (i : Nat) (x : AV) (y : Value), ys[i]? = some x → vs[i]? = some y → RelV M G x y) :
    ∀ (i : Nat) (x : AV) (y : Value), (xs ++ ys)[i]? = some x → (us ++ vs)[i]? = some y → RelV M G x y := by
  intro i x y hx hy
  by_cases hi : i < xs.length
  · rw [List.getElem?_append_left hi] at hx
    rw [List.getElem?_append_left (hl ▸ hi)] at hy
    exact h1 i x y hx hy
  · rw [List.getElem?_append_right (by omega)] at hx
    rw [List.getElem?_append_right (by omega), ← hl] at hy
    exact h2 _ x y hx hy

theorem callOp_sim (hC : CallSound P run) {strict : Bool} {M : Mem} {G : List GE} {ρ : Operand → AV} {σ : Operand → Value} (hρ : ∀ x, RelV M G (ρ x) (σ x)) {st st' : St} {w : World} (hI : Inv M G st.objs w) (dst : Option Tmp) (c : Call) (ty : TypeId) (pos : String) (after : Array Edge) (guard : Option (Nat × Bool)) {v : AV}
    (h : callOp E run strict ρ c st = some (v, st')) :
    ∃ f cargs, (execOp σ ⟨dst, .call c, ty, pos, after, guard⟩).run P w = .ok (.enter f ⟨cargs⟩) w ∧
      Calls P f ⟨cargs⟩ w (fun e w' => ∃ V M' G', e = .returned V ∧ RelV M' G' v V ∧ Inv M' G' st'.objs w' ∧ Ext st.floor M G w M' G' w' ∧ st'.floor = st.floor) := by
  obtain ⟨callee, args, argTypes⟩ := c
  unfold callOp at h
  simp only at h
  split at h <;> try cases h
  rename_i x fo
  split at h <;> try cases h
  rename_i f first caps hfo
  split at h
  · cases h
  · have hr := hρ fo
    rw [hfo] at hr
    generalize hX : σ fo = X at hr
    cases hr with
    | fn la lb ha hb =>
      rename_i xa xb
      obtain ⟨l1, r1⟩ := map_rel hρ args.toList
      obtain ⟨⟨fn, hfn, hbody, hname⟩, hcs⟩ := hC _ _ _ _ _ h
      refine ⟨f, xa ++ args.toList.map σ ++ xb, ?_, hcs M G w _ (by simp [la, lb]) (rel_append (by simp [la]) (rel_append la ha r1) hb) hI⟩
      have hcf : ∀ A, (callFunc f A).run P w = .ok (.enter f A) w := by
        intro A
        have hn : ¬ fn.name = "runtime.NumGoroutine" := by simpa using hname
        have hnone : fn.body.isNone = false := by cases hb : fn.body <;> simp [hb] at hbody ⊢
        simp only [callFunc, Sem.run_bind, run_program, Result.andThen_ok, hfn, hname, hnone]
        simp
      have harr : (⟨xa⟩ : Array Value) ++ args.map σ ++ ⟨xb⟩ = ⟨xa ++ args.toList.map σ ++ xb⟩ := by
        apply Array.ext'; simp
      simp only [execOp, resolve, Deferred.ofValue, hX, invoke, Sem.run_bind, Sem.run_pure, Result.andThen_ok, hcf]
      rw [← harr]

theorem invokeOp_sim (hT : TEok P T) (hC : CallSound P run) {M : Mem} {G : List GE} {ρ : Operand → AV} {σ : Operand → Value} (hρ : ∀ x, RelV M G (ρ x) (σ x)) {st st' : St} {w : World} (hI : Inv M G st.objs w) (dst : Option Tmp) (r : Operand) (m : String) (args : Array Operand) (argTypes : Array TypeId) (ty : TypeId) (pos : String) (after : Array Edge) (guard : Option (Nat × Bool)) {v : AV}
    (h : invokeOp T run ρ r m args st = some (v, st')) :
    ∃ f cargs, (execOp σ ⟨dst, .call ⟨.invoke r m, args, argTypes⟩, ty, pos, after, guard⟩).run P w = .ok (.enter f ⟨cargs⟩) w ∧
      Calls P f ⟨cargs⟩ w (fun e w' => ∃ V M' G', e = .returned V ∧ RelV M' G' v V ∧ Inv M' G' st'.objs w' ∧ Ext st.floor M G w M' G' w' ∧ st'.floor = st.floor) := by
  unfold invokeOp at h
  split at h <;> try cases h
  rename_i x t u hr0
  split at h <;> try cases h
  rename_i ti ht
  split at h <;> try cases h
  rename_i nm f hfind
  obtain ⟨i, d, z, ok⟩ := hT.get ht
  have hr := hρ r
  rw [hr0] at hr
  generalize hX : σ r = X at hr
  cases hr with
  | iface hv =>
    rename_i V
    obtain ⟨l1, r1⟩ := map_rel hρ args.toList
    obtain ⟨⟨fn, hfn, hbody, hname⟩, hcs⟩ := hC _ _ _ _ _ h
    refine ⟨f, V :: args.toList.map σ, ?_, hcs M G w _ (by simp) ?_ hI⟩
    · rw [ok.ms, List.find?_map] at hfind
      simp only [Option.map_eq_some_iff] at hfind
      obtain ⟨mm, hmm, hms⟩ := hfind
      have hp1 : (fun x : Method => x.name == m) = ((fun x : String × Option Nat => x.1 == m) ∘ msOf d) := by funext x; rfl
      have hmm' : i.methods.toList.find? (fun x => x.name == m) = some mm := by rw [hp1]; exact hmm
      have hmm2 : i.methods.find? (fun x => x.name == m) = some mm := by rw [← Array.find?_toList]; exact hmm'
      have hm : (method (P.types.size + Made.depth) t V m).run P w = .ok (f, V) w := by
        have hdep : ∃ q, P.types.size + Made.depth = q + 1 := by
          have : 0 < Made.depth := by decide
          exact ⟨P.types.size + Made.depth - 1, by omega⟩
        obtain ⟨q, hq⟩ := hdep
        rw [hq]
        unfold msOf at hms
        simp only [Prod.mk.injEq] at hms
        obtain ⟨rfl, hms⟩ := hms
        split at hms <;> try cases hms
        rename_i f' pr hpath hfun
        split at hms <;> try cases hms
        rename_i hpr
        subst hpr
        simp only [method, Sem.run_bind, ok.run_typeInfo, Result.andThen_ok, hmm2, hpath, follow, Sem.run_pure, hfun, receiverAt, ok.run_underlying]
        cases d <;> simp [isPtrD, Place.get]
      have hcf : ∀ A, (callFunc f A).run P w = .ok (.enter f A) w := by
        intro A
        have hn : ¬ fn.name = "runtime.NumGoroutine" := by simpa using hname
        have hnone : fn.body.isNone = false := by cases hb : fn.body <;> simp [hb] at hbody ⊢
        simp only [callFunc, Sem.run_bind, run_program, Result.andThen_ok, hfn, hname, hnone]
        simp
      have harr : (#[V] ++ args.map σ : Array Value) = ⟨V :: args.toList.map σ⟩ := by
        apply Array.ext'; simp
      have e0 : (#[Value.iface t V] ++ args.map σ)[0]? = some (.iface t V) := by rw [Array.getElem?_append_left (by simp)]; rfl
      have e1 : ((#[Value.iface t V] ++ args.map σ).extract 1 (#[Value.iface t V] ++ args.map σ).size) = args.map σ := by
        apply Array.ext'
        have e2 : (#[Value.iface t V] ++ args.map σ).toList = Value.iface t V :: (args.map σ).toList := by rw [Array.toList_append]; rfl
        have e3 : (#[Value.iface t V] ++ args.map σ).size = (args.map σ).toList.length + 1 := by rw [← Array.length_toList, e2]; rfl
        rw [Array.toList_extract, e2, e3, List.extract_eq_take_drop, List.drop_succ_cons, List.drop_zero]
        exact List.take_of_length_le (by omega)
      simp only [execOp, resolve, hX, invoke, Sem.run_bind, Sem.run_pure, Result.andThen_ok, e0, e1, callMethod, run_program, hm, harr, hcf]
    · intro i x y hx hy
      match i with
      | 0 => simp at hx hy; subst hx; subst hy; exact hv
      | i + 1 => exact r1 i x y (by simpa using hx) (by simpa using hy)

theorem stepOp_sim (hT : TEok P T) (hC : CallSound P run) {draw : Bool} {fr : List AV} {o : Oper} {st st' : St} {v : AV} (h : stepOp T E run draw fr o st = some (v, st')) {a : Act} {w : World} (hok : Ok M0 G0 w0 fl fr st a w)
    {K : Act → World → Prop} {Q : Exit → Act → World → Prop} (hK : ∀ V w', Ok M0 G0 w0 fl (put fr o.dst v) st' (a.put o.dst V) w' → K (a.put o.dst V) w') : o.wp P a w K Q := by
  obtain ⟨M, G, hF, hd, hI, hE0, hfl⟩ := hok
  have hρ := fun x => hF.eval x
  have call : ∀ {strict : Bool} (c : Call), o.op = .call c → callOp E run strict (eval fr) c st = some (v, st') → o.wp P a w K Q := by
    intro strict c hoc hcall
    obtain ⟨f, cargs, hrun, hcs⟩ := callOp_sim hC hρ hI o.dst c o.type o.pos o.after o.guard hcall
    have ho : o = ⟨o.dst, .call c, o.type, o.pos, o.after, o.guard⟩ := by rw [← hoc]
    rw [← ho] at hrun
    unfold Oper.wp
    rw [hrun]
    simp only [Oper.upon]
    refine hcs.mono ?_
    rintro e w' ⟨V, M', G', rfl, hv, hI', hE, hf⟩
    exact hK V w' (Ok.step hF hd hE0 hI' (hfl ▸ hE) (hf.trans hfl) o.dst hv)
  unfold stepOp at h
  split at h
  · split at h
    · rename_i v' hp
      simp only [Option.some.injEq, Prod.mk.injEq] at h
      obtain ⟨rfl, rfl⟩ := h
      obtain ⟨V, w', M', hrun, hv, hI', hE⟩ := pureOp_sim hT hρ hI o hp fl
      unfold Oper.wp
      rw [hrun]
      exact hK V w' (Ok.step hF hd hE0 hI' hE hfl o.dst hv)
    · split at h
      · cases h
      · simp only [Option.map_eq_some_iff, Prod.mk.injEq] at h
        obtain ⟨v', hp, rfl, rfl⟩ := h
        obtain ⟨V, hrun, hv⟩ := lateOp_sim hT hρ hI o hp
        unfold Oper.wp
        rw [hrun]
        exact hK V w (Ok.step hF hd hE0 hI (Ext.refl _ _ _ _) hfl o.dst hv)
  · simp only [Option.map_eq_some_iff, Prod.mk.injEq] at h
    obtain ⟨v', hp, rfl, rfl⟩ := h
    obtain ⟨V, hrun, hv⟩ := readOp_sim hT hρ hI o hp
    unfold Oper.wp
    rw [hrun]
    exact hK V w (Ok.step hF hd hE0 hI (Ext.refl _ _ _ _) hfl o.dst hv)
  · simp only [Option.map_eq_some_iff, Prod.mk.injEq] at h
    obtain ⟨⟨ob, mk⟩, hp, rfl, rfl⟩ := h
    show Oper.wp P o a w K Q
    simp only at hK
    obtain ⟨gob, xf, ef, hm⟩ := allocOp_makes hT hρ o hp
    obtain ⟨hor, hv⟩ := hm.adopt w.heap.size (MLe.refl M) (GLe.refl G) (w := w.alloc gob) (by show (w.heap.push gob)[w.heap.size]? = _; simp)
    have hv' : RelV M (G ++ [ef w.heap.size]) (mk st.objs.length) (xf w.heap.size) := by rw [hI.len]; exact hv
    unfold Oper.wp
    rw [hm.run w]
    refine hK _ _ (Ok.step (st' := { objs := st.objs ++ [ob], floor := st.floor }) (M' := M) (G' := G ++ [ef w.heap.size]) hF hd hE0 ?_ (Ext.push fl w gob _ (hm.blk _)) hfl o.dst hv')
    refine (hI.alloc gob).push hor (by rw [hm.blk]; simp) ?_ ?_
    · intro x
      rw [hm.blk]
      cases hx : M w.heap.size x with
      | none => rfl
      | some y => have := cell_lt (hI.mem _ _ _ hx); omega
    · intro r e' he'; have := hI.blt r e' he'; rw [hm.blk]; omega
  · split at h <;> try cases h
    rename_i c hoc
    exact call c hoc h
  · split at h
    · rename_i f args argTypes hoc
      exact call _ hoc h
    · rename_i r m args argTypes hoc
      obtain ⟨f, cargs, hrun, hcs⟩ := invokeOp_sim hT hC hρ hI o.dst r m args argTypes o.type o.pos o.after o.guard h
      have ho : o = ⟨o.dst, .call ⟨.invoke r m, args, argTypes⟩, o.type, o.pos, o.after, o.guard⟩ := by rw [← hoc]
      rw [← ho] at hrun
      unfold Oper.wp
      rw [hrun]
      simp only [Oper.upon]
      refine hcs.mono ?_
      rintro e w' ⟨V, M', G', rfl, hv, hI', hE, hf⟩
      exact hK V w' (Ok.step hF hd hE0 hI' (hfl ▸ hE) (hf.trans hfl) o.dst hv)
    · obtain ⟨n, V, w', G', hrun, hn, hv, hI', hE, hf⟩ := writeOp_sim hT hρ hI o h
      unfold Oper.wp
      rw [hrun]
      rcases hn with rfl | ⟨rfl, rfl⟩
      · exact hK V w' (Ok.step hF hd hE0 hI' (hfl ▸ hE) (hf.trans hfl) o.dst hv)
      · exact hK _ w' (Ok.step hF hd hE0 hI' (hfl ▸ hE) (hf.trans hfl) o.dst hv)

/-- what a guard tells -/
theorem wanted_sim {fr : List AV} {a : Act} {M : Mem} {G : List GE} (hF : RelF M G fr a.tmps) {o : Oper} {ops : Array Oper} {b : Bool} (h : wanted o ops fr = some b) : Region.wanted o (yielded ops a.tmps) = b := by
  unfold wanted at h
  unfold Region.wanted
  split at h
  · rename_i hg
    simp only [Option.some.injEq] at h
    subst h
    simp [hg]
  · rename_i j want hg
    simp only [hg]
    have hy : ∀ z, yields ops fr j = some z → yielded ops a.tmps j = z := by
      intro z hy
      unfold yields at hy
      split at hy
      case h_2 => cases hy
      rename_i d hd
      have hr := hF.getD d
      split at hy
      · rename_i b'' hv
        simp only [Option.some.injEq] at hy
        subst hy
        rw [hv] at hr
        have e := boolRel hr
        have hlt : d < a.tmps.size := by
          rcases Nat.lt_or_ge d a.tmps.size with h' | h'
          · exact h'
          · rw [Array.getD_eq_getD_getElem?, Array.getElem?_eq_none h'] at e
            simp [Go.undef] at e
        have e' : a.tmps[d]? = some (.bool b'') := by
          rw [Array.getD_eq_getD_getElem?] at e
          rw [Array.getElem?_eq_getElem hlt] at e ⊢
          simpa using e
        simp [yielded, hd, e']
      · rename_i hv
        simp only [Option.some.injEq] at hy
        subst hy
        rw [hv] at hr
        generalize hq : a.tmps.getD d Go.undef = q at hr
        cases hr with
        | @tuple _ _ xs hl _ =>
          have : xs = [] := by simpa using hl.symm
          subst this
          unfold yielded
          rw [hd]
          cases ht : a.tmps[d]? with
          | none => simp [ht]
          | some y =>
            rw [Array.getD_eq_getD_getElem?, ht] at hq
            simp at hq
            simp [ht, hq]
      · cases hy
    split at h
    · rename_i b' hy'
      rw [hy _ hy']
      simp only [Option.some.injEq] at h
      subst h
      cases b' <;> cases want <;> rfl
    · rename_i hy'
      rw [hy _ hy']
      simp only [Option.some.injEq] at h
      subst h
      rfl
    · cases h

theorem opAt_simP (hT : TEok P T) (hC : CallSound P run) {draw : Bool} {ops : Array Oper} {i : Nat} {o : Oper} (ho : ops[i]? = some o) {fr fr' : List AV} {st st' : St} (h : opAt T E run draw ops i fr st = some (fr', st')) {a : Act} {w : World} (hok : Ok M0 G0 w0 fl fr st a w)
    {K : Act → World → Prop} {Q : Exit → Act → World → Prop} (hK : ∀ V w', Ok M0 G0 w0 fl fr' st' (a.put o.dst V) w' → K (a.put o.dst V) w') : wpOp P ops Q i K a w := by
  unfold opAt at h
  simp only [ho] at h
  unfold wpOp
  simp only [ho]
  obtain ⟨M, G, hF, hd, hI, hE0, hfl⟩ := id hok
  split at h
  · cases h
  · rename_i hw
    cases h
    rw [wanted_sim hF hw]
    simp only [Bool.false_eq_true, if_false]
    exact hK _ _ (Ok.step hF hd hE0 hI (Ext.refl _ _ _ _) hfl o.dst (.tuple rfl (by simp)))
  · rename_i hw
    rw [wanted_sim hF hw]
    simp only [if_true]
    split at h <;> try cases h
    rename_i v st1 hs
    left
    exact stepOp_sim hT hC hs hok (fun V w' hk => hK _ _ hk)

theorem opAt_sim (hT : TEok P T) (hC : CallSound P run) {draw : Bool} {ops : Array Oper} {i : Nat} {fr fr' : List AV} {st st' : St} (h : opAt T E run draw ops i fr st = some (fr', st')) {a : Act} {w : World} (hok : Ok M0 G0 w0 fl fr st a w)
    {K : Act → World → Prop} {Q : Exit → Act → World → Prop} (hK : ∀ a' w', Ok M0 G0 w0 fl fr' st' a' w' → K a' w') : wpOp P ops Q i K a w := by
  cases ho : ops[i]? with
  | none => unfold opAt at h; simp [ho] at h
  | some o => exact opAt_simP hT hC ho h hok (fun V w' hk => hK _ _ hk)

theorem runOps_sim (hT : TEok P T) (hC : CallSound P run) {draw : Bool} {ops : Array Oper} {Q : Exit → Act → World → Prop} {fr' : List AV} {st' : St} : ∀ (l : List Nat) (fr : List AV) (st : St), runOps T E run draw ops l fr st = some (fr', st') → ∀ (a : Act) (w : World), Ok M0 G0 w0 fl fr st a w →
    (∀ a' w', Ok M0 G0 w0 fl fr' st' a' w' → Q .normal a' w') → wpOps P ops Q l a w
  | [], fr, st, h, a, w, hok, hQ => by
    simp only [runOps, Option.some.injEq, Prod.mk.injEq] at h
    obtain ⟨rfl, rfl⟩ := h
    exact hQ a w hok
  | i :: l, fr, st, h, a, w, hok, hQ => by
    simp only [runOps] at h
    split at h <;> try cases h
    rename_i fr1 st1 h1
    rw [wpOps_cons]
    exact opAt_sim hT hC h1 hok (fun a' w' hk => runOps_sim hT hC l fr1 st1 h a' w' hk hQ)

end
end Go.Proofs.YtgkalmmlgkaabaaGreat.Am

namespace Go.Proofs.YtgkalmmlgkaabaaGreat.Am

section
variable {T : TE} {E : PE} {run : Runs}

theorem args_congr {ρ ρ' : Operand → AV} {c : Call} (h : ∀ x ∈ c.operands, ρ x = ρ' x) : ∀ x ∈ c.args.toList, ρ x = ρ' x :=
  fun x hx => h x (by simp only [Call.operands]; have h' : x ∈ c.args := (by simpa using hx); simp [h'])

theorem parts_congr {ρ ρ' : Operand → AV} {ps : Array (Nat × Operand)} (h : ∀ x ∈ ps.toList.map (·.2), ρ x = ρ' x) :
    (ps.toList.map fun (i, x) => (i, ρ x)) = (ps.toList.map fun (i, x) => (i, ρ' x)) :=
  List.map_congr_left fun p hp => by
    obtain ⟨i, x⟩ := p
    simp only [h x (List.mem_map.2 ⟨(i, x), hp, rfl⟩)]

theorem opt_congr {ρ ρ' : Operand → AV} {x : Option Operand} (h : ∀ y ∈ x.toList, ρ y = ρ' y) : x.map ρ = x.map ρ' := by
  cases x with
  | none => rfl
  | some y => simp [h y (by simp)]

theorem pureOp_congr {ρ ρ' : Operand → AV} (op : Op) (h : ∀ x ∈ op.operands, ρ x = ρ' x) : pureOp T ρ op = pureOp T ρ' op := by
  unfold pureOp
  cases op <;> simp only [Op.operands] at h
  case build t ps => simp only [parts_congr (ρ := ρ) (ρ' := ρ') (ps := ps) (fun x hx => h x (by simpa using hx))]
  case buildSlice t n ps => simp only [parts_congr (ρ := ρ) (ρ' := ρ') (ps := ps) (fun x hx => h x (by simpa using hx))]
  case makeFunc fn first captured =>
    have h1 : first.toList.map ρ = first.toList.map ρ' := List.map_congr_left fun x hx => h x (by simp at hx; simp [hx])
    have h2 : captured.toList.map ρ = captured.toList.map ρ' := List.map_congr_left fun x hx => h x (by simp at hx; simp [hx])
    cases fn <;> simp only [h1, h2]
  case call c =>
    have ha := args_congr h
    have h1 : ∀ x : Operand, c.args[0]? = some x → ρ x = ρ' x := fun x hx => ha x (by
      have := Array.mem_of_getElem? hx
      simpa using this)
    dsimp only
    split
    · split
      · rename_i hx; simp only [h1 _ hx]
      · rfl
    · split
      · rename_i x l hl
        rw [hl] at ha
        simp only [ha x (by simp), List.map_congr_left (fun y hy => ha y (by simp [hy]) : ∀ y ∈ l, ρ y = ρ' y)]
      · rfl
    · split
      · rename_i x l hl
        rw [hl] at ha
        simp only [ha x (by simp), List.map_congr_left (fun y hy => ha y (by simp [hy]) : ∀ y ∈ l, ρ y = ρ' y)]
      · rfl
    · rfl
  case slice t x lo hi mx =>
    have hx := h x (by simp)
    have e1 : lo.map ρ = lo.map ρ' := opt_congr fun y hy => h y (by simp at hy; simp [hy])
    have e2 : hi.map ρ = hi.map ρ' := opt_congr fun y hy => h y (by simp at hy; simp [hy])
    have e3 : mx.map ρ = mx.map ρ' := opt_congr fun y hy => h y (by simp at hy; simp [hy])
    simp only [hx, e1, e2, e3]
  all_goals (first | rfl | (simp_all; done))

theorem readOp_congr {ρ ρ' : Operand → AV} (objs : List Obj) (op : Op) (h : ∀ x ∈ op.operands, ρ x = ρ' x) : readOp T ρ objs op = readOp T ρ' objs op := by
  unfold readOp
  cases op <;> simp only [Op.operands] at h
  case slice t x lo hi mx =>
    have hx := h x (by simp)
    have e1 : lo.map ρ = lo.map ρ' := opt_congr fun y hy => h y (by simp at hy; simp [hy])
    have e2 : hi.map ρ = hi.map ρ' := opt_congr fun y hy => h y (by simp at hy; simp [hy])
    have e3 : mx.map ρ = mx.map ρ' := opt_congr fun y hy => h y (by simp at hy; simp [hy])
    simp only [hx, e1, e2, e3]
  all_goals (first | rfl | (simp_all; done))

theorem allocOp_congr {ρ ρ' : Operand → AV} (op : Op) (h : ∀ x ∈ op.operands, ρ x = ρ' x) : allocOp T ρ op = allocOp T ρ' op := by
  unfold allocOp
  cases op <;> simp only [Op.operands] at h
  case makeMap t r => cases r <;> rfl
  all_goals (first | rfl | (simp_all; done))

theorem writeOp_congr {ρ ρ' : Operand → AV} (st : St) (op : Op) (h : ∀ x ∈ op.operands, ρ x = ρ' x) : writeOp T ρ st op = writeOp T ρ' st op := by
  unfold writeOp
  cases op <;> simp only [Op.operands] at h
  case call c =>
    have ha := args_congr h
    dsimp only
    split
    · split
      · rename_i h0 h1
        have e0 := ha _ (by have := Array.mem_of_getElem? h0; simpa using this)
        have e1 := ha _ (by have := Array.mem_of_getElem? h1; simpa using this)
        simp only [e0, e1]
      · rfl
    · split
      · rename_i h0 h1
        have e0 := ha _ (by have := Array.mem_of_getElem? h0; simpa using this)
        have e1 := ha _ (by have := Array.mem_of_getElem? h1; simpa using this)
        simp only [e0, e1]
      · rfl
    · split
      · rename_i h0
        have e0 := ha _ (by have := Array.mem_of_getElem? h0; simpa using this)
        simp only [e0]
      · rfl
    · split
      · rename_i h0 h1
        have e0 := ha _ (by have := Array.mem_of_getElem? h0; simpa using this)
        have e1 := ha _ (by have := Array.mem_of_getElem? h1; simpa using this)
        simp only [e0, e1]
      · rfl
    · rfl
  case next it b => cases b <;> simp_all
  all_goals (first | rfl | (simp_all; done))

theorem callOp_congr {ρ ρ' : Operand → AV} {strict : Bool} {c : Call} {st : St} (h : ∀ x ∈ c.operands, ρ x = ρ' x) : callOp E run strict ρ c st = callOp E run strict ρ' c st := by
  have ha := args_congr h
  unfold callOp
  cases hc : c.callee with
  | value f =>
    have hf : ρ f = ρ' f := h f (by simp [Call.operands, hc])
    simp only [hf, List.map_congr_left ha]
  | invoke r m => rfl
  | builtin b => rfl

theorem invokeOp_congr {ρ ρ' : Operand → AV} {r : Operand} {m : String} {args : Array Operand} {ats : Array TypeId} {st : St} (h : ∀ x ∈ (Call.operands ⟨.invoke r m, args, ats⟩), ρ x = ρ' x) : invokeOp T run ρ r m args st = invokeOp T run ρ' r m args st := by
  have ha := args_congr h
  unfold invokeOp
  have hf : ρ r = ρ' r := h r (by simp [Call.operands])
  simp only [hf, List.map_congr_left ha]

theorem lateOp_congr {ρ ρ' : Operand → AV} (objs : List Obj) (op : Op) (h : ∀ x ∈ op.operands, ρ x = ρ' x) : lateOp T ρ objs op = lateOp T ρ' objs op := by
  unfold lateOp
  cases op <;> simp only [Op.operands] at h
  case call c =>
    have ha := args_congr h
    dsimp only
    split
    · split
      · rename_i h0 h1
        have e0 := ha _ (by have := Array.mem_of_getElem? h1; simpa using this)
        simp only [e0]
      · rfl
    · rfl
  all_goals rfl

theorem stepOp_congr {draw : Bool} {fr fr' : List AV} {o : Oper} {st : St} (h : ∀ x ∈ o.op.operands, eval fr x = eval fr' x) : stepOp T E run draw fr o st = stepOp T E run draw fr' o st := by
  unfold stepOp
  rw [pureOp_congr o.op h, readOp_congr st.objs o.op h, allocOp_congr o.op h, lateOp_congr st.objs o.op h]
  have hw := writeOp_congr (T := T) st o.op h
  generalize o.op = op at *
  cases op with
  | call c =>
    simp only [Op.operands] at h
    have hcc := fun s => callOp_congr (E := E) (run := run) (strict := s) (st := st) h
    obtain ⟨callee, args, at_⟩ := c
    cases callee with
    | invoke r m =>
      have hi := invokeOp_congr (T := T) (run := run) (st := st) (ats := at_) h
      simp only [hcc, hi]
    | _ => simp only [hcc, hw]
  | _ => simp only [hw]

/-! ### what does not change objects -/

/-- a call of a function that is pure leaves the objects -/
def PureRuns (E : PE) (run : Runs) : Prop := ∀ f args st v st', (E f).any (·.pure) = true → run f args st = some (v, st') → st' = st

def Cls.still : Cls → Bool
  | .p | .r | .k => true
  | _ => false

theorem step_still (hp : PureRuns E run) {fr : List AV} {o : Oper} {st st' : St} {v : AV} (h : stepOp T E run true fr o st = some (v, st')) (hc : (cls E o.op).still = true) : st' = st := by
  unfold stepOp at h
  split at h
  · split at h
    · simp only [Option.some.injEq, Prod.mk.injEq] at h
      exact h.2.symm
    · cases h
  · simp only [Option.map_eq_some_iff, Prod.mk.injEq] at h
    obtain ⟨_, _, _, rfl⟩ := h; rfl
  · rename_i hcl; rw [hcl] at hc; cases hc
  · split at h
    · rename_i c _
      unfold callOp at h
      split at h
      · split at h
        · split at h
          · cases h
          · rename_i hs
            exact hp _ _ _ _ _ (by simpa using hs) h
        · cases h
      · cases h
    · cases h
  · rename_i hcl; rw [hcl] at hc; cases hc

theorem step_p {fr : List AV} {o : Oper} (hc : cls E o.op = .p) (st : St) : stepOp T E run true fr o st = (pureOp T (eval fr) o.op).map fun v => (v, st) := by
  unfold stepOp
  rw [hc]
  simp only [if_true]
  cases pureOp T (eval fr) o.op <;> rfl

theorem get_app {objs : List Obj} {r : Nat} {o x : Obj} (h : objs[r]? = some x) : (objs ++ [o])[r]? = some x := by
  rw [List.getElem?_append_left (lt_of_get h)]; exact h

theorem readOp_mono {ρ : Operand → AV} {objs : List Obj} {op : Op} {v : AV} (o : Obj) (h : readOp T ρ objs op = some v) : readOp T ρ (objs ++ [o]) op = some v := by
  unfold readOp at *
  cases op <;> simp only at h ⊢ <;> try cases h
  case convert src dst x =>
    unfold convertR at *
    cases ht : T src with
    | none => simp [ht] at h
    | some si =>
      simp only [ht] at h ⊢
      cases hk : si.k with
      | slice e =>
        simp only [hk] at h ⊢
        cases hd : T dst with
        | none => simp [hd] at h
        | some di =>
          simp only [hd] at h ⊢
          cases hk2 : di.k with
          | string =>
            simp only [hk2] at h ⊢
            have hv : ∀ q, view objs 1 (ρ x) = some q → view (objs ++ [o]) 1 (ρ x) = some q := by
              intro q hq
              unfold view at *
              cases hx : ρ x with
              | sl r off n s g =>
                simp only [hx] at hq ⊢
                cases hr : objs[r]? with
                | none => simp [hr] at hq
                | some y => rw [get_app hr]; rw [hr] at hq; exact hq
              | _ => simp only [hx] at hq ⊢; exact hq
            unfold texts at *
            cases he : T e with
            | none => simp [he] at h
            | some ei =>
              simp only [he] at h ⊢
              cases hvv : view objs 1 (ρ x) with
              | none =>
                rw [hvv] at h
                split at h <;> cases h
              | some q =>
                rw [hv q hvv]
                rw [hvv] at h
                exact h
          | _ => simp [hk2] at h
      | _ => simp only [hk] at h ⊢; exact h
  case slice t x lo hi mx =>
    unfold sliceR at *
    cases ht : T t with
    | none => simp [ht] at h
    | some ti =>
      simp only [ht] at h ⊢
      split at h
      · rename_i len esz ag r off g hk hx
        cases hr : objs[r]? with
        | none => simp [hr] at h
        | some y => rw [get_app hr]; rw [hr] at h; exact h
      · exact h
  case load t a =>
    unfold load at *
    cases ht : T t with
    | none => simp [ht] at h
    | some ti =>
      simp only [ht] at h ⊢
      cases hc : cellsAt objs (ρ a) ti.size with
      | none => simp [hc] at h
      | some cs =>
        have : cellsAt (objs ++ [o]) (ρ a) ti.size = some cs := by
          unfold cellsAt at *
          split at hc
          · rename_i r off g hx
            cases hr : objs[r]? with
            | none => simp [hr] at hc
            | some x => rw [get_app hr]; rw [hr] at hc; exact hc
          · exact hc
          · cases hc
        rw [this]; rw [hc] at h; exact h
  case lookup t x i ok =>
    unfold lookup at *
    cases ht : T t with
    | none => simp [ht] at h
    | some ti =>
      simp only [ht] at h ⊢
      cases hk : ti.k with
      | map kt e =>
        simp only [hk] at h ⊢
        cases he : T e with
        | none => simp [he] at h
        | some ei =>
          simp only [he] at h ⊢
          cases hkt : keyT T kt (ρ i) with
          | false => simp [hkt] at h
          | true =>
            simp only [hkt, if_true] at h ⊢
            cases hx : ρ x with
            | map r =>
              simp only [hx] at h ⊢
              cases hr : objs[r]? with
              | none => simp [hr] at h
              | some y => rw [get_app hr]; rw [hr] at h; exact h
            | _ => simp only [hx] at h ⊢; exact h
      | _ => simp [hk] at h

theorem step_r {fr : List AV} {o : Oper} (hc : cls E o.op = .r) (st : St) : stepOp T E run true fr o st = (readOp T (eval fr) st.objs o.op).map fun v => (v, st) := by
  unfold stepOp
  rw [hc]

theorem step_a {fr : List AV} {o : Oper} (hc : cls E o.op = .a) (st : St) : stepOp T E run true fr o st = (allocOp T (eval fr) o.op).map fun x => (x.2 st.objs.length, { st with objs := st.objs ++ [x.1] }) := by
  unfold stepOp
  rw [hc]

/-! ### equal values -/
mutual
theorem beq_eq : ∀ (a b : AV), AV.beq a b = true → a = b
  | .undef, b, h => by cases b <;> simp [AV.beq] at h ⊢
  | .bool a, b, h => by cases b <;> simp [AV.beq] at h ⊢; exact h
  | .int k a, b, h => by cases b <;> simp [AV.beq] at h ⊢; exact h
  | .str a, b, h => by cases b <;> simp [AV.beq] at h ⊢; exact h
  | .nilp, b, h => by cases b <;> simp [AV.beq] at h ⊢
  | .ptr r o g, b, h => by cases b <;> simp [AV.beq] at h ⊢; exact ⟨h.1.1, h.1.2, h.2⟩
  | .fptr cs o, b, h => by
    cases b <;> simp [AV.beq] at h ⊢
    exact ⟨beqL_eq _ _ h.1, h.2⟩
  | .nils, b, h => by cases b <;> simp [AV.beq] at h ⊢
  | .sl r o n s g, b, h => by cases b <;> simp [AV.beq] at h ⊢; exact ⟨h.1.1.1.1, h.1.1.1.2, h.1.1.2, h.1.2, h.2⟩
  | .fsl n s cs f so, b, h => by
    cases b <;> simp [AV.beq] at h ⊢
    exact ⟨h.1.1.1.1, h.1.1.1.2, beqL_eq _ _ h.1.1.2, h.1.2, h.2⟩
  | .nilm, b, h => by cases b <;> simp [AV.beq] at h ⊢
  | .map r, b, h => by cases b <;> simp [AV.beq] at h ⊢; exact h
  | .nilf, b, h => by cases b <;> simp [AV.beq] at h ⊢
  | .fn f a c, b, h => by
    cases b <;> simp [AV.beq] at h ⊢
    exact ⟨h.1.1, beqL_eq _ _ h.1.2, beqL_eq _ _ h.2⟩
  | .niface, b, h => by cases b <;> simp [AV.beq] at h ⊢
  | .iface t v, b, h => by
    cases b <;> simp [AV.beq] at h ⊢
    exact ⟨h.1, beq_eq _ _ h.2⟩
  | .agg cs, b, h => by
    cases b <;> simp [AV.beq] at h ⊢
    exact beqL_eq _ _ h
  | .tuple cs, b, h => by
    cases b <;> simp [AV.beq] at h ⊢
    exact beqL_eq _ _ h
theorem beqL_eq : ∀ (a b : List AV), AV.beqL a b = true → a = b
  | [], b, h => by cases b <;> simp [AV.beqL] at h ⊢
  | x :: xs, b, h => by
    cases b <;> simp [AV.beqL] at h ⊢
    exact ⟨beq_eq _ _ h.1, beqL_eq _ _ h.2⟩
end

/-! ### slots -/

theorem eval_put {fr : List AV} {d : Option Tmp} {v : AV} {x : Operand} (h : ∀ e, d = some e → x ≠ .tmp e) : eval (put fr d v) x = eval fr x := by
  cases d with
  | none => rfl
  | some d =>
    cases x with
    | tmp t =>
      have hne : d ≠ t := fun e => h d rfl (e ▸ rfl)
      simp [eval, put, List.getD, List.getElem?_set_ne hne]
    | _ => rfl

theorem put_comm (fr : List AV) {x y : Option Tmp} (v u : AV) (h : ∀ d, x = some d → y ≠ some d) : put (put fr x v) y u = put (put fr y u) x v := by
  cases x with
  | none => rfl
  | some d =>
    cases y with
    | none => rfl
    | some e =>
      have hne : d ≠ e := fun he => h d rfl (he ▸ rfl)
      simp [put, List.set_comm _ _ hne]

theorem eval_looks {ops : Array Oper} {o : Oper} {fr : List AV} {d : Option Tmp} {v : AV} (h : ∀ e, d = some e → e ∉ o.looksAt ops) : ∀ x ∈ o.op.operands, eval (put fr d v) x = eval fr x :=
  fun x hx => eval_put fun e he hxe => h e he (by
    subst hxe
    exact List.mem_append_left _ (List.mem_filterMap.2 ⟨.tmp e, by simpa using hx, rfl⟩))

theorem wanted_looks {ops : Array Oper} {o : Oper} {fr : List AV} {d : Option Tmp} {v : AV} (h : ∀ e, d = some e → e ∉ o.looksAt ops) : wanted o ops (put fr d v) = wanted o ops fr := by
  cases d with
  | none => rfl
  | some d =>
    unfold wanted
    cases hg : o.guard with
    | none => rfl
    | some gw =>
      obtain ⟨g, want⟩ := gw
      have : yields ops (put fr (some d) v) g = yields ops fr g := by
        unfold yields
        cases ht : (ops[g]?).bind (·.dst) with
        | none => rfl
        | some t =>
          have hne : d ≠ t := fun e => h d rfl (by subst e; simp [Oper.looksAt, hg, ht])
          simp [put, List.getD, List.getElem?_set_ne hne]
      simp only [this]

/-- either order -/
def commC (c1 c2 : Cls) : Bool := decide (c1 = .p) || decide (c2 = .p) || (c1.still && c2.still) || (decide (c1 = .r) && decide (c2 = .a))

theorem opAt_comm (hp : PureRuns E run) {ops : Array Oper} {i j : Nat} {oi oj : Oper} (hi : ops[i]? = some oi) (hj : ops[j]? = some oj) (hap : oi.apart ops oj = true) (hc : commC (cls E oi.op) (cls E oj.op) = true)
    {fr fr1 fr2 : List AV} {st st1 st2 : St} (h1 : opAt T E run true ops i fr st = some (fr1, st1)) (h2 : opAt T E run true ops j fr1 st1 = some (fr2, st2)) :
    ∃ fr' st', opAt T E run true ops j fr st = some (fr', st') ∧ opAt T E run true ops i fr' st' = some (fr2, st2) := by
  obtain ⟨a1, a2, a3⟩ := Oper.apart_spec hap
  unfold opAt at *
  simp only [hi, hj] at *
  cases hwi : wanted oi ops fr with
  | none => simp [hwi] at h1
  | some bi =>
    have wj : ∀ v, wanted oj ops (put fr oi.dst v) = wanted oj ops fr := fun v => wanted_looks a1
    have wi : ∀ v, wanted oi ops (put fr oj.dst v) = some bi := fun v => by rw [wanted_looks a3, hwi]
    have sj : ∀ v s, stepOp T E run true (put fr oi.dst v) oj s = stepOp T E run true fr oj s := fun v s => stepOp_congr (eval_looks a1)
    have si : ∀ v s, stepOp T E run true (put fr oj.dst v) oi s = stepOp T E run true fr oi s := fun v s => stepOp_congr (eval_looks a3)
    have pc : ∀ u v, put (put fr oi.dst v) oj.dst u = put (put fr oj.dst u) oi.dst v := fun u v => put_comm fr v u a2
    rw [hwi] at h1
    cases bi with
    | false =>
      simp only [Option.some.injEq, Prod.mk.injEq] at h1
      obtain ⟨rfl, rfl⟩ := h1
      rw [wj] at h2
      cases hwj : wanted oj ops fr with
      | none => simp [hwj] at h2
      | some bj =>
        rw [hwj] at h2
        cases bj with
        | false =>
          simp only [Option.some.injEq, Prod.mk.injEq] at h2
          obtain ⟨rfl, rfl⟩ := h2
          exact ⟨_, _, rfl, by rw [wi]; simp [pc]⟩
        | true =>
          simp only [sj] at h2
          cases hs : stepOp T E run true fr oj st with
          | none => simp [hs] at h2
          | some x =>
            obtain ⟨v, s⟩ := x
            simp only [hs, Option.some.injEq, Prod.mk.injEq] at h2
            obtain ⟨rfl, rfl⟩ := h2
            exact ⟨_, _, rfl, by rw [wi]; simp [pc]⟩
    | true =>
      simp only at h1
      cases hsi : stepOp T E run true fr oi st with
      | none => simp [hsi] at h1
      | some x =>
        obtain ⟨vi, s1⟩ := x
        simp only [hsi, Option.some.injEq, Prod.mk.injEq] at h1
        obtain ⟨rfl, rfl⟩ := h1
        rw [wj] at h2
        cases hwj : wanted oj ops fr with
        | none => simp [hwj] at h2
        | some bj =>
          rw [hwj] at h2
          cases bj with
          | false =>
            simp only [Option.some.injEq, Prod.mk.injEq] at h2
            obtain ⟨rfl, rfl⟩ := h2
            exact ⟨_, _, rfl, by rw [wi]; simp [si, hsi, pc]⟩
          | true =>
            simp only [sj] at h2
            cases hs : stepOp T E run true fr oj s1 with
            | none => simp [hs] at h2
            | some x =>
              obtain ⟨v, s⟩ := x
              simp only [hs, Option.some.injEq, Prod.mk.injEq] at h2
              obtain ⟨rfl, rfl⟩ := h2
              simp only [commC, Bool.or_eq_true, Bool.and_eq_true, decide_eq_true_eq] at hc
              rcases hc with ((hc | hc) | ⟨hc1, hc2⟩) | ⟨hc1, hc2⟩
              · have e := step_p (T := T) (run := run) (fr := fr) hc
                rw [e] at hsi
                simp only [Option.map_eq_some_iff, Prod.mk.injEq] at hsi
                obtain ⟨u, hu, rfl, rfl⟩ := hsi
                refine ⟨_, _, by rw [hs], ?_⟩
                rw [wi]
                simp [si, e, hu, pc]
              · have e := step_p (T := T) (run := run) (fr := fr) hc
                rw [e] at hs
                simp only [Option.map_eq_some_iff, Prod.mk.injEq] at hs
                obtain ⟨u, hu, rfl, rfl⟩ := hs
                refine ⟨_, _, by rw [e, hu]; rfl, ?_⟩
                rw [wi]
                simp [si, hsi, pc]
              · have e1 := step_still hp hsi hc1
                subst e1
                have e2 := step_still hp hs hc2
                subst e2
                refine ⟨_, _, by rw [hs], ?_⟩
                rw [wi]
                simp [si, hsi, pc]
              · have e1 := step_r (T := T) (run := run) (fr := fr) hc1
                have e2 := step_a (T := T) (run := run) (fr := fr) hc2
                rw [e1] at hsi
                simp only [Option.map_eq_some_iff, Prod.mk.injEq] at hsi
                obtain ⟨u, hu, rfl, rfl⟩ := hsi
                rw [e2] at hs
                simp only [Option.map_eq_some_iff, Prod.mk.injEq] at hs
                obtain ⟨⟨ob, mk⟩, hal, rfl, rfl⟩ := hs
                refine ⟨_, _, by rw [e2, hal]; rfl, ?_⟩
                rw [wi]
                simp [si, e1, readOp_mono ob hu, pc]

/-- slots of reads that are done again -/
def Kept (ops : Array Oper) (u v : Nat) : Prop := ∀ ou ov, ops[u]? = some ou → ops[v]? = some ov → (∀ e, ov.dst = some e → e ∉ ou.looksAt ops) ∧ (u ≠ v → ∀ e, ov.dst = some e → ou.dst ≠ some e)

theorem getD_put_ne {fr : List AV} {d : Option Tmp} {v : AV} {e : Nat} (h : d ≠ some e) : (put fr d v).getD e .undef = fr.getD e .undef := by
  cases d with
  | none => rfl
  | some d =>
    have : d ≠ e := fun he => h (by rw [he])
    simp [put, List.getD, List.getElem?_set_ne this]

theorem reread_put {ops : Array Oper} {fr : List AV} {objs : List Obj} {u v : Nat} {ov : Oper} (hv : ops[v]? = some ov) (hk : Kept ops u v) (hne : u ≠ v) (x : AV) : reread T ops (put fr ov.dst x) objs u = reread T ops fr objs u := by
  unfold reread
  cases hu : ops[u]? with
  | none => rfl
  | some ou =>
    obtain ⟨h1, h2⟩ := hk ou ov hu hv
    simp only []
    rw [wanted_looks h1, readOp_congr objs ou.op (eval_looks h1)]
    cases hd : ou.dst with
    | none => rfl
    | some d =>
      have : ov.dst ≠ some d := fun he => h2 hne d he hd
      simp only [getD_put_ne this]

/-- what one operation does to a frame -/
theorem opAt_put {ops : Array Oper} {draw : Bool} {i : Nat} {o : Oper} {fr fr' : List AV} {st st' : St} (hi : ops[i]? = some o) (h : opAt T E run draw ops i fr st = some (fr', st')) : ∃ v, fr' = put fr o.dst v := by
  unfold opAt at h
  simp only [hi] at h
  split at h
  · cases h
  · simp only [Option.some.injEq, Prod.mk.injEq] at h; exact ⟨_, h.1.symm⟩
  · split at h
    · simp only [Option.some.injEq, Prod.mk.injEq] at h; exact ⟨_, h.1.symm⟩
    · cases h

theorem opAt_still (hp : PureRuns E run) {ops : Array Oper} {i : Nat} {o : Oper} {fr fr' : List AV} {st st' : St} (hi : ops[i]? = some o) (h : opAt T E run true ops i fr st = some (fr', st')) (hc : (cls E o.op).still = true) : st' = st := by
  unfold opAt at h
  simp only [hi] at h
  split at h
  · cases h
  · simp only [Option.some.injEq, Prod.mk.injEq] at h; exact h.2.symm
  · split at h
    · rename_i hs
      simp only [Option.some.injEq, Prod.mk.injEq] at h
      have := step_still hp hs hc
      rw [← h.2]; exact this
    · cases h

/-- a read, and what is not ordered with it, where it would be read again -/
theorem opAt_commR {ops : Array Oper} {i j : Nat} {oi oj : Oper} (hi : ops[i]? = some oi) (hj : ops[j]? = some oj) (hap : oi.apart ops oj = true) (hc : cls E oi.op = .r) (hself : ∀ e, oi.dst = some e → e ∉ oi.looksAt ops)
    {fr fr1 fr2 : List AV} {st st1 st2 : St} (h1 : opAt T E run true ops i fr st = some (fr1, st1)) (h2 : opAt T E run true ops j fr1 st1 = some (fr2, st2)) (hr : reread T ops fr2 st2.objs i = true) :
    ∃ fr' st', opAt T E run true ops j fr st = some (fr', st') ∧ opAt T E run true ops i fr' st' = some (fr2, st2) := by
  obtain ⟨a1, a2, a3⟩ := Oper.apart_spec hap
  have step : ∀ x, fr1 = put fr oi.dst x → st1 = st → ∃ y, fr2 = put fr1 oj.dst y ∧ opAt T E run true ops j fr st = some (put fr oj.dst y, st2) := by
    rintro x rfl rfl
    unfold opAt at h2 ⊢
    simp only [hj] at h2 ⊢
    rw [wanted_looks a1] at h2
    split at h2
    · cases h2
    · simp only [Option.some.injEq, Prod.mk.injEq] at h2
      exact ⟨_, h2.1.symm, by rw [h2.2]⟩
    · rw [stepOp_congr (eval_looks a1)] at h2
      split at h2
      · simp only [Option.some.injEq, Prod.mk.injEq] at h2
        exact ⟨_, h2.1.symm, by rw [h2.2]⟩
      · cases h2
  have hw2 : ∀ x y, wanted oi ops (put (put fr oi.dst x) oj.dst y) = wanted oi ops fr := fun x y => by rw [wanted_looks a3, wanted_looks hself]
  have hw3 : ∀ y, wanted oi ops (put fr oj.dst y) = wanted oi ops fr := fun y => wanted_looks a3
  unfold opAt at h1
  simp only [hi] at h1
  cases hw : wanted oi ops fr with
  | none => simp [hw] at h1
  | some b =>
    rw [hw] at h1
    cases b with
    | false =>
      simp only [Option.some.injEq, Prod.mk.injEq] at h1
      obtain ⟨y, e1, e2⟩ := step _ h1.1.symm h1.2.symm
      refine ⟨_, _, e2, ?_⟩
      unfold opAt
      simp only [hi, hw3, hw]
      rw [e1, ← h1.1, put_comm fr _ _ a2]
    | true =>
      simp only [step_r hc] at h1
      cases hrd : readOp T (eval fr) st.objs oi.op with
      | none => simp [hrd] at h1
      | some x =>
        simp only [hrd, Option.map_some, Option.some.injEq, Prod.mk.injEq] at h1
        obtain ⟨y, e1, e2⟩ := step _ h1.1.symm h1.2.symm
        refine ⟨_, _, e2, ?_⟩
        unfold reread at hr
        simp only [hi] at hr
        rw [e1, ← h1.1, hw2, hw] at hr
        simp only at hr
        have ce : readOp T (eval (put (put fr oi.dst x) oj.dst y)) st2.objs oi.op = readOp T (eval fr) st2.objs oi.op := by
          rw [readOp_congr st2.objs oi.op (eval_looks a3), readOp_congr st2.objs oi.op (eval_looks hself)]
        rw [ce] at hr
        unfold opAt
        simp only [hi, hw3, hw, step_r hc]
        rw [readOp_congr st2.objs oi.op (eval_looks a3)]
        cases hz : readOp T (eval fr) st2.objs oi.op with
        | none => simp [hz] at hr
        | some z =>
          simp only [hz] at hr
          simp only [Option.map_some]
          rw [e1, ← h1.1]
          cases hd : oi.dst with
          | none =>
            rw [hd] at a2
            rfl
          | some d =>
            simp only [hd] at hr
            have hzz := beq_eq _ _ hr
            have hne : oj.dst ≠ some d := a2 d hd
            rw [getD_put_ne hne] at hzz
            have pc := put_comm fr (x := some d) (y := oj.dst) x y (fun e he => by cases he; exact hne)
            rw [pc]
            by_cases hlt : d < fr.length
            · have : z = x := by rw [hzz]; simp [put, List.getD, hlt]
              rw [this]
            · have hl : ∀ q, put (put fr oj.dst y) (some d) q = put fr oj.dst y := fun q => by
                have : (put fr oj.dst y).length = fr.length := by cases oj.dst <;> simp [put]
                show (put fr oj.dst y).set d q = _
                rw [List.set_eq_of_length_le (by rw [this]; exact Nat.le_of_not_lt hlt)]
              rw [hl, hl]

/-- what may be done before all others that are there is done first -/
theorem hoist (hp : PureRuns E run) {ops : Array Oper} {rc : List (Nat × List Nat)} {j : Nat} {oj : Oper} (hj : ops[j]? = some oj) : ∀ (pre left post : List Nat) (fr : List AV) (st : St) (F : List AV × St),
    (∀ i ∈ pre, ∃ oi, ops[i]? = some oi ∧ oi.apart ops oj = true ∧ (commC (cls E oi.op) (cls E oj.op) = true ∨ (cls E oi.op = .r ∧ i ∈ rcOf rc j ∧ ∀ e, oi.dst = some e → e ∉ oi.looksAt ops)) ∧ ∀ u ∈ rcOf rc i, Kept ops u j ∧ u ≠ j ∧ cls E oj.op = .p) → (∀ u ∈ rcOf rc j, cls E oj.op = .w) →
    (∀ u ∈ left, u ∈ rcOf rc j → ∀ i ∈ pre, Kept ops u i ∧ u ≠ i) → pre.Pairwise (fun u i => u ∈ rcOf rc j → Kept ops u i ∧ u ≠ i) → runD T E run ops rc (pre ++ j :: post) fr st = some F →
    ∃ fr' st', opAt T E run true ops j fr st = some (fr', st') ∧ runD T E run ops rc (pre ++ post) fr' st' = some F ∧ ∀ u ∈ left, u ∈ rcOf rc j → reread T ops fr' st'.objs u = true
  | [], left, post, fr, st, F, _, _, _, _, h => by
    simp only [List.nil_append, runD] at h ⊢
    split at h <;> try cases h
    rename_i fr' st' h1
    split at h <;> try cases h
    rename_i hc
    exact ⟨fr', st', h1, h, fun u _ hu => by rw [List.all_eq_true] at hc; exact hc u hu⟩
  | i :: pre, left, post, fr, st, F, hall, hjw, hleft, hpw, h => by
    simp only [List.cons_append, runD] at h ⊢
    split at h
    · rename_i fr1 st1 h1
      split at h <;> try cases h
      rename_i hck
      rw [List.all_eq_true] at hck
      rw [List.pairwise_cons] at hpw
      obtain ⟨fr2, st2, h2, h3, h4⟩ := hoist hp hj pre (i :: left) post fr1 st1 F (fun i hi => hall i (by simp [hi])) hjw (fun u hu hur k hk => by
        rcases List.mem_cons.1 hu with rfl | hu
        · exact hpw.1 k hk hur
        · exact hleft u hu hur k (by simp [hk])) hpw.2 h
      obtain ⟨oi, hi, hap, hc, hrc⟩ := hall i (by simp)
      have hsw : ∃ fr' st', opAt T E run true ops j fr st = some (fr', st') ∧ opAt T E run true ops i fr' st' = some (fr2, st2) := by
        rcases hc with hc | ⟨hc, hir, hself⟩
        · exact opAt_comm hp hi hj hap hc h1 h2
        · exact opAt_commR hi hj hap hc hself h1 h2 (h4 i (by simp) hir)
      obtain ⟨fr', st', k1, k2⟩ := hsw
      refine ⟨fr', st', k1, ?_, ?_⟩
      · simp only [k2]
        rw [if_pos]
        · exact h3
        · rw [List.all_eq_true]
          intro u hu
          obtain ⟨y, rfl⟩ := opAt_put hj h2
          obtain ⟨q1, q2, q3⟩ := hrc u hu
          have hst := opAt_still hp hj h2 (by rw [q3]; rfl)
          rw [reread_put hj q1 q2, hst]
          exact hck u hu
      · intro u hu hur
        obtain ⟨x, rfl⟩ := opAt_put hi k2
        have := h4 u (by simp [hu]) hur
        obtain ⟨q1, q2⟩ := hleft u hu hur i (by simp)
        have hst := opAt_still hp hi k2 (by
          have hw := hjw u hur
          rcases hc with hc | ⟨hc, _, _⟩
          · rw [hw] at hc
            cases hci : cls E oi.op <;> simp [commC, hci, Cls.still] at hc ⊢
          · rw [hc]; rfl)
        rw [reread_put hi q1 q2, hst] at this
        exact this
    · cases h


/-- what an operation will see is seen already -/
theorem peek {ops : Array Oper} {rc : List (Nat × List Nat)} {j : Nat} {oj : Oper} (hj : ops[j]? = some oj) : ∀ (pre : List Nat) (post : List Nat) (fr : List AV) (st : St) (F : List AV × St),
    (∀ i ∈ pre, ∃ oi, ops[i]? = some oi ∧ oi.apart ops oj = true) → runD T E run ops rc (pre ++ j :: post) fr st = some F →
    ∃ fr1 st1 fr2 st2, opAt T E run true ops j fr1 st1 = some (fr2, st2) ∧ wanted oj ops fr1 = wanted oj ops fr ∧ ∀ x ∈ oj.op.operands, eval fr1 x = eval fr x
  | [], post, fr, st, F, _, h => by
    simp only [List.nil_append, runD] at h
    split at h
    · rename_i fr' st' h1
      exact ⟨fr, st, fr', st', h1, rfl, fun _ _ => rfl⟩
    · cases h
  | i :: pre, post, fr, st, F, hall, h => by
    simp only [List.cons_append, runD] at h
    split at h
    · rename_i fr1 st1 h1
      split at h <;> try cases h
      obtain ⟨fra, sta, frb, stb, k1, k2, k3⟩ := peek hj pre post fr1 st1 F (fun i hi => hall i (by simp [hi])) h
      obtain ⟨oi, hi, hap⟩ := hall i (by simp)
      obtain ⟨a1, a2, a3⟩ := Oper.apart_spec hap
      obtain ⟨v, rfl⟩ := opAt_put hi h1
      refine ⟨fra, sta, frb, stb, k1, ?_, fun x hx => ?_⟩
      · rw [k2, wanted_looks a1]
      · rw [k3 x hx, eval_looks a1 x hx]
    · cases h

end
end Go.Proofs.YtgkalmmlgkaabaaGreat.Am

namespace Go.Proofs.YtgkalmmlgkaabaaGreat.Am

def deps (o : Oper) : List Nat := (o.after.toList.filter (Region.binds .any)).map (·.on)

inductive Anc (ops : Array Oper) : Nat → Nat → Prop
  | one {i d : Nat} {o : Oper} (h : ops[i]? = some o) (hd : d ∈ deps o) : Anc ops i d
  | more {i d j : Nat} {o : Oper} (h : ops[i]? = some o) (hd : d ∈ deps o) (hj : Anc ops d j) : Anc ops i j

theorem Anc.trans {ops : Array Oper} {i j k : Nat} (h : Anc ops i j) (h' : Anc ops j k) : Anc ops i k := by
  induction h with
  | one h hd => exact .more h hd h'
  | more h hd _ ih => exact .more h hd (ih h')

structure R4 where
  i : Nat
  o : Oper
  c : Cls
  m : Nat

def lookR (l : List R4) (i : Nat) : Nat :=
  match l with
  | [] => 0
  | r :: l => if r.i = i then r.m else lookR l i

def maskR (acc : List R4) : List Nat → Nat
  | [] => 0
  | d :: l => (maskR acc l ||| 2 ^ d) ||| lookR acc d

/-- the records of an order; none: a number is none of an operation's -/
def recs (E : PE) (ops : Array Oper) : List Nat → List R4 → Option (List R4)
  | [], acc => some acc.reverse
  | i :: l, acc => match ops[i]? with
    | some o => recs E ops l (⟨i, o, cls E o.op, maskR acc (deps o)⟩ :: acc)
    | none => none

def dstNe (x y : Oper) : Bool := match x.dst, y.dst with
  | some d, some e => !(Nat.beq d e)
  | _, _ => true

def commX (u c : Cls) : Bool := commC u c || c == .a

/-- what is read again -/
def anyRc (rc : List (Nat × List Nat)) (u : Nat) : Bool := rc.any fun p => p.2.contains u

def keptB (ops : Array Oper) (u v : Oper) : Bool := match v.dst with
  | some e => !((u.looksAt ops).contains e) && (match u.dst with
    | some d => !(Nat.beq e d)
    | none => true)
  | none => true

def pairOk (ops : Array Oper) (rc : List (Nat × List Nat)) (u r : R4) : Bool :=
  !((deps u.o).contains r.i) && !(Nat.beq u.i r.i) && ((u.c != .a && r.c != .a) || dstNe u.o r.o) && (r.m.testBit u.i || (u.o.apart ops r.o && (commX u.c r.c || (u.c == .r && (rcOf rc r.i).contains u.i)))) && !((rcOf rc u.i).contains r.i) && (!(anyRc rc u.i) || keptB ops u.o r.o)

/-- of one alone -/
def selfOk (ops : Array Oper) (rc : List (Nat × List Nat)) (r : R4) : Bool :=
  ((rcOf rc r.i).isEmpty || r.c == .w) && (rcOf rc r.i).all (fun u => Nat.blt u ops.size && !(Nat.beq u r.i)) && (!(anyRc rc r.i) || (match r.o.dst with
    | some e => !((r.o.looksAt ops).contains e)
    | none => true))

def pairsOk (ops : Array Oper) (rc : List (Nat × List Nat)) : List R4 → Bool
  | [] => true
  | u :: l => l.all (fun r => pairOk ops rc u r) && pairsOk ops rc l

/-- l: in order; what is before an allocation that r has among its ancestors is one of them, or pure -/
def earlyOk (r : R4) : List R4 → Bool
  | [] => true
  | v :: l => ((r.m.testBit v.i || v.c == .p || v.c == .r) || l.all (fun u => !(u.c == .a && r.m.testBit u.i))) && earlyOk r l

def ordOk (E : PE) (ops : Array Oper) (rc : List (Nat × List Nat)) (l : List Nat) : Bool :=
  match recs E ops l [] with
  | none => false
  | some rs => pairsOk ops rc rs && rs.all (selfOk ops rc) && rs.all (fun r => (deps r.o).all (fun d => Nat.blt d ops.size && !(Nat.beq d r.i))) && rs.all (fun r => earlyOk r rs) && (List.range ops.size).all (fun i => l.contains i)

def Bef (l : List Nat) (v u : Nat) : Prop := [v, u].Sublist l

structure Spec (E : PE) (ops : Array Oper) (rc : List (Nat × List Nat)) (l : List Nat) (A : Nat → Nat → Prop) : Prop where
  all : ∀ i, i < ops.size → i ∈ l
  dom : ∀ i, i ∈ l → ∃ o, ops[i]? = some o
  nodup : l.Nodup
  dep : ∀ i o d, i ∈ l → ops[i]? = some o → d ∈ deps o → d < ops.size ∧ d ≠ i
  pw : ∀ u i ou oi, Bef l u i → ops[u]? = some ou → ops[i]? = some oi → i ∉ deps ou ∧ ((cls E ou.op = .a ∨ cls E oi.op = .a) → dstNe ou oi = true) ∧ (A i u ∨ (ou.apart ops oi = true ∧ (commX (cls E ou.op) (cls E oi.op) = true ∨ (cls E ou.op = .r ∧ u ∈ rcOf rc i))))
  rcw : ∀ i o, i ∈ l → ops[i]? = some o → rcOf rc i ≠ [] → cls E o.op = .w
  rcb : ∀ i u, i ∈ l → u ∈ rcOf rc i → Bef l u i
  kept : ∀ i u v, u ∈ rcOf rc i → Bef l u v → Kept ops u v ∧ u ≠ v
  self : ∀ i u o, u ∈ rcOf rc i → u ∈ l → ops[u]? = some o → ∀ e, o.dst = some e → e ∉ o.looksAt ops
  early : ∀ i v u ov ou, i ∈ l → Bef l v u → ops[v]? = some ov → ops[u]? = some ou → A i u → cls E ou.op = .a → A i v ∨ cls E ov.op = .p ∨ cls E ov.op = .r
  sound : ∀ i u, A i u → Anc ops i u

section
variable {E : PE} {ops : Array Oper} {rc : List (Nat × List Nat)}

/-- what is so of a record -/
def R4.ok (E : PE) (ops : Array Oper) (r : R4) : Prop := ops[r.i]? = some r.o ∧ r.c = cls E r.o.op ∧ ∀ u, r.m.testBit u = true → Anc ops r.i u

theorem lookR_ok {acc : List R4} (h : ∀ r ∈ acc, r.ok E ops) {d u : Nat} (hu : (lookR acc d).testBit u = true) : Anc ops d u := by
  induction acc with
  | nil => simp [lookR] at hu
  | cons r l ih =>
    unfold lookR at hu
    split at hu
    · rename_i hr; subst hr; exact (h r (by simp)).2.2 u hu
    · exact ih (fun r hr => h r (by simp [hr])) hu

theorem maskR_ok {acc : List R4} (h : ∀ r ∈ acc, r.ok E ops) {i : Nat} {o : Oper} (ho : ops[i]? = some o) : ∀ (l : List Nat), (∀ d ∈ l, d ∈ deps o) → ∀ u, (maskR acc l).testBit u = true → Anc ops i u
  | [], _, u, hu => by simp [maskR] at hu
  | d :: l, hl, u, hu => by
    simp only [maskR, Nat.testBit_or, Bool.or_eq_true, Nat.testBit_two_pow, decide_eq_true_eq] at hu
    rcases hu with (hu | rfl) | hu
    · exact maskR_ok h ho l (fun d hd => hl d (by simp [hd])) u hu
    · exact .one ho (hl _ (by simp))
    · exact .more ho (hl _ (by simp)) (lookR_ok h hu)

theorem recs_ok : ∀ (l : List Nat) (acc rs : List R4), (∀ r ∈ acc, r.ok E ops) → recs E ops l acc = some rs → (∀ r ∈ rs, r.ok E ops) ∧ rs.map (·.i) = acc.reverse.map (·.i) ++ l
  | [], acc, rs, h, hr => by
    simp only [recs, Option.some.injEq] at hr
    subst hr
    exact ⟨fun r hr => h r (by simpa using hr), by simp⟩
  | i :: l, acc, rs, h, hr => by
    simp only [recs] at hr
    split at hr
    · rename_i o ho
      obtain ⟨h1, h2⟩ := recs_ok l _ rs (by
        intro r hr'
        rcases List.mem_cons.1 hr' with rfl | hr'
        · exact ⟨ho, rfl, maskR_ok h ho _ (fun d hd => hd)⟩
        · exact h r hr') hr
      exact ⟨h1, by rw [h2]; simp⟩
    · cases hr

theorem pairsOk_pw : ∀ (rs : List R4), pairsOk ops rc rs = true → rs.Pairwise (fun u r => pairOk ops rc u r = true)
  | [], _ => .nil
  | u :: l, h => by
    simp only [pairsOk, Bool.and_eq_true, List.all_eq_true] at h
    exact .cons (fun r hr => h.1 r hr) (pairsOk_pw l h.2)

theorem earlyOk_pw (r : R4) : ∀ (rs : List R4), earlyOk r rs = true → rs.Pairwise (fun v u => u.c = .a → r.m.testBit u.i = true → r.m.testBit v.i = true ∨ v.c = .p ∨ v.c = .r)
  | [], _ => .nil
  | v :: l, h => by
    simp only [earlyOk, Bool.and_eq_true, Bool.or_eq_true, List.all_eq_true, beq_iff_eq] at h
    refine .cons (fun u hu hc ht => ?_) (earlyOk_pw r l h.2)
    rcases h.1 with ((h1 | h1) | h1) | h1
    · exact .inl h1
    · exact .inr (.inl h1)
    · exact .inr (.inr h1)
    · have := h1 u hu
      simp [hc, ht] at this

theorem bef_recs {rs : List R4} {l : List Nat} (hm : rs.map (·.i) = l) {v u : Nat} (hb : Bef l v u) : ∃ rv ru, [rv, ru].Sublist rs ∧ rv.i = v ∧ ru.i = u := by
  subst hm
  obtain ⟨l', hs, he⟩ := List.sublist_map_iff.1 hb
  rcases l' with _ | ⟨rv, _ | ⟨ru, _ | ⟨_, _⟩⟩⟩
  · cases he
  · cases he
  · simp only [List.map_cons, List.map_nil, List.cons.injEq, and_true] at he
    exact ⟨rv, ru, hs, he.1.symm, he.2.symm⟩
  · cases he

theorem rc_any : ∀ {rc : List (Nat × List Nat)} {i u : Nat}, u ∈ rcOf rc i → anyRc rc u = true
  | [], i, u, h => by simp [rcOf] at h
  | (j, x) :: rc, i, u, h => by
    unfold rcOf at h
    simp only [anyRc, List.any_cons, Bool.or_eq_true]
    split at h
    · exact .inl (by simpa using h)
    · exact .inr (rc_any (rc := rc) h)

theorem bef_mid {p1 p2 : List Nat} {u v : Nat} (hv : v ∈ p1) : Bef (p1 ++ u :: p2) v u := by
  have : [v, u] = [v] ++ [u] := rfl
  unfold Bef
  rw [this]
  exact List.Sublist.append (List.singleton_sublist.2 hv) (List.singleton_sublist.2 (by simp))

theorem bef_mid' {p1 p2 : List Nat} {u v : Nat} (hv : v ∈ p2) : Bef (p1 ++ u :: p2) u v := by
  have : [u, v] = [u] ++ [v] := rfl
  unfold Bef
  refine List.Sublist.trans ?_ (List.sublist_append_right p1 _)
  exact List.Sublist.cons_cons _ (List.singleton_sublist.2 hv)

theorem bef_or {x : List Nat} {u v : Nat} (hu : u ∈ x) (hv : v ∈ x) (hne : u ≠ v) : Bef x u v ∨ Bef x v u := by
  obtain ⟨p1, p2, rfl⟩ := List.append_of_mem hu
  rcases List.mem_append.1 hv with h | h
  · exact .inr (bef_mid h)
  · rcases List.mem_cons.1 h with rfl | h
    · exact absurd rfl hne
    · exact .inl (bef_mid' h)

theorem bef_mem {x : List Nat} {u v : Nat} (h : Bef x u v) : u ∈ x ∧ v ∈ x := ⟨h.subset (by simp), h.subset (by simp)⟩

theorem bef_left {p q : List Nat} {i u : Nat} (hn : (p ++ i :: q).Nodup) (h : Bef (p ++ i :: q) u i) : u ∈ p := by
  rw [List.nodup_append] at hn
  obtain ⟨_, n2, n3⟩ := hn
  have hq := (List.nodup_cons.1 n2).1
  obtain ⟨l1, l2, he, h1, h2⟩ := List.sublist_append_iff.1 h
  rcases l1 with _ | ⟨a, _ | ⟨b, l1⟩⟩
  · simp only [List.nil_append] at he
    subst he
    cases h2 with
    | cons _ h2 => exact absurd (h2.subset (by simp)) hq
    | cons_cons _ h2 => exact absurd (h2.subset (by simp)) hq
  · simp only [List.cons_append, List.nil_append, List.cons.injEq] at he
    obtain ⟨rfl, _⟩ := he
    exact h1.subset (by simp)
  · simp only [List.cons_append, List.cons.injEq] at he
    obtain ⟨rfl, rfl, _⟩ := he
    exact absurd rfl (n3 i (h1.subset (by simp)) i (by simp))

theorem bef_right {p q : List Nat} {i u : Nat} (hn : (p ++ i :: q).Nodup) (h : Bef (p ++ i :: q) i u) : u ∈ q := by
  rw [List.nodup_append] at hn
  obtain ⟨_, n2, n3⟩ := hn
  have hq := (List.nodup_cons.1 n2).1
  obtain ⟨l1, l2, he, h1, h2⟩ := List.sublist_append_iff.1 h
  rcases l1 with _ | ⟨a, l1⟩
  · simp only [List.nil_append] at he
    subst he
    cases h2 with
    | cons _ h2 => exact absurd (h2.subset (by simp)) hq
    | cons_cons _ h2 => exact h2.subset (by simp)
  · simp only [List.cons_append, List.cons.injEq] at he
    obtain ⟨rfl, _⟩ := he
    exact absurd rfl (n3 i (h1.subset (by simp)) i (by simp))

theorem bef_trans {l : List Nat} (hn : l.Nodup) {u i v : Nat} (h1 : Bef l u i) (h2 : Bef l i v) : Bef l u v := by
  obtain ⟨p, q, rfl⟩ := List.append_of_mem (bef_mem h1).2
  have hu := bef_left hn h1
  have hv := bef_right hn h2
  have : [u, v] = [u] ++ [v] := rfl
  unfold Bef
  rw [this]
  exact List.Sublist.append (List.singleton_sublist.2 hu) (List.singleton_sublist.2 (by simp [hv]))

theorem kept_of {u v : Nat} {ou ov : Oper} (hu : ops[u]? = some ou) (hv : ops[v]? = some ov) (h : keptB ops ou ov = true) : Kept ops u v := by
  intro ou' ov' hu' hv'
  rw [hu] at hu'; cases hu'
  rw [hv] at hv'; cases hv'
  unfold keptB at h
  constructor
  · intro e he hm
    simp only [he, Bool.and_eq_true, Bool.not_eq_true'] at h
    have := h.1
    simp at this
    exact this hm
  · intro _ e he hd
    simp only [he, hd, Bool.and_eq_true, Bool.not_eq_true'] at h
    have := h.2
    simp at this

theorem ordOk_spec {l : List Nat} (h : ordOk E ops rc l = true) : ∃ A, Spec E ops rc l A := by
  unfold ordOk at h
  split at h
  · cases h
  · rename_i rs hrs
    obtain ⟨hok, hmap⟩ := recs_ok l [] rs (by simp) hrs
    simp only [List.reverse_nil, List.map_nil, List.nil_append] at hmap
    simp only [Bool.and_eq_true, List.all_eq_true, List.mem_range] at h
    obtain ⟨⟨⟨⟨h1, h0⟩, h2⟩, h3⟩, h4⟩ := h
    have hpw := pairsOk_pw rs h1
    have get : ∀ i ∈ l, ∃ r ∈ rs, r.i = i := fun i hi => by rw [← hmap] at hi; simpa using hi
    have same : ∀ r ∈ rs, ∀ o, ops[r.i]? = some o → r.o = o := fun r hr o ho => by have := (hok r hr).1; rw [ho] at this; simpa using this.symm
    have mem : ∀ i, i < ops.size → i ∈ l := fun i hi => by simpa using h4 i hi
    have pair : ∀ {v u : Nat}, Bef l v u → ∃ rv ru, rv ∈ rs ∧ ru ∈ rs ∧ rv.i = v ∧ ru.i = u ∧ pairOk ops rc rv ru = true := fun hb => by
      obtain ⟨ru, ri, hs, e1, e2⟩ := bef_recs hmap hb
      exact ⟨ru, ri, hs.subset (by simp), hs.subset (by simp), e1, e2, List.pairwise_iff_forall_sublist.1 hpw hs⟩
    have dom : ∀ i, i ∈ l → ∃ o, ops[i]? = some o := fun i hi => by
      obtain ⟨r, hr, rfl⟩ := get i hi
      exact ⟨r.o, (hok r hr).1⟩
    have szl : ∀ i, i ∈ l → i < ops.size := fun i hi => by
      obtain ⟨o, ho⟩ := dom i hi
      rcases Nat.lt_or_ge i ops.size with h' | h'
      · exact h'
      · rw [Array.getElem?_eq_none h'] at ho; cases ho
    have rcb : ∀ i u, i ∈ l → u ∈ rcOf rc i → Bef l u i := fun i u hi hu => by
      obtain ⟨r, hr, rfl⟩ := get i hi
      have hs := h0 r hr
      simp only [selfOk, Bool.and_eq_true, List.all_eq_true, Bool.not_eq_true', Nat.blt_eq] at hs
      obtain ⟨q1, q2⟩ := hs.1.2 u hu
      have hne : u ≠ r.i := fun e => by subst e; simp at q2
      rcases bef_or (mem u q1) hi hne with hb | hb
      · exact hb
      · obtain ⟨rv, ru, m1, m2, e1, e2, hp⟩ := pair hb
        simp only [pairOk, Bool.and_eq_true, Bool.not_eq_true'] at hp
        have hn := hp.1.2
        rw [e1, e2] at hn
        simp at hn
        exact absurd hu hn
    refine ⟨fun i u => ∃ r ∈ rs, r.i = i ∧ r.m.testBit u = true, ?_⟩
    exact {
      rcb := rcb
      rcw := fun i o hi ho hne => by
        obtain ⟨r, hr, rfl⟩ := get i hi
        have hs := h0 r hr
        simp only [selfOk, Bool.and_eq_true, Bool.or_eq_true, beq_iff_eq, List.isEmpty_iff] at hs
        have := same r hr o ho
        subst this
        rcases hs.1.1 with h' | h'
        · exact absurd h' hne
        · rw [← (hok r hr).2.1]; exact h'
      kept := fun i u v hu hb => by
        obtain ⟨rv, ru, m1, m2, rfl, rfl, hp⟩ := pair hb
        simp only [pairOk, Bool.and_eq_true, Bool.or_eq_true, Bool.not_eq_true'] at hp
        have h6 := hp.2
        rw [rc_any hu] at h6
        simp at h6
        refine ⟨kept_of (hok _ m1).1 (hok _ m2).1 h6, fun e => ?_⟩
        have := hp.1.1.1.1.2
        rw [e] at this
        simp at this
      self := fun i u o hu hul ho e he => by
        obtain ⟨r, hr, rfl⟩ := get u hul
        have := same r hr o ho
        subst this
        have hs := h0 r hr
        simp only [selfOk, Bool.and_eq_true, Bool.or_eq_true, Bool.not_eq_true'] at hs
        have h6 := hs.2
        rw [rc_any hu, he] at h6
        simp at h6
        exact h6
      all := fun i hi => by simpa using h4 i hi
      dom := fun i hi => by
        obtain ⟨r, hr, rfl⟩ := get i hi
        exact ⟨r.o, (hok r hr).1⟩
      nodup := by
        rw [← hmap, List.Nodup, List.pairwise_map]
        refine hpw.imp ?_
        intro u r hp he
        simp [pairOk, he] at hp
      dep := fun i o d hi ho hd => by
        obtain ⟨r, hr, rfl⟩ := get i hi
        have := same r hr o ho
        subst this
        have := h2 r hr d hd
        simp only [Bool.not_eq_true', Nat.blt_eq] at this
        exact ⟨this.1, fun e => by subst e; have := this.2; simp at this⟩
      pw := fun u i ou oi hb hu hi => by
        obtain ⟨ru, ri, hs, rfl, rfl⟩ := bef_recs hmap hb
        have hp := List.pairwise_iff_forall_sublist.1 hpw hs
        have m1 : ru ∈ rs := hs.subset (by simp)
        have m2 : ri ∈ rs := hs.subset (by simp)
        have e1 := same _ m1 _ hu
        have e2 := same _ m2 _ hi
        subst e1; subst e2
        simp only [pairOk, (hok _ m1).2.1, (hok _ m2).2.1, Bool.and_eq_true, Bool.or_eq_true] at hp
        obtain ⟨⟨⟨⟨⟨p1, _⟩, p3⟩, p4⟩, _⟩, _⟩ := hp
        refine ⟨by simpa using p1, fun hc => ?_, ?_⟩
        · rcases p3 with p3 | p3
          · simp at p3
            rcases hc with hc | hc
            · exact absurd hc p3.1
            · exact absurd hc p3.2
          · exact p3
        · rcases p4 with p4 | p4
          · exact .inl ⟨ri, m2, rfl, p4⟩
          · exact .inr ⟨p4.1, p4.2.imp id (fun q => by simpa using q)⟩
      early := fun i v u ov ou hi hb hv hu hA hc => by
        obtain ⟨r, hr, rfl, ht⟩ := hA
        obtain ⟨rv, ru, hs, rfl, rfl⟩ := bef_recs hmap hb
        have hp := List.pairwise_iff_forall_sublist.1 (earlyOk_pw r rs (h3 r hr)) hs
        have m1 : rv ∈ rs := hs.subset (by simp)
        have m2 : ru ∈ rs := hs.subset (by simp)
        have e1 := same _ m1 _ hv
        have e2 := same _ m2 _ hu
        subst e1; subst e2
        have := hp (by rw [(hok _ m2).2.1]; exact hc) ht
        rw [(hok _ m1).2.1] at this
        exact this.imp (fun t => ⟨r, hr, rfl, t⟩) id
      sound := fun i u hA => by
        obtain ⟨r, hr, rfl, ht⟩ := hA
        exact (hok r hr).2.2 u ht }

end
end Go.Proofs.YtgkalmmlgkaabaaGreat.Am

namespace Go.Proofs.YtgkalmmlgkaabaaGreat.Am

section
variable {P : Program} {T : TE} {E : PE} {run : Runs} {M0 : Mem} {G0 : List GE} {w0 : World} {fl : Nat} {ops : Array Oper} {rc : List (Nat × List Nat)} {l : List Nat} {A : Nat → Nat → Prop} {F : List AV × St}

/-- an allocation that was made ahead -/
def PendOk (T : TE) (ops : Array Oper) (w0 : World) (M : Mem) (G : List GE) (w : World) (fr : List AV) (tmps : Array Value) (i : Nat) : Option Nat → Prop
  | none => ∃ o, ops[i]? = some o ∧ wanted o ops fr = some false ∧ ∀ d, o.dst = some d → d < tmps.size → tmps[d]? = some Go.undef
  | some b => ∃ o, ops[i]? = some o ∧ wanted o ops fr = some true ∧ ∃ (ob : Obj) (mk : Nat → AV) (gob : Go.Obj) (xf : Nat → Value) (ef : Nat → GE), allocOp T (eval fr) o.op = some (ob, mk) ∧ w.heap[b]? = some gob ∧ w0.heap.size ≤ b ∧ (ef b).blk = b ∧ (∀ x, M b x = none) ∧ (∀ (r : Nat) (e : GE), G[r]? = some e → e.blk ≠ b) ∧
      (∀ {M' : Mem} {G' : List GE} {w' : World}, MLe M M' → GLe G G' → w'.heap[b]? = some gob → ObjRel M' (G' ++ [ef b]) w' ob (ef b) ∧ RelV M' (G' ++ [ef b]) (mk G'.length) (xf b)) ∧
      ∀ d, o.dst = some d → d < tmps.size → tmps[d]? = some (xf b)

structure Dyn (T : TE) (E : PE) (run : Runs) (M0 : Mem) (G0 : List GE) (w0 : World) (fl : Nat) (ops : Array Oper) (rc : List (Nat × List Nat)) (l : List Nat) (A : Nat → Nat → Prop) (F : List AV × St)
    (rem Es : List Nat) (blk : Nat → Option Nat) (fr : List AV) (st : St) (M : Mem) (G : List GE) (listed : Array Bool) (a : Act) (w : World) : Prop where
  run : runD T E run ops rc rem fr st = some F
  sub : rem.Sublist l
  es : ∀ i ∈ Es, i ∈ rem ∧ ∃ o, ops[i]? = some o ∧ cls E o.op = .a
  size : listed.size = ops.size
  lst : ∀ i, i < ops.size → (listed.getD i true = true ↔ (i ∉ rem ∨ i ∈ Es))
  closed : ∀ i o d, listed.getD i false = true → ops[i]? = some o → d ∈ deps o → listed.getD d false = true
  rel : RelF M G fr a.tmps
  defers : a.defers = []
  inv : Inv M G st.objs w
  ext : Ext fl M0 G0 w0 M G w
  floor : st.floor = fl
  und : ∀ i o d, i ∈ rem → ops[i]? = some o → cls E o.op = .a → o.dst = some d → fr.getD d .undef = .undef
  pend : ∀ i ∈ Es, PendOk T ops w0 M G w fr a.tmps i (blk i)
  dist : ∀ i j b, i ∈ Es → j ∈ Es → i ≠ j → blk i = some b → blk j ≠ some b
  noanc : ∀ j ∈ Es, ∀ u ∈ rem, ¬ A j u

theorem lt_size {i : Nat} {o : Oper} (h : ops[i]? = some o) : i < ops.size := by
  rcases Nat.lt_or_ge i ops.size with h' | h'
  · exact h'
  · rw [Array.getElem?_eq_none h'] at h; cases h

theorem getD_tf {listed : Array Bool} {i : Nat} (h : i < listed.size) : listed.getD i true = listed.getD i false := by
  simp [Array.getD, h]

/-- the slot of an allocation is no other's -/
theorem Spec.dst_ne (hS : Spec E ops rc l A) {i j : Nat} {oi oj : Oper} (hi : i ∈ l) (hj : j ∈ l) (hne : i ≠ j) (hoi : ops[i]? = some oi) (hoj : ops[j]? = some oj) (hc : cls E oi.op = .a) {d : Tmp} (hd : oi.dst = some d) : oj.dst ≠ some d := by
  intro hd'
  rcases bef_or hi hj hne with h | h
  · have := (hS.pw _ _ _ _ h hoi hoj).2.1 (.inl hc)
    simp [dstNe, hd, hd'] at this
  · have := (hS.pw _ _ _ _ h hoj hoi).2.1 (.inr hc)
    simp [dstNe, hd, hd'] at this

theorem PendOk.frame {M : Mem} {G : List GE} {w : World} {fr : List AV} {tmps : Array Value} {i : Nat} {o : Oper} (ho : ops[i]? = some o) {b : Option Nat} (h : PendOk T ops w0 M G w fr tmps i b) {d : Option Tmp} (v : AV) (hd : ∀ e, d = some e → e ∉ o.looksAt ops) :
    PendOk T ops w0 M G w (put fr d v) tmps i b := by
  cases b with
  | none =>
    obtain ⟨o', ho', hw, hu⟩ := h
    rw [ho] at ho'; cases ho'
    exact ⟨o, ho, by rw [wanted_looks hd]; exact hw, hu⟩
  | some b =>
    obtain ⟨o', ho', hw, ob, mk, gob, xf, ef, h1, h2⟩ := h
    rw [ho] at ho'; cases ho'
    exact ⟨o, ho, by rw [wanted_looks hd]; exact hw, ob, mk, gob, xf, ef, by rw [allocOp_congr o.op (eval_looks hd)]; exact h1, h2⟩

theorem PendOk.world {M M' : Mem} {G G' : List GE} {w w' : World} {fr : List AV} {tmps tmps' : Array Value} {i : Nat} {b : Option Nat} (h : PendOk T ops w0 M G w fr tmps i b) (hM : MLe M M') (hG : GLe G G')
    (hb : ∀ c, b = some c → c < w.heap.size → (∀ (r : Nat) (e : GE), G[r]? = some e → e.blk ≠ c) → (∀ x, M c x = none) → w'.heap[c]? = w.heap[c]? ∧ (∀ x, M' c x = none) ∧ (∀ (r : Nat) (e : GE), G'[r]? = some e → e.blk ≠ c))
    (ht : ∀ o d, ops[i]? = some o → o.dst = some d → tmps'[d]? = tmps[d]?) (hs : tmps'.size = tmps.size) : PendOk T ops w0 M' G' w' fr tmps' i b := by
  cases b with
  | none =>
    obtain ⟨o, ho, hw, hu⟩ := h
    exact ⟨o, ho, hw, fun d hd hlt => by rw [ht o d ho hd]; exact hu d hd (hs ▸ hlt)⟩
  | some b =>
    obtain ⟨o, ho, hw, ob, mk, gob, xf, ef, h1, h2, h3, h4, h5, h6, h7, h8⟩ := h
    have hlt : b < w.heap.size := lt_of_get' h2
    obtain ⟨k1, k2, k3⟩ := hb b rfl hlt h6 h5
    exact ⟨o, ho, hw, ob, mk, gob, xf, ef, h1, by rw [k1]; exact h2, h3, h4, k2, k3, fun a b c => h7 (hM.trans a) (hG.trans b) c, fun d hd hlt => by rw [ht o d ho hd]; exact h8 d hd (hs ▸ hlt)⟩
where
  lt_of_get' {α : Type} {x : Array α} {i : Nat} {y : α} (h : x[i]? = some y) : i < x.size := by
    rcases Nat.lt_or_ge i x.size with h' | h'
    · exact h'
    · rw [Array.getElem?_eq_none h'] at h; cases h

/-- two that are left do not look at one another's slots, if neither is the other's ancestor -/
theorem Spec.apart (hS : Spec E ops rc l A) {i j : Nat} {oi oj : Oper} (hi : i ∈ l) (hj : j ∈ l) (hne : i ≠ j) (hoi : ops[i]? = some oi) (hoj : ops[j]? = some oj) (h1 : ¬ A i j) (h2 : ¬ A j i) :
    (∀ e, oi.dst = some e → e ∉ oj.looksAt ops) := by
  rcases bef_or hi hj hne with h | h
  · rcases (hS.pw _ _ _ _ h hoi hoj).2.2 with h' | h'
    · exact absurd h' h2
    · exact (Oper.apart_spec h'.1).1
  · rcases (hS.pw _ _ _ _ h hoj hoi).2.2 with h' | h'
    · exact absurd h' h1
    · exact (Oper.apart_spec h'.1).2.2

/-- an allocation that was made ahead is taken -/
theorem Dyn.adopt (hS : Spec E ops rc l A) (hp : PureRuns E run) {p1 p2 Es : List Nat} {u : Nat} {blk : Nat → Option Nat} {fr : List AV} {st : St} {M : Mem} {G : List GE} {listed : Array Bool} {a : Act} {w : World}
    (hD : Dyn T E run M0 G0 w0 fl ops rc l A F (p1 ++ u :: p2) Es blk fr st M G listed a w) (hu : u ∈ Es)
    (hpre : ∀ v ∈ p1, ∀ ov ou, ops[v]? = some ov → ops[u]? = some ou → ov.apart ops ou = true ∧ (cls E ov.op = .p ∨ cls E ov.op = .r)) :
    ∃ fr' st' G', Dyn T E run M0 G0 w0 fl ops rc l A F (p1 ++ p2) (Es.filter (fun x => !(x == u))) blk fr' st' M G' listed a w := by
  obtain ⟨_, o, ho, hc⟩ := hD.es u hu
  have hul : u ∈ l := hD.sub.subset (by simp)
  have hrc0 : ∀ v ov, v ∈ l → ops[v]? = some ov → cls E ov.op ≠ .w → rcOf rc v = [] := fun v ov hv hov hne => by
    cases hrv : rcOf rc v with
    | nil => rfl
    | cons x y => exact absurd (hS.rcw v ov hv hov (by rw [hrv]; simp)) hne
  have hrcu : rcOf rc u = [] := hrc0 u o hul ho (by rw [hc]; simp)
  obtain ⟨fr', st', h1, h2, _⟩ := hoist (left := []) hp ho p1 p2 fr st F (fun v hv => by
    obtain ⟨ov, hov⟩ := hS.dom v (hD.sub.subset (by simp [hv]))
    obtain ⟨k1, k2⟩ := hpre v hv ov o hov ho
    refine ⟨ov, hov, k1, .inl ?_, fun x hx => ?_⟩
    · rcases k2 with k2 | k2 <;> simp [commC, k2, hc]
    · rw [hrc0 v ov (hD.sub.subset (by simp [hv])) hov (by rcases k2 with k2 | k2 <;> rw [k2] <;> simp)] at hx
      cases hx) (fun x hx => by rw [hrcu] at hx; cases hx) (by simp) (by
    rw [hrcu]
    exact List.pairwise_iff_forall_sublist.2 (fun _ h => by cases h)) hD.run
  have hnd : (p1 ++ u :: p2).Nodup := hS.nodup.sublist hD.sub
  have hun : u ∉ p1 ++ p2 := by
    intro hm
    rw [List.nodup_append] at hnd
    obtain ⟨_, k2, k3⟩ := hnd
    rcases List.mem_append.1 hm with hm | hm
    · exact k3 u hm u (by simp) rfl
    · exact (List.nodup_cons.1 k2).1 hm
  have msub : ∀ x, x ∈ p1 ++ p2 → x ∈ p1 ++ u :: p2 := fun x hx => by
    rcases List.mem_append.1 hx with h | h <;> simp [h]
  have hmem : ∀ x, x ≠ u → (x ∈ p1 ++ p2 ↔ x ∈ p1 ++ u :: p2) := fun x hx => by simp [hx]
  obtain ⟨v, rfl⟩ := opAt_put ho h1
  have hfes : ∀ i ∈ Es.filter (fun x => !(x == u)), i ∈ Es ∧ i ≠ u := fun i hi => by simpa using List.mem_filter.1 hi
  have hund : ∀ i o' d, i ∈ p1 ++ p2 → ops[i]? = some o' → cls E o'.op = .a → o'.dst = some d → (put fr o.dst v).getD d .undef = .undef := fun i o' d hi ho' hc' hd => by
    rw [getD_put_ne (hS.dst_ne (hD.sub.subset (msub i hi)) hul (fun e => hun (e ▸ hi)) ho' ho hc' hd)]
    exact hD.und i o' d (msub i hi) ho' hc' hd
  have hlook : ∀ i ∈ Es.filter (fun x => !(x == u)), ∀ oi, ops[i]? = some oi → ∀ e, o.dst = some e → e ∉ oi.looksAt ops := fun i hi oi hoi => by
    obtain ⟨hi1, hi2⟩ := hfes i hi
    exact hS.apart hul (hD.sub.subset (hD.es i hi1).1) (fun e => hi2 e.symm) ho hoi (hD.noanc u hu i (hD.es i hi1).1) (hD.noanc i hi1 u (by simp))
  have base : ∀ i, i < ops.size → (listed.getD i true = true ↔ (i ∉ p1 ++ p2 ∨ i ∈ Es.filter (fun x => !(x == u)))) := fun i hi => by
    rw [hD.lst i hi]
    by_cases hiu : i = u
    · subst hiu; simp [hu]; simpa using hun
    · rw [hmem i hiu]; simp [hiu]
  have hsub : (p1 ++ p2).Sublist l := List.Sublist.trans (List.Sublist.append (List.Sublist.refl p1) (List.sublist_cons_self u p2)) hD.sub
  have hes : ∀ i ∈ Es.filter (fun x => !(x == u)), i ∈ p1 ++ p2 ∧ ∃ o, ops[i]? = some o ∧ cls E o.op = .a := fun i hi => by
    obtain ⟨hi1, hi2⟩ := hfes i hi
    exact ⟨(hmem i hi2).2 (hD.es i hi1).1, (hD.es i hi1).2⟩
  have hdist : ∀ i j b, i ∈ Es.filter (fun x => !(x == u)) → j ∈ Es.filter (fun x => !(x == u)) → i ≠ j → blk i = some b → blk j ≠ some b := fun i j b hi hj => hD.dist i j b (hfes i hi).1 (hfes j hj).1
  have hno : ∀ j ∈ Es.filter (fun x => !(x == u)), ∀ x ∈ p1 ++ p2, ¬ A j x := fun j hj x hx => hD.noanc j (hfes j hj).1 x (msub x hx)
  have hpd := hD.pend u hu
  cases hb : blk u with
  | none =>
    rw [hb] at hpd
    obtain ⟨o', ho', hw, hud⟩ := hpd
    rw [ho] at ho'; cases ho'
    unfold opAt at h1
    simp only [ho, hw, Option.some.injEq, Prod.mk.injEq] at h1
    obtain ⟨hf, rfl⟩ := h1
    rw [← hf] at h2 hund
    refine ⟨_, _, G, ⟨h2, hsub, hes, hD.size, base, hD.closed, ?_, hD.defers, hD.inv, hD.ext, hD.floor, hund, ?_, hdist, hno⟩⟩
    · cases hd : o.dst with
      | none => exact hD.rel
      | some d =>
        have hr := hD.rel
        refine ⟨by simp [put, hr.1], fun i x y hx hy => ?_⟩
        by_cases hi : d = i
        · subst hi
          have hlt : d < a.tmps.size := PendOk.world.lt_of_get' hy
          have hlt' : d < fr.length := hr.1 ▸ hlt
          rw [hud d hd hlt] at hy
          simp [put, hlt'] at hx
          cases hy; subst hx; exact .tuple rfl (by simp)
        · simp only [put] at hx
          rw [List.getElem?_set_ne hi] at hx
          exact hr.2 i x y hx hy
    · intro i hi
      obtain ⟨_, oi, hoi, _⟩ := hes i hi
      exact (hD.pend i (hfes i hi).1).frame hoi _ (hlook i hi oi hoi)
  | some b =>
    rw [hb] at hpd
    obtain ⟨o', ho', hw, ob, mk, gob, xf, ef, q1, q2, q3, q4, q5, q6, q7, q8⟩ := hpd
    rw [ho] at ho'; cases ho'
    unfold opAt at h1
    simp only [ho, hw, stepOp, hc, q1, Option.map_some, Option.some.injEq, Prod.mk.injEq] at h1
    obtain ⟨hf, rfl⟩ := h1
    rw [← hf] at h2 hund
    obtain ⟨hor, hrv⟩ := q7 (MLe.refl M) (GLe.refl G) q2
    have hblt : b < w.heap.size := PendOk.world.lt_of_get' q2
    rw [← hD.inv.len] at hrv
    refine ⟨_, _, G ++ [ef b], ⟨h2, hsub, hes, hD.size, base, hD.closed, ?_, hD.defers, ?_, ?_, hD.floor, hund, ?_, hdist, hno⟩⟩
    · have hr := hD.rel.mono (MLe.refl M) (GLe.push G [ef b])
      cases hd : o.dst with
      | none => exact hr
      | some d =>
        refine ⟨by simp [put, hr.1], fun i x y hx hy => ?_⟩
        by_cases hi : d = i
        · subst hi
          have hlt : d < a.tmps.size := PendOk.world.lt_of_get' hy
          have hlt' : d < fr.length := hr.1 ▸ hlt
          rw [q8 d hd hlt] at hy
          simp [put, hlt'] at hx
          cases hy; subst hx; exact hrv
        · simp only [put] at hx
          rw [List.getElem?_set_ne hi] at hx
          exact hr.2 i x y hx hy
    · exact hD.inv.push hor (by rw [q4]; exact hblt) (by rw [q4]; exact q5) (by rw [q4]; exact q6)
    · have hE := hD.ext
      exact ⟨hE.os, hE.tape, hE.output, hE.size, hE.mle, fun r e he => by
        obtain ⟨e', k1, k2⟩ := hE.keep r e he
        exact ⟨e', by rw [List.getElem?_append_left (lt_of_get k1)]; exact k1, k2⟩, fun r e he => by
        rcases get_push he with he | ⟨_, rfl⟩
        · exact hE.blk r e he
        · exact .inr (by rw [q4]; exact q3), hE.other, hE.fresh⟩
    · intro i hi
      obtain ⟨hi1, hi2⟩ := hfes i hi
      obtain ⟨_, oi, hoi, _⟩ := hes i hi
      refine ((hD.pend i hi1).frame hoi _ (hlook i hi oi hoi)).world (MLe.refl M) (GLe.push G _) (fun c hcb _ hG hM => ⟨rfl, hM, fun r e he => ?_⟩) (fun _ _ _ _ => rfl) rfl
      rcases get_push he with he | ⟨_, rfl⟩
      · exact hG r e he
      · rw [q4]; intro e; subst e; exact hD.dist i u b hi1 hu hi2 hcb hb

end
end Go.Proofs.YtgkalmmlgkaabaaGreat.Am

namespace Go.Proofs.YtgkalmmlgkaabaaGreat.Am

section
variable {P : Program} {T : TE} {E : PE} {run : Runs} {M0 : Mem} {G0 : List GE} {w0 : World} {fl : Nat} {ops : Array Oper} {rc : List (Nat × List Nat)} {l : List Nat} {A : Nat → Nat → Prop} {F : List AV × St}

theorem first_split {α : Type} (Q : α → Prop) : ∀ (x : List α), (∀ u ∈ x, ¬ Q u) ∨ ∃ p1 u p2, x = p1 ++ u :: p2 ∧ Q u ∧ ∀ v ∈ p1, ¬ Q v
  | [] => .inl (by simp)
  | a :: x => by
    by_cases ha : Q a
    · exact .inr ⟨[], a, x, rfl, ha, by simp⟩
    · rcases first_split Q x with h | ⟨p1, u, p2, rfl, h1, h2⟩
      · refine .inl fun u hu => ?_
        rcases List.mem_cons.1 hu with rfl | hu
        · exact ha
        · exact h u hu
      · refine .inr ⟨a :: p1, u, p2, rfl, h1, fun v hv => ?_⟩
        rcases List.mem_cons.1 hv with rfl | hv
        · exact ha
        · exact h2 v hv

theorem filter_lt {α : Type} {p q : α → Bool} {i : α} (hq : q i = true) (hp : p i = false) : ∀ (l : List α), (∀ x ∈ l, p x = true → q x = true) → (l.filter p).length ≤ (l.filter q).length ∧ (i ∈ l → (l.filter p).length < (l.filter q).length)
  | [], _ => by simp
  | a :: l, h => by
    obtain ⟨h1, h2⟩ := filter_lt hq hp l (fun x hx => h x (by simp [hx]))
    have ha := h a (by simp)
    simp only [List.filter_cons]
    by_cases hpa : p a = true
    · rw [if_pos hpa, if_pos (ha hpa)]
      simp only [List.length_cons, List.mem_cons]
      refine ⟨by omega, fun hi => ?_⟩
      rcases hi with rfl | hi
      · rw [hp] at hpa; cases hpa
      · have := h2 hi; omega
    · rw [if_neg hpa]
      by_cases hqa : q a = true
      · rw [if_pos hqa]; simp only [List.length_cons]; exact ⟨by omega, fun _ => by omega⟩
      · rw [if_neg hqa]
        refine ⟨h1, fun hi => ?_⟩
        rcases List.mem_cons.1 hi with rfl | hi
        · exact absurd hq hqa
        · exact h2 hi

theorem anc_closed {listed : Array Bool} (hc : ∀ i o d, listed.getD i false = true → ops[i]? = some o → d ∈ deps o → listed.getD d false = true) {i j : Nat} (h : Anc ops i j) : listed.getD i false = true → listed.getD j false = true := by
  induction h with
  | one h hd => exact fun hi => hc _ _ _ hi h hd
  | more h hd _ ih => exact fun hi => ih (hc _ _ _ hi h hd)

theorem anc_listed {listed : Array Bool} (hc : ∀ i o d, listed.getD i false = true → ops[i]? = some o → d ∈ deps o → listed.getD d false = true) {i j : Nat} {oi : Oper} (hi : ops[i]? = some oi) (hr : ∀ d ∈ deps oi, listed.getD d false = true) (h : Anc ops i j) : listed.getD j false = true := by
  cases h with
  | one h hd => rw [hi] at h; cases h; exact hr _ hd
  | more h hd hj => rw [hi] at h; cases h; exact anc_closed hc hj (hr _ hd)

theorem Dyn.catchup (hS : Spec E ops rc l A) (hp : PureRuns E run) {i : Nat} {oi : Oper} (hi : ops[i]? = some oi) {blk : Nat → Option Nat} {M : Mem} {listed : Array Bool} {a : Act} {w : World} (hr : ∀ d ∈ deps oi, listed.getD d false = true) :
    ∀ (n : Nat) (rem Es : List Nat) (fr : List AV) (st : St) (G : List GE), rem.length = n → Dyn T E run M0 G0 w0 fl ops rc l A F rem Es blk fr st M G listed a w →
      ∃ rem' Es' fr' st' G', Dyn T E run M0 G0 w0 fl ops rc l A F rem' Es' blk fr' st' M G' listed a w ∧ ∀ u ∈ rem', ¬ A i u := by
  intro n
  induction n with
  | zero =>
    intro rem Es fr st G hn hD
    exact ⟨rem, Es, fr, st, G, hD, fun u hu => by rw [List.length_eq_zero_iff.1 hn] at hu; cases hu⟩
  | succ n ih =>
    intro rem Es fr st G hn hD
    rcases first_split (A i) rem with h | ⟨p1, u, p2, rfl, hu, hv⟩
    · exact ⟨rem, Es, fr, st, G, hD, h⟩
    · have hul : u ∈ l := hD.sub.subset (by simp)
      obtain ⟨ou, hou⟩ := hS.dom u hul
      have hlt := lt_size hou
      have h1 := anc_listed hD.closed hi hr (hS.sound _ _ hu)
      rw [← getD_tf (by rw [hD.size]; exact hlt)] at h1
      have hue : u ∈ Es := by
        rcases (hD.lst u hlt).1 h1 with h2 | h2
        · exact absurd (by simp) h2
        · exact h2
      have hil : i ∈ l := hS.all i (lt_size hi)
      obtain ⟨fr', st', G', hD'⟩ := hD.adopt hS hp hue (fun v hvp ov ou' hov hou' => by
        rw [hou] at hou'; cases hou'
        have hbef : Bef l v u := List.Sublist.trans (bef_mid hvp) hD.sub
        obtain ⟨_, o', ho', hca⟩ := hD.es u hue
        rw [hou] at ho'; cases ho'
        refine ⟨?_, ?_⟩
        · rcases (hS.pw _ _ _ _ hbef hov hou).2.2 with h' | h'
          · exact absurd h' (hD.noanc u hue v (by simp [hvp]))
          · exact h'.1
        · rcases hS.early i v u ov ou hil hbef hov hou hu hca with h' | h'
          · exact absurd h' (hv v hvp)
          · exact h')
      exact ih _ _ _ _ _ (by simp at hn ⊢; omega) hD'

theorem rel_und {M : Mem} {G : List GE} {fr : List AV} {a : Act} (h : RelF M G fr a.tmps) (d : Option Tmp) (hd : ∀ e, d = some e → fr.getD e .undef = .undef) (V : Value) : RelF M G fr (a.put d V).tmps := by
  cases d with
  | none => exact h
  | some d =>
    refine ⟨by simp [Act.put, h.1], fun i x y hx hy => ?_⟩
    by_cases hi : d = i
    · subst hi
      have := hd d rfl
      rw [List.getD_eq_getElem?_getD, hx] at this
      simp at this
      subst this; exact .undef
    · simp only [Act.put] at hy
      rw [Array.getElem?_setIfInBounds_ne hi] at hy
      exact h.2 i x y hx hy

theorem set_get {listed : Array Bool} {i j : Nat} (b : Bool) : (listed.setIfInBounds i true).getD j b = if i = j ∧ j < listed.size then true else listed.getD j b := by
  by_cases hj : j < listed.size
  · by_cases h : i = j
    · subst h; simp [Array.getD, hj]
    · simp [Array.getD, hj, h, Array.getElem_setIfInBounds_ne]
  · simp [Array.getD, hj]

theorem set_closed {listed : Array Bool} (hc : ∀ i o d, listed.getD i false = true → ops[i]? = some o → d ∈ deps o → listed.getD d false = true) {i : Nat} {oi : Oper} (hi : ops[i]? = some oi) (hr : ∀ d ∈ deps oi, listed.getD d false = true) :
    ∀ j o d, (listed.setIfInBounds i true).getD j false = true → ops[j]? = some o → d ∈ deps o → (listed.setIfInBounds i true).getD d false = true := by
  intro j o d hj ho hd
  rw [set_get] at hj ⊢
  have up : listed.getD d false = true → (if i = d ∧ d < listed.size then true else listed.getD d false) = true := fun h => by split <;> simp_all
  split at hj
  · rename_i h
    obtain ⟨rfl, _⟩ := h
    rw [hi] at ho; cases ho
    exact up (hr d hd)
  · exact up (hc j o d hj ho hd)

/-- an operation that is ready -/
theorem Dyn.step (hT : TEok P T) (hC : CallSound P run) (hS : Spec E ops rc l A) (hp : PureRuns E run) {i : Nat} {oi : Oper} (hi : ops[i]? = some oi) {rem Es : List Nat} {blk : Nat → Option Nat} {fr : List AV} {st : St} {M : Mem} {G : List GE} {listed : Array Bool} {a : Act} {w : World}
    (hr : ∀ d ∈ deps oi, listed.getD d false = true) (hil : listed.getD i true = false) (hD : Dyn T E run M0 G0 w0 fl ops rc l A F rem Es blk fr st M G listed a w) (hna : ∀ u ∈ rem, ¬ A i u)
    {K : Act → World → Prop} {Q : Exit → Act → World → Prop} (hK : ∀ rem' Es' blk' fr' st' M' G' a' w', Dyn T E run M0 G0 w0 fl ops rc l A F rem' Es' blk' fr' st' M' G' (listed.setIfInBounds i true) a' w' → K a' w') : wpOp P ops Q i K a w := by
  have hlt := lt_size hi
  have hir : i ∈ rem ∧ i ∉ Es := by
    have := hD.lst i hlt
    rw [hil] at this
    simp at this
    exact this
  obtain ⟨hir, hie⟩ := hir
  have hml : i ∈ l := hD.sub.subset hir
  obtain ⟨p1, p2, rfl⟩ := List.append_of_mem hir
  have hnd : (p1 ++ i :: p2).Nodup := hS.nodup.sublist hD.sub
  have hap : ∀ v ∈ p1, ∃ ov, ops[v]? = some ov ∧ ov.apart ops oi = true ∧ (commX (cls E ov.op) (cls E oi.op) = true ∨ (cls E ov.op = .r ∧ v ∈ rcOf rc i)) := fun v hv => by
    obtain ⟨ov, hov⟩ := hS.dom v (hD.sub.subset (by simp [hv]))
    have hbef : Bef l v i := List.Sublist.trans (bef_mid hv) hD.sub
    rcases (hS.pw _ _ _ _ hbef hov hi).2.2 with h' | h'
    · exact absurd h' (hna v (by simp [hv]))
    · exact ⟨ov, hov, h'⟩
  have hlst : ∀ rem' : List Nat, (∀ x, x ≠ i → (x ∈ rem' ↔ x ∈ p1 ++ i :: p2)) → ∀ Es' : List Nat, (∀ x, x ≠ i → (x ∈ Es' ↔ x ∈ Es)) → (i ∉ rem' ∨ i ∈ Es') → ∀ x, x < ops.size → ((listed.setIfInBounds i true).getD x true = true ↔ (x ∉ rem' ∨ x ∈ Es')) := by
    intro rem' h1 Es' h2 h3 x hx
    rw [set_get]
    by_cases hxi : i = x
    · subst hxi; simp [hD.size, hx, h3]
    · have hxi' : x ≠ i := fun e => hxi e.symm
      simp only [hxi, false_and, if_false]
      rw [hD.lst x hx, h1 x hxi', h2 x hxi']
  by_cases hc : cls E oi.op = .a
  · obtain ⟨fr1, st1, fr2, st2, k1, k2, k3⟩ := peek hi p1 p2 fr st F (fun v hv => by obtain ⟨ov, h1, h2, _⟩ := hap v hv; exact ⟨ov, h1, h2⟩) hD.run
    have hund : ∀ e, oi.dst = some e → fr.getD e .undef = .undef := fun e he => hD.und i oi e hir hi hc he
    have hsame : ∀ V : Value, ∀ j ∈ Es, ∀ o d, ops[j]? = some o → o.dst = some d → (a.put oi.dst V).tmps[d]? = a.tmps[d]? := by
      intro V j hj o d ho hd
      cases hdi : oi.dst with
      | none => rfl
      | some e =>
        have hne : e ≠ d := by
          intro e'; subst e'
          exact hS.dst_ne hml (hD.sub.subset (hD.es j hj).1) (fun e => hie (e ▸ hj)) hi ho hc hdi hd
        simp [Act.put, Array.getElem?_setIfInBounds_ne hne]
    have hsz : ∀ V : Value, (a.put oi.dst V).tmps.size = a.tmps.size := fun V => by cases oi.dst <;> simp [Act.put]
    have fin : ∀ (V : Value) (w' : World) (bk : Option Nat), Inv M G st.objs w' → Ext fl M0 G0 w0 M G w' → PendOk T ops w0 M G w' fr (a.put oi.dst V).tmps i bk → (∀ b, b < w.heap.size → w'.heap[b]? = w.heap[b]?) → (∀ b, bk = some b → b = w.heap.size) → K (a.put oi.dst V) w' := by
      intro V w' bk hI hE hP hold hbk
      have hblt : ∀ j ∈ Es, ∀ b, blk j = some b → b < w.heap.size := fun j hj b hb => by
        have := hD.pend j hj
        rw [hb] at this
        obtain ⟨_, _, _, _, _, _, _, _, _, h2, _⟩ := this
        exact PendOk.world.lt_of_get' h2
      refine hK (p1 ++ i :: p2) (i :: Es) (fun j => if j = i then bk else blk j) fr st M G _ w' ⟨hD.run, hD.sub, ?_, by simp [hD.size], hlst _ (fun _ _ => Iff.rfl) _ (fun x hx => by simp [hx]) (.inr (by simp)), set_closed hD.closed hi hr, rel_und hD.rel _ hund V, by rw [put_defers']; exact hD.defers, hI, hE, hD.floor, hD.und, ?_, ?_, ?_⟩
      · intro j hj
        rcases List.mem_cons.1 hj with rfl | hj
        · exact ⟨hir, oi, hi, hc⟩
        · exact hD.es j hj
      · intro j hj
        rcases List.mem_cons.1 hj with rfl | hj
        · simp only [if_true]; exact hP
        · have hji : j ≠ i := fun e => hie (e ▸ hj)
          simp only [hji, if_false]
          exact (hD.pend j hj).world (MLe.refl M) (GLe.refl G) (fun c _ hlt hG hM => ⟨hold c hlt, hM, hG⟩) (fun o d => hsame V j hj o d) (hsz V)
      · intro x y b hx hy hne hbx hby
        rcases List.mem_cons.1 hx with hx1 | hx1
        · rcases List.mem_cons.1 hy with hy1 | hy1
          · exact hne (hx1.trans hy1.symm)
          · have hji : y ≠ i := fun e => hie (e ▸ hy1)
            simp only [hx1, if_true, hji, if_false] at hbx hby
            have := hbk b hbx
            have := hblt y hy1 b hby
            omega
        · have hji : x ≠ i := fun e => hie (e ▸ hx1)
          rcases List.mem_cons.1 hy with hy1 | hy1
          · simp only [hy1, if_true, hji, if_false] at hbx hby
            have := hbk b hby
            have := hblt x hx1 b hbx
            omega
          · have hyi : y ≠ i := fun e => hie (e ▸ hy1)
            simp only [hji, hyi, if_false] at hbx hby
            exact hD.dist x y b hx1 hy1 hne hbx hby
      · intro j hj
        rcases List.mem_cons.1 hj with rfl | hj
        · exact hna
        · exact hD.noanc j hj
    unfold wpOp
    simp only [hi]
    unfold opAt at k1
    simp only [hi] at k1
    cases hw : wanted oi ops fr with
    | none => rw [k2, hw] at k1; cases k1
    | some bw =>
      rw [wanted_sim hD.rel hw]
      cases bw with
      | false =>
        simp only [Bool.false_eq_true, if_false]
        exact fin _ w none hD.inv hD.ext ⟨oi, hi, hw, fun d hd hdl => by rw [hsz] at hdl; simp [hd, Act.put, hdl]⟩ (fun _ _ => rfl) (by simp)
      | true =>
        rw [k2, hw] at k1
        simp only [stepOp, hc, allocOp_congr (T := T) oi.op k3] at k1
        cases hal : allocOp T (eval fr) oi.op with
        | none => simp [hal] at k1
        | some x =>
          obtain ⟨ob, mk⟩ := x
          obtain ⟨gob, xf, ef, hm⟩ := allocOp_makes hT (fun x => hD.rel.eval x) oi hal
          simp only [if_true]
          left
          unfold Oper.wp
          rw [hm.run w]
          refine fin (xf w.heap.size) (w.alloc gob) (some w.heap.size) (hD.inv.alloc gob) (hD.ext.trans (Ext.alloc _ _ _ _ _)) ?_ (fun b hb => push_old w gob hb) (fun b hb => by simpa using hb.symm)
          refine ⟨oi, hi, hw, ob, mk, gob, xf, ef, hal, by show (w.heap.push gob)[w.heap.size]? = _; simp, hD.ext.size, hm.blk _, ?_, ?_, fun h1 h2 h3 => hm.adopt _ h1 h2 h3, ?_⟩
          · intro x
            cases hx : M w.heap.size x with
            | none => rfl
            | some y => have := cell_lt (hD.inv.mem _ _ _ hx); omega
          · intro r e he; have := hD.inv.blt r e he; omega
          · intro d hd hdl
            rw [hsz] at hdl
            simp [hd, Act.put, hdl]
  · obtain ⟨fr', st', k1, k2, _⟩ := hoist (left := []) hp hi p1 p2 fr st F (fun v hv => by
      obtain ⟨ov, h1, h2, h3⟩ := hap v hv
      have hvl : v ∈ l := hD.sub.subset (by simp [hv])
      have hbef : Bef l v i := List.Sublist.trans (bef_mid hv) hD.sub
      have h3' : commC (cls E ov.op) (cls E oi.op) = true ∨ (cls E ov.op = .r ∧ v ∈ rcOf rc i) := by
        rcases h3 with h3 | h3
        · simp only [commX, Bool.or_eq_true, beq_iff_eq] at h3
          rcases h3 with h3 | h3
          · exact .inl h3
          · exact absurd h3 hc
        · exact .inr h3
      refine ⟨ov, h1, h2, h3'.imp id (fun q => ⟨q.1, q.2, hS.self i v ov q.2 hvl h1⟩), fun u hu => ?_⟩
      have hw := hS.rcw v ov hvl h1 (fun e => by rw [e] at hu; cases hu)
      obtain ⟨q1, q2⟩ := hS.kept v u i hu (bef_trans hS.nodup (hS.rcb v u hvl hu) hbef)
      refine ⟨q1, q2, ?_⟩
      rcases h3' with h3' | h3'
      · rw [hw] at h3'
        cases hci : cls E oi.op <;> simp [commC, hci, Cls.still] at h3' ⊢
      · rw [hw] at h3'; cases h3'.1) (fun u hu => hS.rcw i oi hml hi (fun e => by rw [e] at hu; cases hu)) (by simp) (by
      refine List.pairwise_iff_forall_sublist.2 fun {u v} hs hu => ?_
      exact hS.kept i u v hu (List.Sublist.trans hs (List.Sublist.trans (List.sublist_append_left p1 _) hD.sub))) hD.run
    obtain ⟨v, rfl⟩ := opAt_put hi k1
    have hin : i ∉ p1 ++ p2 := by
      intro hm
      rw [List.nodup_append] at hnd
      obtain ⟨_, k2, k3⟩ := hnd
      rcases List.mem_append.1 hm with hm | hm
      · exact k3 i hm i (by simp) rfl
      · exact (List.nodup_cons.1 k2).1 hm
    have msub : ∀ x, x ∈ p1 ++ p2 → x ∈ p1 ++ i :: p2 := fun x hx => by
      rcases List.mem_append.1 hx with h | h <;> simp [h]
    have hmem : ∀ x, x ≠ i → (x ∈ p1 ++ p2 ↔ x ∈ p1 ++ i :: p2) := fun x hx => by simp [hx]
    refine opAt_simP (M0 := M) (G0 := G) (w0 := w) (fl := fl) hT hC hi k1 ⟨M, G, hD.rel, hD.defers, hD.inv, Ext.refl _ _ _ _, hD.floor⟩ ?_
    rintro V w' ⟨M', G', hF, hd, hI, hE, hf⟩
    refine hK (p1 ++ p2) Es blk _ st' M' G' _ w' ⟨k2, List.Sublist.trans (List.Sublist.append (List.Sublist.refl p1) (List.sublist_cons_self i p2)) hD.sub, ?_, by simp [hD.size], hlst _ hmem _ (fun _ _ => Iff.rfl) (.inl hin), set_closed hD.closed hi hr, hF, hd, hI, hD.ext.trans hE, hf, ?_, ?_, hD.dist, ?_⟩
    · intro j hj
      exact ⟨(hmem j (fun e => hie (e ▸ hj))).2 (hD.es j hj).1, (hD.es j hj).2⟩
    · intro j o' d hj ho' hc' hd'
      rw [getD_put_ne (hS.dst_ne (hD.sub.subset (msub j hj)) hml (fun e => hin (e ▸ hj)) ho' hi hc' hd')]
      exact hD.und j o' d (msub j hj) ho' hc' hd'
    · intro j hj
      obtain ⟨hjr, oj, hoj, hcj⟩ := hD.es j hj
      have hji : j ≠ i := fun e => hie (e ▸ hj)
      have hjl := hD.sub.subset hjr
      refine ((hD.pend j hj).frame hoj v (hS.apart hml hjl (fun e => hji e.symm) hi hoj (hna j hjr) (hD.noanc j hj i hir))).world hE.mle hE.gle ?_ ?_ ?_
      · intro c _ hlt hG hM
        refine ⟨hE.other c hlt (fun r e he _ => hG r e he), fun x => ?_, fun r e he => ?_⟩
        · cases hx : M' c x with
          | none => rfl
          | some y =>
            rcases hE.fresh c x y hx with h1 | h1
            · rw [hM] at h1; cases h1
            · omega
        · rcases hE.blk r e he with ⟨e0, h1, h2⟩ | h1
          · rw [h2]; exact hG r e0 h1
          · omega
      · intro o d ho hd'
        rw [hoj] at ho; cases ho
        cases hdi : oi.dst with
        | none => rfl
        | some e =>
          have hne : e ≠ d := by
            intro e'; subst e'
            exact hS.dst_ne hjl hml hji hoj hi hcj hd' hdi
          simp [Act.put, Array.getElem?_setIfInBounds_ne hne]
      · cases oi.dst <;> simp [Act.put]
    · exact fun j hj x hx => hD.noanc j hj x (msub x hx)

/-- all has been done but what was made ahead -/
theorem Dyn.finish (hS : Spec E ops rc l A) (hp : PureRuns E run) {blk : Nat → Option Nat} {M : Mem} {listed : Array Bool} {a : Act} {w : World} :
    ∀ (rem Es : List Nat) (fr : List AV) (st : St) (G : List GE), (∀ i ∈ rem, i ∈ Es) → Dyn T E run M0 G0 w0 fl ops rc l A F rem Es blk fr st M G listed a w → Ok M0 G0 w0 fl F.1 F.2 a w
  | [], Es, fr, st, G, _, hD => by
    have := hD.run
    simp only [runD, Option.some.injEq] at this
    subst this
    exact ⟨M, G, hD.rel, hD.defers, hD.inv, hD.ext, hD.floor⟩
  | u :: rem, Es, fr, st, G, h, hD => by
    obtain ⟨fr', st', G', hD'⟩ := Dyn.adopt (p1 := []) hS hp hD (h u (by simp)) (by simp)
    refine Dyn.finish hS hp rem _ fr' st' G' (fun i hi => ?_) hD'
    have hn := hS.nodup.sublist hD.sub
    rw [List.nodup_cons] at hn
    simp only [List.mem_filter]
    exact ⟨h i (by simp [hi]), by simp; intro e; subst e; exact hn.1 hi⟩

def unl (ops : Array Oper) (listed : Array Bool) : Nat := ((List.range ops.size).filter (fun i => !listed.getD i true)).length

theorem ready_mem {listed : Array Bool} {i : Nat} : i ∈ Region.ready .any ops listed ↔ listed.getD i true = false ∧ ∃ o, ops[i]? = some o ∧ ∀ d ∈ deps o, listed.getD d false = true := by
  unfold Region.ready
  simp only [List.mem_filter, List.mem_range, Bool.and_eq_true, Bool.not_eq_true']
  constructor
  · rintro ⟨h1, h2, h3⟩
    refine ⟨h2, ?_⟩
    cases ho : ops[i]? with
    | none => simp [ho] at h3
    | some o =>
      refine ⟨o, rfl, fun d hd => ?_⟩
      simp only [ho, Option.map_some, Option.getD_some, Array.all_eq_true_iff_forall_mem] at h3
      obtain ⟨e, he, rfl⟩ := List.mem_map.1 hd
      obtain ⟨he1, he2⟩ := List.mem_filter.1 he
      have := h3 e (by simpa using he1)
      simpa [he2] using this
  · rintro ⟨h1, o, ho, h2⟩
    refine ⟨lt_size ho, h1, ?_⟩
    simp only [ho, Option.map_some, Option.getD_some, Array.all_eq_true_iff_forall_mem]
    intro e he
    by_cases hb : Region.binds .any e = true
    · simp only [hb, Bool.not_true, Bool.false_or]
      exact h2 e.on (List.mem_map.2 ⟨e, List.mem_filter.2 ⟨by simpa using he, hb⟩, rfl⟩)
    · simp [hb]

theorem Dyn.ready (hS : Spec E ops rc l A) {rem Es : List Nat} {blk : Nat → Option Nat} {fr : List AV} {st : St} {M : Mem} {G : List GE} {listed : Array Bool} {a : Act} {w : World} (hD : Dyn T E run M0 G0 w0 fl ops rc l A F rem Es blk fr st M G listed a w)
    (hr : Region.ready .any ops listed = []) : ∀ i ∈ rem, i ∈ Es := by
  rcases first_split (fun i => i ∉ Es) rem with h | ⟨p1, u, p2, rfl, hu, hv⟩
  · intro i hi; exact Classical.not_not.1 (h i hi)
  · exfalso
    have hul : u ∈ l := hD.sub.subset (by simp)
    obtain ⟨o, ho⟩ := hS.dom u hul
    have hlt := lt_size ho
    have : u ∈ Region.ready .any ops listed := by
      refine ready_mem.2 ⟨?_, o, ho, fun d hd => ?_⟩
      · have := hD.lst u hlt
        cases h : listed.getD u true with
        | false => rfl
        | true =>
          rcases this.1 h with h' | h'
          · exact absurd (by simp) h'
          · exact absurd h' hu
      · obtain ⟨hd1, hd2⟩ := hS.dep u o d hul ho hd
        rw [← getD_tf (by rw [hD.size]; exact hd1)]
        refine (hD.lst d hd1).2 ?_
        by_cases hdr : d ∈ p1 ++ u :: p2
        · rcases List.mem_append.1 hdr with h' | h'
          · exact .inr (Classical.not_not.1 (hv d h'))
          · rcases List.mem_cons.1 h' with rfl | h'
            · exact absurd rfl hd2
            · obtain ⟨od, hod⟩ := hS.dom d (hS.all d hd1)
              have hb : Bef l u d := List.Sublist.trans (bef_mid' h') hD.sub
              exact absurd hd (hS.pw u d o od hb ho hod).1
        · exact .inl hdr
    rw [hr] at this
    cases this

theorem draw_any (hT : TEok P T) (hC : CallSound P run) (hS : Spec E ops rc l A) (hp : PureRuns E run) {Q : Exit → Act → World → Prop} (hQ : ∀ a' w', Ok M0 G0 w0 fl F.1 F.2 a' w' → Q .normal a' w') :
    ∀ (fuel : Nat) (rem Es : List Nat) (blk : Nat → Option Nat) (fr : List AV) (st : St) (M : Mem) (G : List GE) (listed : Array Bool) (a : Act) (w : World), unl ops listed ≤ fuel → Dyn T E run M0 G0 w0 fl ops rc l A F rem Es blk fr st M G listed a w →
      wpAny P .any ops Q fuel listed a w := by
  intro fuel
  induction fuel with
  | zero =>
    intro rem Es blk fr st M G listed a w hu hD
    have hr : Region.ready .any ops listed = [] := by
      cases hr : Region.ready .any ops listed with
      | nil => rfl
      | cons i x =>
        have hi : i ∈ Region.ready .any ops listed := by rw [hr]; simp
        obtain ⟨h1, o, h2, _⟩ := ready_mem.1 hi
        have : i ∈ (List.range ops.size).filter (fun i => !listed.getD i true) := List.mem_filter.2 ⟨List.mem_range.2 (lt_size h2), by simp [h1]⟩
        unfold unl at hu
        rw [List.length_eq_zero_iff.1 (Nat.le_zero.1 hu)] at this
        cases this
    exact ⟨hr, hQ _ _ (Dyn.finish hS hp rem Es fr st G (hD.ready hS hr) hD)⟩
  | succ fuel ih =>
    intro rem Es blk fr st M G listed a w hu hD
    refine ⟨fun hr => hQ _ _ (Dyn.finish hS hp rem Es fr st G (hD.ready hS hr) hD), fun i hi => ?_⟩
    obtain ⟨h1, o, h2, h3⟩ := ready_mem.1 hi
    obtain ⟨rem', Es', fr', st', G', hD', hna⟩ := Dyn.catchup hS hp h2 h3 _ rem Es fr st G rfl hD
    refine hD'.step hT hC hS hp h2 h3 h1 hna (fun rem Es blk fr st M G a w hk => ih _ _ _ _ _ _ _ _ _ _ ?_ hk)
    have hlt := lt_size h2
    have hdec := (filter_lt (p := fun j => !(listed.setIfInBounds i true).getD j true) (q := fun j => !listed.getD j true) (i := i) (by simp [h1]) (by simp only [set_get]; simp [hD.size, hlt]) (List.range ops.size) (fun x _ hx => by
      simp only [set_get] at hx
      split at hx
      · cases hx
      · exact hx)).2 (List.mem_range.2 hlt)
    unfold unl at hu ⊢
    omega

/-- a region that draws: by its canonical order -/
theorem draw_sim (hT : TEok P T) (hC : CallSound P run) (hp : PureRuns E run) (hm : P.follows .mixedOrders = true) (hord : ordOk E ops rc l = true) {fr fr' : List AV} {st st' : St} (h : runD T E run ops rc l fr st = some (fr', st'))
    (hund : ∀ i o d, i ∈ l → ops[i]? = some o → cls E o.op = .a → o.dst = some d → fr.getD d .undef = .undef) {id : Nat} {a : Act} {w : World} (hok : Ok M0 G0 w0 fl fr st a w) {Q : Exit → Act → World → Prop} (hQ : ∀ a' w', Ok M0 G0 w0 fl fr' st' a' w' → Q .normal a' w') :
    (Code.region id ops true).wp P Q a w := by
  obtain ⟨A, hS⟩ := ordOk_spec hord
  obtain ⟨M, G, hF, hd, hI, hE, hfl⟩ := hok
  refine wp_region_any hm ?_
  have hrep : ∀ (b : Bool) (i : Nat), (Array.replicate ops.size false).getD i b = if i < ops.size then false else b := fun b i => by
    by_cases hi : i < ops.size <;> simp [Array.getD, hi]
  refine draw_any (F := (fr', st')) hT hC hS hp hQ ops.size l [] (fun _ => none) fr st M G _ a _ ?_ ⟨h, List.Sublist.refl l, by simp, by simp, ?_, ?_, hF, hd, hI.drew, hE.drew, hfl, hund, by simp, by simp, by simp⟩
  · unfold unl
    exact Nat.le_trans (List.length_filter_le _ _) (by simp)
  · intro i hi
    rw [hrep]
    simp [hi, hS.all i hi]
  · intro i o d hi
    rw [hrep] at hi
    split at hi <;> cases hi

end
end Go.Proofs.YtgkalmmlgkaabaaGreat.Am

namespace Go.Proofs.YtgkalmmlgkaabaaGreat.Am

def Ex.toExit : Ex → Exit
  | .normal => .normal
  | .exit id => .exit id
  | .goto l => .goto l
  | .ret => .ret

/-- the canonical orders of a code's regions are right -/
def ordsOk (E : PE) (fi : FI) : Code → Bool
  | .region id ops draw => !draw || ordOk E ops (fi.rc id) (ordOf fi id ops)
  | .seq a b => ordsOk E fi a && ordsOk E fi b
  | .cond _ a b => ordsOk E fi a && ordsOk E fi b
  | .block _ a => ordsOk E fi a
  | .loop a => ordsOk E fi a
  | .scope a => ordsOk E fi a
  | _ => true

theorem clear_getD : ∀ (l : List Nat) (fr : List AV) (d : Nat), d ∈ l ∨ fr.getD d .undef = .undef → (clear fr l).getD d .undef = .undef
  | [], fr, d, h => by simpa [clear] using h
  | e :: l, fr, d, h => by
    unfold clear
    refine clear_getD l _ d ?_
    by_cases he : e = d
    · subst he
      right
      by_cases hlt : e < fr.length <;> simp [List.getD, hlt]
    · rcases h with h | h
      · rcases List.mem_cons.1 h with h | h
        · exact absurd h.symm he
        · exact .inl h
      · right
        rw [List.getD_eq_getElem?_getD, List.getElem?_set_ne he, ← List.getD_eq_getElem?_getD]; exact h

section
variable {P : Program} {T : TE} {E : PE} {run : Runs} {M0 : Mem} {G0 : List GE} {w0 : World} {fl : Nat}

theorem Ok.clear {fr : List AV} {st : St} {a : Act} {w : World} (h : Ok M0 G0 w0 fl fr st a w) (l : List Nat) : Ok M0 G0 w0 fl (clear fr l) st a w := by
  obtain ⟨M, G, hF, h⟩ := h
  exact ⟨M, G, hF.clear l, h⟩

theorem exec_sim (hT : TEok P T) (hC : CallSound P run) (hp : PureRuns E run) (hm : P.follows .mixedOrders = true) {n : Nat} {fi : FI} :
    ∀ (c : Code) (bid : Nat) (fr : List AV) (st : St) (e : Ex) (fr' : List AV) (st' : St), ordsOk E fi c = true → exec T E run n fi c bid fr st = some (e, fr', st') →
      ∀ (a : Act) (w : World), Ok M0 G0 w0 fl fr st a w → ∀ (Q : Exit → Act → World → Prop), (∀ a' w', Ok M0 G0 w0 fl fr' st' a' w' → Q e.toExit a' w') → c.wp P Q a w := by
  intro c
  induction c with
  | skip =>
    intro bid fr st e fr' st' _ h a w hok Q hQ
    simp only [exec, Option.some.injEq, Prod.mk.injEq] at h
    obtain ⟨rfl, rfl, rfl⟩ := h
    exact wp_skip (hQ a w hok)
  | region id ops draw =>
    intro bid fr st e fr' st' ho h a w hok Q hQ
    unfold exec at h
    cases draw with
    | true =>
      simp only [if_true] at h
      split at h
      · rename_i fr1 st1 hr
        simp only [Option.some.injEq, Prod.mk.injEq] at h
        obtain ⟨rfl, rfl, rfl⟩ := h
        simp only [ordsOk, Bool.not_true, Bool.false_or] at ho
        refine draw_sim hT hC hp hm ho hr ?_ (hok.clear _) hQ
        intro i o d _ hi hc hd
        refine clear_getD _ _ _ (.inl ?_)
        unfold dstsA
        refine List.mem_filterMap.2 ⟨o, ?_, by simp [hc, hd]⟩
        have := Array.mem_of_getElem? hi
        simpa using this
      · cases h
    | false =>
      simp only [Bool.false_eq_true, if_false] at h
      split at h
      · rename_i fr1 st1 hr
        simp only [Option.some.injEq, Prod.mk.injEq] at h
        obtain ⟨rfl, rfl, rfl⟩ := h
        exact wp_region (runOps_sim hT hC _ _ _ hr a w hok hQ)
      · cases h
  | seq x y ihx ihy =>
    intro bid fr st e fr' st' ho h a w hok Q hQ
    simp only [ordsOk, Bool.and_eq_true] at ho
    unfold exec at h
    refine wp_seq ?_
    split at h
    · rename_i fr1 st1 hx
      exact ihx bid fr st _ _ _ ho.1 hx a w hok _ (fun a' w' hk => ihy bid fr1 st1 e fr' st' ho.2 h a' w' hk Q hQ)
    · rename_i hne
      refine ihx bid fr st _ _ _ ho.1 h a w hok _ (fun a' w' hk => ?_)
      cases e with
      | normal => exact absurd h (hne fr' st')
      | _ => exact hQ a' w' hk
  | cond c x y ihx ihy =>
    intro bid fr st e fr' st' ho h a w hok Q hQ
    simp only [ordsOk, Bool.and_eq_true] at ho
    unfold exec at h
    obtain ⟨M, G, hF, _⟩ := id hok
    have hr := hF.eval c
    split at h
    · rename_i hc
      rw [hc] at hr
      exact wp_cond_true (boolRel hr) (ihx bid fr st _ _ _ ho.1 h a w hok Q hQ)
    · rename_i hc
      rw [hc] at hr
      exact wp_cond_false (boolRel hr) (ihy bid fr st _ _ _ ho.2 h a w hok Q hQ)
    · cases h
  | block id c ih =>
    intro bid fr st e fr' st' ho h a w hok Q hQ
    unfold exec at h
    refine wp_block ?_
    split at h
    · rename_i id' fr1 st1 hx
      refine ih id fr st _ _ _ ho hx a w hok _ (fun a' w' hk => ?_)
      show Exit.inBlock id Q (.exit id') a' w'
      unfold Exit.inBlock
      split at h
      · rename_i hid
        simp only [Option.some.injEq, Prod.mk.injEq] at h
        obtain ⟨rfl, rfl, rfl⟩ := h
        simp only [hid, if_true]
        exact hQ a' w' hk
      · rename_i hid
        simp only [Option.some.injEq, Prod.mk.injEq] at h
        obtain ⟨rfl, rfl, rfl⟩ := h
        simp only [hid, if_false]
        exact hQ a' w' hk
    · rename_i hne
      refine ih id fr st _ _ _ ho h a w hok _ (fun a' w' hk => ?_)
      cases e with
      | exit id' => exact absurd h (hne id' fr' st')
      | _ => exact hQ a' w' hk
  | loop c ih =>
    intro bid fr st e fr' st' ho h a w hok Q hQ
    unfold exec at h
    refine wp_loop_rounds n ?_
    have key : ∀ (k : Nat) (fr : List AV) (st : St) (a : Act) (w : World), loopN (exec T E run n fi c bid) (fi.clr bid) k fr st = some (e, fr', st') → Ok M0 G0 w0 fl fr st a w → Code.rounds P c Q k a w := by
      intro k
      induction k with
      | zero => intro fr st a w h; cases h
      | succ k ihk =>
        intro fr st a w h hok
        rw [rounds_succ]
        unfold loopN at h
        split at h
        · rename_i fr1 st1 hx
          exact ih bid _ st _ _ _ ho hx a w (hok.clear _) _ (fun a' w' hk => ihk fr1 st1 a' w' h hk)
        · rename_i hne
          refine ih bid _ st _ _ _ ho h a w (hok.clear _) _ (fun a' w' hk => ?_)
          cases e with
          | normal => exact absurd h (hne fr' st')
          | _ => exact hQ a' w' hk
    exact key n fr st a w h hok
  | exit id =>
    intro bid fr st e fr' st' _ h a w hok Q hQ
    simp only [exec, Option.some.injEq, Prod.mk.injEq] at h
    obtain ⟨rfl, rfl, rfl⟩ := h
    exact wp_exit (hQ a w hok)
  | scope c ih =>
    intro bid fr st e fr' st' ho h a w hok Q hQ
    unfold exec at h
    refine wp_scope_straight ?_
    split at h
    · cases h
    · rename_i hne
      refine ih bid fr st _ _ _ ho h a w hok _ (fun a' w' hk => ?_)
      cases e with
      | goto l => exact absurd h (hne l fr' st')
      | _ => exact hQ a' w' hk
  | label l =>
    intro bid fr st e fr' st' _ h a w hok Q hQ
    simp only [exec, Option.some.injEq, Prod.mk.injEq] at h
    obtain ⟨rfl, rfl, rfl⟩ := h
    exact wp_label (hQ a w hok)
  | ret =>
    intro bid fr st e fr' st' _ h a w hok Q hQ
    simp only [exec, Option.some.injEq, Prod.mk.injEq] at h
    obtain ⟨rfl, rfl, rfl⟩ := h
    exact wp_ret (hQ a w hok)
  | _ => intro bid fr st e fr' st' _ h; cases h

end
end Go.Proofs.YtgkalmmlgkaabaaGreat.Am

namespace Go.Proofs.YtgkalmmlgkaabaaGreat.Am

structure PEok (P : Program) (E : PE) : Prop where
  mixed : P.follows .mixedOrders = true
  fn : ∀ f fi, E f = some fi → ∃ fn : Func, P.funcs[f]? = some fn ∧ fn.body = some fi.body ∧ fn.ntmps = fi.ntmps ∧ fn.results.toList = fi.results ∧ (fn.name == "runtime.NumGoroutine") = false ∧ ordsOk E fi fi.body = true

section
variable {P : Program} {T : TE} {E : PE} {R : Runs} {M : Mem} {G : List GE}

theorem results_sim (hT : TEok P T) {fr : List AV} {tmps : Array Value} (hF : RelF M G fr tmps) {objs : List Obj} {w : World} (hI : Inv M G objs w) :
    ∀ (rs : List ResultVar) (vs : List AV), resultsOf T fr objs rs = some vs → ∃ Vs : List Value, (rs.mapM (m := Sem) fun
      | .tmp t => pure (tmps.getD t undef)
      | .cell a t => do loadVar t (← asAddr (tmps.getD a undef))).run P w = .ok Vs w ∧ vs.length = Vs.length ∧ ∀ (i : Nat) (x : AV) (y : Value), vs[i]? = some x → Vs[i]? = some y → RelV M G x y
  | [], vs, h => by
    simp only [resultsOf, Option.some.injEq] at h
    subst h
    exact ⟨[], by simp, rfl, by simp⟩
  | r :: rs, vs, h => by
    simp only [resultsOf] at h
    split at h
    · rename_i v us h1 h2
      simp only [Option.some.injEq] at h
      subst h
      obtain ⟨Us, k1, k2, k3⟩ := results_sim hT hF hI rs us h2
      have : ∃ V, ((match r with
          | .tmp t => pure (tmps.getD t undef)
          | .cell a t => do loadVar t (← asAddr (tmps.getD a undef))) : Sem Value).run P w = .ok V w ∧ RelV M G v V := by
        cases r with
        | tmp t =>
          simp only [resultOf, Option.some.injEq] at h1
          subst h1
          exact ⟨_, by simp, hF.getD t⟩
        | cell a t =>
          simp only [resultOf] at h1
          obtain ⟨A, V, e1, e2, e3⟩ := load_run hT hI (hF.getD a) h1
          exact ⟨V, by simp [e1, e2, asAddr], e3⟩
      obtain ⟨V, e1, e2⟩ := this
      refine ⟨V :: Us, ?_, by simp [k2], ?_⟩
      · simp only [List.mapM_cons, Sem.run_bind, e1, Result.andThen_ok, k1, Sem.run_pure]
      · intro i x y hx hy
        cases i with
        | zero => simp at hx hy; subst hx; subst hy; exact e2
        | succ i => simp at hx hy; exact k3 i x y hx hy
    · cases h

theorem one_sim {vs : List AV} {Vs : List Value} (hl : vs.length = Vs.length) (h : ∀ (i : Nat) (x : AV) (y : Value), vs[i]? = some x → Vs[i]? = some y → RelV M G x y) :
    RelV M G (one vs) (if h : (⟨Vs⟩ : Array Value).size = 1 then (⟨Vs⟩ : Array Value)[0] else .tuple ⟨Vs⟩) := by
  match vs, Vs, hl with
  | [], [], _ => exact .tuple rfl (by simp)
  | [v], [V], _ => exact h 0 v V rfl rfl
  | v :: v' :: vs, V :: V' :: Vs, hl =>
    rw [dif_neg (by simp)]
    exact .tuple (by simpa using hl) h

theorem pure_runs (n : Nat) : PureRuns E (run T E R n) := by
  intro f args st v st' hp h
  cases n with
  | zero => cases h
  | succ n =>
    unfold run at h
    cases hf : E f with
    | none => rw [hf] at hp; cases hp
    | some fi =>
      rw [hf] at hp h
      simp only [Option.any_some] at hp
      simp only [hp, if_true, Bool.true_and] at h
      split at h
      · split at h
        · split at h
          · split at h
            · split at h
              · simp only [Option.some.injEq, Prod.mk.injEq] at h; exact h.2.symm
              · cases h
            · cases h
          · cases h
        · cases h
      · split at h
        · split at h
          · split at h
            · split at h
              · simp only [Option.some.injEq, Prod.mk.injEq] at h; exact h.2.symm
              · cases h
            · cases h
          · cases h
        · cases h

theorem solid_relN {x : AV} {y : Value} (hs : x.solid = true) (h : RelV M G x y) : RelV M [] x y := by
  cases h with
  | bool => exact .bool
  | int => exact .int
  | str => exact .str
  | nilp => exact .nilp
  | nils => exact .nils
  | nilm => exact .nilm
  | nilf => exact .nilf
  | niface => exact .niface
  | fsl hl hn hf h1 h2 h3 =>
    simp only [AV.solid] at hs
    subst hs
    exact .fsl hl hn hf h1 h2 h3
  | fsl0 => exact .fsl0
  | _ => simp [AV.solid] at hs

theorem closed_rel {x : AV} {y : Value} (hs : x.closed = true) (h : RelV M G x y) : RelV M [] x y := by
  cases h with
  | agg hl h1 h =>
    simp only [AV.closed, List.all_eq_true] at hs
    exact .agg hl h1 (fun i x y hx hy => solid_relN (hs x (List.mem_of_getElem? hx)) (h i x y hx hy))
  | bool => exact .bool
  | int => exact .int
  | str => exact .str
  | nilp => exact .nilp
  | nils => exact .nils
  | nilm => exact .nilm
  | nilf => exact .nilf
  | niface => exact .niface
  | fsl0 => exact .fsl0
  | fsl hl hn hf h1 h2 h3 => exact solid_relN (by simpa [AV.closed] using hs) (.fsl hl hn hf h1 h2 h3)
  | _ => simp [AV.closed, AV.solid] at hs

theorem Inv.none {objs : List Obj} {w : World} (hI : Inv M G objs w) : Inv M [] [] w :=
  ⟨rfl, fun r o e h => by simp at h, hI.mem, fun r s e e' h => by simp at h, fun r e o h => by simp at h, fun r e h => by simp at h⟩

/-- a call that has seen none of the objects -/
theorem frame_end {M1 : Mem} {objs : List Obj} {w w1 : World} (hI : Inv M G objs w) (hI1 : Inv M1 [] [] w1) (hE : Ext 0 M [] w M1 [] w1) (fl : Nat) : Inv M1 G objs w1 ∧ Ext fl M G w M1 G w1 := by
  have same : ∀ b, b < w.heap.size → w1.heap[b]? = w.heap[b]? := fun b hb => hE.other b hb (fun r e h => by simp at h)
  refine ⟨⟨hI.len, fun r o e ho he => (hI.obj r o e ho he).mono hE.mle (GLe.refl _) (same _ (hI.blt r e he)), hI1.mem, hI.inj, fun r e o he => ?_, fun r e he => Nat.lt_of_lt_of_le (hI.blt r e he) hE.size⟩, ⟨hE.os, hE.tape, hE.output, hE.size, hE.mle, fun r e h => ⟨e, h, .inl rfl⟩, fun r e h => .inl ⟨e, h, rfl⟩, fun b hb _ => same b hb, hE.fresh⟩⟩
  cases hx : M1 e.blk o with
  | none => rfl
  | some y =>
    have hb := hI.blt r e he
    rcases hE.fresh _ _ _ hx with h1 | h1
    · rw [hI.sep r e o he] at h1; cases h1
    · omega

theorem call_sound (hT : TEok P T) (hE : PEok P E) (hR : CallSound P R) : ∀ n, CallSound P (run T E R n)
  | 0 => by intro f args st v st' h; cases h
  | n + 1 => by
    intro f args st v st' h
    have ih := call_sound hT hE hR n
    unfold run at h
    split at h
    · exact hR _ _ _ _ _ h
    · rename_i fi hfi
      obtain ⟨fn, h1, h2, h3, h4, h5, h6⟩ := hE.fn f fi hfi
      refine ⟨⟨fn, h1, by rw [h2]; rfl, h5⟩, ?_⟩
      intro M G w cargs hlen hrel hI
      have hframe : ∀ {G0 : List GE}, (∀ (i : Nat) (x : AV) (y : Value), args[i]? = some x → cargs[i]? = some y → RelV M G0 x y) → RelF M G0 (args ++ List.replicate (fi.ntmps - args.length) .undef) ((⟨cargs⟩ : Array Value) ++ Array.replicate (fn.ntmps - (⟨cargs⟩ : Array Value).size) undef) := by
        intro G0 hrel
        refine ⟨by simp [hlen, h3], ?_⟩
        intro i x y hx hy
        have e2 : ((⟨cargs⟩ : Array Value) ++ Array.replicate (fn.ntmps - (⟨cargs⟩ : Array Value).size) undef) = ⟨cargs ++ List.replicate (fn.ntmps - cargs.length) undef⟩ := by
          apply Array.ext'; simp
        rw [e2] at hy
        refine rel_append hlen hrel (fun i x y hx hy => ?_) i x y hx (by simpa using hy)
        rw [List.getElem?_replicate] at hx
        split at hx
        · cases hx; exact .undef
        · cases hx
      split at h
      · rename_i hpc
        simp only [Bool.and_eq_true, List.all_eq_true] at hpc
        obtain ⟨hpu, hcl⟩ := hpc
        split at h
        · rename_i e fr st1 hx
          split at h
          · rename_i hee
            split at h
            · rename_i vs hvs
              split at h
              · rename_i v' hfz
                simp only [Option.some.injEq, Prod.mk.injEq] at h
                obtain ⟨rfl, rfl⟩ := h
                refine calls_of_wp h1 h2 ?_
                have hfr := hframe (G0 := []) (fun i x y hx hy => closed_rel (hcl x (List.mem_of_getElem? hx)) (hrel i x y hx hy))
                refine exec_sim (M0 := M) (G0 := []) (w0 := w) (fl := 0) hT ih (pure_runs n) hE.mixed fi.body 0 _ ⟨[], 0⟩ e fr st1 h6 hx _ w ⟨M, [], hfr, rfl, hI.none, Ext.refl _ _ _ _, rfl⟩ _ ?_
                rintro a' w' ⟨M', G', hF, hd, hI', hEx, hfl⟩
                obtain ⟨Vs, k1, k2, k3⟩ := results_sim (P := P) hT hF hI' _ vs hvs
                obtain ⟨p1, p2, p3⟩ := pure_end hI.none hI' hEx 0
                have hv := frz_sim (n0 := 0) hI' p3 _ _ _ _ hfz (one_sim k2 k3)
                obtain ⟨q1, q2⟩ := frame_end hI p1 p2 st.floor
                have hR : a'.defers = [] ∧ ∃ V, (results fn a'.tmps).run P w' = .ok V w' ∧ (∃ V' M'' G'', Ending.returned V = .returned V' ∧ RelV M'' G'' v' V' ∧ Inv M'' G'' st.objs w' ∧ Ext st.floor M G w M'' G'' w' ∧ st.floor = st.floor) := by
                  refine ⟨hd, _, ?_, _, _, _, rfl, hv.mono (MLe.refl _) (GLe.nil _), q1, q2, rfl⟩
                  unfold results
                  rw [Array.mapM_eq_mapM_toList, h4]
                  simp only [Sem.run_bind, Sem.run_map, Sem.run_pure]
                  erw [k1]
                  rfl
                rcases hee with rfl | rfl
                · exact hR
                · exact hR
              · cases h
            · cases h
          · cases h
        · cases h
      split at h
      · rename_i e fr st1 hx
        split at h
        · rename_i hee
          split at h
          · rename_i vs hvs
            refine calls_of_wp h1 h2 ?_
            have hfr := hframe hrel
            cases hpu : fi.pure with
            | false =>
              simp only [hpu, Bool.false_eq_true, if_false, Option.some.injEq, Prod.mk.injEq] at h hx
              obtain ⟨rfl, rfl⟩ := h
              refine exec_sim (M0 := M) (G0 := G) (w0 := w) (fl := st.floor) hT ih (pure_runs n) hE.mixed fi.body 0 _ st e fr st1 h6 hx _ w ⟨M, G, hfr, rfl, hI, Ext.refl _ _ _ _, rfl⟩ _ ?_
              rintro a' w' ⟨M', G', hF, hd, hI', hEx, hfl⟩
              obtain ⟨Vs, k1, k2, k3⟩ := results_sim (P := P) hT hF hI' _ vs hvs
              have hR : a'.defers = [] ∧ ∃ V, (results fn a'.tmps).run P w' = .ok V w' ∧ (∃ V' M'' G'', Ending.returned V = .returned V' ∧ RelV M'' G'' (one vs) V' ∧ Inv M'' G'' st1.objs w' ∧ Ext st.floor M G w M'' G'' w' ∧ st1.floor = st.floor) := by
                refine ⟨hd, _, ?_, _, M', G', rfl, one_sim k2 k3, hI', hEx, hfl⟩
                unfold results
                rw [Array.mapM_eq_mapM_toList, h4]
                simp only [Sem.run_bind, Sem.run_map, Sem.run_pure]
                erw [k1]
                rfl
              rcases hee with rfl | rfl
              · exact hR
              · exact hR
            | true =>
              simp only [hpu, if_true] at h hx
              split at h
              · rename_i v' hfz
                simp only [Option.some.injEq, Prod.mk.injEq] at h
                obtain ⟨rfl, rfl⟩ := h
                refine exec_sim (M0 := M) (G0 := G) (w0 := w) (fl := st.objs.length) hT ih (pure_runs n) hE.mixed fi.body 0 _ { st with floor := st.objs.length } e fr st1 h6 hx _ w ⟨M, G, hfr, rfl, hI, Ext.refl _ _ _ _, rfl⟩ _ ?_
                rintro a' w' ⟨M', G', hF, hd, hI', hEx, hfl⟩
                obtain ⟨Vs, k1, k2, k3⟩ := results_sim (P := P) hT hF hI' _ vs hvs
                obtain ⟨p1, p2, p3⟩ := pure_end hI hI' hEx st.floor
                have hv := frz_sim (n0 := st.objs.length) hI' p3 _ _ _ _ hfz (one_sim k2 k3)
                have hR : a'.defers = [] ∧ ∃ V, (results fn a'.tmps).run P w' = .ok V w' ∧ (∃ V' M'' G'', Ending.returned V = .returned V' ∧ RelV M'' G'' v' V' ∧ Inv M'' G'' st.objs w' ∧ Ext st.floor M G w M'' G'' w' ∧ st.floor = st.floor) := by
                  refine ⟨hd, _, ?_, _, _, _, rfl, hv, p1, p2, rfl⟩
                  unfold results
                  rw [Array.mapM_eq_mapM_toList, h4]
                  simp only [Sem.run_bind, Sem.run_map, Sem.run_pure]
                  erw [k1]
                  rfl
                rcases hee with rfl | rfl
                · exact hR
                · exact hR
              · cases h
          · cases h
        · cases h
      · cases h

end
end Go.Proofs.YtgkalmmlgkaabaaGreat.Am

namespace Go.Proofs.YtgkalmmlgkaabaaGreat.Am

inductive Tr (α : Type) where
  | nil
  | node (l : Tr α) (k : Nat) (v : α) (r : Tr α)

def Tr.get {α : Type} : Tr α → Nat → Option α
  | .nil, _ => none
  | .node l k v r, x => bif Nat.blt x k then l.get x else bif Nat.beq x k then some v else r.get x

def Tr.All {α : Type} (p : Nat → α → Prop) : Tr α → Prop
  | .nil => True
  | .node l k v r => l.All p ∧ p k v ∧ r.All p

theorem Tr.get_all {α : Type} {p : Nat → α → Prop} : ∀ {t : Tr α} {x : Nat} {v : α}, t.All p → t.get x = some v → p x v
  | .nil, x, v, _, h => by cases h
  | .node l k u r, x, v, ⟨h1, h2, h3⟩, h => by
    unfold Tr.get at h
    cases hb : Nat.blt x k with
    | true => rw [hb] at h; exact Tr.get_all h1 h
    | false =>
      rw [hb] at h
      cases hq : Nat.beq x k with
      | true =>
        rw [hq] at h
        simp only [cond_false, cond_true, Option.some.injEq] at h
        subst h
        have : x = k := Nat.eq_of_beq_eq_true hq
        subst this
        exact h2
      | false => rw [hq] at h; exact Tr.get_all h3 h

def alist (l : List (Nat × List Nat)) (x : Nat) : List Nat :=
  match l with
  | [] => []
  | (k, v) :: l => bif Nat.beq k x then v else alist l x

def alist2 (l : List (Nat × List (Nat × List Nat))) (x : Nat) : List (Nat × List Nat) :=
  match l with
  | [] => []
  | (k, v) :: l => bif Nat.beq k x then v else alist2 l x

structure X where
  fn : Func
  pure : Bool
  clr : List (Nat × List Nat)
  ord : List (Nat × List Nat)
  rc : List (Nat × List (Nat × List Nat))

def X.fi (x : X) : FI := { body := x.fn.body.getD .skip, ntmps := x.fn.ntmps, results := x.fn.results.toList, pure := x.pure, clr := alist x.clr, ord := alist x.ord, rc := alist2 x.rc }

def peOf (t : Tr X) : PE := fun f => match t.get f with
  | some x => some x.fi
  | none => none

/-- what is checked of a function -/
def XOk (P : Program) (E : PE) (f : Nat) (x : X) : Prop :=
  P.funcs[f]? = some x.fn ∧ x.fn.body.isSome = true ∧ (x.fn.name == "runtime.NumGoroutine") = false ∧ ordsOk E x.fi x.fi.body = true

theorem peOk {P : Program} {t : Tr X} (hm : P.follows .mixedOrders = true) (h : t.All (XOk P (peOf t))) : PEok P (peOf t) where
  mixed := hm
  fn := fun f fi hf => by
    unfold peOf at hf
    split at hf
    · rename_i x hx
      simp only [Option.some.injEq] at hf
      subst hf
      obtain ⟨h1, h2, h3, h4⟩ := Tr.get_all h hx
      refine ⟨x.fn, h1, ?_, rfl, rfl, h3, h4⟩
      obtain ⟨c, hc⟩ := Option.isSome_iff_exists.1 h2
      simp [X.fi, hc]
    · cases hf

def TOk (P : Program) (t : Nat) (ti : TI) : Prop := teOf P t = some ti

theorem teOk {P : Program} {t : Tr TI} (h : t.All (TOk P)) : TEok P t.get := fun _ _ hx => Tr.get_all h hx

end Go.Proofs.YtgkalmmlgkaabaaGreat.Am
