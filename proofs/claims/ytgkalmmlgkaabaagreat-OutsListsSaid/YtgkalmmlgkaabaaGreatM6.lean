/-
  What a function of the abstract machine comes to, told as a condition that can be reckoned with where values are not known. Conditions: none.
-/
import Derived.Test.YtgkalmmlgkaabaaGreatM3
namespace Go.Proofs.YtgkalmmlgkaabaaGreat.Am

section
variable (T : TE) (E : PE) (R : Runs)

/-- from some depth on a call answers so -/
def CallsTo (f : Nat) (args : List AV) (st : St) (r : AV × St) : Prop := ∃ N, ∀ n, N ≤ n → run T E R n f args st = some r

/-- from some depth on a code ends so -/
def CodeTo (fi : FI) (c : Code) (bid : Nat) (fr : List AV) (st : St) (r : Ex × List AV × St) : Prop := ∃ N, ∀ n, N ≤ n → exec T E (run T E R n) n fi c bid fr st = some r

/-- from some depth on a loop ends so -/
def LoopTo (fi : FI) (c : Code) (bid : Nat) (fr : List AV) (st : St) (r : Ex × List AV × St) : Prop := ∃ N, ∀ n m, N ≤ n → N ≤ m → loopN (exec T E (run T E R n) n fi c bid) (fi.clr bid) m fr st = some r

/-- a loop ends, and then something is so -/
def LoopEx (fi : FI) (c : Code) (bid : Nat) (fr : List AV) (st : St) (K : Ex → List AV → St → Prop) : Prop := ∃ r, LoopTo T E R fi c bid fr st r ∧ K r.1 r.2.1 r.2.2

attribute [irreducible] LoopEx

def noRun : Runs := fun _ _ _ => none

def isFuncOp : Operand → Bool
  | .func _ => true
  | _ => false

/-- what lies in a slot, handed on as it is written there -/
def getK : List AV → Nat → (AV → Prop) → Prop
  | [], _, K => K .undef
  | x :: _, 0, K => K x
  | _ :: l, n + 1, K => getK l n K

def setK : List AV → Nat → AV → (List AV → Prop) → Prop
  | [], _, _, K => K []
  | _ :: l, 0, v, K => K (v :: l)
  | x :: l, n + 1, v, K => setK l n v fun l => K (x :: l)

/-- a row of slots, written out -/
def forceL : List AV → (List AV → Prop) → Prop
  | [], K => K []
  | x :: l, K => forceL l fun l => K (x :: l)

def forceV (v : AV) (K : AV → Prop) : Prop :=
  match v with
  | .bool b => K (.bool b)
  | .int k n => K (.int k n)
  | .str s => K (.str s)
  | .nilp => K .nilp
  | .nils => K .nils
  | .nilm => K .nilm
  | .nilf => K .nilf
  | .niface => K .niface
  | .fn f a b => K (.fn f a b)
  | v => K v

def opK (fr : List AV) (x : Operand) (K : AV → Prop) : Prop :=
  match x with
  | .tmp t => getK fr t K
  | .const v => forceV (ofV v) K
  | .global _ => K .undef
  | .func f => K (.fn f [] [])

def opsK (fr : List AV) : List Operand → (List AV → Prop) → Prop
  | [], K => K []
  | x :: l, K => opK fr x fun v => opsK fr l fun vs => K (v :: vs)

def optK (fr : List AV) (x : Option Operand) (K : Option AV → Prop) : Prop :=
  match x with
  | none => K none
  | some x => opK fr x fun v => K (some v)

def partsK (fr : List AV) : List (Nat × Operand) → (List (Nat × AV) → Prop) → Prop
  | [], K => K []
  | (i, x) :: l, K => opK fr x fun v => partsK fr l fun vs => K ((i, v) :: vs)

def putK (fr : List AV) (d : Option Tmp) (v : AV) (K : List AV → Prop) : Prop :=
  match d with
  | some d => setK fr d v K
  | none => K fr

def clearK : List AV → List Nat → (List AV → Prop) → Prop
  | fr, [], K => K fr
  | fr, d :: l, K => setK fr d .undef fun fr => clearK fr l K

theorem getK_eq (K : AV → Prop) : ∀ (l : List AV) (n : Nat), getK l n K = K (l.getD n .undef)
  | [], n => by simp [getK]
  | x :: l, 0 => by simp [getK]
  | x :: l, n + 1 => by simp [getK, getK_eq K l n]

theorem setK_eq : ∀ (l : List AV) (n : Nat) (v : AV) (K : List AV → Prop), setK l n v K = K (l.set n v)
  | [], n, v, K => by simp [setK]
  | x :: l, 0, v, K => by simp [setK]
  | x :: l, n + 1, v, K => by simp [setK, setK_eq l n v]

theorem forceL_eq : ∀ (l : List AV) (K : List AV → Prop), forceL l K = K l
  | [], K => rfl
  | x :: l, K => by simp [forceL, forceL_eq l]

theorem forceV_eq (v : AV) (K : AV → Prop) : forceV v K = K v := by cases v <;> rfl

theorem opK_eq (fr : List AV) (x : Operand) (K : AV → Prop) : opK fr x K = K (eval fr x) := by
  cases x with
  | tmp t => exact getK_eq K fr t
  | const v => exact forceV_eq _ _
  | _ => rfl

theorem opsK_eq (fr : List AV) : ∀ (l : List Operand) (K : List AV → Prop), opsK fr l K = K (l.map (eval fr))
  | [], K => rfl
  | x :: l, K => by simp [opsK, opK_eq, opsK_eq fr l]

theorem optK_eq (fr : List AV) (x : Option Operand) (K : Option AV → Prop) : optK fr x K = K (x.map (eval fr)) := by
  cases x with
  | none => rfl
  | some x => simp [optK, opK_eq]

theorem partsK_eq (fr : List AV) : ∀ (l : List (Nat × Operand)) (K : List (Nat × AV) → Prop), partsK fr l K = K (l.map fun (i, x) => (i, eval fr x))
  | [], K => rfl
  | (i, x) :: l, K => by simp [partsK, opK_eq, partsK_eq fr l]

theorem putK_eq (fr : List AV) (d : Option Tmp) (v : AV) (K : List AV → Prop) : putK fr d v K = K (put fr d v) := by
  cases d with
  | none => rfl
  | some d => exact setK_eq fr d v K

theorem clearK_eq : ∀ (l : List Nat) (fr : List AV) (K : List AV → Prop), clearK fr l K = K (clear fr l)
  | [], fr, K => rfl
  | d :: l, fr, K => by simp [clearK, setK_eq, clearK_eq l, clear]

def Wop (draw : Bool) (fr : List AV) (o : Oper) (st : St) (K : AV → St → Prop) : Prop :=
  match o.op with
  | .call c => match c.callee with
    | .value x => opK fr x fun fv => match fv with
      | .fn f first caps => match isFuncOp x || !draw || (E f).any (·.pure) with
        | true => opsK fr c.args.toList fun args => ∃ r, CallsTo T E R f (first ++ args ++ caps) st r ∧ K r.1 r.2
        | false => False
      | _ => False
    | .invoke x m => opK fr x fun fv => match fv with
      | .iface t v => match T t with
        | some ti => match ti.ms.find? (fun x => x.1 == m) with
          | some (_, some f) => opsK fr c.args.toList fun args => ∃ r, CallsTo T E R f (v :: args) st r ∧ K r.1 r.2
          | _ => False
        | none => False
      | _ => False
    | .builtin .len => match c.argTypes[0]?, c.args[0]? with
      | some t, some x => opK fr x fun v => match len T t v with
        | some r => K r st
        | none => match stepOp T E noRun draw fr o st with
          | some (v, st') => K v st'
          | none => False
      | _, _ => False
    | .builtin .max | .builtin .min => match stepOp T E noRun draw fr o st with
      | some (v, st') => K v st'
      | none => False
    | .builtin .append => match c.argTypes[0]?, c.argTypes[1]?, c.args[0]?, c.args[1]? with
      | some t, some u, some d, some x => match T u with
        | some ui => match ui.k with
          | .slice _ => opK fr d fun d => opK fr x fun x => ∃ r, append T st t d x = some r ∧ K r.1 r.2
          | _ => False
        | none => False
      | _, _, _, _ => False
    | .builtin _ => ∃ r, stepOp T E noRun draw fr o st = some r ∧ K r.1 r.2
  | .move x | .assign x => opK fr x fun v => K v st
  | .binOp op xt x y _ => opK fr x fun a => opK fr y fun b => match binOp T op xt (isConst x || isConst y) a b with
    | some v => K v st
    | none => False
  | .unOp op _ x => opK fr x fun a => match unOp op a with
    | some v => K v st
    | none => False
  | .pick c a b => opK fr c fun q => match q with
    | .bool q => match q with
      | true => opK fr a fun v => K v st
      | false => opK fr b fun v => K v st
    | _ => False
  | .field t x i => opK fr x fun a => match field T t a i with
    | some v => K v st
    | none => False
  | .extract x i => opK fr x fun a => match a with
    | .tuple vs => match vs[i]? with
      | some v => K v st
      | none => False
    | _ => False
  | .build t ps => partsK fr ps.toList fun ps => match build T t ps with
    | some v => K v st
    | none => False
  | .buildSlice t n ps => partsK fr ps.toList fun ps => match buildSlice T t n ps with
    | some v => K v st
    | none => False
  | .makeFunc (.func f) a b => opsK fr a.toList fun a => opsK fr b.toList fun b => K (.fn f a b) st
  | .indexAddr t x i => opK fr x fun x => opK fr i fun i => ∃ v, indexAddr T t x i = some v ∧ K v st
  | .index t x i => opK fr x fun x => opK fr i fun i => ∃ v, index T t x i = some v ∧ K v st
  | .load t a => opK fr a fun a => ∃ v, load T st.objs t a = some v ∧ K v st
  | .lookup t x i ok => opK fr x fun x => opK fr i fun i => ∃ v, lookup T st.objs t x i ok = some v ∧ K v st
  | .slice t x lo hi mx => opK fr x fun x => optK fr lo fun lo => optK fr hi fun hi => optK fr mx fun mx => ∃ v, sliceR T st.objs t x lo hi mx = some v ∧ K v st
  | .convert s d x => opK fr x fun x => ∃ v, convertR T st.objs s d x = some v ∧ K v st
  | .store t a v => opK fr a fun a => opK fr v fun v => ∃ st', store T st t a v = some st' ∧ K .undef st'
  | .mapUpdate t m k v | .insert t m k v => opK fr m fun m => opK fr k fun k => opK fr v fun v => ∃ st', mapUpdate T st t m k v = some st' ∧ K .undef st'
  | _ => match stepOp T E noRun draw fr o st with
    | some (v, st') => K v st'
    | none => False

/-- a row of operations; a guard's slot is written again as what it was found to be -/
noncomputable def WO (draw : Bool) (ops : Array Oper) (rc : List (Nat × List Nat)) (l : List Nat) : List AV → St → (List AV → St → Prop) → Prop :=
  List.rec (motive := fun _ => List AV → St → (List AV → St → Prop) → Prop) (fun fr st K => K fr st)
    (fun i _ ih fr st K => match ops[i]? with
      | none => False
      | some o =>
        let on : AV → List AV → St → Prop := fun v fr st => putK fr o.dst v fun fr => match rcOf rc i with
          | [] => ih fr st K
          | us => us.all (reread T ops fr st.objs) = true ∧ ih fr st K
        match o.guard with
        | none => Wop T E R draw fr o st fun v st => on v fr st
        | some (j, want) => match (ops[j]?).bind (·.dst) with
          | none => False
          | some d => getK fr d fun g => match g with
            | .bool b => match b with
              | true => setK fr d (.bool true) fun fr => match want with
                | true => Wop T E R draw fr o st fun v st => on v fr st
                | false => on (.tuple []) fr st
              | false => setK fr d (.bool false) fun fr => match want with
                | true => on (.tuple []) fr st
                | false => Wop T E R draw fr o st fun v st => on v fr st
            | .tuple [] => on (.tuple []) fr st
            | _ => False) l

theorem WO_nil (draw : Bool) (ops : Array Oper) (rc : List (Nat × List Nat)) (fr : List AV) (st : St) (K : List AV → St → Prop) : WO T E R draw ops rc [] fr st K = K fr st := rfl

theorem WO_cons (draw : Bool) (ops : Array Oper) (rc : List (Nat × List Nat)) (i : Nat) (l : List Nat) (fr : List AV) (st : St) (K : List AV → St → Prop) : WO T E R draw ops rc (i :: l) fr st K = match ops[i]? with
      | none => False
      | some o =>
        let on : AV → List AV → St → Prop := fun v fr st => putK fr o.dst v fun fr => match rcOf rc i with
          | [] => WO T E R draw ops rc l fr st K
          | us => us.all (reread T ops fr st.objs) = true ∧ WO T E R draw ops rc l fr st K
        match o.guard with
        | none => Wop T E R draw fr o st fun v st => on v fr st
        | some (j, want) => match (ops[j]?).bind (·.dst) with
          | none => False
          | some d => getK fr d fun g => match g with
            | .bool b => match b with
              | true => setK fr d (.bool true) fun fr => match want with
                | true => Wop T E R draw fr o st fun v st => on v fr st
                | false => on (.tuple []) fr st
              | false => setK fr d (.bool false) fun fr => match want with
                | true => on (.tuple []) fr st
                | false => Wop T E R draw fr o st fun v st => on v fr st
            | .tuple [] => on (.tuple []) fr st
            | _ => False := rfl

abbrev WK := Nat → List AV → St → (Ex → List AV → St → Prop) → Prop

noncomputable def WC (fi : FI) (c : Code) : WK :=
  Code.rec (motive := fun _ => WK)
    (fun _ fr st K => K .normal fr st)
    (fun id ops draw _ fr st K => match draw with
      | true => forceL fr fun fr => clearK fr (dstsA E ops) fun fr => WO T E R true ops (fi.rc id) (ordOf fi id ops) fr st (K .normal)
      | false => forceL fr fun fr => WO T E R false ops [] (List.range ops.size) fr st (K .normal))
    (fun _ _ iha ihb bid fr st K => iha bid fr st fun e fr st => match e with
      | .normal => ihb bid fr st K
      | e => K e fr st)
    (fun c _ _ iha ihb bid fr st K => opK fr c fun q => match q with
      | .bool x => match x with
        | true => iha bid fr st K
        | false => ihb bid fr st K
      | _ => False)
    (fun id _ ih _ fr st K => ih id fr st fun e fr st => match e with
      | .exit id' => match Nat.beq id' id with
        | true => K .normal fr st
        | false => K (.exit id') fr st
      | e => K e fr st)
    (fun a _ bid fr st K => LoopEx T E R fi a bid fr st K)
    (fun _ _ _ _ _ _ _ _ _ _ => False)
    (fun id _ fr st K => K (.exit id) fr st)
    (fun _ ih bid fr st K => ih bid fr st fun e fr st => match e with
      | .goto _ => False
      | e => K e fr st)
    (fun _ _ fr st K => K .normal fr st)
    (fun _ _ _ _ _ => False)
    (fun _ fr st K => K .ret fr st)
    (fun _ _ _ _ _ => False) c

section
variable (fi : FI) (bid : Nat) (fr : List AV) (st : St) (K : Ex → List AV → St → Prop)
theorem WC_skip : WC T E R fi .skip bid fr st K = K .normal fr st := rfl
theorem WC_region (id : Nat) (ops : Array Oper) (draw : Bool) : WC T E R fi (.region id ops draw) bid fr st K = match draw with
      | true => forceL fr fun fr => clearK fr (dstsA E ops) fun fr => WO T E R true ops (fi.rc id) (ordOf fi id ops) fr st (K .normal)
      | false => forceL fr fun fr => WO T E R false ops [] (List.range ops.size) fr st (K .normal) := rfl
theorem WC_seq (a b : Code) : WC T E R fi (.seq a b) bid fr st K = WC T E R fi a bid fr st fun e fr st => match e with
      | .normal => WC T E R fi b bid fr st K
      | e => K e fr st := rfl
theorem WC_cond (c : Operand) (a b : Code) : WC T E R fi (.cond c a b) bid fr st K = opK fr c fun q => match q with
      | .bool x => match x with
        | true => WC T E R fi a bid fr st K
        | false => WC T E R fi b bid fr st K
      | _ => False := rfl
theorem WC_block (id : Nat) (a : Code) : WC T E R fi (.block id a) bid fr st K = WC T E R fi a id fr st fun e fr st => match e with
      | .exit id' => match Nat.beq id' id with
        | true => K .normal fr st
        | false => K (.exit id') fr st
      | e => K e fr st := rfl
theorem WC_loop (a : Code) : WC T E R fi (.loop a) bid fr st K = LoopEx T E R fi a bid fr st K := rfl
theorem WC_scope (a : Code) : WC T E R fi (.scope a) bid fr st K = WC T E R fi a bid fr st fun e fr st => match e with
      | .goto _ => False
      | e => K e fr st := rfl
end

end

section
variable {T : TE} {E : PE} {R : Runs}

theorem step_noRun {run : Runs} {draw : Bool} {fr : List AV} {o : Oper} {st : St} {r : AV × St} (h : stepOp T E noRun draw fr o st = some r) : stepOp T E run draw fr o st = some r := by
  have hc : ∀ {strict : Bool} {c : Call}, callOp E noRun strict (eval fr) c st = none := by
    intro strict c
    unfold callOp
    split
    · split
      · split <;> rfl
      · rfl
    · rfl
  have hi : ∀ {r : Operand} {m : String} {args : Array Operand}, invokeOp T noRun (eval fr) r m args st = none := by
    intro r m args
    unfold invokeOp
    split
    · split
      · split <;> rfl
      · rfl
    · rfl
  unfold stepOp at h ⊢
  split at h
  · exact h
  · exact h
  · exact h
  · split at h
    · rw [hc] at h; cases h
    · cases h
  · split at h
    · rw [hc] at h; cases h
    · rw [hi] at h; cases h
    · exact h

theorem wop_sound {draw : Bool} {fr : List AV} {o : Oper} {st : St} {K : AV → St → Prop} (h : Wop T E R draw fr o st K) : ∃ v st', (∃ N, ∀ n, N ≤ n → stepOp T E (run T E R n) draw fr o st = some (v, st')) ∧ K v st' := by
  obtain ⟨dst, op, ty, pos, after, guard⟩ := o
  have direct : ∀ {K : AV → St → Prop}, (match stepOp T E noRun draw fr ⟨dst, op, ty, pos, after, guard⟩ st with
      | some (v, st') => K v st'
      | none => False) → ∃ v st', (∃ N, ∀ n, N ≤ n → stepOp T E (run T E R n) draw fr ⟨dst, op, ty, pos, after, guard⟩ st = some (v, st')) ∧ K v st' := by
    intro K h
    split at h
    · rename_i v st' hs
      exact ⟨v, st', ⟨0, fun n _ => step_noRun hs⟩, h⟩
    · exact h.elim
  have ex : ∀ {K : AV → St → Prop} (r : AV × St), stepOp T E noRun draw fr ⟨dst, op, ty, pos, after, guard⟩ st = some r → K r.1 r.2 → ∃ v st', (∃ N, ∀ n, N ≤ n → stepOp T E (run T E R n) draw fr ⟨dst, op, ty, pos, after, guard⟩ st = some (v, st')) ∧ K v st' :=
    fun r h1 h2 => ⟨r.1, r.2, ⟨0, fun n _ => step_noRun h1⟩, h2⟩
  unfold Wop at h
  simp only [opK_eq, opsK_eq, optK_eq, partsK_eq] at h
  split at h
  · rename_i c
    split at h
    · rename_i x hx
      split at h
      · rename_i f first caps hf
        split at h
        · rename_i hok
          obtain ⟨r, ⟨N, hN⟩, hK⟩ := h
          refine ⟨r.1, r.2, ⟨N, fun n hn => ?_⟩, hK⟩
          have hr := hN n hn
          obtain ⟨callee, args, ats⟩ := c
          simp only at hx
          subst hx
          have call : ∀ strict, (strict = true → (E f).any (·.pure) = true) → callOp E (run T E R n) strict (eval fr) ⟨.value x, args, ats⟩ st = some (r.1, r.2) := by
            intro strict hs
            simp only [callOp, hf]
            have : (strict && !((E f).any (·.pure))) = false := by
              cases strict with
              | false => rfl
              | true => simp [hs rfl]
            simp only [this, Bool.false_eq_true, if_false]
            exact hr
          unfold stepOp
          cases x with
          | func g =>
            have hg : g = f := by simp [eval] at hf; exact hf.1
            subst hg
            simp only [cls]
            cases hp : (E g).any (·.pure) with
            | true => exact call draw (fun _ => hp)
            | false => exact call false (fun h => by cases h)
          | tmp t =>
            simp only [cls]
            refine call draw (fun hd => ?_)
            subst hd
            simpa [isFuncOp] using hok
          | const v =>
            simp only [cls]
            refine call draw (fun hd => ?_)
            subst hd
            simpa [isFuncOp] using hok
          | global g =>
            simp only [cls]
            refine call draw (fun hd => ?_)
            subst hd
            simpa [isFuncOp] using hok
        · exact h.elim
      · exact h.elim
    · rename_i x m hx
      split at h
      · rename_i t v hv
        split at h
        · rename_i ti ht
          split at h
          · rename_i nm f hfind
            obtain ⟨r, ⟨N, hN⟩, hK⟩ := h
            refine ⟨r.1, r.2, ⟨N, fun n hn => ?_⟩, hK⟩
            have hr := hN n hn
            obtain ⟨callee, args, ats⟩ := c
            simp only at hx
            subst hx
            unfold stepOp
            simp only [cls, invokeOp, hv, ht, hfind]
            exact hr
          · exact h.elim
        · exact h.elim
      · exact h.elim
    · rename_i hb
      obtain ⟨callee, args, ats⟩ := c
      simp only at hb
      subst hb
      simp only at h
      split at h
      · rename_i t x ht hx
        split at h
        · rename_i r hr
          exact ex (r, st) (by unfold stepOp; simp only [cls, pureOp, ht, hx, hr]) h
        · exact direct h
      · exact h.elim
    · exact direct h
    · exact direct h
    · rename_i hb
      obtain ⟨callee, args, ats⟩ := c
      simp only at hb
      subst hb
      simp only at h
      split at h
      · rename_i t u d x ht hu hd hx
        split at h
        · rename_i ui hui
          split at h
          · rename_i e he
            obtain ⟨r, h1, h2⟩ := h
            exact ex r (by unfold stepOp; simp only [cls, writeOp, ht, hu, hd, hx, hui, he, h1]) h2
          · exact h.elim
        · exact h.elim
      · exact h.elim
    · obtain ⟨r, h1, h2⟩ := h
      exact ex r h1 h2
  · rename_i x
    exact ex (eval fr x, st) (by unfold stepOp; simp only [cls, pureOp]) h
  · rename_i x
    exact ex (eval fr x, st) (by unfold stepOp; simp only [cls, pureOp]) h
  · rename_i op xt x y _
    split at h
    · rename_i v hv
      exact ex (v, st) (by unfold stepOp; simp only [cls, pureOp, hv]) h
    · exact h.elim
  · rename_i op _ x
    split at h
    · rename_i v hv
      exact ex (v, st) (by unfold stepOp; simp only [cls, pureOp, hv]) h
    · exact h.elim
  · rename_i c a b
    split at h
    · rename_i q hq
      split at h
      · exact ex (eval fr a, st) (by unfold stepOp; simp only [cls, pureOp, hq]; rfl) h
      · exact ex (eval fr b, st) (by unfold stepOp; simp only [cls, pureOp, hq]; rfl) h
    · exact h.elim
  · rename_i t x i
    split at h
    · rename_i v hv
      exact ex (v, st) (by unfold stepOp; simp only [cls, pureOp, hv]) h
    · exact h.elim
  · rename_i x i
    split at h
    · rename_i vs hvs
      split at h
      · rename_i v hv
        exact ex (v, st) (by unfold stepOp; simp only [cls, pureOp, hvs, hv]) h
      · exact h.elim
    · exact h.elim
  · rename_i t ps
    split at h
    · rename_i v hv
      exact ex (v, st) (by unfold stepOp; simp only [cls, pureOp, hv]) h
    · exact h.elim
  · rename_i t n ps
    split at h
    · rename_i v hv
      exact ex (v, st) (by unfold stepOp; simp only [cls, pureOp, hv]) h
    · exact h.elim
  · rename_i f a b
    exact ex (.fn f (a.toList.map (eval fr)) (b.toList.map (eval fr)), st) (by unfold stepOp; simp only [cls, pureOp]) h
  · rename_i t x i
    obtain ⟨v, h1, h2⟩ := h
    exact ex (v, st) (by unfold stepOp; simp only [cls, pureOp, h1]) h2
  · rename_i t x i
    obtain ⟨v, h1, h2⟩ := h
    exact ex (v, st) (by unfold stepOp; simp only [cls, pureOp, h1]) h2
  · rename_i t a
    obtain ⟨v, h1, h2⟩ := h
    exact ex (v, st) (by unfold stepOp; simp only [cls, readOp, h1, Option.map_some]) h2
  · rename_i t x i ok
    obtain ⟨v, h1, h2⟩ := h
    exact ex (v, st) (by unfold stepOp; simp only [cls, readOp, h1, Option.map_some]) h2
  · rename_i t x lo hi mx
    obtain ⟨v, h1, h2⟩ := h
    exact ex (v, st) (by unfold stepOp; simp only [cls, readOp, h1, Option.map_some]) h2
  · rename_i s d x
    obtain ⟨v, h1, h2⟩ := h
    exact ex (v, st) (by unfold stepOp; simp only [cls, readOp, h1, Option.map_some]) h2
  · rename_i t a v
    obtain ⟨st', h1, h2⟩ := h
    exact ex (.undef, st') (by unfold stepOp; simp only [cls, writeOp, h1, Option.map_some]) h2
  · rename_i t m k v
    obtain ⟨st', h1, h2⟩ := h
    exact ex (.undef, st') (by unfold stepOp; simp only [cls, writeOp, h1, Option.map_some]) h2
  · rename_i t m k v
    obtain ⟨st', h1, h2⟩ := h
    exact ex (.undef, st') (by unfold stepOp; simp only [cls, writeOp, h1, Option.map_some]) h2
  · exact direct h

theorem set_same {fr : List AV} {d : Nat} {v : AV} (h : fr.getD d .undef = v) (hv : v ≠ .undef) : fr.set d v = fr := by
  rw [List.getD] at h
  cases hd : fr[d]? with
  | none => rw [hd] at h; simp at h; exact absurd h.symm hv
  | some x =>
    rw [hd] at h
    simp at h
    subst h
    exact set_self hd

/-- one operation and those behind it -/
def stepsD (T : TE) (E : PE) (run : Runs) (draw : Bool) (ops : Array Oper) (rc : List (Nat × List Nat)) : List Nat → List AV → St → Option (List AV × St)
  | [], fr, st => some (fr, st)
  | i :: l, fr, st => match opAt T E run draw ops i fr st with
    | some (fr, st) => if (rcOf rc i).all (reread T ops fr st.objs) then stepsD T E run draw ops rc l fr st else none
    | none => none

theorem stepsD_true (run : Runs) (ops : Array Oper) (rc : List (Nat × List Nat)) : ∀ (l : List Nat) (fr : List AV) (st : St), stepsD T E run true ops rc l fr st = runD T E run ops rc l fr st
  | [], _, _ => rfl
  | i :: l, fr, st => by
    simp only [stepsD, runD]
    cases opAt T E run true ops i fr st with
    | none => rfl
    | some q => obtain ⟨a, b⟩ := q; simp only [stepsD_true run ops rc l]

theorem stepsD_false (run : Runs) (ops : Array Oper) : ∀ (l : List Nat) (fr : List AV) (st : St), stepsD T E run false ops [] l fr st = runOps T E run false ops l fr st
  | [], _, _ => rfl
  | i :: l, fr, st => by
    simp only [stepsD, runOps, rcOf, List.all_nil, if_true]
    cases opAt T E run false ops i fr st with
    | none => rfl
    | some q => obtain ⟨a, b⟩ := q; simp only [stepsD_false run ops l]

theorem wo_sound {draw : Bool} {ops : Array Oper} {rc : List (Nat × List Nat)} : ∀ (l : List Nat) (fr : List AV) (st : St) (K : List AV → St → Prop), WO T E R draw ops rc l fr st K →
    ∃ fr' st', (∃ N, ∀ n, N ≤ n → stepsD T E (run T E R n) draw ops rc l fr st = some (fr', st')) ∧ K fr' st'
  | [], fr, st, K, h => ⟨fr, st, ⟨0, fun _ _ => rfl⟩, h⟩
  | i :: l, fr, st, K, h => by
    rw [WO_cons] at h
    cases ho : ops[i]? with
    | none => rw [ho] at h; exact h.elim
    | some o =>
      simp only [ho, getK_eq, setK_eq, putK_eq] at h
      have rest : ∀ (v : AV) (st1 : St), (match rcOf rc i with
          | [] => WO T E R draw ops rc l (put fr o.dst v) st1 K
          | us => us.all (reread T ops (put fr o.dst v) st1.objs) = true ∧ WO T E R draw ops rc l (put fr o.dst v) st1 K) →
          (∃ N, ∀ n, N ≤ n → opAt T E (run T E R n) draw ops i fr st = some (put fr o.dst v, st1)) →
          ∃ fr' st', (∃ N, ∀ n, N ≤ n → stepsD T E (run T E R n) draw ops rc (i :: l) fr st = some (fr', st')) ∧ K fr' st' := by
        intro v st1 hr ⟨N, hN⟩
        obtain ⟨ha, hw⟩ : (rcOf rc i).all (reread T ops (put fr o.dst v) st1.objs) = true ∧ WO T E R draw ops rc l (put fr o.dst v) st1 K := by
          split at hr
          · rename_i hrc
            exact ⟨by rw [hrc]; rfl, hr⟩
          · exact hr
        obtain ⟨fr', st', ⟨N', hN'⟩, hK⟩ := wo_sound l _ _ K hw
        refine ⟨fr', st', ⟨max N N', fun n hn => ?_⟩, hK⟩
        simp only [stepsD, hN n (by omega), ha, if_true]
        exact hN' n (by omega)
      have go : (wanted o ops fr = some true) → (Wop T E R draw fr o st fun v st => match rcOf rc i with
          | [] => WO T E R draw ops rc l (put fr o.dst v) st K
          | us => us.all (reread T ops (put fr o.dst v) st.objs) = true ∧ WO T E R draw ops rc l (put fr o.dst v) st K) →
          ∃ fr' st', (∃ N, ∀ n, N ≤ n → stepsD T E (run T E R n) draw ops rc (i :: l) fr st = some (fr', st')) ∧ K fr' st' := by
        intro hw hop
        obtain ⟨v, st1, ⟨N, hN⟩, hr⟩ := wop_sound hop
        refine rest v st1 hr ⟨N, fun n hn => ?_⟩
        unfold opAt
        simp only [ho, hw, hN n hn]
      have no : (wanted o ops fr = some false) → (match rcOf rc i with
          | [] => WO T E R draw ops rc l (put fr o.dst (.tuple [])) st K
          | us => us.all (reread T ops (put fr o.dst (.tuple [])) st.objs) = true ∧ WO T E R draw ops rc l (put fr o.dst (.tuple [])) st K) →
          ∃ fr' st', (∃ N, ∀ n, N ≤ n → stepsD T E (run T E R n) draw ops rc (i :: l) fr st = some (fr', st')) ∧ K fr' st' := by
        intro hw hr
        refine rest (.tuple []) st hr ⟨0, fun n _ => ?_⟩
        unfold opAt
        simp only [ho, hw]
      cases hg : o.guard with
      | none =>
        simp only [hg] at h
        exact go (by simp [wanted, hg]) h
      | some jw =>
        obtain ⟨j, want⟩ := jw
        simp only [hg] at h
        cases hd : (ops[j]?).bind (·.dst) with
        | none => simp only [hd] at h
        | some d =>
          simp only [hd] at h
          have hy : yields ops fr j = match fr.getD d .undef with
            | .bool b => some (some b)
            | .tuple [] => some none
            | _ => none := by
            unfold yields
            simp only [hd]
            cases fr.getD d .undef <;> rfl
          split at h
          · rename_i b hb
            rw [hb] at hy
            have hsame : ∀ q, q = b → fr.set d (.bool q) = fr := fun q hq => by
              subst hq
              exact set_same hb (by intro h; cases h)
            split at h
            · rw [hsame true rfl] at h
              split at h
              · exact go (by simp [wanted, hg, hy]) h
              · exact no (by simp [wanted, hg, hy]) h
            · rw [hsame false rfl] at h
              split at h
              · exact no (by simp [wanted, hg, hy]) h
              · exact go (by simp [wanted, hg, hy]) h
          · rename_i hb
            rw [hb] at hy
            exact no (by simp [wanted, hg, hy]) h
          · exact h.elim

theorem w_sound {fi : FI} : ∀ (c : Code) (bid : Nat) (fr : List AV) (st : St) (K : Ex → List AV → St → Prop), WC T E R fi c bid fr st K → ∃ e fr' st', CodeTo T E R fi c bid fr st (e, fr', st') ∧ K e fr' st' := by
  intro c
  induction c with
  | skip => intro bid fr st K h; exact ⟨.normal, fr, st, ⟨0, fun _ _ => rfl⟩, h⟩
  | region id ops draw =>
    intro bid fr st K h
    cases draw with
    | true =>
      simp only [WC_region, forceL_eq, clearK_eq] at h
      obtain ⟨fr', st', ⟨N, hN⟩, hK⟩ := wo_sound _ _ _ _ h
      refine ⟨.normal, fr', st', ⟨N, fun n hn => ?_⟩, hK⟩
      have := hN n hn
      rw [stepsD_true] at this
      simp only [exec, if_true, this]
    | false =>
      simp only [WC_region, forceL_eq] at h
      obtain ⟨fr', st', ⟨N, hN⟩, hK⟩ := wo_sound _ _ _ _ h
      refine ⟨.normal, fr', st', ⟨N, fun n hn => ?_⟩, hK⟩
      have := hN n hn
      rw [stepsD_false] at this
      simp only [exec, Bool.false_eq_true, if_false, this]
  | seq a b iha ihb =>
    intro bid fr st K h
    rw [WC_seq] at h
    obtain ⟨e, fr1, st1, ⟨N, hN⟩, h1⟩ := iha _ _ _ _ h
    cases e with
    | normal =>
      obtain ⟨e2, fr2, st2, ⟨N2, hN2⟩, h2⟩ := ihb _ _ _ _ h1
      refine ⟨e2, fr2, st2, ⟨max N N2, fun n hn => ?_⟩, h2⟩
      simp only [exec, hN n (by omega)]
      exact hN2 n (by omega)
    | _ =>
      refine ⟨_, fr1, st1, ⟨N, fun n hn => ?_⟩, h1⟩
      simp only [exec, hN n hn]
  | cond x a b iha ihb =>
    intro bid fr st K h
    simp only [WC_cond, opK_eq] at h
    split at h
    · rename_i q hq
      split at h
      · obtain ⟨e2, fr2, st2, ⟨N2, hN2⟩, h2⟩ := iha _ _ _ _ h
        refine ⟨e2, fr2, st2, ⟨N2, fun n hn => ?_⟩, h2⟩
        simp only [exec, hq]
        exact hN2 n hn
      · obtain ⟨e2, fr2, st2, ⟨N2, hN2⟩, h2⟩ := ihb _ _ _ _ h
        refine ⟨e2, fr2, st2, ⟨N2, fun n hn => ?_⟩, h2⟩
        simp only [exec, hq]
        exact hN2 n hn
    · exact h.elim
  | block id a ih =>
    intro bid fr st K h
    rw [WC_block] at h
    obtain ⟨e, fr1, st1, ⟨N, hN⟩, h1⟩ := ih _ _ _ _ h
    cases e with
    | exit id' =>
      simp only at h1
      split at h1
      · rename_i hb
        have := Nat.eq_of_beq_eq_true hb
        subst this
        refine ⟨.normal, fr1, st1, ⟨N, fun n hn => ?_⟩, h1⟩
        simp only [exec, hN n hn, if_true]
      · rename_i hb
        have := Nat.ne_of_beq_eq_false hb
        refine ⟨.exit id', fr1, st1, ⟨N, fun n hn => ?_⟩, h1⟩
        simp only [exec, hN n hn, this, if_false]
    | _ =>
      refine ⟨_, fr1, st1, ⟨N, fun n hn => ?_⟩, h1⟩
      simp only [exec, hN n hn]
  | loop a ih =>
    intro bid fr st K h
    rw [WC_loop] at h
    unfold LoopEx at h
    obtain ⟨⟨e, fr1, st1⟩, ⟨N, hN⟩, h1⟩ := h
    refine ⟨e, fr1, st1, ⟨N, fun n hn => ?_⟩, h1⟩
    simp only [exec]
    exact hN n n hn hn
  | exit id => intro bid fr st K h; exact ⟨.exit id, fr, st, ⟨0, fun _ _ => rfl⟩, h⟩
  | scope a ih =>
    intro bid fr st K h
    rw [WC_scope] at h
    obtain ⟨e, fr1, st1, ⟨N, hN⟩, h1⟩ := ih _ _ _ _ h
    cases e with
    | goto l => exact h1.elim
    | _ =>
      refine ⟨_, fr1, st1, ⟨N, fun n hn => ?_⟩, h1⟩
      simp only [exec, hN n hn]
  | label l => intro bid fr st K h; exact ⟨.normal, fr, st, ⟨0, fun _ _ => rfl⟩, h⟩
  | ret => intro bid fr st K h; exact ⟨.ret, fr, st, ⟨0, fun _ _ => rfl⟩, h⟩
  | _ => intro bid fr st K h; exact h.elim

/-- a loop: what is so at each round's beginning is told by a number of things, one of which falls -/
theorem w_loop {fi : FI} {c : Code} {bid : Nat} {K : Ex → List AV → St → Prop} {α : Type} (F : α → List AV) (S : α → St) (m : α → Nat)
    (step : ∀ a, WC T E R fi c bid (F a) (S a) fun e fr st => match e with
      | .normal => ∃ a', m a' < m a ∧ clear fr (fi.clr bid) = F a' ∧ st = S a'
      | e => K e fr st) :
    ∀ (k : Nat) (a : α) (fr : List AV) (st : St), m a < k → clear fr (fi.clr bid) = F a → st = S a → WC T E R fi (.loop c) bid fr st K := by
  intro k
  induction k with
  | zero => intro a fr st h; omega
  | succ k ih =>
    intro a fr st hk hF hS
    subst hS
    obtain ⟨e, fr1, st1, ⟨N, hN⟩, h1⟩ := w_sound _ _ _ _ _ (step a)
    rw [WC_loop]
    unfold LoopEx
    cases e with
    | normal =>
      obtain ⟨a', h2, h3, h4⟩ := h1
      have := ih a' fr1 st1 (by omega) h3 h4
      rw [WC_loop] at this
      unfold LoopEx at this
      obtain ⟨r, ⟨N2, hN2⟩, hK⟩ := this
      refine ⟨r, ⟨max N N2 + 1, fun n q hn hq => ?_⟩, hK⟩
      match q, hq with
      | q + 1, hq =>
        simp only [loopN, hF, hN n (by omega)]
        exact hN2 n q (by omega) (by omega)
    | exit id =>
      refine ⟨(.exit id, fr1, st1), ⟨N + 1, fun n q hn hq => ?_⟩, h1⟩
      match q, hq with
      | q + 1, hq =>
        simp only [loopN, hF, hN n (by omega)]
    | goto l =>
      refine ⟨(.goto l, fr1, st1), ⟨N + 1, fun n q hn hq => ?_⟩, h1⟩
      match q, hq with
      | q + 1, hq =>
        simp only [loopN, hF, hN n (by omega)]
    | ret =>
      refine ⟨(.ret, fr1, st1), ⟨N + 1, fun n q hn hq => ?_⟩, h1⟩
      match q, hq with
      | q + 1, hq =>
        simp only [loopN, hF, hN n (by omega)]

theorem w_rounds {fi : FI} {c : Code} {bid : Nat} {fr : List AV} {st : St} {K : Ex → List AV → St → Prop} {α : Type} (F : α → List AV) (S : α → St) (m : α → Nat) (a : α) (hF : clear fr (fi.clr bid) = F a) (hS : st = S a)
    (step : ∀ a, WC T E R fi c bid (F a) (S a) fun e fr st => match e with
      | .normal => ∃ a', m a' < m a ∧ clear fr (fi.clr bid) = F a' ∧ st = S a'
      | e => K e fr st) : LoopEx T E R fi c bid fr st K :=
  w_loop F S m step (m a + 1) a fr st (Nat.lt_succ_self _) hF hS

/-- a frame by what is in it -/
def mkF (n : Nat) (l : List (Nat × AV)) : List AV := l.foldl (fun fr x => fr.set x.1 x.2) (List.replicate n .undef)

/-- a frame with some slots written anew -/
def updF (fr : List AV) : List (Nat × AV) → List AV
  | [] => fr
  | (d, v) :: l => updF (fr.set d v) l

def memN (i : Nat) : List Nat → Bool
  | [] => false
  | d :: l => match Nat.beq i d with
    | true => true
    | false => memN i l

def clearZ : Nat → List Nat → List AV → List AV
  | _, _, [] => []
  | i, cl, x :: l => (match memN i cl with | true => .undef | false => x) :: clearZ (i + 1) cl l

def clearF : Nat → List Nat → List AV → (List AV → Prop) → Prop
  | _, _, [], K => K []
  | i, cl, x :: l, K => match memN i cl with
    | true => clearF (i + 1) cl l fun l => K (.undef :: l)
    | false => clearF (i + 1) cl l fun l => K (x :: l)

def updK (fr : List AV) : List (Nat × AV) → (List AV → Prop) → Prop
  | [], K => K fr
  | (d, v) :: l, K => setK fr d v fun fr => updK fr l K

theorem clearF_eq (cl : List Nat) : ∀ (l : List AV) (i : Nat) (K : List AV → Prop), clearF i cl l K = K (clearZ i cl l)
  | [], i, K => rfl
  | x :: l, i, K => by
    unfold clearF clearZ
    cases memN i cl <;> simp [clearF_eq cl l]

theorem updK_eq : ∀ (U : List (Nat × AV)) (fr : List AV) (K : List AV → Prop), updK fr U K = K (updF fr U)
  | [], fr, K => rfl
  | (d, v) :: U, fr, K => by simp [updK, updF, setK_eq, updK_eq U]

theorem memN_iff (i : Nat) : ∀ l : List Nat, memN i l = true ↔ i ∈ l
  | [] => by simp [memN]
  | d :: l => by
    unfold memN
    cases h : Nat.beq i d with
    | true => simp [Nat.eq_of_beq_eq_true h]
    | false =>
      have := Nat.ne_of_beq_eq_false h
      simp [memN_iff i l, this]

theorem clear_get : ∀ (cl : List Nat) (fr : List AV) (j : Nat), (clear fr cl)[j]? = (fr[j]?).map fun x => if j ∈ cl then .undef else x
  | [], fr, j => by simp [clear]
  | d :: cl, fr, j => by
    simp only [clear, clear_get cl]
    by_cases hd : d = j
    · subst hd
      cases hf : fr[d]? with
      | none =>
        have : (fr.set d .undef)[d]? = none := by
          rw [List.getElem?_eq_none_iff] at hf ⊢
          simpa using hf
        simp [this]
      | some x =>
        have : (fr.set d .undef)[d]? = some .undef := List.getElem?_set_self (lt_of_get hf)
        simp [this]
    · rw [List.getElem?_set_ne hd]
      simp [Ne.symm hd]

theorem clearZ_get (cl : List Nat) : ∀ (fr : List AV) (i j : Nat), (clearZ i cl fr)[j]? = (fr[j]?).map fun x => if i + j ∈ cl then .undef else x
  | [], i, j => by simp [clearZ]
  | x :: fr, i, 0 => by
    simp only [clearZ, List.getElem?_cons_zero, Option.map_some, Nat.add_zero]
    cases h : memN i cl with
    | true => simp [(memN_iff i cl).1 h]
    | false =>
      have : i ∉ cl := fun hm => by rw [(memN_iff i cl).2 hm] at h; cases h
      simp [this]
  | x :: fr, i, j + 1 => by
    simp only [clearZ, List.getElem?_cons_succ, clearZ_get cl fr (i + 1) j]
    have : i + 1 + j = i + (j + 1) := by omega
    rw [this]

theorem clear_eq (cl : List Nat) (fr : List AV) : clear fr cl = clearZ 0 cl fr := by
  apply List.ext_getElem?
  intro j
  rw [clear_get, clearZ_get]
  simp

/-- a loop that turns but some slots -/
theorem w_upd {fi : FI} {c : Code} {bid : Nat} {fr : List AV} {st : St} {K : Ex → List AV → St → Prop} {α : Type} (U : α → List (Nat × AV)) (S : α → St) (m : α → Nat) (a : α) (hF : clear fr (fi.clr bid) = updF (clear fr (fi.clr bid)) (U a)) (hS : st = S a)
    (step : ∀ a, clearF 0 (fi.clr bid) fr fun fr1 => updK fr1 (U a) fun fr1 => WC T E R fi c bid fr1 (S a) fun e fr' st' => match e with
      | .normal => ∃ a', m a' < m a ∧ clear fr' (fi.clr bid) = updF (clear fr (fi.clr bid)) (U a') ∧ st' = S a'
      | e => K e fr' st') : LoopEx T E R fi c bid fr st K :=
  w_rounds (fun a => updF (clear fr (fi.clr bid)) (U a)) S m a hF hS (fun a => by
    have := step a
    rw [clearF_eq, updK_eq, ← clear_eq] at this
    exact this)

/-- a call of a function that is pure, by closed values -/
theorem callsTo_pure {f : Nat} {fi : FI} {args : List AV} {st : St} {v : AV} (hE : E f = some fi) (hp : fi.pure = true) (hc : args.all AV.closed = true)
    (h : WC T E R fi fi.body 0 (args ++ List.replicate (fi.ntmps - args.length) .undef) ⟨[], 0⟩ fun e fr st1 => (e = .ret ∨ e = .normal) ∧ ∃ vs, resultsOf T fr st1.objs fi.results = some vs ∧ frz st1.objs 0 12 (one vs) = some v) :
    CallsTo T E R f args st (v, st) := by
  obtain ⟨e, fr, st1, ⟨N, hN⟩, he, vs, h1, h2⟩ := w_sound _ _ _ _ _ h
  refine ⟨N + 1, fun n hn => ?_⟩
  match n, hn with
  | n + 1, hn =>
    unfold run
    simp only [hE, hp, hc, Bool.and_self, if_true, hN n (by omega), h1, h2]
    rw [if_pos he]

/-- a call of a function that is not pure -/
theorem callsTo_other {f : Nat} {fi : FI} {args : List AV} {st st1 : St} {v : AV} (hE : E f = some fi) (hp : fi.pure = false)
    (h : WC T E R fi fi.body 0 (args ++ List.replicate (fi.ntmps - args.length) .undef) st fun e fr st2 => (e = .ret ∨ e = .normal) ∧ st2 = st1 ∧ ∃ vs, resultsOf T fr st2.objs fi.results = some vs ∧ one vs = v) :
    CallsTo T E R f args st (v, st1) := by
  obtain ⟨e, fr, st2, ⟨N, hN⟩, he, rfl, vs, h1, h2⟩ := w_sound _ _ _ _ _ h
  refine ⟨N + 1, fun n hn => ?_⟩
  match n, hn with
  | n + 1, hn =>
    unfold run
    simp only [hE, hp, Bool.false_and, Bool.false_eq_true, if_false, hN n (by omega), h1]
    rw [if_pos he, h2]

/-- what a table knows -/
theorem callsTo_row {N f : Nat} {args : List AV} {v : AV} (h : ∀ st, ∀ n, N ≤ n → run T E R n f args st = some (v, st)) (st : St) : CallsTo T E R f args st (v, st) := ⟨N, h st⟩

end
end Go.Proofs.YtgkalmmlgkaabaaGreat.Am
