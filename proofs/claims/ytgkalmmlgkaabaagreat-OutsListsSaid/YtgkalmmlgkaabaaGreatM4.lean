/-
  The abstract machine once more, so that a kernel runs it quickly: what can be told ahead is told ahead (closures), slots lie in a tree. Conditions: none. The quick machine: regions, code, calls; what it answers the abstract machine answers. Conditions: none. The quick machine with a table of results that are proved. Conditions: none.
-/
import Derived.Test.YtgkalmmlgkaabaaGreatM3
namespace Go.Proofs.YtgkalmmlgkaabaaGreat.Am

inductive Pt where
  | here
  | l (p : Pt)
  | r (p : Pt)

def Pt.of : Nat → Nat → Pt
  | 0, _ => .here
  | n + 1, k => bif Nat.beq k 0 then .here else (bif Nat.beq (Nat.mod k 2) 1 then .l (Pt.of n (Nat.div k 2)) else .r (Pt.of n (Nat.sub (Nat.div k 2) 1)))

def path (k : Nat) : Pt := Pt.of (Nat.succ k) k

theorem pt_succ (n k : Nat) : Pt.of (n + 1) k = bif Nat.beq k 0 then .here else (bif Nat.beq (Nat.mod k 2) 1 then .l (Pt.of n (Nat.div k 2)) else .r (Pt.of n (Nat.sub (Nat.div k 2) 1))) := rfl

theorem pt_inj : ∀ (n m k j : Nat), k < n → j < m → Pt.of n k = Pt.of m j → k = j
  | 0, _, _, _, h, _, _ => by omega
  | _ + 1, 0, _, _, _, h, _ => by omega
  | n + 1, m + 1, k, j, hk, hj, h => by
    have cases : ∀ n k, Pt.of (n + 1) k = if k = 0 then .here else if k % 2 = 1 then .l (Pt.of n (k / 2)) else .r (Pt.of n (k / 2 - 1)) := by
      intro n k
      rw [pt_succ]
      have e1 : Nat.beq k 0 = decide (k = 0) := by cases k <;> rfl
      have e2 : Nat.beq (Nat.mod k 2) 1 = decide (k % 2 = 1) := by
        have : k.mod 2 = k % 2 := rfl
        rw [this]
        cases hb : Nat.beq (k % 2) 1 with
        | true => have := Nat.eq_of_beq_eq_true hb; simp [this]
        | false => have := Nat.ne_of_beq_eq_false hb; simp [this]
      rw [e1, e2]
      by_cases h0 : k = 0
      · simp [h0]
      · by_cases h1 : k % 2 = 1
        · simp only [h0, h1, decide_false, decide_true, cond_false, cond_true, if_false, if_true]; rfl
        · simp only [h0, h1, decide_false, cond_false, if_false]; rfl
    rw [cases, cases] at h
    by_cases k0 : k = 0
    · by_cases j0 : j = 0
      · omega
      · rw [if_pos k0, if_neg j0] at h
        split at h <;> cases h
    · by_cases j0 : j = 0
      · rw [if_neg k0, if_pos j0] at h
        split at h <;> cases h
      · rw [if_neg k0, if_neg j0] at h
        by_cases k1 : k % 2 = 1
        · by_cases j1 : j % 2 = 1
          · rw [if_pos k1, if_pos j1] at h
            injection h with h
            have := pt_inj n m _ _ (by omega) (by omega) h
            omega
          · rw [if_pos k1, if_neg j1] at h; cases h
        · by_cases j1 : j % 2 = 1
          · rw [if_neg k1, if_pos j1] at h; cases h
          · rw [if_neg k1, if_neg j1] at h
            injection h with h
            have := pt_inj n m _ _ (by omega) (by omega) h
            omega

theorem path_inj {k j : Nat} (h : path k = path j) : k = j := pt_inj _ _ _ _ (Nat.lt_succ_self k) (Nat.lt_succ_self j) h

inductive Fr where
  | e
  | n (l : Fr) (v : AV) (r : Fr)

def Fr.get : Fr → Pt → AV
  | .e, _ => .undef
  | .n _ v _, .here => v
  | .n l _ _, .l p => l.get p
  | .n _ _ r, .r p => r.get p

def Fr.set (v : AV) : Pt → Fr → Fr
  | .here, .e => .n .e v .e
  | .here, .n l _ r => .n l v r
  | .l p, .e => .n (Fr.set v p .e) .undef .e
  | .l p, .n l u r => .n (Fr.set v p l) u r
  | .r p, .e => .n .e .undef (Fr.set v p .e)
  | .r p, .n l u r => .n l u (Fr.set v p r)

theorem Fr.get_set (v : AV) : ∀ (p : Pt) (fr : Fr), (Fr.set v p fr).get p = v
  | .here, .e => rfl
  | .here, .n _ _ _ => rfl
  | .l p, .e => Fr.get_set v p .e
  | .l p, .n l _ _ => Fr.get_set v p l
  | .r p, .e => Fr.get_set v p .e
  | .r p, .n _ _ r => Fr.get_set v p r

theorem Fr.get_e (p : Pt) : Fr.e.get p = .undef := by cases p <;> rfl

theorem Fr.get_set_ne (v : AV) : ∀ (p q : Pt) (fr : Fr), p ≠ q → (Fr.set v p fr).get q = fr.get q
  | .here, .here, _, h => absurd rfl h
  | .here, .l q, .e, _ => by simp [Fr.set, Fr.get, Fr.get_e]
  | .here, .r q, .e, _ => by simp [Fr.set, Fr.get, Fr.get_e]
  | .here, .l q, .n _ _ _, _ => rfl
  | .here, .r q, .n _ _ _, _ => rfl
  | .l p, .here, .e, _ => rfl
  | .l p, .here, .n _ _ _, _ => rfl
  | .l p, .r q, .e, _ => by simp [Fr.set, Fr.get, Fr.get_e]
  | .l p, .r q, .n _ _ _, _ => rfl
  | .l p, .l q, .e, h => by
    have := Fr.get_set_ne v p q .e (fun e => h (by rw [e]))
    simp only [Fr.set, Fr.get, this]
  | .l p, .l q, .n l _ _, h => Fr.get_set_ne v p q l (fun e => h (by rw [e]))
  | .r p, .here, .e, _ => rfl
  | .r p, .here, .n _ _ _, _ => rfl
  | .r p, .l q, .e, _ => by simp [Fr.set, Fr.get, Fr.get_e]
  | .r p, .l q, .n _ _ _, _ => rfl
  | .r p, .r q, .e, h => by
    have := Fr.get_set_ne v p q .e (fun e => h (by rw [e]))
    simp only [Fr.set, Fr.get, this]
  | .r p, .r q, .n _ _ r, h => Fr.get_set_ne v p q r (fun e => h (by rw [e]))

inductive Od where
  | slot (p : Pt)
  | cst (v : AV)

def cOd : Operand → Od
  | .tmp t => .slot (path t)
  | .const v => .cst (ofV v)
  | .global _ => .cst .undef
  | .func f => .cst (.fn f [] [])

def ev (fr : Fr) : Od → AV
  | .slot p => fr.get p
  | .cst v => v

def ρ3 (fr : Fr) (x : Operand) : AV := ev fr (cOd x)

/-- how a tree of slots stands to a row of slots -/
def Fit (nt : Nat) (fr : List AV) (f : Fr) : Prop := nt ≤ fr.length ∧ ∀ t, f.get (path t) = fr.getD t .undef

theorem Fit.eval {nt : Nat} {fr : List AV} {f : Fr} (h : Fit nt fr f) : ρ3 f = eval fr := by
  funext x
  cases x with
  | tmp t => exact h.2 t
  | _ => rfl

theorem Fit.set {nt : Nat} {fr : List AV} {f : Fr} (h : Fit nt fr f) {d : Nat} (hd : d < nt) (v : AV) : Fit nt (fr.set d v) (Fr.set v (path d) f) := by
  refine ⟨by simp [h.1], fun t => ?_⟩
  by_cases ht : d = t
  · subst ht
    rw [Fr.get_set]
    have : d < fr.length := Nat.lt_of_lt_of_le hd h.1
    simp [List.getD, this]
  · rw [Fr.get_set_ne _ _ _ _ (fun e => ht (path_inj e)), h.2]
    simp [List.getD, List.getElem?_set_ne ht]

inductive W (α : Type) where
  | mk (a : α)

abbrev PC := W (Fr → Option AV)
abbrev SC := W (Runs → Fr → St → Option (AV × St))
abbrev OC := W (Runs → Fr → St → Option (Fr × St))

/-- what an operator does with numbers -/
def cInt (op : BinOp) : W (IntKind → Int → Int → Option AV) :=
  match op with
  | .add => .mk fun k a b => some (.int k (k.wrap (a + b)))
  | .sub => .mk fun k a b => some (.int k (k.wrap (a - b)))
  | .eql => .mk fun _ a b => some (.bool (a == b))
  | .neq => .mk fun _ a b => some (.bool (a != b))
  | .lss => .mk fun _ a b => some (.bool (decide (a < b)))
  | .leq => .mk fun _ a b => some (.bool (decide (a ≤ b)))
  | .gtr => .mk fun _ a b => some (.bool (decide (a > b)))
  | .geq => .mk fun _ a b => some (.bool (decide (a ≥ b)))
  | .shl => .mk fun k a b => if 0 ≤ b then some (.int k (k.wrap (a * 2 ^ (min b.toNat k.bits)))) else none
  | .shr => .mk fun k a b => if 0 ≤ b then some (.int k (a.fdiv (2 ^ (min b.toNat k.bits)))) else none
  | op => .mk (intOp op)

def shifts : BinOp → Bool
  | .shl | .shr => true
  | _ => false

def sameK : IntKind → IntKind → Bool := fun a b => decide (a = b)

def cBin (T : TE) (op : BinOp) (xt : Nat) (c : Bool) : W (AV → AV → Option AV) :=
  match shifts op with
  | true => .mk (binOp T op xt c)
  | false => match cInt op with
    | .mk g => .mk fun x y => match x with
      | .int k a => match y with
        | .int k' b => match sameK k k' with
          | true => g k a b
          | false => none
        | y => binOp T op xt c (.int k a) y
      | x => binOp T op xt c x y

theorem cBin_ok (T : TE) (op : BinOp) (xt : Nat) (c : Bool) : ∃ g, cBin T op xt c = .mk g ∧ ∀ x y, g x y = binOp T op xt c x y := by
  unfold cBin
  cases hs : shifts op with
  | true => exact ⟨_, rfl, fun _ _ => rfl⟩
  | false =>
    cases hi : cInt op with
    | mk g =>
      refine ⟨_, rfl, fun x y => ?_⟩
      cases x <;> try rfl
      rename_i k a
      cases y <;> try rfl
      rename_i k' b
      simp only [sameK]
      by_cases hk : k = k'
      · subst hk
        cases op <;> simp [shifts] at hs <;> simp only [cInt, W.mk.injEq] at hi <;> subst hi <;> simp [binOp, intOp]
      · have : decide (k = k') = false := by simp [hk]
        simp only [this]
        cases op <;> simp [shifts] at hs <;> simp [binOp, hk]

def cField (T : TE) (t i : Nat) : W (AV → Option AV) :=
  match T t with
  | none => .mk fun _ => none
  | some ti => match ti.k with
    | .struct fs => match fs[i]? with
      | some (off, size, ag) => .mk fun x => match x with
        | .agg cs => part cs off size ag
        | _ => none
      | none => .mk fun _ => none
    | _ => .mk fun _ => none

theorem cField_ok (T : TE) (t i : Nat) : ∃ g, cField T t i = .mk g ∧ ∀ x, g x = field T t x i := by
  unfold cField
  cases ht : T t with
  | none => exact ⟨_, rfl, fun x => by simp [field, ht]⟩
  | some ti =>
    cases hk : ti.k with
    | struct fs =>
      cases hf : fs[i]? with
      | none => exact ⟨_, rfl, fun x => by simp [field, ht, hk, hf]⟩
      | some q =>
        obtain ⟨off, size, ag⟩ := q
        exact ⟨_, rfl, fun x => by simp only [field, ht, hk, hf]; cases x <;> rfl⟩
    | _ => exact ⟨_, rfl, fun x => by simp [field, ht, hk]⟩

def cFieldAddr (T : TE) (t i : Nat) : W (AV → Option AV) :=
  match T t with
  | none => .mk fun _ => none
  | some ti => match ti.k with
    | .struct fs => match fs[i]? with
      | some (off, size, _) => match Nat.blt 0 size with
        | true => .mk fun x => match x with
          | .ptr r o g => some (.ptr r (o + off) g)
          | .fptr cs o => some (.fptr cs (o + off))
          | _ => none
        | false => .mk fun _ => none
      | none => .mk fun _ => none
    | _ => .mk fun _ => none

theorem cFieldAddr_ok (T : TE) (t i : Nat) : ∃ g, cFieldAddr T t i = .mk g ∧ ∀ x, g x = fieldAddr T t x i := by
  cases hg : cFieldAddr T t i with
  | mk g =>
    refine ⟨g, rfl, fun x => ?_⟩
    unfold cFieldAddr at hg
    unfold fieldAddr
    cases ht : T t with
    | none => simp only [ht, W.mk.injEq] at hg; subst hg; rfl
    | some ti =>
      simp only [ht] at hg ⊢
      cases hk : ti.k with
      | struct fs =>
        simp only [hk] at hg ⊢
        cases hf : fs[i]? with
        | none => simp only [hf, W.mk.injEq] at hg; subst hg; rfl
        | some q =>
          obtain ⟨off, size, ag⟩ := q
          simp only [hf] at hg ⊢
          by_cases hs : 0 < size
          · have hb : Nat.blt 0 size = true := by simpa using hs
            simp only [hb, W.mk.injEq] at hg
            subst hg
            simp only [hs, if_true]
            cases x <;> rfl
          · have hb : Nat.blt 0 size = false := by
              cases h : Nat.blt 0 size with
              | false => rfl
              | true => exact absurd (by simpa using h) hs
            simp only [hb, W.mk.injEq] at hg
            subst hg
            simp only [hs, if_false]
      | _ => simp only [hk, W.mk.injEq] at hg ⊢; subst hg; rfl

/-- pure operations -/
def cPure (T : TE) (op : Op) : PC :=
  match op with
  | .move x | .assign x => match cOd x with
    | .slot p => .mk fun f => some (f.get p)
    | .cst v => .mk fun _ => some v
  | .pick c a b => .mk fun f => match ρ3 f c with
    | .bool true => some (ρ3 f a)
    | .bool false => some (ρ3 f b)
    | _ => none
  | .nilCheck x => .mk fun f => nilCheck (ρ3 f x)
  | .binOp op xt x y _ => match cBin T op xt (isConst x || isConst y) with
    | .mk g => .mk fun f => g (ρ3 f x) (ρ3 f y)
  | .field t x i => match cField T t i with
    | .mk g => .mk fun f => g (ρ3 f x)
  | .fieldAddr t x i => match cFieldAddr T t i with
    | .mk g => .mk fun f => g (ρ3 f x)
  | .index t x i => .mk fun f => index T t (ρ3 f x) (ρ3 f i)
  | .indexAddr t x i => .mk fun f => indexAddr T t (ρ3 f x) (ρ3 f i)
  | .slice t x lo hi mx => .mk fun f => slice T t (ρ3 f x) (lo.map (ρ3 f)) (hi.map (ρ3 f)) (mx.map (ρ3 f))
  | op => .mk fun f => pureOp T (ρ3 f) op

theorem cPure_ok (T : TE) (op : Op) : ∃ g, cPure T op = .mk g ∧ ∀ f, g f = pureOp T (ρ3 f) op := by
  unfold cPure
  split
  · rename_i x
    cases h : cOd x with
    | slot p => exact ⟨_, rfl, fun f => by simp [pureOp, ρ3, h, ev]⟩
    | cst v => exact ⟨_, rfl, fun f => by simp [pureOp, ρ3, h, ev]⟩
  · rename_i x
    cases h : cOd x with
    | slot p => exact ⟨_, rfl, fun f => by simp [pureOp, ρ3, h, ev]⟩
    | cst v => exact ⟨_, rfl, fun f => by simp [pureOp, ρ3, h, ev]⟩
  · rename_i c a b
    refine ⟨_, rfl, fun f => ?_⟩
    simp only [pureOp]
    cases ρ3 f c <;> try rfl
    rename_i b
    cases b <;> rfl
  · exact ⟨_, rfl, fun f => rfl⟩
  · rename_i op xt x y _
    obtain ⟨g, h1, h2⟩ := cBin_ok T op xt (isConst x || isConst y)
    rw [h1]
    exact ⟨_, rfl, fun f => h2 _ _⟩
  · rename_i t x i
    obtain ⟨g, h1, h2⟩ := cField_ok T t i
    rw [h1]
    exact ⟨_, rfl, fun f => h2 _⟩
  · rename_i t x i
    obtain ⟨g, h1, h2⟩ := cFieldAddr_ok T t i
    rw [h1]
    exact ⟨_, rfl, fun f => h2 _⟩
  · exact ⟨_, rfl, fun f => rfl⟩
  · exact ⟨_, rfl, fun f => rfl⟩
  · exact ⟨_, rfl, fun f => rfl⟩
  · exact ⟨_, rfl, fun _ => rfl⟩

def stepR (T : TE) (E : PE) (run : Runs) (draw : Bool) (ρ : Operand → AV) (o : Oper) (st : St) : Option (AV × St) :=
  match cls E o.op with
  | .p => match pureOp T ρ o.op with
    | some v => some (v, st)
    | none => if draw then none else (lateOp T ρ st.objs o.op).map fun v => (v, st)
  | .r => (readOp T ρ st.objs o.op).map fun v => (v, st)
  | .a => (allocOp T ρ o.op).map fun x => (x.2 st.objs.length, { st with objs := st.objs ++ [x.1] })
  | .k => match o.op with
    | .call c => callOp E run draw ρ c st
    | _ => none
  | .w => match o.op with
    | .call { callee := .value f, args, argTypes } => callOp E run false ρ { callee := .value f, args, argTypes } st
    | .call { callee := .invoke r m, args, argTypes := _ } => invokeOp T run ρ r m args st
    | op => writeOp T ρ st op

theorem stepR_eq (T : TE) (E : PE) (run : Runs) (draw : Bool) (fr : List AV) (o : Oper) (st : St) : stepOp T E run draw fr o st = stepR T E run draw (eval fr) o st := rfl

def argsOf (f : Fr) : List Operand → List AV
  | [] => []
  | x :: l => ρ3 f x :: argsOf f l

theorem argsOf_eq (f : Fr) : ∀ l, argsOf f l = l.map (ρ3 f)
  | [] => rfl
  | x :: l => by simp [argsOf, argsOf_eq f l]

def calleeOf (draw : Bool) (E : PE) : Operand → Option Nat
  | .func f => bif draw && !((E f).any (·.pure)) then none else some f
  | _ => none

def cStep (T : TE) (E : PE) (draw : Bool) (o : Oper) : SC :=
  match cls E o.op with
  | .p => match cPure T o.op with
    | .mk g => .mk fun _ f st => match g f with
      | some v => some (v, st)
      | none => if draw then none else (lateOp T (ρ3 f) st.objs o.op).map fun v => (v, st)
  | .r => match o.op with
    | .load t a => .mk fun _ f st => match load T st.objs t (ρ3 f a) with
      | some v => some (v, st)
      | none => none
    | op => .mk fun _ f st => (readOp T (ρ3 f) st.objs op).map fun v => (v, st)
  | .k => match o.op with
    | .call c => match c.callee with
      | .value x => match calleeOf draw E x with
        | some g => .mk fun run f st => run g (argsOf f c.args.toList) st
        | none => .mk fun run f st => callOp E run draw (ρ3 f) c st
      | _ => .mk fun _ _ _ => none
    | _ => .mk fun _ _ _ => none
  | .w => match o.op with
    | .store t a v => .mk fun _ f st => match store T st t (ρ3 f a) (ρ3 f v) with
      | some st => some (.undef, st)
      | none => none
    | .call { callee := .value x, args, argTypes } => match calleeOf false E x with
      | some g => .mk fun run f st => run g (argsOf f args.toList) st
      | none => .mk fun run f st => callOp E run false (ρ3 f) { callee := .value x, args, argTypes } st
    | .call { callee := .invoke r m, args, argTypes := _ } => .mk fun run f st => invokeOp T run (ρ3 f) r m args st
    | op => .mk fun _ f st => writeOp T (ρ3 f) st op
  | .a => .mk fun _ f st => (allocOp T (ρ3 f) o.op).map fun x => (x.2 st.objs.length, { st with objs := st.objs ++ [x.1] })

theorem callee_ok {E : PE} {draw : Bool} {x : Operand} {g : Nat} (h : calleeOf draw E x = some g) (run : Runs) (f : Fr) (args : Array Operand) (ats : Array TypeId) (st : St) :
    run g (argsOf f args.toList) st = callOp E run draw (ρ3 f) { callee := .value x, args := args, argTypes := ats } st := by
  unfold calleeOf at h
  split at h
  · rename_i q
    cases hb : (draw && !((E q).any (·.pure))) with
    | true => rw [hb] at h; cases h
    | false =>
      rw [hb] at h
      simp only [cond_false, Option.some.injEq] at h
      subst h
      simp only [callOp]
      have : ρ3 f (.func q) = .fn q [] [] := rfl
      rw [this]
      simp only [hb, argsOf_eq]
      simp
  · cases h

theorem cStep_ok (T : TE) (E : PE) (draw : Bool) (o : Oper) : ∃ g, cStep T E draw o = .mk g ∧ ∀ run f st, g run f st = stepR T E run draw (ρ3 f) o st := by
  unfold cStep
  split
  · rename_i hc
    obtain ⟨g, h1, h2⟩ := cPure_ok T o.op
    rw [h1]
    refine ⟨_, rfl, fun run f st => ?_⟩
    unfold stepR
    simp only [hc, h2]
  · rename_i hc
    split
    · rename_i t a ho
      refine ⟨_, rfl, fun run f st => ?_⟩
      unfold stepR
      rw [ho] at hc
      simp only [ho, hc, readOp]
      cases load T st.objs t (ρ3 f a) <;> rfl
    · refine ⟨_, rfl, fun run f st => ?_⟩
      unfold stepR
      simp only [hc]
  · rename_i hc
    split
    · rename_i c ho
      obtain ⟨callee, args, ats⟩ := c
      rw [ho] at hc
      cases callee with
      | value x =>
        simp only
        cases hx : calleeOf draw E x with
        | none => exact ⟨_, rfl, fun run f st => by unfold stepR; simp only [ho, hc]⟩
        | some g => exact ⟨_, rfl, fun run f st => by unfold stepR; simp only [ho, hc]; exact callee_ok hx run f args ats st⟩
      | _ => exact ⟨_, rfl, fun run f st => by unfold stepR; simp only [ho, hc, callOp]⟩
    · rename_i hne
      refine ⟨_, rfl, fun run f st => ?_⟩
      unfold stepR
      simp only [hc]
  · rename_i hc
    split
    · rename_i t a v ho
      refine ⟨_, rfl, fun run f st => ?_⟩
      unfold stepR
      rw [ho] at hc
      simp only [ho, hc, writeOp]
      cases store T st t (ρ3 f a) (ρ3 f v) <;> rfl
    · rename_i x args ats ho
      rw [ho] at hc
      cases hx : calleeOf false E x with
      | none => exact ⟨_, rfl, fun run f st => by unfold stepR; simp only [ho, hc]⟩
      | some g => exact ⟨_, rfl, fun run f st => by unfold stepR; simp only [ho, hc]; exact callee_ok hx run f args ats st⟩
    · rename_i r m args ats ho
      rw [ho] at hc
      exact ⟨_, rfl, fun run f st => by unfold stepR; simp only [ho, hc]⟩
    · rename_i hn1 hn2
      refine ⟨_, rfl, fun run f st => ?_⟩
      unfold stepR
      simp only [hc]
  · rename_i hc
    exact ⟨_, rfl, fun run f st => by unfold stepR; simp only [hc]⟩

end Go.Proofs.YtgkalmmlgkaabaaGreat.Am

namespace Go.Proofs.YtgkalmmlgkaabaaGreat.Am

/-! ### operations -/

def guard3 (ops : Array Oper) (j : Nat) (f : Fr) : Option (Option Bool) :=
  match (ops[j]?).bind (·.dst) with
  | some d => match f.get (path d) with
    | .bool b => some (some b)
    | .tuple [] => some none
    | _ => none
  | none => none

def eqW : Option Bool → Bool → Bool
  | some true, true => true
  | some false, false => true
  | _, _ => false

theorem eqW_eq (y : Option Bool) (w : Bool) : eqW y w = decide (y = some w) := by
  cases y with
  | none => cases w <;> simp [eqW]
  | some b => cases b <;> cases w <;> simp [eqW]

def put3 (d : Option Tmp) (v : AV) (f : Fr) : Fr :=
  match d with
  | some d => Fr.set v (path d) f
  | none => f

def dstOk (nt : Nat) (d : Option Tmp) : Bool :=
  match d with
  | some d => Nat.blt d nt
  | none => true

def cOp (T : TE) (E : PE) (draw : Bool) (nt : Nat) (ops : Array Oper) (i : Nat) : OC :=
  match ops[i]? with
  | none => .mk fun _ _ _ => none
  | some o => match dstOk nt o.dst with
    | false => .mk fun _ _ _ => none
    | true => match cStep T E draw o with
      | .mk s => match o.guard with
        | none => match o.dst with
          | none => .mk fun run f st => match s run f st with
            | some (_, st) => some (f, st)
            | none => none
          | some d => .mk fun run f st => match s run f st with
            | some (v, st) => some (Fr.set v (path d) f, st)
            | none => none
        | some (j, want) => .mk fun run f st => match guard3 ops j f with
          | none => none
          | some y => match eqW y want with
            | true => match s run f st with
              | some (v, st) => some (put3 o.dst v f, st)
              | none => none
            | false => some (put3 o.dst (.tuple []) f, st)

def runOC : List OC → Runs → Fr → St → Option (Fr × St)
  | [], _, f, st => some (f, st)
  | .mk g :: l, run, f, st => match g run f st with
    | some (f, st) => runOC l run f st
    | none => none

def reread3 (T : TE) (ops : Array Oper) (f : Fr) (objs : List Obj) (u : Nat) : Bool :=
  match ops[u]? with
  | none => false
  | some o =>
    match (match o.guard with
      | none => some true
      | some (j, want) => match guard3 ops j f with
        | none => none
        | some y => some (decide (y = some want))) with
    | none => false
    | some false => true
    | some true => match readOp T (ρ3 f) objs o.op with
      | none => false
      | some v => match o.dst with
        | none => true
        | some d => AV.beq v (f.get (path d))

def cOpD (T : TE) (E : PE) (nt : Nat) (ops : Array Oper) (rc : List (Nat × List Nat)) (i : Nat) : OC :=
  match cOp T E true nt ops i with
  | .mk g => match rcOf rc i with
    | [] => .mk g
    | us => .mk fun run f st => match g run f st with
      | some (f, st) => if us.all (reread3 T ops f st.objs) then some (f, st) else none
      | none => none

inductive CC where
  | skip
  | ops (l : List OC)
  | opsD (cl : List Pt) (l : List OC)
  | seq (a b : CC)
  | cond (c : Od) (a b : CC)
  | block (id : Nat) (a : CC)
  | loop (cl : List Pt) (a : CC)
  | exit (id : Nat)
  | scope (a : CC)
  | ret
  | bad

def cCode (T : TE) (E : PE) (fi : FI) (nt : Nat) : Code → Nat → CC
  | .skip, _ => .skip
  | .region id ops draw, _ => match draw with
    | true => match (dstsA E ops).all (fun d => Nat.blt d nt) with
      | true => .opsD ((dstsA E ops).map path) ((ordOf fi id ops).map (cOpD T E nt ops (fi.rc id)))
      | false => .bad
    | false => .ops ((List.range ops.size).map (cOp T E false nt ops))
  | .seq a b, bid => .seq (cCode T E fi nt a bid) (cCode T E fi nt b bid)
  | .cond c a b, bid => .cond (cOd c) (cCode T E fi nt a bid) (cCode T E fi nt b bid)
  | .block id a, _ => .block id (cCode T E fi nt a id)
  | .loop a, bid => match (fi.clr bid).all (fun d => Nat.blt d nt) with
    | true => .loop ((fi.clr bid).map path) (cCode T E fi nt a bid)
    | false => .bad
  | .exit id, _ => .exit id
  | .scope a, bid => .scope (cCode T E fi nt a bid)
  | .label _, _ => .skip
  | .ret, _ => .ret
  | _, _ => .bad

def clear3 : List Pt → Fr → Fr
  | [], f => f
  | p :: l, f => clear3 l (Fr.set .undef p f)

abbrev Out3 := Option (Ex × Fr × St)

def loop3 (body : Fr → St → Out3) (cl : List Pt) : Nat → Fr → St → Out3
  | 0, _, _ => none
  | n + 1, f, st => match body (clear3 cl f) st with
    | some (.normal, f, st) => loop3 body cl n f st
    | o => o

def exec3 (run : Runs) (n : Nat) : CC → Fr → St → Out3
  | .skip, f, st => some (.normal, f, st)
  | .ops l, f, st => match runOC l run f st with
    | some (f, st) => some (.normal, f, st)
    | none => none
  | .opsD cl l, f, st => match runOC l run (clear3 cl f) st with
    | some (f, st) => some (.normal, f, st)
    | none => none
  | .seq a b, f, st => match exec3 run n a f st with
    | some (.normal, f, st) => exec3 run n b f st
    | o => o
  | .cond c a b, f, st => match ev f c with
    | .bool true => exec3 run n a f st
    | .bool false => exec3 run n b f st
    | _ => none
  | .block id a, f, st => match exec3 run n a f st with
    | some (.exit id', f, st) => match Nat.beq id' id with
      | true => some (.normal, f, st)
      | false => some (.exit id', f, st)
    | o => o
  | .loop cl a, f, st => loop3 (exec3 run n a) cl n f st
  | .exit id, f, st => some (.exit id, f, st)
  | .scope a, f, st => match exec3 run n a f st with
    | some (.goto _, _, _) => none
    | o => o
  | .ret, f, st => some (.ret, f, st)
  | .bad, _, _ => none

def result3 (T : TE) (f : Fr) (objs : List Obj) : ResultVar → Option AV
  | .tmp t => some (f.get (path t))
  | .cell a t => load T objs t (f.get (path a))

def results3 (T : TE) (f : Fr) (objs : List Obj) : List ResultVar → Option (List AV)
  | [] => some []
  | r :: rs => match result3 T f objs r, results3 T f objs rs with
    | some v, some vs => some (v :: vs)
    | _, _ => none

structure CF where
  body : CC
  results : List ResultVar
  pure : Bool

def cFun (T : TE) (E : PE) (f : Nat) : Option CF :=
  match E f with
  | none => none
  | some fi => some ⟨cCode T E fi fi.ntmps fi.body 0, fi.results, fi.pure⟩

def mkFr : List AV → Nat → Fr → Fr
  | [], _, f => f
  | v :: l, i, f => mkFr l (i + 1) (Fr.set v (path i) f)

def body3 (T : TE) (F : CF) (run : Runs) (n : Nat) (args : List AV) (st : St) : Option (List AV × St) :=
  match exec3 run n F.body (mkFr args 0 .e) st with
  | some (.ret, f, st1) | some (.normal, f, st1) => match results3 T f st1.objs F.results with
    | some vs => some (vs, st1)
    | none => none
  | _ => none

def run3 (T : TE) (E : PE) (R : Runs) : Nat → Nat → List AV → St → Option (AV × St)
  | 0, _, _, _ => none
  | n + 1, f, args, st =>
    match cFun T E f with
    | none => R f args st
    | some F => match F.pure with
      | true => match args.all AV.closed with
        | true => match body3 T F (run3 T E R n) n args ⟨[], 0⟩ with
          | some (vs, st1) => match frz st1.objs 0 12 (one vs) with
            | some v => some (v, st)
            | none => none
          | none => none
        | false => match body3 T F (run3 T E R n) n args { st with floor := st.objs.length } with
          | some (vs, st1) => match frz st1.objs st.objs.length 12 (one vs) with
            | some v => some (v, st)
            | none => none
          | none => none
      | false => match body3 T F (run3 T E R n) n args st with
        | some (vs, st1) => some (one vs, st1)
        | none => none

/-! ### it answers what the abstract machine answers -/

section
variable {T : TE} {E : PE} {R : Runs} {run run' : Runs}

def RunLe (run run' : Runs) : Prop := ∀ f args st r, run f args st = some r → run' f args st = some r

theorem callOp_le (h : RunLe run run') {strict : Bool} {ρ : Operand → AV} {c : Call} {st : St} {r : AV × St} (hr : callOp E run strict ρ c st = some r) : callOp E run' strict ρ c st = some r := by
  unfold callOp at *
  split at hr
  · split at hr
    · split at hr
      · cases hr
      · rename_i hs
        rw [if_neg hs]
        exact h _ _ _ _ hr
    · cases hr
  · cases hr

theorem stepR_le (h : RunLe run run') {draw : Bool} {ρ : Operand → AV} {o : Oper} {st : St} {r : AV × St} (hr : stepR T E run draw ρ o st = some r) : stepR T E run' draw ρ o st = some r := by
  unfold stepR at *
  split at hr
  · exact hr
  · exact hr
  · exact hr
  · split at hr
    · exact callOp_le h hr
    · cases hr
  · split at hr
    · exact callOp_le h hr
    · unfold invokeOp at *
      split at hr
      · split at hr
        · split at hr
          · exact h _ _ _ _ hr
          · cases hr
        · cases hr
      · cases hr
    · exact hr

theorem guard3_eq {nt : Nat} {fr : List AV} {f : Fr} (h : Fit nt fr f) (ops : Array Oper) (j : Nat) : guard3 ops j f = yields ops fr j := by
  unfold guard3 yields
  cases (ops[j]?).bind (·.dst) with
  | none => rfl
  | some d => simp only [h.2 d]; rfl

theorem fit_put {nt : Nat} {fr : List AV} {f : Fr} (h : Fit nt fr f) {d : Option Tmp} (hd : dstOk nt d = true) (v : AV) : Fit nt (put fr d v) (put3 d v f) := by
  cases d with
  | none => exact h
  | some d => exact h.set (by simpa [dstOk] using hd) v

theorem cOp_sim (h : RunLe run run') {draw : Bool} {nt : Nat} {ops : Array Oper} {i : Nat} {fr : List AV} {f f' : Fr} {st st' : St} (hf : Fit nt fr f) {g : Runs → Fr → St → Option (Fr × St)} (hg : cOp T E draw nt ops i = .mk g) (hr : g run f st = some (f', st')) :
    ∃ fr', opAt T E run' draw ops i fr st = some (fr', st') ∧ Fit nt fr' f' := by
  unfold cOp at hg
  cases ho : ops[i]? with
  | none => simp only [ho] at hg; cases hg; cases hr
  | some o =>
    simp only [ho] at hg
    cases hd : dstOk nt o.dst with
    | false => simp only [hd] at hg; cases hg; cases hr
    | true =>
      simp only [hd] at hg
      obtain ⟨s, hs, hs2⟩ := cStep_ok T E draw o
      simp only [hs] at hg
      have step : ∀ v st1, s run f st = some (v, st1) → stepOp T E run' draw fr o st = some (v, st1) := by
        intro v st1 hv
        rw [stepR_eq, ← hf.eval]
        rw [hs2] at hv
        exact stepR_le h hv
      unfold opAt
      simp only [ho]
      cases hgd : o.guard with
      | none =>
        simp only [hgd] at hg
        have hw : wanted o ops fr = some true := by simp [wanted, hgd]
        simp only [hw]
        cases hdd : o.dst with
        | none =>
          simp only [hdd] at hg
          cases hg
          simp only at hr
          split at hr <;> cases hr
          rename_i v st1 hv
          rw [step _ _ hv]
          exact ⟨fr, rfl, hf⟩
        | some d =>
          simp only [hdd] at hg
          cases hg
          simp only at hr
          split at hr <;> cases hr
          rename_i v st1 hv
          rw [step _ _ hv]
          refine ⟨_, rfl, ?_⟩
          rw [hdd] at hd
          exact fit_put hf hd _
      | some jw =>
        obtain ⟨j, want⟩ := jw
        simp only [hgd] at hg
        cases hg
        simp only [eqW_eq] at hr
        rw [guard3_eq hf] at hr
        split at hr
        · cases hr
        · rename_i y hy
          have hw : wanted o ops fr = some (decide (y = some want)) := by
            simp only [wanted, hgd, hy]
            cases y with
            | none => simp
            | some b => cases b <;> cases want <;> rfl
          simp only [hw]
          split at hr
          · rename_i hyd
            split at hr <;> cases hr
            rename_i v st1 hv
            simp only [hyd, step _ _ hv]
            exact ⟨_, rfl, fit_put hf hd _⟩
          · rename_i hyd
            cases hr
            simp only [hyd]
            exact ⟨_, rfl, fit_put hf hd _⟩

theorem runOC_sim (h : RunLe run run') {nt : Nat} {ops : Array Oper} {f' : Fr} {st' : St} : ∀ (l : List Nat) (fr : List AV) (f : Fr) (st : St), Fit nt fr f → runOC (l.map (cOp T E false nt ops)) run f st = some (f', st') →
    ∃ fr', runOps T E run' false ops l fr st = some (fr', st') ∧ Fit nt fr' f'
  | [], fr, f, st, hf, hr => by
    simp only [List.map_nil, runOC, Option.some.injEq, Prod.mk.injEq] at hr
    obtain ⟨rfl, rfl⟩ := hr
    exact ⟨fr, rfl, hf⟩
  | i :: l, fr, f, st, hf, hr => by
    simp only [List.map_cons] at hr
    cases hg : cOp T E false nt ops i with
    | mk g =>
      rw [hg] at hr
      simp only [runOC] at hr
      split at hr <;> try cases hr
      rename_i f1 st1 h1
      obtain ⟨fr1, e1, e2⟩ := cOp_sim h hf hg h1
      obtain ⟨fr', e3, e4⟩ := runOC_sim h l fr1 f1 st1 e2 hr
      exact ⟨fr', by simp only [runOps, e1]; exact e3, e4⟩

theorem reread3_eq {nt : Nat} {fr : List AV} {f : Fr} (h : Fit nt fr f) (ops : Array Oper) (objs : List Obj) (u : Nat) : reread3 T ops f objs u = reread T ops fr objs u := by
  unfold reread3 reread
  cases ho : ops[u]? with
  | none => rfl
  | some o =>
    have hw : (match o.guard with
      | none => some true
      | some (j, want) => match guard3 ops j f with
        | none => none
        | some y => some (decide (y = some want))) = wanted o ops fr := by
      unfold wanted
      cases o.guard with
      | none => rfl
      | some jw =>
        obtain ⟨j, want⟩ := jw
        simp only [guard3_eq h]
        cases yields ops fr j with
        | none => rfl
        | some y =>
          cases y with
          | none => simp
          | some b => cases b <;> cases want <;> rfl
    simp only [hw, h.eval, h.2]
    rfl

theorem runOCD_sim (h : RunLe run run') {nt : Nat} {ops : Array Oper} {rc : List (Nat × List Nat)} {f' : Fr} {st' : St} : ∀ (l : List Nat) (fr : List AV) (f : Fr) (st : St), Fit nt fr f → runOC (l.map (cOpD T E nt ops rc)) run f st = some (f', st') →
    ∃ fr', runD T E run' ops rc l fr st = some (fr', st') ∧ Fit nt fr' f'
  | [], fr, f, st, hf, hr => by
    simp only [List.map_nil, runOC, Option.some.injEq, Prod.mk.injEq] at hr
    obtain ⟨rfl, rfl⟩ := hr
    exact ⟨fr, rfl, hf⟩
  | i :: l, fr, f, st, hf, hr => by
    simp only [List.map_cons] at hr
    cases hg : cOp T E true nt ops i with
    | mk g =>
      unfold cOpD at hr
      simp only [hg] at hr
      have key : ∀ f1 st1, g run f st = some (f1, st1) → (rcOf rc i).all (reread3 T ops f1 st1.objs) = true → runOC (l.map (cOpD T E nt ops rc)) run f1 st1 = some (f', st') → ∃ fr', runD T E run' ops rc (i :: l) fr st = some (fr', st') ∧ Fit nt fr' f' := by
        intro f1 st1 h1 hc hr
        obtain ⟨fr1, e1, e2⟩ := cOp_sim h hf hg h1
        obtain ⟨fr', e3, e4⟩ := runOCD_sim h l fr1 f1 st1 e2 hr
        refine ⟨fr', ?_, e4⟩
        have hc' : (rcOf rc i).all (reread T ops fr1 st1.objs) = true := by
          rw [← hc]; congr 1; funext u; exact (reread3_eq e2 ops st1.objs u).symm
        simp only [runD, e1, hc', if_true]
        exact e3
      cases hrc : rcOf rc i with
      | nil =>
        simp only [hrc, runOC] at hr
        split at hr <;> try cases hr
        rename_i f1 st1 h1
        exact key f1 st1 h1 (by rw [hrc]; rfl) hr
      | cons u us =>
        simp only [hrc, runOC] at hr
        split at hr <;> try cases hr
        rename_i f1 st1 h1
        split at h1 <;> try cases h1
        rename_i f2 st2 h2
        split at h1 <;> try cases h1
        rename_i hc
        exact key _ _ h2 (by rw [hrc]; exact hc) hr

theorem clear_fit {nt : Nat} : ∀ (l : List Nat) {fr : List AV} {f : Fr}, l.all (fun d => Nat.blt d nt) = true → Fit nt fr f → Fit nt (clear fr l) (clear3 (l.map path) f)
  | [], _, _, _, h => h
  | d :: l, fr, f, hl, h => by
    simp only [List.all_cons, Bool.and_eq_true] at hl
    exact clear_fit l hl.2 (h.set (by simpa using hl.1) _)

theorem exec3_sim (h : RunLe run run') {n nt : Nat} {fi : FI} : ∀ (c : Code) (bid : Nat) (fr : List AV) (f : Fr) (st : St) (e : Ex) (f' : Fr) (st' : St), Fit nt fr f → exec3 run n (cCode T E fi nt c bid) f st = some (e, f', st') →
    ∃ fr', exec T E run' n fi c bid fr st = some (e, fr', st') ∧ Fit nt fr' f' := by
  intro c
  induction c with
  | region id ops draw =>
    intro bid fr f st e f' st' hf hr
    cases draw with
    | true =>
      simp only [cCode] at hr
      split at hr
      · rename_i hall
        simp only [exec3] at hr
        split at hr <;> cases hr
        rename_i h1
        obtain ⟨fr', e1, e2⟩ := runOCD_sim h _ _ _ _ (clear_fit _ hall hf) h1
        exact ⟨fr', by simp only [exec, if_true, e1], e2⟩
      · cases hr
    | false =>
      simp only [cCode, exec3] at hr
      split at hr <;> cases hr
      rename_i h1
      obtain ⟨fr', e1, e2⟩ := runOC_sim h _ _ _ _ hf h1
      exact ⟨fr', by simp only [exec, Bool.false_eq_true, if_false, e1], e2⟩
  | seq a b iha ihb =>
    intro bid fr f st e f' st' hf hr
    simp only [cCode, exec3] at hr
    split at hr
    · rename_i f1 st1 h1
      obtain ⟨fr1, e1, e2⟩ := iha bid fr f st _ _ _ hf h1
      obtain ⟨fr', e3, e4⟩ := ihb bid fr1 f1 st1 _ _ _ e2 hr
      exact ⟨fr', by simp only [exec, e1]; exact e3, e4⟩
    · rename_i hne
      obtain ⟨fr', e1, e2⟩ := iha bid fr f st _ _ _ hf hr
      refine ⟨fr', ?_, e2⟩
      simp only [exec, e1]
      cases e with
      | normal => exact absurd hr (hne f' st')
      | _ => rfl
  | cond x a b iha ihb =>
    intro bid fr f st e f' st' hf hr
    simp only [cCode, exec3] at hr
    have hx : ev f (cOd x) = eval fr x := congrFun hf.eval x
    rw [hx] at hr
    split at hr
    · rename_i hv
      obtain ⟨fr', e1, e2⟩ := iha bid fr f st _ _ _ hf hr
      exact ⟨fr', by simp only [exec, hv, e1], e2⟩
    · rename_i hv
      obtain ⟨fr', e1, e2⟩ := ihb bid fr f st _ _ _ hf hr
      exact ⟨fr', by simp only [exec, hv, e1], e2⟩
    · cases hr
  | block id a ih =>
    intro bid fr f st e f' st' hf hr
    simp only [cCode, exec3] at hr
    split at hr
    · rename_i id' f1 st1 h1
      obtain ⟨fr1, e1, e2⟩ := ih id fr f st _ _ _ hf h1
      split at hr
      · rename_i hid
        cases hr
        exact ⟨fr1, by simp only [exec, e1, Nat.eq_of_beq_eq_true hid, if_true], e2⟩
      · rename_i hid
        cases hr
        exact ⟨fr1, by simp only [exec, e1, Nat.ne_of_beq_eq_false hid, if_false], e2⟩
    · rename_i hne
      obtain ⟨fr', e1, e2⟩ := ih id fr f st _ _ _ hf hr
      refine ⟨fr', ?_, e2⟩
      simp only [exec, e1]
      cases e with
      | exit id' => exact absurd hr (hne id' f' st')
      | _ => rfl
  | loop a ih =>
    intro bid fr f st e f' st' hf hr
    simp only [cCode] at hr
    split at hr
    · rename_i hall
      simp only [exec3] at hr
      have key : ∀ (k : Nat) (fr : List AV) (f : Fr) (st : St), Fit nt fr f → loop3 (exec3 run n (cCode T E fi nt a bid)) ((fi.clr bid).map path) k f st = some (e, f', st') → ∃ fr', loopN (exec T E run' n fi a bid) (fi.clr bid) k fr st = some (e, fr', st') ∧ Fit nt fr' f' := by
        intro k
        induction k with
        | zero => intro fr f st _ h; cases h
        | succ k ihk =>
          intro fr f st hf hr
          simp only [loop3] at hr
          split at hr
          · rename_i f1 st1 h1
            obtain ⟨fr1, e1, e2⟩ := ih bid _ _ st _ _ _ (clear_fit _ hall hf) h1
            obtain ⟨fr', e3, e4⟩ := ihk fr1 f1 st1 e2 hr
            exact ⟨fr', by simp only [loopN, e1]; exact e3, e4⟩
          · rename_i hne
            obtain ⟨fr', e1, e2⟩ := ih bid _ _ st _ _ _ (clear_fit _ hall hf) hr
            refine ⟨fr', ?_, e2⟩
            simp only [loopN, e1]
            cases e with
            | normal => exact absurd hr (hne f' st')
            | _ => rfl
      obtain ⟨fr', e1, e2⟩ := key n fr f st hf hr
      exact ⟨fr', by simp only [exec]; exact e1, e2⟩
    · cases hr
  | scope a ih =>
    intro bid fr f st e f' st' hf hr
    simp only [cCode, exec3] at hr
    split at hr
    · cases hr
    · rename_i hne
      obtain ⟨fr', e1, e2⟩ := ih bid fr f st _ _ _ hf hr
      refine ⟨fr', ?_, e2⟩
      simp only [exec, e1]
      cases e with
      | goto l => exact absurd hr (hne l f' st')
      | _ => rfl
  | skip => intro bid fr f st e f' st' hf hr; simp only [cCode, exec3] at hr; cases hr; exact ⟨fr, rfl, hf⟩
  | exit id => intro bid fr f st e f' st' hf hr; simp only [cCode, exec3] at hr; cases hr; exact ⟨fr, rfl, hf⟩
  | label l => intro bid fr f st e f' st' hf hr; simp only [cCode, exec3] at hr; cases hr; exact ⟨fr, rfl, hf⟩
  | ret => intro bid fr f st e f' st' hf hr; simp only [cCode, exec3] at hr; cases hr; exact ⟨fr, rfl, hf⟩
  | _ => intro bid fr f st e f' st' hf hr; simp only [cCode, exec3] at hr; cases hr

theorem mkFr_get : ∀ (l : List AV) (i : Nat) (f : Fr) (t : Nat), (mkFr l i f).get (path t) = if i ≤ t ∧ t < i + l.length then l.getD (t - i) .undef else f.get (path t)
  | [], i, f, t => by
    simp only [mkFr, List.length_nil, Nat.add_zero]
    rw [if_neg (by omega)]
  | v :: l, i, f, t => by
    simp only [mkFr]
    rw [mkFr_get l (i + 1)]
    by_cases h1 : i + 1 ≤ t ∧ t < i + 1 + l.length
    · rw [if_pos h1, if_pos (by simp only [List.length_cons]; omega)]
      have : t - i = (t - (i + 1)) + 1 := by omega
      rw [this]; simp
    · rw [if_neg h1]
      by_cases h2 : t = i
      · subst h2
        rw [Fr.get_set, if_pos (by simp only [List.length_cons]; omega)]
        simp
      · rw [Fr.get_set_ne _ _ _ _ (fun e => h2 (path_inj e).symm), if_neg (by simp only [List.length_cons]; omega)]

theorem mkFr_fit (args : List AV) (nt : Nat) : Fit nt (args ++ List.replicate (nt - args.length) .undef) (mkFr args 0 .e) := by
  refine ⟨by simp; omega, fun t => ?_⟩
  rw [mkFr_get]
  by_cases h : t < args.length
  · rw [if_pos (by omega)]
    simp [List.getD, List.getElem?_append_left h]
  · rw [if_neg (by omega), Fr.get_e]
    simp only [List.getD, List.getElem?_append_right (Nat.le_of_not_lt h), List.getElem?_replicate]
    split <;> rfl

theorem results3_eq {nt : Nat} {fr : List AV} {f : Fr} (h : Fit nt fr f) (objs : List Obj) : ∀ (rs : List ResultVar), results3 T f objs rs = resultsOf T fr objs rs
  | [] => rfl
  | r :: rs => by
    simp only [results3, resultsOf, results3_eq h objs rs]
    have : result3 T f objs r = resultOf T fr objs r := by
      cases r with
      | tmp t => simp only [result3, resultOf, h.2]
      | cell a t => simp only [result3, resultOf, h.2]
    rw [this]
    rfl

theorem body3_sim (h : RunLe run run') {n : Nat} {fi : FI} {args : List AV} {st st' : St} {vs : List AV} (hr : body3 T ⟨cCode T E fi fi.ntmps fi.body 0, fi.results, fi.pure⟩ run n args st = some (vs, st')) :
    ∃ e fr, exec T E run' n fi fi.body 0 (args ++ List.replicate (fi.ntmps - args.length) .undef) st = some (e, fr, st') ∧ (e = .ret ∨ e = .normal) ∧ resultsOf T fr st'.objs fi.results = some vs := by
  unfold body3 at hr
  split at hr
  · rename_i f st1 h1
    obtain ⟨fr', e1, e2⟩ := exec3_sim h _ _ _ _ _ _ _ _ (mkFr_fit args fi.ntmps) h1
    split at hr <;> cases hr
    rename_i hv
    exact ⟨_, fr', e1, .inl rfl, by rw [← results3_eq e2]; exact hv⟩
  · rename_i f st1 h1
    obtain ⟨fr', e1, e2⟩ := exec3_sim h _ _ _ _ _ _ _ _ (mkFr_fit args fi.ntmps) h1
    split at hr <;> cases hr
    rename_i hv
    exact ⟨_, fr', e1, .inr rfl, by rw [← results3_eq e2]; exact hv⟩
  · cases hr

theorem run3_le : ∀ n, RunLe (run3 T E R n) (Am.run T E R n)
  | 0 => by intro f args st r h; cases h
  | n + 1 => by
    intro f args st r h
    have ih := run3_le n
    unfold run3 at h
    unfold cFun at h
    cases hf : E f with
    | none =>
      simp only [hf] at h
      unfold Am.run
      simp only [hf]
      exact h
    | some fi =>
      simp only [hf] at h
      unfold Am.run
      simp only [hf]
      cases hp : fi.pure with
      | true =>
        simp only [hp] at h
        cases hc : args.all AV.closed with
        | true =>
          simp only [hc] at h
          split at h <;> try cases h
          rename_i vs st1 hb
          rw [← hp] at hb
          obtain ⟨e, fr, e1, e2, e3⟩ := body3_sim ih hb
          simp only [Bool.and_self, if_true, e1, e2, e3]
          split at h <;> cases h
          rename_i hz
          simp only [hz]
        | false =>
          simp only [hc] at h
          split at h <;> try cases h
          rename_i vs st1 hb
          rw [← hp] at hb
          obtain ⟨e, fr, e1, e2, e3⟩ := body3_sim ih hb
          simp only [Bool.and_false, Bool.false_eq_true, if_false, if_true, e1, e2, e3]
          split at h <;> cases h
          rename_i hz
          simp only [hz]
      | false =>
        simp only [hp] at h
        split at h <;> cases h
        rename_i hb
        rw [← hp] at hb
        obtain ⟨e, fr, e1, e2, e3⟩ := body3_sim ih hb
        simp only [Bool.false_and, Bool.false_eq_true, if_false, e1, e2, e3, if_true]

end
end Go.Proofs.YtgkalmmlgkaabaaGreat.Am

namespace Go.Proofs.YtgkalmmlgkaabaaGreat.Am

section
variable {T : TE} {E : PE} {R : Runs} {run run' : Runs}

theorem cStep_le (h : RunLe run run') {draw : Bool} {o : Oper} {g : Runs → Fr → St → Option (AV × St)} (hg : cStep T E draw o = .mk g) {f : Fr} {st : St} {r : AV × St} (hr : g run f st = some r) : g run' f st = some r := by
  obtain ⟨g', h1, h2⟩ := cStep_ok T E draw o
  rw [hg] at h1
  cases h1
  rw [h2] at hr ⊢
  exact stepR_le h hr

theorem cOp_le (h : RunLe run run') {draw : Bool} {nt : Nat} {ops : Array Oper} {i : Nat} {g : Runs → Fr → St → Option (Fr × St)} (hg : cOp T E draw nt ops i = .mk g) {f : Fr} {st : St} {r : Fr × St} (hr : g run f st = some r) : g run' f st = some r := by
  unfold cOp at hg
  cases ho : ops[i]? with
  | none => simp only [ho] at hg; cases hg; cases hr
  | some o =>
    simp only [ho] at hg
    cases hd : dstOk nt o.dst with
    | false => simp only [hd] at hg; cases hg; cases hr
    | true =>
      simp only [hd] at hg
      cases hs : cStep T E draw o with
      | mk s =>
        simp only [hs] at hg
        have step := fun v => cStep_le h hs (f := f) (st := st) (r := v)
        cases hgd : o.guard with
        | none =>
          simp only [hgd] at hg
          cases hdd : o.dst with
          | none =>
            simp only [hdd] at hg
            cases hg
            simp only at hr ⊢
            split at hr <;> cases hr
            rename_i hv
            rw [step _ hv]
          | some d =>
            simp only [hdd] at hg
            cases hg
            simp only at hr ⊢
            split at hr <;> cases hr
            rename_i hv
            rw [step _ hv]
        | some jw =>
          obtain ⟨j, want⟩ := jw
          simp only [hgd] at hg
          cases hg
          simp only at hr ⊢
          split at hr
          · cases hr
          · rename_i y hy
            split at hr
            · rename_i hyd
              split at hr <;> cases hr
              rename_i hv
              simp only [step _ hv]
            · exact hr

theorem runOC_le (h : RunLe run run') {nt : Nat} {draw : Bool} {ops : Array Oper} {r : Fr × St} : ∀ (l : List Nat) (f : Fr) (st : St), runOC (l.map (cOp T E draw nt ops)) run f st = some r → runOC (l.map (cOp T E draw nt ops)) run' f st = some r
  | [], f, st, hr => hr
  | i :: l, f, st, hr => by
    simp only [List.map_cons] at hr ⊢
    cases hg : cOp T E draw nt ops i with
    | mk g =>
      rw [hg] at hr
      simp only [runOC] at hr ⊢
      split at hr <;> try cases hr
      rename_i f1 st1 h1
      rw [cOp_le h hg h1]
      exact runOC_le h l f1 st1 hr

theorem runOCD_le (h : RunLe run run') {nt : Nat} {ops : Array Oper} {rc : List (Nat × List Nat)} {r : Fr × St} : ∀ (l : List Nat) (f : Fr) (st : St), runOC (l.map (cOpD T E nt ops rc)) run f st = some r → runOC (l.map (cOpD T E nt ops rc)) run' f st = some r
  | [], f, st, hr => hr
  | i :: l, f, st, hr => by
    simp only [List.map_cons] at hr ⊢
    cases hg : cOp T E true nt ops i with
    | mk g =>
      unfold cOpD at hr ⊢
      simp only [hg] at hr ⊢
      cases hrc : rcOf rc i with
      | nil =>
        simp only [hrc, runOC] at hr ⊢
        split at hr <;> try cases hr
        rename_i f1 st1 h1
        rw [cOp_le h hg h1]
        exact runOCD_le h l f1 st1 hr
      | cons u us =>
        simp only [hrc, runOC] at hr ⊢
        split at hr <;> try cases hr
        rename_i f1 st1 h1
        split at h1 <;> try cases h1
        rename_i f2 st2 h2
        split at h1 <;> cases h1
        rename_i hc
        simp only [cOp_le h hg h2]
        rw [if_pos hc]
        exact runOCD_le h l _ _ hr

theorem loop3_le {b b' : Fr → St → Out3} (hb : ∀ f st r, b f st = some r → b' f st = some r) {cl : List Pt} {r : Ex × Fr × St} : ∀ (n m : Nat), n ≤ m → ∀ (f : Fr) (st : St), loop3 b cl n f st = some r → loop3 b' cl m f st = some r
  | 0, _, _, f, st, h => by cases h
  | n + 1, 0, hm, _, _, _ => by omega
  | n + 1, m + 1, hm, f, st, h => by
    simp only [loop3] at h ⊢
    split at h
    · rename_i f1 st1 h1
      rw [hb _ _ _ h1]
      exact loop3_le hb n m (by omega) f1 st1 h
    · rename_i hne
      rw [hb _ _ _ h]
      obtain ⟨e, f', st'⟩ := r
      cases e with
      | normal => exact absurd h (hne f' st')
      | _ => rfl

theorem exec3_le (h : RunLe run run') {n m nt : Nat} (hm : n ≤ m) {fi : FI} : ∀ (c : Code) (bid : Nat) (f : Fr) (st : St) (r : Ex × Fr × St), exec3 run n (cCode T E fi nt c bid) f st = some r → exec3 run' m (cCode T E fi nt c bid) f st = some r := by
  intro c
  induction c with
  | region id ops draw =>
    intro bid f st r hr
    cases draw with
    | true =>
      simp only [cCode] at hr ⊢
      split at hr
      · rename_i hall
        simp only [exec3] at hr ⊢
        split at hr <;> cases hr
        rename_i h1
        rw [runOCD_le h _ _ _ h1]
      · cases hr
    | false =>
      simp only [cCode, exec3] at hr ⊢
      split at hr <;> cases hr
      rename_i h1
      rw [runOC_le h _ _ _ h1]
  | seq a b iha ihb =>
    intro bid f st r hr
    simp only [cCode, exec3] at hr ⊢
    split at hr
    · rename_i f1 st1 h1
      rw [iha bid f st _ h1]
      exact ihb bid f1 st1 _ hr
    · rename_i hne
      rw [iha bid f st _ hr]
      obtain ⟨e, f', st'⟩ := r
      cases e with
      | normal => exact absurd hr (hne f' st')
      | _ => rfl
  | cond x a b iha ihb =>
    intro bid f st r hr
    simp only [cCode, exec3] at hr ⊢
    split at hr
    · exact iha bid f st _ hr
    · exact ihb bid f st _ hr
    · cases hr
  | block id a ih =>
    intro bid f st r hr
    simp only [cCode, exec3] at hr ⊢
    split at hr
    · rename_i id' f1 st1 h1
      rw [ih id f st _ h1]
      exact hr
    · rename_i hne
      rw [ih id f st _ hr]
      obtain ⟨e, f', st'⟩ := r
      cases e with
      | exit id' => exact absurd hr (hne id' f' st')
      | _ => rfl
  | loop a ih =>
    intro bid f st r hr
    simp only [cCode] at hr ⊢
    split at hr
    · simp only [exec3] at hr ⊢
      exact loop3_le (fun f st r hx => ih bid f st r hx) n m hm f st hr
    · cases hr
  | scope a ih =>
    intro bid f st r hr
    simp only [cCode, exec3] at hr ⊢
    split at hr
    · cases hr
    · rename_i hne
      rw [ih bid f st _ hr]
      obtain ⟨e, f', st'⟩ := r
      cases e with
      | goto l => exact absurd hr (hne l f' st')
      | _ => rfl
  | _ => intro bid f st r hr; exact hr

/-- a call by a way of calling; runM: with a table ahead -/
def call3 (T : TE) (F : CF) (run : Runs) (n : Nat) (args : List AV) (st : St) : Option (AV × St) :=
  match F.pure with
  | true => match args.all AV.closed with
    | true => match body3 T F run n args ⟨[], 0⟩ with
      | some (vs, st1) => match frz st1.objs 0 12 (one vs) with
        | some v => some (v, st)
        | none => none
      | none => none
    | false => match body3 T F run n args { st with floor := st.objs.length } with
      | some (vs, st1) => match frz st1.objs st.objs.length 12 (one vs) with
        | some v => some (v, st)
        | none => none
      | none => none
  | false => match body3 T F run n args st with
    | some (vs, st1) => some (one vs, st1)
    | none => none

theorem run3_succ (n f : Nat) (args : List AV) (st : St) : run3 T E R (n + 1) f args st = match cFun T E f with
    | none => R f args st
    | some F => call3 T F (run3 T E R n) n args st := rfl

theorem body3_le (h : RunLe run run') {n m : Nat} (hm : n ≤ m) {fi : FI} {args : List AV} {st : St} {r : List AV × St} (hr : body3 T ⟨cCode T E fi fi.ntmps fi.body 0, fi.results, fi.pure⟩ run n args st = some r) :
    body3 T ⟨cCode T E fi fi.ntmps fi.body 0, fi.results, fi.pure⟩ run' m args st = some r := by
  unfold body3 at *
  split at hr
  · rename_i h1
    rw [exec3_le h hm _ _ _ _ _ h1]
    exact hr
  · rename_i h1
    rw [exec3_le h hm _ _ _ _ _ h1]
    exact hr
  · cases hr

theorem call3_le (h : RunLe run run') {n m : Nat} (hm : n ≤ m) {f : Nat} {F : CF} (hF : cFun T E f = some F) {args : List AV} {st : St} {r : AV × St} (hr : call3 T F run n args st = some r) : call3 T F run' m args st = some r := by
  unfold cFun at hF
  split at hF
  · cases hF
  · rename_i fi _
    cases hF
    unfold call3 at *
    split at hr
    · split at hr
      · split at hr <;> try cases hr
        rename_i hb
        rw [body3_le h hm hb]; exact hr
      · split at hr <;> try cases hr
        rename_i hb
        rw [body3_le h hm hb]; exact hr
    · split at hr <;> try cases hr
      rename_i hb
      rw [body3_le h hm hb]

theorem run3_mono : ∀ (n m : Nat), n ≤ m → RunLe (run3 T E R n) (run3 T E R m)
  | 0, _, _ => by intro f args st r h; cases h
  | n + 1, 0, h => by omega
  | n + 1, m + 1, h => by
    intro f args st r hr
    rw [run3_succ] at hr ⊢
    cases hF : cFun T E f with
    | none => rw [hF] at hr; exact hr
    | some F =>
      rw [hF] at hr
      exact call3_le (run3_mono n m (by omega)) (by omega) hF hr

abbrev Memo := Nat → List AV → Option AV

def runM (memo : Memo) (T : TE) (E : PE) (R : Runs) : Nat → Nat → List AV → St → Option (AV × St)
  | 0, _, _, _ => none
  | n + 1, f, args, st => match memo f args with
    | some v => some (v, st)
    | none => match cFun T E f with
      | none => R f args st
      | some F => call3 T F (runM memo T E R n) n args st

def MemoOk (memo : Memo) (T : TE) (E : PE) (R : Runs) (N : Nat) : Prop := ∀ f args v, memo f args = some v → ∀ st, run3 T E R N f args st = some (v, st)

theorem runM_le {memo : Memo} {N : Nat} (hm : MemoOk memo T E R N) : ∀ n, RunLe (runM memo T E R n) (run3 T E R (n + N))
  | 0 => by intro f args st r h; cases h
  | n + 1 => by
    intro f args st r h
    unfold runM at h
    cases hq : memo f args with
    | some v =>
      rw [hq] at h
      cases h
      exact run3_mono N _ (by omega) _ _ _ _ (hm f args v hq st)
    | none =>
      simp only [hq] at h
      have : n + 1 + N = (n + N) + 1 := by omega
      rw [this, run3_succ]
      cases hF : cFun T E f with
      | none => rw [hF] at h; exact h
      | some F =>
        rw [hF] at h
        exact call3_le (runM_le hm n) (by omega) hF h

/-- what is known of a call of closed values -/
def RowN (T : TE) (E : PE) (R : Runs) (N f : Nat) (a : List AV) (v : AV) : Prop := ∀ st, run3 T E R N f a st = some (v, st)

theorem RowN.up {N M f : Nat} {a : List AV} {v : AV} (h : RowN T E R N f a v) (hle : Nat.ble N M = true) : RowN T E R M f a v := fun st => run3_mono N M (Nat.le_of_ble_eq_true hle) _ _ _ _ (h st)

def findA : List (List AV × AV) → List AV → Option AV
  | [], _ => none
  | (a, v) :: l, args => match AV.beqL a args with
    | true => some v
    | false => findA l args

def memoT (t : Tr (List (List AV × AV))) : Memo := fun f args => match t.get f with
  | some l => findA l args
  | none => none

def RowsN (T : TE) (E : PE) (R : Runs) (N f : Nat) : List (List AV × AV) → Prop
  | [] => True
  | (a, v) :: l => RowN T E R N f a v ∧ RowsN T E R N f l

theorem findA_ok {N f : Nat} {args : List AV} {v : AV} : ∀ l : List (List AV × AV), RowsN T E R N f l → findA l args = some v → RowN T E R N f args v
  | [], _, h => by cases h
  | (a, u) :: l, ⟨h1, h2⟩, h => by
    unfold findA at h
    split at h
    · rename_i ha
      cases h
      have := beqL_eq _ _ ha
      subst this
      exact h1
    · exact findA_ok l h2 h

theorem memoT_ok {t : Tr (List (List AV × AV))} {N : Nat} (h : t.All (RowsN T E R N)) : MemoOk (memoT t) T E R N := by
  intro f args v hm st
  unfold memoT at hm
  split at hm
  · rename_i l hl
    exact findA_ok l (Tr.get_all h hl) hm st
  · cases hm

theorem rowOf {memo : Memo} {N n f : Nat} {a : List AV} {v : AV} (hm : MemoOk memo T E R N) (hr : ∀ st, runM memo T E R n f a st = some (v, st)) : RowN T E R (n + N) f a v := fun st => runM_le hm n _ _ _ _ (hr st)

end
end Go.Proofs.YtgkalmmlgkaabaaGreat.Am
