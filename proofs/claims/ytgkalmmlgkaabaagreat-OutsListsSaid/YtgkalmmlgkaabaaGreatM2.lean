/-
  The abstract machine's look-ups in maps; all operations that read objects. Conditions: none. The abstract machine's operations that make objects. Conditions: none. The abstract machine's operations that change objects. Conditions: none. The abstract machine's append. Conditions: none. The abstract machine's operations that change objects, all of them. Conditions: none. The abstract machine's copy, clear, delete, and the length of a map. Conditions: none. The abstract machine's operations that change objects, all of them. Conditions: none. The end of a call that changes nothing that was there: its objects become memory that never changes. Conditions: none.
-/
import Derived.Test.YtgkalmmlgkaabaaGreatM1
import Derived.Laws.BytesString
import Derived.Laws.Cover4
import Derived.Deep.AppendSrc
import Derived.Deep.Upon
namespace Go.Proofs.YtgkalmmlgkaabaaGreat.Am

section
variable {P : Program} {T : TE} {M : Mem} {G : List GE}

/-- entries of a map, here and there -/
def RelE (M : Mem) (G : List GE) (es : List (AV × AV × Nat)) (ens : List MapEntry) : Prop :=
  es.length = ens.length ∧ ∀ (i : Nat) (k v : AV) (b : Nat) (n : MapEntry), es[i]? = some (k, v, b) → ens[i]? = some n → n.born = b ∧ keyOk k = true ∧ RelV M G k n.key ∧ RelV M G v n.val

theorem RelE.tail {e : AV × AV × Nat} {es : List (AV × AV × Nat)} {n : MapEntry} {ens : List MapEntry} (h : RelE M G (e :: es) (n :: ens)) : RelE M G es ens :=
  ⟨by simpa using h.1, fun i k v b m hk hm => h.2 (i + 1) k v b m (by simpa using hk) (by simpa using hm)⟩

theorem keyT_und (hT : TEok P T) {t : TypeId} {k : AV} (h : keyT T t k = true) : (∃ q, P.underlying t = some (.int q) ∧ ∃ j n, k = .int j n) ∨ (P.underlying t = some .string ∧ ∃ s, k = .str s) := by
  unfold keyT at h
  split at h
  · cases h
  · rename_i ti ht
    obtain ⟨i, d, z, ok⟩ := hT.get ht
    have hu := ok.und
    have hk' := ok.k
    split at h
    · rename_i q j n hk
      rw [hk] at hk'
      rw [kOf_int hk'] at hu
      exact .inl ⟨q, hu, j, n, rfl⟩
    · rename_i s hk
      rw [hk] at hk'
      rw [kOf_string hk'] at hu
      exact .inr ⟨hu, s, rfl⟩
    · cases h

theorem same_scal (hT : TEok P T) {t : TypeId} {k k' : AV} {K K' : Value} (hk : RelV M G k K) (hk' : RelV M G k' K') (ht : keyT T t k = true) {b : Bool} (h : scalEq k k' = some b) :
    ∃ d, P.underlying t = some d ∧ Instr.sameNow d K K' = some b := by
  rcases keyT_und hT ht with ⟨q, hu, j, n, rfl⟩ | ⟨hu, s, rfl⟩
  · refine ⟨_, hu, ?_⟩
    cases k' <;> simp only [scalEq] at h <;> try cases h
    split at h <;> try cases h
    rename_i hj
    subst hj
    cases hk; cases hk'
    simp [Instr.sameNow]
  · refine ⟨_, hu, ?_⟩
    cases k' <;> simp only [scalEq] at h <;> try cases h
    cases hk; cases hk'
    simp only [Instr.sameNow, Option.some.injEq]
    rw [beq_toListBytes, toList_mk, toList_mk]

theorem find_rel (hT : TEok P T) {t : TypeId} {d : TypeDesc} (hd : P.underlying t = some d) {k : AV} {K : Value} (hk : RelV M G k K) (ht : keyT T t k = true) :
    ∀ (es : List (AV × AV × Nat)) (ens : List MapEntry) (i0 : Nat) (r : Option AV), RelE M G es ens → findE k es = some r →
      (r = none ∧ Instr.findNow d K ens i0 = some none) ∨ ∃ v V i, r = some v ∧ Instr.findNow d K ens i0 = some (some (i0 + i, V)) ∧ RelV M G v V
  | [], [], i0, r, _, h => by simp only [findE, Option.some.injEq] at h; subst h; exact .inl ⟨rfl, rfl⟩
  | (k', v, b) :: es, n :: ens, i0, r, hr, h => by
    obtain ⟨h1, h2, h3, h4⟩ := hr.2 0 k' v b n rfl rfl
    simp only [findE] at h
    split at h
    · rename_i hs
      simp only [Option.some.injEq] at h; subst h
      obtain ⟨d', hd', hsn⟩ := same_scal hT hk h3 ht hs
      rw [hd] at hd'; cases hd'
      exact .inr ⟨v, n.val, 0, rfl, by simp [Instr.findNow, hsn], h4⟩
    · rename_i hs
      obtain ⟨d', hd', hsn⟩ := same_scal hT hk h3 ht hs
      rw [hd] at hd'; cases hd'
      rcases find_rel hT hd hk ht es ens (i0 + 1) r hr.tail h with ⟨h5, h6⟩ | ⟨v', V, i, h5, h6, h7⟩
      · exact .inl ⟨h5, by simp [Instr.findNow, hsn, h6]⟩
      · exact .inr ⟨v', V, i + 1, h5, by simp only [Instr.findNow, hsn, h6]; congr 3; omega, h7⟩
    · cases h
  | [], _ :: _, _, _, hr, _ => by have := hr.1; simp at this
  | _ :: _, [], _, _, hr, _ => by have := hr.1; simp at this

theorem checkKey_run (hT : TEok P T) {t : TypeId} {k : AV} {K : Value} (hk : RelV M G k K) (ht : keyT T t k = true) (e : Bool) (n : Nat) (w : World) : (Instr.checkKey e (n + 1) t K).run P w = .ok () w := by
  rcases keyT_und hT ht with ⟨q, hu, j, m, rfl⟩ | ⟨hu, s, rfl⟩
  · cases hk
    simp only [Instr.checkKey, Sem.run_bind, run_underlying hu, Result.andThen_ok, Sem.run_pure]
  · cases hk
    simp only [Instr.checkKey, Sem.run_bind, run_underlying hu, Result.andThen_ok, Sem.run_pure]

theorem run_getObj {w : World} {r : Nat} {o : Go.Obj} (h : w.heap[r]? = some o) (hc : ∀ c t f, o ≠ .cells c t f) : (getObj r).run P w = .ok o w := by
  simp only [getObj, Sem.run, h]

theorem map_get {objs : List Obj} {w : World} (hI : Inv M G objs w) {r : Nat} {es : List (AV × AV × Nat)} {clock : Nat} (ho : objs[r]? = some (.map es clock)) {X : Value} (hx : RelV M G (.map r) X) :
    ∃ (e : GE) (ens : Array MapEntry), G[r]? = some e ∧ e.gen = 0 ∧ X = .map (some e.blk) ∧ w.heap[e.blk]? = some (.map ens clock) ∧ RelE M G es ens.toList := by
  obtain ⟨e, he, hrel⟩ := hI.get ho
  obtain ⟨h1, ens, h2, h3, h4⟩ := hrel
  cases hx with
  | map g1 g2 =>
    rw [g1] at he
    cases he
    exact ⟨e, ens, g1, h1, by rw [g2 h1], h2, by simpa using h3, fun i k v b n hk hn => h4 i k v b n hk (by simpa using hn)⟩

def lookRest (kt e : TypeId) (K : Value) (ok : Bool) (es : Array MapEntry) : Sem Value := do
  Instr.checkKey es.isEmpty 10000 kt K
  let (v, b) ← match ← Instr.findKey kt K es.toList with
    | some (_, v) => pure (v, true)
    | none => do pure (← zeroValue e, false)
  pure (if ok then .tuple #[v, .bool b] else v)

theorem lookRest_run (hT : TEok P T) {kt e : TypeId} {k : AV} {K : Value} (hk : RelV M G k K) (ht : keyT T kt k = true) {ei : TI} (he : T e = some ei) (ok : Bool) (ens : Array MapEntry) (w : World) {r : Option AV} {d : TypeDesc} (hd : P.underlying kt = some d)
    (hf : (r = none ∧ Instr.findNow d K ens.toList 0 = some none) ∨ ∃ v V i, r = some v ∧ Instr.findNow d K ens.toList 0 = some (some (i, V)) ∧ RelV M G v V) {v : AV}
    (h : orZero ei r = some v) :
    ∃ V, (lookRest kt e K ok ens).run P w = .ok V w ∧ RelV M G (if ok then .tuple [v, .bool r.isSome] else v) V := by
  obtain ⟨i2, d2, z2, ok2⟩ := hT.get he
  have hck := checkKey_run hT hk ht ens.isEmpty 9999 w
  have fin : ∀ (V : Value) (b : Bool), RelV M G v V → b = r.isSome → RelV M G (if ok then .tuple [v, .bool r.isSome] else v) (if ok then .tuple #[V, .bool b] else V) := by
    intro V b hV hb
    subst hb
    cases ok
    · exact hV
    · refine .tuple (xs := [V, .bool r.isSome]) rfl ?_
      intro i x y hx hy
      match i with
      | 0 => simp at hx hy; subst hx; subst hy; exact hV
      | 1 => simp at hx hy; subst hx; subst hy; exact .bool
      | i + 2 => simp at hx
  rcases hf with ⟨rfl, hn⟩ | ⟨v', V, i, rfl, hs, hr⟩
  · refine ⟨_, ?_, fin z2 false ?_ rfl⟩
    · simp only [lookRest, Instr.findKey, Sem.run_bind, hck, Result.andThen_ok, run_underlying hd, hn, Sem.run_pure, ok2.run_zeroValue]
    · simp only [orZero] at h
      split at h
      · rename_i ha
        simp only [Option.some.injEq] at h; subst h
        exact (ok2.zval M G).1 ha
      · rename_i ha
        exact (ok2.zval M G).2 (by simpa using ha) v h
  · simp only [orZero, Option.some.injEq] at h; subst h
    refine ⟨_, ?_, fin V true hr rfl⟩
    simp only [lookRest, Instr.findKey, Sem.run_bind, hck, Result.andThen_ok, run_underlying hd, hs, Sem.run_pure]

theorem lookup_run (hT : TEok P T) {objs : List Obj} {w : World} (hI : Inv M G objs w) {t : TypeId} {x k v : AV} {X K : Value} (hx : RelV M G x X) (hk : RelV M G k K) (ok : Bool) (h : lookup T objs t x k ok = some v) :
    ∃ V, (Instr.lookup t X K ok).run P w = .ok V w ∧ RelV M G v V := by
  unfold lookup at h
  split at h
  · cases h
  · rename_i ti ht
    obtain ⟨i, d, z, okt⟩ := hT.get ht
    have hu := okt.und
    have hk' := okt.k
    split at h <;> try cases h
    rename_i kt e hkk
    rw [hkk] at hk'
    rw [kOf_map hk'] at hu
    split at h
    · cases h
    · rename_i ei he
      split at h <;> try cases h
      rename_i hkt
      obtain ⟨dk, hdk⟩ : ∃ dk, P.underlying kt = some dk := by
        rcases keyT_und hT hkt with ⟨q, hu, _⟩ | ⟨hu, _⟩ <;> exact ⟨_, hu⟩
      split at h
      · cases h
      · rename_i r hr
        split at h
        · cases h
        · rename_i v' hv'
          simp only [Option.some.injEq] at h; subst h
          split at hr <;> try cases hr
          · cases hx
            obtain ⟨V, hV, hrv⟩ := lookRest_run hT hk hkt he ok #[] w hdk (.inl ⟨rfl, rfl⟩) hv'
            refine ⟨V, ?_, hrv⟩
            rw [← hV]
            simp only [Instr.lookup, lookRest, Sem.run_bind, run_underlying hu, Result.andThen_ok, Sem.run_pure]
            rfl
          · rename_i r'
            split at hr <;> try cases hr
            rename_i es clock ho
            obtain ⟨e', ens, g1, g2, rfl, g3, g4⟩ := map_get hI ho hx
            have hf : (r = none ∧ Instr.findNow dk K ens.toList 0 = some none) ∨ ∃ v V i, r = some v ∧ Instr.findNow dk K ens.toList 0 = some (some (i, V)) ∧ RelV M G v V := by
              rcases find_rel hT hdk hk hkt es ens.toList 0 r g4 hr with h1 | ⟨v, V, i, h1, h2, h3⟩
              · exact .inl h1
              · exact .inr ⟨v, V, 0 + i, h1, h2, h3⟩
            obtain ⟨V, hV, hrv⟩ := lookRest_run hT hk hkt he ok ens w hdk hf hv'
            refine ⟨V, ?_, hrv⟩
            rw [← hV]
            have hg := run_getObj (P := P) g3 (by intro c t f hh; cases hh)
            simp only [Instr.lookup, lookRest, Sem.run_bind, run_underlying hu, Result.andThen_ok, hg, Sem.run_pure]
            rfl

/-- a slice's elements, where they are -/
theorem view_cells {objs : List Obj} {w : World} (hI : Inv M G objs w) {s n : Nat} {x : AV} {X : Value} (hx : RelV M G x X) {cs : List AV} (h : view objs s x = some (n, cs)) (hs1 : 0 < s) :
    (X = .slice none 0 0 ∧ n = 0 ∧ cs = []) ∨ ∃ a cap ys, X = .slice (some a) n cap ∧ RelL M G cs ys ∧ cs.length = n * s ∧ ∀ (j : Nat) (y : Value), ys[j]? = some y → w.cell? (a.add j) = some y := by
  unfold view at h
  split at h <;> try cases h
  · cases hx
    exact .inl ⟨rfl, rfl, rfl⟩
  · rename_i n' s' cs' full so
    split at h <;> try cases h
    rename_i hs
    subst hs
    cases hx with
    | fsl0 => exact .inr ⟨_, 0, [], rfl, ⟨rfl, by simp, by simp⟩, by simp, by simp⟩
    | fsl hl hn hf h1 h2 h3 =>
      rename_i b base cap f
      have hr : RelL M G cs ((List.range cs.length).map f) := by
        refine ⟨by simp, h1, ?_⟩
        intro i x y hx hy
        have hi := lt_of_get hx
        simp [hi] at hy
        subst hy
        have := h3 i x hx
        cases so
        · exact this
        · exact this.mono (MLe.refl _) (GLe.nil _)
      refine .inr ⟨⟨b, base, none⟩, cap, _, rfl, hr, hl, ?_⟩
      intro j y hy
      have hj : j < cs.length := by have := lt_of_get hy; simpa using this
      simp [hj] at hy
      subst hy
      rw [Addr.add_lit]
      exact hI.mem _ _ _ (h2 j hj)
  · rename_i r off n' s' g
    split at h <;> try cases h
    rename_i c gen ho
    split at h <;> try cases h
    rename_i hc
    obtain ⟨rfl, rfl⟩ := hc
    obtain ⟨e, he, hrel⟩ := hI.get ho
    obtain ⟨e1, e2, e3, arr, el, e4, e5, e6, e7⟩ := hrel
    cases hx with
    | sl h1 h2 h3 h4 =>
      rename_i a cap
      rw [h1] at he
      cases he
      obtain ⟨h5, h6, h7⟩ := h4 e1
      have hlen : ((c.drop off).take (n * s')).length = n * s' := by simp; omega
      have hr : RelL M G ((c.drop off).take (n * s')) ((arr.toList.drop (e.base + off)).take (n * s')) := by
        refine ⟨by simp; omega, fun x hx => e6 x (List.mem_of_mem_drop (List.mem_of_mem_take hx)), ?_⟩
        intro i x y hx hy
        have hi : i < n * s' := by have := lt_of_get hx; omega
        rw [List.getElem?_take_of_lt hi, List.getElem?_drop] at hx hy
        obtain ⟨y', hy', hr⟩ := e7 _ x hx
        have : arr.toList[e.base + off + i]? = some y' := by rw [← Nat.add_assoc] at hy'; simpa using hy'
        rw [this] at hy
        cases hy
        exact hr
      refine .inr ⟨a, cap, _, rfl, hr, hlen, ?_⟩
      intro j y hy
      have hj : j < n * s' := by have := lt_of_get hy; simp at this; omega
      rcases h7 with rfl | h7
      · rw [List.getElem?_take_of_lt hj, List.getElem?_drop] at hy
        rw [Addr.add_lit]
        simp only [World.cell?, e4]
        simpa using hy
      · have : n = 0 := by omega
        subst this
        simp at hj

theorem bytesOf_rel : ∀ (cs : List AV) (ys : List Value) (r : List UInt8), RelL M G cs ys → bytesOf cs = some r → ∃ ns : List Int, ys = ns.map (Value.int .u8) ∧ ∀ s : ByteArray, (ns.foldl (fun r n => r.push (UInt8.ofNat n.toNat)) s).data.toList = s.data.toList ++ r
  | [], ys, r, hr, h => by
    simp only [bytesOf, Option.some.injEq] at h
    subst h
    have : ys = [] := by have := hr.1; simpa using this.symm
    subst this
    exact ⟨[], rfl, by simp⟩
  | x :: cs, ys, r, hr, h => by
    unfold bytesOf at h
    split at h
    · rename_i heq; cases heq
    · rename_i n l heq
      cases heq
      split at h <;> try cases h
      rename_i r' hr'
      obtain ⟨hl, hc, hv⟩ := hr
      cases ys with
      | nil => simp at hl
      | cons y ys =>
        have h0 := hv 0 _ y rfl rfl
        cases h0
        obtain ⟨ns, e1, e2⟩ := bytesOf_rel cs ys r' ⟨by simpa using hl, fun x hx => hc x (by simp [hx]), fun i x y hx hy => hv (i + 1) x y (by simpa using hx) (by simpa using hy)⟩ hr'
        refine ⟨n :: ns, by simp [e1], fun s => ?_⟩
        rw [List.foldl_cons, e2]
        simp [ByteArray.push]
    · cases h

theorem runesOf_rel : ∀ (cs : List AV) (ys : List Value) (r : List UInt8), RelL M G cs ys → runesOf cs = some r → ∃ ns : List Int, ys = ns.map (Value.int .i32) ∧ ∀ s : ByteArray, (ns.foldl (fun r n => r ++ Utf8.encode n) s).data.toList = s.data.toList ++ r
  | [], ys, r, hr, h => by
    simp only [runesOf, Option.some.injEq] at h
    subst h
    have : ys = [] := by have := hr.1; simpa using this.symm
    subst this
    exact ⟨[], rfl, by simp⟩
  | x :: cs, ys, r, hr, h => by
    unfold runesOf at h
    split at h
    · rename_i heq; cases heq
    · rename_i n l heq
      cases heq
      split at h <;> try cases h
      rename_i r' hr'
      obtain ⟨hl, hc, hv⟩ := hr
      cases ys with
      | nil => simp at hl
      | cons y ys =>
        have h0 := hv 0 _ y rfl rfl
        cases h0
        obtain ⟨ns, e1, e2⟩ := runesOf_rel cs ys r' ⟨by simpa using hl, fun x hx => hc x (by simp [hx]), fun i x y hx hy => hv (i + 1) x y (by simpa using hx) (by simpa using hy)⟩ hr'
        refine ⟨n :: ns, by simp [e1], fun s => ?_⟩
        rw [List.foldl_cons, e2]
        simp [ByteArray.data_append]
    · cases h

theorem str_of {s : ByteArray} {r : List UInt8} (h : s.data.toList = r) : RelV M G (.str r) (.string s) := by
  subst h
  have : Value.string s = .string ⟨s.data.toList.toArray⟩ := by simp
  rw [this]; exact .str

theorem texts_run (hT : TEok P T) {objs : List Obj} {w : World} (hI : Inv M G objs w) {src dst e : TypeId} {x v : AV} {X : Value} (hx : RelV M G x X) (hs : P.underlying src = some (.slice e)) (hd : P.underlying dst = some .string) (h : texts T objs e x = some v) :
    ∃ V, (Go.convert src dst X).run P w = .ok V w ∧ RelV M G v V := by
  unfold texts at h
  split at h
  · cases h
  · rename_i ei he
    obtain ⟨i, d, z, ok⟩ := hT.get he
    have hu := ok.und
    have hk' := ok.k
    split at h
    · rename_i hk
      rw [hk] at hk'
      rw [kOf_int hk'] at hu
      split at h <;> try cases h
      rename_i n cs hv
      split at h <;> try cases h
      rename_i r hr
      rcases view_cells hI hx hv (by omega) with ⟨rfl, rfl, rfl⟩ | ⟨a, cap, ys, rfl, hrl, hlen, hc⟩
      · rw [run_convert_bytes_string w src dst e _ _ _ hs hu hd]
        simp only [bytesOf, Option.some.injEq] at hr
        subst hr
        exact ⟨_, rfl, str_of rfl⟩
      · rw [run_convert_bytes_string w src dst e _ _ _ hs hu hd]
        obtain ⟨ns, rfl, hf⟩ := bytesOf_rel cs ys r hrl hr
        have hl := run_loadCells_list (P := P) w a _ hc
        have hn : n = (ns.map (Value.int .u8)).length := by rw [← hrl.1, hlen]; simp
        refine ⟨_, by rw [hn]; exact run_bytesToString w a _ cap ns hl, str_of ?_⟩
        rw [hf]; simp
    · rename_i hk
      rw [hk] at hk'
      rw [kOf_int hk'] at hu
      split at h <;> try cases h
      rename_i n cs hv
      split at h <;> try cases h
      rename_i r hr
      rcases view_cells hI hx hv (by omega) with ⟨rfl, rfl, rfl⟩ | ⟨a, cap, ys, rfl, hrl, hlen, hc⟩
      · rw [run_convert_runes_string w src dst e _ _ _ hs hu hd]
        simp only [runesOf, Option.some.injEq] at hr
        subst hr
        exact ⟨_, rfl, str_of rfl⟩
      · rw [run_convert_runes_string w src dst e _ _ _ hs hu hd]
        obtain ⟨ns, rfl, hf⟩ := runesOf_rel cs ys r hrl hr
        have hl := run_loadCells_list (P := P) w a _ hc
        have hn : n = (ns.map (Value.int .i32)).length := by rw [← hrl.1, hlen]; simp
        refine ⟨_, by rw [hn]; exact run_runesToString w a _ cap ns hl, str_of ?_⟩
        unfold runesBytes
        rw [hf]; simp
    · cases h

theorem convertR_run (hT : TEok P T) {objs : List Obj} {w : World} (hI : Inv M G objs w) {src dst : TypeId} {x v : AV} {X : Value} (hx : RelV M G x X) (h : convertR T objs src dst x = some v) :
    ∃ V, (Go.convert src dst X).run P w = .ok V w ∧ RelV M G v V := by
  unfold convertR at h
  split at h
  · cases h
  · rename_i si hsi
    obtain ⟨i, d, z, ok⟩ := hT.get hsi
    have hu := ok.und
    have hk' := ok.k
    split at h
    · rename_i e hk
      rw [hk] at hk'
      rw [kOf_slice hk'] at hu
      split at h <;> try cases h
      rename_i di hdi
      obtain ⟨i2, d2, z2, ok2⟩ := hT.get hdi
      have hu2 := ok2.und
      have hk2 := ok2.k
      split at h <;> try cases h
      rename_i hkd
      rw [hkd] at hk2
      rw [kOf_string hk2] at hu2
      exact texts_run hT hI hx hu hu2 h
    · exact convert_run hT hx (by rw [hu]; rfl) h w

theorem sliceR_run (hT : TEok P T) {objs : List Obj} {w : World} (hI : Inv M G objs w) {t : TypeId} {x v : AV} {X : Value} (hx : RelV M G x X) {lo hi mx : Option AV} {LO HI MX : Option Value} (hlo : RelO M G lo LO) (hhi : RelO M G hi HI) (hmx : RelO M G mx MX)
    (h : sliceR T objs t x lo hi mx = some v) : ∃ V, (Instr.sliceAt t X LO HI MX).run P w = .ok V w ∧ RelV M G v V := by
  unfold sliceR at h
  split at h
  · cases h
  · rename_i ti ht
    obtain ⟨i, d, z, okt⟩ := hT.get ht
    have hu := okt.und
    have hk' := okt.k
    split at h
    · rename_i len esz ag r o g hk
      rw [hk] at hk'
      obtain ⟨e, i2, d2, rfl, hi2, hd2, rfl, rfl⟩ : ∃ e i2 d2, d = .array len e ∧ P.info? e = some i2 ∧ P.underlying e = some d2 ∧ i2.size = esz ∧ aggB d2 = ag := by
        cases d <;> simp only [kOf] at hk' <;> try cases hk'
        rotate_left 1
        · rename_i fs
          cases hm : fs.toList.mapM (fieldOf P) <;> rw [hm] at hk' <;> cases hk'
        · rename_i n e
          split at hk' <;> cases hk'
          rename_i i2 d2 h1 h2
          exact ⟨e, i2, d2, rfl, h1, h2, rfl, rfl⟩
      split at h <;> try cases h
      rename_i c gen ho
      split at h <;> try cases h
      rename_i hc
      obtain ⟨rfl, hle⟩ := hc
      split at h <;> try cases h
      rename_i l hh m hb
      obtain ⟨hr, h1, h2, h3⟩ := bounds_run (P := P) (M := M) (G := G) (LO := LO) (HI := HI) (MX := MX) hlo hhi hmx hb rfl (Nat.le_refl _) false w
      obtain ⟨ge, hge, hrel⟩ := hI.get ho
      obtain ⟨e1, e2, e3, arr, el, e4, e5, e6, e7⟩ := hrel
      cases hx with
      | ptr g1 g2 g3 =>
        rename_i a
        rw [g1] at hge
        cases hge
        have ha := g3 e1
        subst ha
        have hsz : (sizeOf e).run P w = .ok i2.size w := by simp [sizeOf, typeInfo, hi2]
        refine ⟨.slice (some (if m.getD len = l then ⟨ge.blk, ge.base + o, none⟩ else (⟨ge.blk, ge.base + o, none⟩ : Addr).add (l * i2.size))) (hh - l) (m.getD len - l), ?_, ?_⟩
        · simp only [Instr.sliceAt, Instr.sureAddr, Sem.run_bind, run_underlying hu, Result.andThen_ok, Sem.run_pure, hr, hsz]
        · have hl1 : hh * i2.size ≤ len * i2.size := Nat.mul_le_mul_right _ (by omega)
          have hl2 : m.getD len * i2.size ≤ len * i2.size := Nat.mul_le_mul_right _ h3
          have hs1 : (hh - l) * i2.size = hh * i2.size - l * i2.size := Nat.sub_mul _ _ _
          have hs2 : (m.getD len - l) * i2.size = m.getD len * i2.size - l * i2.size := Nat.sub_mul _ _ _
          have hl3 : l * i2.size ≤ hh * i2.size := Nat.mul_le_mul_right _ h1
          have hl4 : l * i2.size ≤ m.getD len * i2.size := Nat.mul_le_mul_right _ (by omega)
          refine .sl g1 g2 (by omega) (fun _ => ⟨by rw [hs1]; omega, by rw [hs2]; omega, ?_⟩)
          by_cases hm : m.getD len = l
          · rw [if_pos hm]
            exact .inr ⟨by omega, rfl⟩
          · rw [if_neg hm, Addr.add_lit, Nat.add_assoc]
            exact .inl rfl
    · exact slice_run hT hx hlo hhi hmx h w

theorem readOp_sim (hT : TEok P T) {ρ : Operand → AV} {σ : Operand → Value} (hρ : ∀ x, RelV M G (ρ x) (σ x)) {objs : List Obj} {w : World} (hI : Inv M G objs w) (o : Oper) {v : AV} (h : readOp T ρ objs o.op = some v) :
    ∃ V, (execOp σ o).run P w = .ok (.value V) w ∧ RelV M G v V := by
  obtain ⟨dst, op, ty, pos, after, guard⟩ := o
  simp only at h
  unfold readOp at h
  split at h
  · rename_i src dst' x
    obtain ⟨V, hV, hr⟩ := convertR_run hT hI (hρ x) h
    refine ⟨V, ?_, hr⟩
    simp only [execOp, Sem.run_bind, hV, Result.andThen_ok, Sem.run_pure]
  · rename_i t a
    obtain ⟨A, V, hA, hV, hr⟩ := load_run hT hI (hρ a) h
    refine ⟨V, ?_, hr⟩
    simp only [execOp, Instr.loadAt, hA, Instr.sureAddr, Sem.run_bind, Sem.run_pure, Result.andThen_ok, hV]
  · rename_i t x i ok
    obtain ⟨V, hV, hr⟩ := lookup_run hT hI (hρ x) (hρ i) ok h
    refine ⟨V, ?_, hr⟩
    simp only [execOp, Sem.run_bind, hV, Result.andThen_ok, Sem.run_pure]
  · rename_i t x lo hi mx
    obtain ⟨V, hV, hr⟩ := sliceR_run hT hI (hρ x) (relO_map hρ lo) (relO_map hρ hi) (relO_map hρ mx) h
    refine ⟨V, ?_, hr⟩
    simp only [execOp, Sem.run_bind, hV, Result.andThen_ok, Sem.run_pure]
  · cases h

end
end Go.Proofs.YtgkalmmlgkaabaaGreat.Am

namespace Go.Proofs.YtgkalmmlgkaabaaGreat.Am

section
variable {P : Program} {T : TE} {M : Mem} {G : List GE}

theorem one_cell {v : AV} {x : Value} (h : RelV M G v x) (hc : v.isCell = true) : x.oneCell' = true := by
  cases h <;> first | rfl | (simp [AV.isCell] at hc)

theorem RelL.one {cs : List AV} {xs : List Value} (h : RelL M G cs xs) : ∀ u ∈ xs, u.oneCell' = true := by
  intro u hu
  obtain ⟨i, hi⟩ := List.mem_iff_getElem?.1 hu
  have hlt : i < cs.length := h.1 ▸ lt_of_get hi
  exact one_cell (h.2.2 i _ u (List.getElem?_eq_getElem hlt) hi) (h.2.1 _ (List.getElem_mem hlt))

/-- an object more -/
theorem Inv.push {objs : List Obj} {w : World} (h : Inv M G objs w) {o : Obj} {e : GE} (ho : ObjRel M (G ++ [e]) w o e) (hlt : e.blk < w.heap.size) (hM : ∀ x, M e.blk x = none) (hG : ∀ (r : Nat) (e' : GE), G[r]? = some e' → e'.blk ≠ e.blk) :
    Inv M (G ++ [e]) (objs ++ [o]) w := by
  have hl := h.len
  have getG : ∀ (r : Nat) (x : GE), (G ++ [e])[r]? = some x → G[r]? = some x ∨ (r = G.length ∧ x = e) := by
    intro r x hx
    by_cases hr : r < G.length
    · rw [List.getElem?_append_left hr] at hx; exact .inl hx
    · rw [List.getElem?_append_right (by omega)] at hx
      by_cases h0 : r - G.length = 0
      · rw [h0] at hx; simp at hx; exact .inr ⟨by omega, hx.symm⟩
      · have : ([e] : List GE)[r - G.length]? = none := by simp; omega
        rw [this] at hx; cases hx
  exact {
    len := by simp [hl]
    obj := fun r x e' hx he' => by
      rcases getG r e' he' with hg | ⟨rfl, rfl⟩
      · rw [List.getElem?_append_left (by rw [hl]; exact lt_of_get hg)] at hx
        exact (h.obj r x e' hx hg).mono (MLe.refl _) (GLe.push G [e]) rfl
      · rw [List.getElem?_append_right (by omega)] at hx
        rw [hl] at hx
        simp at hx
        subst hx
        exact ho
    mem := h.mem
    inj := fun r s e1 e2 h1 h2 heq => by
      rcases getG r e1 h1 with k1 | ⟨k1, k1'⟩ <;> rcases getG s e2 h2 with k2 | ⟨k2, k2'⟩
      · exact h.inj r s e1 e2 k1 k2 heq
      · subst k2'; exact absurd heq (hG r e1 k1)
      · subst k1'; exact absurd heq.symm (hG s e2 k2)
      · omega
    sep := fun r e1 x h1 => by
      rcases getG r e1 h1 with h1 | ⟨rfl, rfl⟩
      · exact h.sep r e1 x h1
      · exact hM x
    blt := fun r e1 h1 => by
      rcases getG r e1 h1 with h1 | ⟨rfl, rfl⟩
      · exact h.blt r e1 h1
      · exact hlt }

theorem get_push {r : Nat} {x e : GE} (h : (G ++ [e])[r]? = some x) : G[r]? = some x ∨ (r = G.length ∧ x = e) := by
  by_cases hr : r < G.length
  · rw [List.getElem?_append_left hr] at h; exact .inl h
  · rw [List.getElem?_append_right (by omega)] at h
    by_cases h0 : r - G.length = 0
    · rw [h0] at h; simp at h; exact .inr ⟨by omega, h.symm⟩
    · have : ([e] : List GE)[r - G.length]? = none := by simp; omega
      rw [this] at h; cases h

theorem Ext.push (fl : Nat) (w : World) (o : Go.Obj) (e : GE) (he : e.blk = w.heap.size) : Ext fl M G w M (G ++ [e]) (w.alloc o) where
  os := rfl
  tape := rfl
  output := rfl
  size := by simp
  mle := MLe.refl _
  keep := fun r x h => ⟨x, by rw [List.getElem?_append_left (lt_of_get h)]; exact h, .inl rfl⟩
  blk := fun r x h => by
    rcases get_push h with h | ⟨_, rfl⟩
    · exact .inl ⟨x, h, rfl⟩
    · exact .inr (by omega)
  other := fun b hb _ => push_old w o hb
  fresh := fun _ _ _ h => .inl h

/-- what an operation that makes an object does: here and there -/
structure Makes (P : Program) (M : Mem) (G : List GE) (σ : Operand → Value) (o : Oper) (ob : Obj) (mk : Nat → AV) (gob : Go.Obj) (xf : Nat → Value) (ef : Nat → GE) : Prop where
  run : ∀ w : World, (execOp σ o).run P w = .ok (.value (xf w.heap.size)) (w.alloc gob)
  blk : ∀ b, (ef b).blk = b
  adopt : ∀ {M' : Mem} {G' : List GE} {w : World} (b : Nat), MLe M M' → GLe G G' → w.heap[b]? = some gob → ObjRel M' (G' ++ [ef b]) w ob (ef b) ∧ RelV M' (G' ++ [ef b]) (mk G'.length) (xf b)

theorem cells_get (cs : List AV) (xs : List Value) (h : RelL M G cs xs) : ∀ (i : Nat) (x : AV), cs[i]? = some x → ∃ y, xs[i]? = some y ∧ RelV M G x y := by
  intro i x hx
  have hlt : i < xs.length := h.1 ▸ lt_of_get hx
  exact ⟨xs[i], List.getElem?_eq_getElem hlt, h.2.2 i x _ hx (List.getElem?_eq_getElem hlt)⟩

theorem objRel_new {M' : Mem} {G' : List GE} {w : World} {b : Nat} {cs : List AV} {arr : Array Value} {el : TypeId} {cap : Nat} (hb : w.heap[b]? = some (.cells arr el)) (hlen : cs.length ≤ cap) (hcap : cap ≤ arr.size)
    (h : RelL M' G' cs (arr.toList.take cs.length)) : ObjRel M' G' w (.cells cs 0) ⟨b, 0, cap, cs.length, 0⟩ := by
  refine ⟨rfl, rfl, hlen, arr, el, hb, by simpa using hcap, h.2.1, ?_⟩
  intro i x hx
  obtain ⟨y, hy, hr⟩ := cells_get cs _ h i x hx
  have hi := lt_of_get hx
  rw [List.getElem?_take_of_lt hi] at hy
  exact ⟨y, by simpa using hy, hr⟩

theorem last_get {G' : List GE} (e : GE) : (G' ++ [e])[G'.length]? = some e := by simp

theorem allocOp_makes (hT : TEok P T) {ρ : Operand → AV} {σ : Operand → Value} (hρ : ∀ x, RelV M G (ρ x) (σ x)) (o : Oper) {ob : Obj} {mk : Nat → AV} (h : allocOp T ρ o.op = some (ob, mk)) :
    ∃ gob xf ef, Makes P M G σ o ob mk gob xf ef := by
  obtain ⟨dst, op, ty, pos, after, guard⟩ := o
  simp only at h
  unfold allocOp at h
  split at h
  · rename_i t
    split at h <;> try cases h
    rename_i ti ht
    obtain ⟨i, d, z, ok⟩ := hT.get ht
    split at h <;> try cases h
    rename_i hpos
    refine ⟨.cells z.cells t, fun b => .pointer (some ⟨b, 0, none⟩), fun b => ⟨b, 0, ti.size, ti.zero.length, 0⟩, ⟨?_, fun _ => rfl, ?_⟩⟩
    · intro w
      simp only [execOp, Instr.alloc, Sem.run_bind, ok.run_zeroValue, Result.andThen_ok, newVar, newRow, run_newObj_alloc, Sem.run_pure]
    · intro M' G' w b hM hG hb
      have hzl : RelL M' (G' ++ [⟨b, 0, ti.size, ti.zero.length, 0⟩]) ti.zero (z.cells.toList.take ti.zero.length) := by
        have := TIok.zl (M := M') (G := G' ++ [⟨b, 0, ti.size, ti.zero.length, 0⟩]) ok
        rw [List.take_of_length_le (by rw [this.1]; exact Nat.le_refl _)]
        exact this
      refine ⟨objRel_new hb (by rw [ok.zlen]; exact Nat.le_refl _) (by rw [ok.zsize]; exact Nat.le_refl _) hzl, ?_⟩
      exact .ptr (last_get _) (Nat.le_refl _) (fun _ => rfl)
  · rename_i t x
    split at h <;> try cases h
    rename_i ti cs ht hcs
    obtain ⟨i, d, z, ok⟩ := hT.get ht
    split at h <;> try cases h
    rename_i hc
    have hcr := cells_rel (hρ x) hcs
    refine ⟨.cells (σ x).cells t, fun b => .pointer (some ⟨b, 0, none⟩), fun b => ⟨b, 0, cs.length, cs.length, 0⟩, ⟨?_, fun _ => rfl, ?_⟩⟩
    · intro w
      simp only [execOp, Instr.box, newVar, newRow, Sem.run_bind, run_newObj_alloc, Result.andThen_ok, Sem.run_pure]
    · intro M' G' w b hM hG hb
      have hcr' : RelL M' (G' ++ [⟨b, 0, cs.length, cs.length, 0⟩]) cs ((σ x).cells.toList.take cs.length) := by
        rw [List.take_of_length_le (by rw [hcr.1]; exact Nat.le_refl _)]
        exact hcr.mono hM (hG.trans (GLe.push _ _))
      have hsz : cs.length ≤ (σ x).cells.size := by rw [hcr.1]; simp
      exact ⟨objRel_new hb (Nat.le_refl _) hsz hcr', .ptr (last_get _) (Nat.le_refl _) (fun _ => rfl)⟩
  · rename_i t l c
    split at h <;> try cases h
    rename_i ti ht
    obtain ⟨i, d, z, ok⟩ := hT.get ht
    have hu := ok.und
    have hk' := ok.k
    split at h <;> try cases h
    rename_i e kl ln kc cn hk hl hc
    rw [hk] at hk'
    rw [kOf_slice hk'] at hu
    split at h <;> try cases h
    rename_i ei he
    obtain ⟨i2, d2, z2, ok2⟩ := hT.get he
    split at h <;> try cases h
    rename_i hcond
    obtain ⟨h0, h1, h2, h3⟩ := hcond
    have hlv := hρ l
    have hcv := hρ c
    rw [hl] at hlv
    rw [hc] at hcv
    have el := intRel hlv
    have ec := intRel hcv
    have hbytes : (i2.bytes : Int) * cn ≤ 281474976710656 := by
      have hb := ok2.bytes
      unfold lim at h2
      have hcn : (0 : Int) ≤ cn := by omega
      calc (i2.bytes : Int) * cn ≤ 65536 * cn := Int.mul_le_mul_of_nonneg_right (by omega) hcn
        _ ≤ 281474976710656 := by omega
    refine ⟨.cells (madeCells z2.cells (cn.toNat * i2.size)) e, fun b => .slice (some ⟨b, 0, none⟩) ln.toNat cn.toNat, fun b => ⟨b, 0, cn.toNat * ei.size, ln.toNat * ei.size, 0⟩, ⟨?_, fun _ => rfl, ?_⟩⟩
    · intro w
      have := run_make (P := P) w t e i2 z2 hu ok2.info ok2.hz kl kc ln cn h0 h1 hbytes (by unfold lim at h2; omega)
      simp only [execOp, el, ec, Sem.run_bind, this, Result.andThen_ok, Sem.run_pure]
    · intro M' G' w b hM hG hb
      have hflen : ((List.replicate ln.toNat ei.zero).flatten).length = ln.toNat * ei.size := by rw [flat_len, ok2.zlen]
      have hlc : ln.toNat * ei.size ≤ cn.toNat * ei.size := Nat.mul_le_mul_right _ (by omega)
      have hmc : madeCells z2.cells (cn.toNat * i2.size) = (Array.range (cn.toNat * ei.size)).map (z2.cells[· % z2.cells.size]!) := by rw [ok2.size]; rfl
      have hz := zeros_rel (M := M') (G := G' ++ [⟨b, 0, cn.toNat * ei.size, ln.toNat * ei.size, 0⟩]) ok2 h3 ln.toNat
      have hz' : RelL M' (G' ++ [⟨b, 0, cn.toNat * ei.size, ln.toNat * ei.size, 0⟩]) (List.replicate ln.toNat ei.zero).flatten ((madeCells z2.cells (cn.toNat * i2.size)).toList.take ((List.replicate ln.toNat ei.zero).flatten).length) := by
        rw [hflen, hmc]
        refine ⟨by rw [hflen, List.length_take, Array.length_toList, Array.size_map, Array.size_range]; omega, hz.2.1, ?_⟩
        intro i x y hx hy
        have hi : i < ln.toNat * ei.size := by have := lt_of_get hx; omega
        rw [List.getElem?_take_of_lt hi] at hy
        refine hz.2.2 i x y hx ?_
        simp only [Array.toList_map, List.getElem?_map] at hy ⊢
        have e1 : (Array.range (cn.toNat * ei.size)).toList[i]? = some i := by first | (rw [Array.toList_range, List.getElem?_range (Nat.lt_of_lt_of_le hi hlc)]) | (rw [Array.toList_range, List.getElem?_range hi])
        have e2 : (Array.range (ln.toNat * ei.size)).toList[i]? = some i := by first | (rw [Array.toList_range, List.getElem?_range (Nat.lt_of_lt_of_le hi hlc)]) | (rw [Array.toList_range, List.getElem?_range hi])
        rw [e1] at hy
        rw [e2]
        exact hy
      have hor := objRel_new (cap := cn.toNat * ei.size) hb (by rw [hflen]; exact hlc) (by rw [hmc]; simp) hz'
      rw [hflen] at hor
      refine ⟨hor, .sl (last_get _) (Nat.le_refl _) (by omega) (fun _ => ⟨by simp, by simp, .inl rfl⟩)⟩
  · rename_i t
    simp only [Option.some.injEq, Prod.mk.injEq] at h
    obtain ⟨rfl, rfl⟩ := h
    refine ⟨.map #[] 0, fun b => .map (some b), fun b => ⟨b, 0, 0, 0, 0⟩, ⟨?_, fun _ => rfl, ?_⟩⟩
    · intro w
      simp only [execOp, Option.map_none, Instr.makeMap, Sem.run_bind, run_newObj_alloc, Result.andThen_ok, Sem.run_pure]
    · intro M' G' w b hM hG hb
      exact ⟨⟨rfl, #[], hb, rfl, by simp⟩, .map (last_get _) (fun _ => rfl)⟩
  · rename_i t x
    split at h <;> try cases h
    rename_i ti ht
    obtain ⟨i, d, z, ok⟩ := hT.get ht
    have hu := ok.und
    have hk' := ok.k
    split at h <;> try cases h
    rename_i s hk hx
    rw [hk] at hk'
    rw [kOf_string hk'] at hu
    have hxv := hρ x
    rw [hx] at hxv
    have ex := strRel hxv
    refine ⟨.stringIter ⟨s.toArray⟩ 0, fun b => .pointer (some ⟨b, 0, none⟩), fun b => ⟨b, 0, 0, 0, 0⟩, ⟨?_, fun _ => rfl, ?_⟩⟩
    · intro w
      simp only [execOp, ex, Sem.run_bind, run_range_string w t _ hu, Result.andThen_ok, Sem.run_pure]
      rfl
    · intro M' G' w b hM hG hb
      exact ⟨⟨rfl, rfl, hb⟩, .ptr (last_get _) (Nat.le_refl _) (fun _ => rfl)⟩
  · cases h

end
end Go.Proofs.YtgkalmmlgkaabaaGreat.Am

namespace Go.Proofs.YtgkalmmlgkaabaaGreat.Am

section
variable {P : Program} {T : TE} {M : Mem} {G : List GE}

theorem set_self {α : Type} {l : List α} {r : Nat} {e : α} (h : l[r]? = some e) : l.set r e = l := by
  apply List.ext_getElem?
  intro i
  by_cases hi : r = i
  · subst hi; rw [List.getElem?_set_self (lt_of_get h), h]
  · rw [List.getElem?_set_ne hi]

theorem GLe.set {r : Nat} {e e' : GE} (he : G[r]? = some e) (hee : e' = e ∨ e.gen < e'.gen) : GLe G (G.set r e') := fun s x hx => by
  by_cases hs : r = s
  · subst hs
    rw [he] at hx; cases hx
    exact ⟨e', by rw [List.getElem?_set_self (lt_of_get he)], hee⟩
  · exact ⟨x, by rw [List.getElem?_set_ne hs]; exact hx, .inl rfl⟩

theorem get_set {α : Type} {l : List α} {r s : Nat} {e' x : α} (h : (l.set r e')[s]? = some x) : (s = r ∧ x = e' ∧ r < l.length) ∨ (s ≠ r ∧ l[s]? = some x) := by
  by_cases hs : r = s
  · subst hs
    have hlt : r < l.length := by have := lt_of_get h; simpa using this
    rw [List.getElem?_set_self hlt] at h
    cases h
    exact .inl ⟨rfl, rfl, hlt⟩
  · rw [List.getElem?_set_ne hs] at h
    exact .inr ⟨fun e => hs e.symm, h⟩

/-- an object is changed where it lies -/
theorem Inv.setIn {objs : List Obj} {w w' : World} (h : Inv M G objs w) {r : Nat} {o' : Obj} {e e' : GE} (he : G[r]? = some e) (hee : e' = e ∨ e.gen < e'.gen) (hblk : e'.blk = e.blk)
    (hsz : w'.heap.size = w.heap.size) (hw : ∀ b, b ≠ e.blk → w'.heap[b]? = w.heap[b]?) (ho : ObjRel M (G.set r e') w' o' e') : Inv M (G.set r e') (objs.set r o') w' where
  len := by simp [h.len]
  obj := fun s x y hx hy => by
    rcases get_set hy with ⟨rfl, rfl, hlt⟩ | ⟨hs, hy⟩
    · rw [List.getElem?_set_self (by rw [h.len]; exact hlt)] at hx
      cases hx; exact ho
    · rw [List.getElem?_set_ne (fun e => hs e.symm)] at hx
      refine (h.obj s x y hx hy).mono (MLe.refl _) (GLe.set he hee) (hw _ (fun heq => hs (h.inj s r y e hy he heq)))
  mem := fun b off x hx => by
    have := h.mem b off x hx
    rw [cell_old (hw b (fun heq => by have := h.sep r e off he; rw [← heq, hx] at this; cases this))]
    exact this
  inj := fun s1 s2 a b h1 h2 heq => by
    rcases get_set h1 with ⟨k1, k1', _⟩ | ⟨hs1, k1⟩ <;> rcases get_set h2 with ⟨k2, k2', _⟩ | ⟨hs2, k2⟩
    · omega
    · subst k1'; rw [k1]; exact h.inj _ _ _ _ he k2 (hblk ▸ heq)
    · subst k2'; rw [k2]; exact h.inj _ _ _ _ k1 he (hblk ▸ heq)
    · exact h.inj _ _ _ _ k1 k2 heq
  sep := fun s a off ha => by
    rcases get_set ha with ⟨rfl, rfl, _⟩ | ⟨_, ha⟩
    · rw [hblk]; exact h.sep _ _ _ he
    · exact h.sep _ _ _ ha
  blt := fun s a ha => by
    rw [hsz]
    rcases get_set ha with ⟨rfl, rfl, _⟩ | ⟨_, ha⟩
    · rw [hblk]; exact h.blt _ _ he
    · exact h.blt _ _ ha

theorem Ext.setIn {fl : Nat} {w w' : World} {r : Nat} {e e' : GE} (he : G[r]? = some e) (hfl : fl ≤ r) (hee : e' = e ∨ e.gen < e'.gen) (hblk : e'.blk = e.blk)
    (hos : w'.os = w.os) (htape : w'.tape = w.tape) (hout : w'.output = w.output) (hsz : w'.heap.size = w.heap.size) (hw : ∀ b, b ≠ e.blk → w'.heap[b]? = w.heap[b]?) : Ext fl M G w M (G.set r e') w' where
  os := hos
  tape := htape
  output := hout
  size := by omega
  mle := MLe.refl _
  keep := fun s x hx => by
    by_cases hs : r = s
    · subst hs
      rw [he] at hx; cases hx
      exact ⟨e', by rw [List.getElem?_set_self (lt_of_get he)], hee.imp id (fun h => ⟨hfl, h⟩)⟩
    · exact ⟨x, by rw [List.getElem?_set_ne hs]; exact hx, .inl rfl⟩
  blk := fun s x hx => by
    rcases get_set hx with ⟨rfl, rfl, _⟩ | ⟨_, hx⟩
    · exact .inl ⟨e, he, hblk⟩
    · exact .inl ⟨x, hx, rfl⟩
  other := fun b _ hno => hw b (fun heq => hno r e he hfl heq.symm)
  fresh := fun _ _ _ h => .inl h

/-- an object is laid into a new block -/
theorem Inv.setNew {objs : List Obj} {w : World} (h : Inv M G objs w) {r : Nat} {o' : Obj} {e e' : GE} (he : G[r]? = some e) (hee : e.gen < e'.gen) (gob : Go.Obj) (hblk : e'.blk = w.heap.size)
    (ho : ObjRel M (G.set r e') (w.alloc gob) o' e') : Inv M (G.set r e') (objs.set r o') (w.alloc gob) where
  len := by simp [h.len]
  obj := fun s x y hx hy => by
    rcases get_set hy with ⟨rfl, rfl, hlt⟩ | ⟨hs, hy⟩
    · rw [List.getElem?_set_self (by rw [h.len]; exact hlt)] at hx
      cases hx; exact ho
    · rw [List.getElem?_set_ne (fun e => hs e.symm)] at hx
      exact (h.obj s x y hx hy).mono (MLe.refl _) (GLe.set he (.inr hee)) (push_old w gob (h.blt s y hy))
  mem := fun b off x hx => by
    have := h.mem b off x hx
    rw [cell_old (push_old w gob (cell_lt this))]
    exact this
  inj := fun s1 s2 a b h1 h2 heq => by
    rcases get_set h1 with ⟨k1, k1', _⟩ | ⟨hs1, k1⟩ <;> rcases get_set h2 with ⟨k2, k2', _⟩ | ⟨hs2, k2⟩
    · omega
    · subst k1'; have := h.blt _ _ k2; omega
    · subst k2'; have := h.blt _ _ k1; omega
    · exact h.inj _ _ _ _ k1 k2 heq
  sep := fun s a off ha => by
    rcases get_set ha with ⟨rfl, rfl, _⟩ | ⟨_, ha⟩
    · rw [hblk]
      cases hm : M w.heap.size off with
      | none => rfl
      | some x => have := cell_lt (h.mem _ _ _ hm); omega
    · exact h.sep _ _ _ ha
  blt := fun s a ha => by
    rcases get_set ha with ⟨rfl, rfl, _⟩ | ⟨_, ha⟩
    · rw [hblk]; simp
    · have := h.blt _ _ ha; simp; omega

theorem Ext.setNew {fl : Nat} {w : World} {r : Nat} {e e' : GE} (he : G[r]? = some e) (hfl : fl ≤ r) (hee : e.gen < e'.gen) (gob : Go.Obj) (hblk : e'.blk = w.heap.size) : Ext fl M G w M (G.set r e') (w.alloc gob) where
  os := rfl
  tape := rfl
  output := rfl
  size := by simp
  mle := MLe.refl _
  keep := fun s x hx => by
    by_cases hs : r = s
    · subst hs
      rw [he] at hx; cases hx
      exact ⟨e', by rw [List.getElem?_set_self (lt_of_get he)], .inr ⟨hfl, hee⟩⟩
    · exact ⟨x, by rw [List.getElem?_set_ne hs]; exact hx, .inl rfl⟩
  blk := fun s x hx => by
    rcases get_set hx with ⟨rfl, rfl, _⟩ | ⟨_, hx⟩
    · exact .inr (by omega)
    · exact .inl ⟨x, hx, rfl⟩
  other := fun b hb _ => push_old w gob hb
  fresh := fun _ _ _ h => .inl h

theorem setCells_row (b : Nat) (el : TypeId) : ∀ (vs : List Value) (o : Nat) (w : World) (arr : Array Value), w.heap[b]? = some (.cells arr el) → w.setCells b o vs = w.setRow b ⟨setRV arr.toList o vs⟩
  | [], o, w, arr, h => by
    rw [World.setCells, setRV]
    exact (setRow_self w b arr el (0, 0) h).symm
  | v :: vs, o, w, arr, h => by
    rw [World.setCells, setRV, setCell_eq_setRow w b o arr el (0, 0) v h]
    rw [setCells_row b el vs (o + 1) _ (arr.setIfInBounds o v) (setRow_heap w b arr _ el (0, 0) h), setRow_setRow]
    simp

theorem setRV_len : ∀ (vs cs : List Value) (off : Nat), (setRV cs off vs).length = cs.length
  | [], cs, off => rfl
  | v :: vs, cs, off => by simp [setRV, setRV_len vs]

theorem setRV_get : ∀ (vs cs : List Value) (off : Nat), off + vs.length ≤ cs.length → ∀ i, (setRV cs off vs)[i]? = if off ≤ i ∧ i < off + vs.length then vs[i - off]? else cs[i]?
  | [], cs, off, h, i => by simp [setRV]; omega
  | v :: vs, cs, off, h, i => by
    rw [setRV, setRV_get vs _ (off + 1) (by simp at h ⊢; omega) i]
    simp only [List.length_cons] at h ⊢
    by_cases h1 : off + 1 ≤ i ∧ i < off + 1 + vs.length
    · rw [if_pos h1, if_pos (by omega)]
      have : i - off = (i - (off + 1)) + 1 := by omega
      rw [this, List.getElem?_cons_succ]
    · rw [if_neg h1]
      by_cases h2 : off = i
      · subst h2
        rw [List.getElem?_set_self (by omega), if_pos (by omega)]
        simp
      · rw [List.getElem?_set_ne h2, if_neg (by omega)]

theorem setRange_get : ∀ (vs cs : List AV) (off : Nat), off + vs.length ≤ cs.length → ∀ i, (setRange cs off vs)[i]? = if off ≤ i ∧ i < off + vs.length then vs[i - off]? else cs[i]?
  | [], cs, off, h, i => by simp [setRange]; omega
  | v :: vs, cs, off, h, i => by
    rw [setRange, setRange_get vs _ (off + 1) (by simp at h ⊢; omega) i]
    simp only [List.length_cons] at h ⊢
    by_cases h1 : off + 1 ≤ i ∧ i < off + 1 + vs.length
    · rw [if_pos h1, if_pos (by omega)]
      have : i - off = (i - (off + 1)) + 1 := by omega
      rw [this, List.getElem?_cons_succ]
    · rw [if_neg h1]
      by_cases h2 : off = i
      · subst h2
        rw [List.getElem?_set_self (by omega), if_pos (by omega)]
        simp
      · rw [List.getElem?_set_ne h2, if_neg (by omega)]

theorem store_run (hT : TEok P T) {st st' : St} {w : World} (hI : Inv M G st.objs w) {t : TypeId} {a v : AV} {A X : Value} (ha : RelV M G a A) (hx : RelV M G v X) (h : store T st t a v = some st') :
    ∃ w', (Instr.storeAt t A X).run P w = .ok () w' ∧ Inv M G st'.objs w' ∧ Ext st.floor M G w M G w' ∧ st'.floor = st.floor := by
  unfold store at h
  split at h <;> try cases h
  rename_i ti r off g vs ht hvs
  obtain ⟨i, d, z, ok⟩ := hT.get ht
  split at h <;> try cases h
  rename_i c gen ho
  split at h <;> try cases h
  rename_i hc
  obtain ⟨hfl, rfl, hvl, hle⟩ := hc
  obtain ⟨e, he, hrel⟩ := hI.get ho
  obtain ⟨e1, e2, e3, arr, el, e4, e5, e6, e7⟩ := hrel
  have hcr := cells_rel hx hvs
  cases ha with
  | ptr h1 h2 h3 =>
    rw [h1] at he
    cases he
    have hA := h3 e1
    subst hA
    have hsz : X.cells.size = ti.size := by rw [← hvl, hcr.1]; simp
    have hst := run_storeCells_cells (P := P) e.blk (e.base + off) X.cells.toList 0 w
      (fun j hj => by
        have hj' : j < X.cells.size := by simpa using hj
        have hlt : e.base + off + j < arr.size := by omega
        simp [World.cell?, e4, hlt])
      (fun j hj => by simp [World.frozen?, e4]) (hcr.one)
    simp only [Nat.add_zero] at hst
    rw [setCells_row e.blk el X.cells.toList _ w arr e4] at hst
    refine ⟨w.setRow e.blk ⟨setRV arr.toList (e.base + off) X.cells.toList⟩, ?_, ?_, ?_, rfl⟩
    · have hne : ¬ X.cells.size ≠ ti.size := by simp [hsz]
      simp only [Instr.storeAt, Instr.sureAddr, Sem.run_bind, Sem.run_pure, Result.andThen_ok, storeVar, ok.run_sizeOf, hne, if_false]
      exact hst
    · have := hI.setIn (r := r) (o' := .cells (setRange c off vs) gen) (e' := e) h1 (.inl rfl) rfl (w' := w.setRow e.blk ⟨setRV arr.toList (e.base + off) X.cells.toList⟩) (by simp)
        (fun b hb => setRow_other w e.blk b _ hb) ?_
      · rw [set_self h1] at this
        exact this
      · rw [set_self h1]
        refine ⟨e1, by rw [setRange_len]; exact e2, e3, _, el, setRow_heap w e.blk arr _ el (0, 0) e4, by simp [setRV_len]; exact e5, ?_, ?_⟩
        · intro x hx
          rcases setRange_mem vs c off x hx with hx | hx
          · exact e6 x hx
          · exact hcr.2.1 x hx
        · intro i x hx
          rw [setRange_get vs c off (by omega) i] at hx
          have hlen : X.cells.toList.length = vs.length := hcr.1.symm
          have hg := setRV_get X.cells.toList arr.toList (e.base + off) (by rw [hlen]; simp; omega) (e.base + i)
          split at hx
          · rename_i hin
            obtain ⟨y, hy, hr⟩ := cells_get vs _ hcr _ x hx
            refine ⟨y, ?_, hr⟩
            rw [if_pos (by omega)] at hg
            have : e.base + i - (e.base + off) = i - off := by omega
            rw [this, hy] at hg
            simpa using hg
          · rename_i hin
            obtain ⟨y, hy, hr⟩ := e7 i x hx
            refine ⟨y, ?_, hr⟩
            rw [if_neg (by omega)] at hg
            have hy' : arr.toList[e.base + i]? = some y := by simpa using hy
            rw [hy'] at hg
            simpa using hg
    · have := Ext.setIn (M := M) (G := G) (fl := st.floor) (w := w) (w' := w.setRow e.blk ⟨setRV arr.toList (e.base + off) X.cells.toList⟩) (e' := e) h1 hfl (.inl rfl) rfl rfl rfl rfl (by simp) (fun b hb => setRow_other w e.blk b _ hb)
      rw [set_self h1] at this
      exact this

end
end Go.Proofs.YtgkalmmlgkaabaaGreat.Am

namespace Go.Proofs.YtgkalmmlgkaabaaGreat.Am

section
variable {P : Program} {T : TE} {M : Mem} {G : List GE}

/-- the elements of a slice, here and there -/
theorem view_run (hT : TEok P T) {objs : List Obj} {w : World} (hI : Inv M G objs w) {u : TypeId} {ui : TI} (hu : T u = some ui) {eu : Nat} (hk : ui.k = .slice eu) {s n : Nat} {x : AV} {X : Value} (hx : RelV M G x X) {cs : List AV} (h : view objs s x = some (n, cs)) :
    ∃ news, Src P s u X n news w ∧ RelL M G cs news := by
  obtain ⟨i, d, z, ok⟩ := hT.get hu
  have hun := ok.und
  have hk' := ok.k
  rw [hk] at hk'
  rw [kOf_slice hk'] at hun
  unfold view at h
  split at h <;> try cases h
  · cases hx
    exact ⟨[], Src.ofNil w hun 0, rfl, by simp, by simp⟩
  · rename_i n' s' cs' full so
    split at h <;> try cases h
    rename_i hs
    subst hs
    cases hx with
    | fsl0 => exact ⟨[], Src.ofSlice w hun _ 0 0 [] (by simp) (by simp) (by simp), rfl, by simp, by simp⟩
    | fsl hl hn hf h1 h2 h3 =>
      rename_i b base cap f
      have hr : RelL M G cs ((List.range cs.length).map f) := by
        refine ⟨by simp, h1, ?_⟩
        intro i x y hx hy
        have hi := lt_of_get hx
        simp [hi] at hy
        subst hy
        have := h3 i x hx
        cases so
        · exact this
        · exact this.mono (MLe.refl _) (GLe.nil _)
      refine ⟨_, Src.ofSlice w hun ⟨b, base, none⟩ n cap ((List.range cs.length).map f) (by simp [hl]) ?_ hr.one, hr⟩
      intro j y hy
      have hj : j < cs.length := by have := lt_of_get hy; simpa using this
      simp [hj] at hy
      subst hy
      rw [Addr.add_lit]
      exact hI.mem _ _ _ (h2 j hj)
  · rename_i r off n' s' g
    split at h <;> try cases h
    rename_i c gen ho
    split at h <;> try cases h
    rename_i hc
    obtain ⟨rfl, rfl⟩ := hc
    obtain ⟨e, he, hrel⟩ := hI.get ho
    obtain ⟨e1, e2, e3, arr, el, e4, e5, e6, e7⟩ := hrel
    cases hx with
    | sl h1 h2 h3 h4 =>
      rename_i a cap
      rw [h1] at he
      cases he
      obtain ⟨h5, h6, h7⟩ := h4 e1
      have hlen : ((c.drop off).take (n * s')).length = n * s' := by simp; omega
      have hr : RelL M G ((c.drop off).take (n * s')) ((arr.toList.drop (e.base + off)).take (n * s')) := by
        refine ⟨by simp; omega, fun x hx => e6 x (List.mem_of_mem_drop (List.mem_of_mem_take hx)), ?_⟩
        intro i x y hx hy
        have hi : i < n * s' := by have := lt_of_get hx; omega
        rw [List.getElem?_take_of_lt hi, List.getElem?_drop] at hx hy
        obtain ⟨y', hy', hr⟩ := e7 _ x hx
        have : arr.toList[e.base + off + i]? = some y' := by rw [← Nat.add_assoc] at hy'; simpa using hy'
        rw [this] at hy
        cases hy
        exact hr
      refine ⟨_, Src.ofSlice w hun a n cap _ (by rw [← hr.1, hlen]) ?_ hr.one, hr⟩
      intro j y hy
      have hj : j < n * s' := by have := lt_of_get hy; simp at this; omega
      rcases h7 with rfl | h7
      · rw [List.getElem?_take_of_lt hj, List.getElem?_drop] at hy
        rw [Addr.add_lit]
        simp only [World.cell?, e4]
        simpa using hy
      · have : n = 0 := by omega
        subst this
        simp at hj

theorem heap_new (w : World) (o : Go.Obj) : (w.drew.alloc o).heap[w.heap.size]? = some o := by
  show (w.heap.push o)[w.heap.size]? = some o
  simp

theorem Ext.ofDrew {fl : Nat} {M' : Mem} {G' : List GE} {w w' : World} (h : Ext fl M G w.drew M' G' w') : Ext fl M G w M' G' w' :=
  ⟨h.os, h.tape, h.output, h.size, h.mle, h.keep, h.blk, h.other, h.fresh⟩

theorem relL_append {cs ds : List AV} {xs ys : List Value} (h : RelL M G cs xs) (k : RelL M G ds ys) : RelL M G (cs ++ ds) (xs ++ ys) := by
  refine ⟨by simp [h.1, k.1], ?_, ?_⟩
  · intro x hx
    rcases List.mem_append.1 hx with hx | hx
    · exact h.2.1 x hx
    · exact k.2.1 x hx
  · intro i x y hx hy
    by_cases hi : i < cs.length
    · rw [List.getElem?_append_left hi] at hx
      rw [List.getElem?_append_left (h.1 ▸ hi)] at hy
      exact h.2.2 i x y hx hy
    · rw [List.getElem?_append_right (by omega)] at hx
      rw [List.getElem?_append_right (by have := h.1; omega), ← h.1] at hy
      exact k.2.2 _ x y hx hy

/-- a new row that append makes, as an object -/
theorem new_row {e : TypeId} {ei : TI} {i2 : TypeInfo} {d2 : TypeDesc} {z2 : Value} (ok2 : TIok P e ei i2 d2 z2) {cs : List AV} {xs : List Value} (k gc : Nat) (hgc : k ≤ gc) (hlen : cs.length = k * ei.size) {M' : Mem} {G' : List GE} (h : RelL M' G' cs xs)
    {w' : World} {b : Nat} {el : TypeId} (hb : w'.heap[b]? = some (.cells (xs.toArray ++ Builtin.zeroCells z2.cells (gc - k)) el)) (gen : Nat) :
    ObjRel M' G' w' (.cells cs gen) ⟨b, 0, gc * ei.size, cs.length, gen⟩ := by
  have hxl : xs.length = k * ei.size := by rw [← h.1, hlen]
  have hsz : (xs.toArray ++ Builtin.zeroCells z2.cells (gc - k)).size = gc * ei.size := by
    rw [Array.size_append, size_zeroCells, ok2.zsize]
    simp only [List.size_toArray, hxl]
    rw [← Nat.add_mul]
    congr 1
    omega
  refine ⟨rfl, rfl, ?_, _, el, hb, by simp only [Nat.zero_add]; rw [hsz]; exact Nat.le_refl _, h.2.1, ?_⟩
  · simp only; rw [hlen]; exact Nat.mul_le_mul_right _ hgc
  · intro i x hx
    obtain ⟨y, hy, hr⟩ := cells_get cs _ h i x hx
    have hi : i < xs.length := h.1 ▸ lt_of_get hx
    refine ⟨y, ?_, hr⟩
    simp only [Nat.zero_add]
    rw [Array.getElem?_append_left (by simpa using hi)]
    simpa using hy

theorem append_run (hT : TEok P T) {st st' : St} {w : World} (hI : Inv M G st.objs w) {t u ty : TypeId} {ui : TI} (hu : T u = some ui) {eu : Nat} (hk : ui.k = .slice eu) {d x v : AV} {D X : Value} (hd : RelV M G d D) (hx : RelV M G x X)
    (h : append T st t d x = some (v, st')) :
    ∃ V w' G', (Builtin.append_ #[t, u] ty #[D, X]).run P w = .ok V w' ∧ RelV M G' v V ∧ Inv M G' st'.objs w' ∧ Ext st.floor M G w M G' w' ∧ st'.floor = st.floor := by
  unfold append at h
  split at h
  · cases h
  · rename_i ti ht
    obtain ⟨i, dd, z, ok⟩ := hT.get ht
    have hun := ok.und
    have hk' := ok.k
    split at h <;> try cases h
    rename_i e hkk
    rw [hkk] at hk'
    rw [kOf_slice hk'] at hun
    split at h
    · cases h
    · rename_i ei he
      obtain ⟨i2, d2, z2, ok2⟩ := hT.get he
      split at h
      · cases h
      · rename_i n new hv
        obtain ⟨news, hsrc, hrl⟩ := view_run hT hI hu hk hx hv
        rw [← ok2.size] at hsrc
        have hnl : new.length = n * ei.size := by rw [hrl.1, hsrc.newsLen, ok2.size]
        split at h
        · rename_i hn
          subst hn
          have hn0 : news = [] := by have := hsrc.newsLen; simpa using this
          subst hn0
          split at h <;> try cases h
          · cases hd
            exact ⟨_, w, G, run_append_nothing w t u ty e i2 hun ok2.info none 0 0 (Nat.le_refl _) X hsrc, .nils, hI, Ext.refl _ _ _ _, rfl⟩
          · cases hd with
            | fsl0 => exact ⟨_, w, G, run_append_nothing w t u ty e i2 hun ok2.info _ _ _ (Nat.le_refl 0) X hsrc, .fsl0, hI, Ext.refl _ _ _ _, rfl⟩
            | fsl hl hn hf h1 h2 h3 => exact ⟨_, w, G, run_append_nothing w t u ty e i2 hun ok2.info _ _ _ hn X hsrc, .fsl hl hn hf h1 h2 h3, hI, Ext.refl _ _ _ _, rfl⟩
          · cases hd with
            | sl h1 h2 h3 h4 => exact ⟨_, w, G, run_append_nothing w t u ty e i2 hun ok2.info _ _ _ h3 X hsrc, .sl h1 h2 h3 h4, hI, Ext.refl _ _ _ _, rfl⟩
        · rename_i hn
          have fits : ∀ need old : Nat, need ≤ lim → old < need → Builtin.nextslicecap need old * i2.bytes ≤ 281474976710656 := by
            intro need old h1 h2
            refine growslice_fits h2 ?_
            have hb := ok2.bytes
            unfold lim at h1
            calc need * i2.bytes ≤ 2147483648 * 65536 := Nat.mul_le_mul h1 hb
              _ = 140737488355328 := rfl
          have b63 : ∀ need : Nat, need ≤ lim → ((need : Nat) : Int) ≤ 9223372036854775807 := by
            intro need h1; unfold lim at h1; omega
          split at h <;> try cases h
          · -- nil
            split at h <;> try cases h
            rename_i hlim
            cases hd
            have hrun := run_append_grow_src (P := P) w t u ty e i2 z2 hun ok2.info ok2.hz none 0 0 [] (run_firstCells_none w.drew i2.size 0 0 0) X n news hsrc (by omega) (by simpa using b63 n hlim) (by simpa using fits n 0 hlim (by omega))
            simp only [List.nil_append, Nat.zero_add] at hrun
            have hgc : n ≤ grownCap w n 0 e := by have := grownCap_ge w n 0 e; exact this
            refine ⟨_, _, G ++ [⟨w.heap.size, 0, grownCap w n 0 e * ei.size, new.length, 0⟩], hrun, ?_, ?_, ?_, rfl⟩
            · rw [hI.len]
              refine .sl (last_get _) (Nat.le_refl _) hgc (fun _ => ⟨?_, ?_, .inl rfl⟩)
              · simp only; omega
              · simp only; omega
            · refine (hI.drew.alloc _).push ?_ (by simp) ?_ ?_
              · exact new_row (el := e) ok2 n _ hgc hnl (hrl.mono (MLe.refl _) (GLe.push _ _)) (heap_new w _) 0
              · intro x
                cases hm : M w.heap.size x with
                | none => rfl
                | some y => have := cell_lt (hI.mem _ _ _ hm); omega
              · intro r e' he'; have := hI.blt r e' he'; simp only; omega
            · exact Ext.ofDrew (Ext.push st.floor w.drew _ _ (by simp))
          · -- a row that is full
            rename_i k s cs so
            split at h <;> try cases h
            rename_i hc
            obtain ⟨rfl, hlim⟩ := hc
            have hd0 := hd
            cases hd with
            | fsl0 =>
              rename_i a
              obtain ⟨olds, hso, hro⟩ := view_run hT hI (objs := st.objs) (w := w) ht hkk (s := ei.size) (n := 0) (cs := []) hd0 (by simp [view])
              have hfc : (Builtin.firstCells i2.size 0 (.slice (some a) 0 0)).run P w.drew = .ok olds.toArray w.drew := by rw [ok2.size]; exact hso.cellsD
              have hrun := run_append_grow_src (P := P) w t u ty e i2 z2 hun ok2.info ok2.hz (some a) 0 0 olds hfc X n news hsrc (by omega) (b63 _ hlim) (fits _ _ hlim (by omega))
              have hgc : 0 + n ≤ grownCap w (0 + n) 0 e := by have := grownCap_ge w (0 + n) 0 e; exact this
              have hlen : (([] : List AV) ++ new).length = (0 + n) * ei.size := by simp [hnl]
              refine ⟨_, _, G ++ [⟨w.heap.size, 0, grownCap w (0 + n) 0 e * ei.size, (([] : List AV) ++ new).length, 0⟩], hrun, ?_, ?_, ?_, rfl⟩
              · rw [hI.len]
                refine .sl (last_get _) (Nat.le_refl _) hgc (fun _ => ⟨?_, ?_, .inl rfl⟩)
                · simp only; omega
                · simp only; omega
              · refine (hI.drew.alloc _).push ?_ (by simp) ?_ ?_
                · exact new_row (el := e) ok2 (0 + n) _ hgc hlen ((relL_append hro hrl).mono (MLe.refl _) (GLe.push _ _)) (heap_new w _) 0
                · intro x
                  cases hm : M w.heap.size x with
                  | none => rfl
                  | some y => have := cell_lt (hI.mem _ _ _ hm); omega
                · intro r e' he'; have := hI.blt r e' he'; simp only; omega
              · exact Ext.ofDrew (Ext.push st.floor w.drew _ _ (by simp))
            | fsl hl hnc hf h1 h2 h3 =>
              rename_i b base cap f
              have hcap := hf rfl
              subst hcap
              obtain ⟨olds, hso, hro⟩ := view_run hT hI (objs := st.objs) (w := w) ht hkk (s := ei.size) (n := cap) (cs := cs) hd0 (by simp [view])
              have hfc : (Builtin.firstCells i2.size cap (.slice (some ⟨b, base, none⟩) cap cap)).run P w.drew = .ok olds.toArray w.drew := by rw [ok2.size]; exact hso.cellsD
              have hrun := run_append_grow_src (P := P) w t u ty e i2 z2 hun ok2.info ok2.hz (some ⟨b, base, none⟩) cap cap olds hfc X n news hsrc (by omega) (b63 _ hlim) (fits _ _ hlim (by omega))
              have hgc : cap + n ≤ grownCap w (cap + n) cap e := by have := grownCap_ge w (cap + n) cap e; exact this
              have hlen : (cs ++ new).length = (cap + n) * ei.size := by rw [List.length_append, hl, hnl, Nat.add_mul]
              refine ⟨_, _, G ++ [⟨w.heap.size, 0, grownCap w (cap + n) cap e * ei.size, (cs ++ new).length, 0⟩], hrun, ?_, ?_, ?_, rfl⟩
              · rw [hI.len]
                refine .sl (last_get _) (Nat.le_refl _) hgc (fun _ => ⟨?_, ?_, .inl rfl⟩)
                · simp only; omega
                · simp only; omega
              · refine (hI.drew.alloc _).push ?_ (by simp) ?_ ?_
                · exact new_row (el := e) ok2 (cap + n) _ hgc hlen ((relL_append hro hrl).mono (MLe.refl _) (GLe.push _ _)) (heap_new w _) 0
                · intro x
                  cases hm : M w.heap.size x with
                  | none => rfl
                  | some y => have := cell_lt (hI.mem _ _ _ hm); omega
                · intro r e' he'; have := hI.blt r e' he'; simp only; omega
              · exact Ext.ofDrew (Ext.push st.floor w.drew _ _ (by simp))
          · -- a row of ours
            rename_i r off k s g
            split at h <;> try cases h
            rename_i c gen ho
            split at h <;> try cases h
            rename_i hc
            obtain ⟨hfl, rfl, rfl, hlim⟩ := hc
            have hd0 := hd
            obtain ⟨ge, hge, hrel⟩ := hI.get ho
            obtain ⟨e1, e2, e3, arr, el, e4, e5, e6, e7⟩ := hrel
            cases hd with
            | sl h1 h2 h3 h4 =>
              rename_i a cap
              rw [h1] at hge
              cases hge
              obtain ⟨h5, h6, h7⟩ := h4 e1
              obtain ⟨olds, hso, hro⟩ := view_run hT hI (objs := st.objs) (w := w) ht hkk (s := ei.size) (n := k) (cs := (c.drop off).take (k * ei.size)) hd0 (by simp [view, ho])
              have hol : ((c.drop off).take (k * ei.size)).length = k * ei.size := by rw [hro.1, hso.newsLen]
              have hlen : ((c.drop off).take (k * ei.size) ++ new).length = (k + n) * ei.size := by rw [List.length_append, hol, hnl, Nat.add_mul]
              by_cases hroom : k + n ≤ cap
              · have ha : a = ⟨ge.blk, ge.base + off, none⟩ := by
                  rcases h7 with h7 | h7
                  · exact h7
                  · omega
                subst ha
                have hcs : (k + n) * ei.size ≤ cap * ei.size := Nat.mul_le_mul_right _ hroom
                rw [Nat.add_mul] at hcs
                have hnews : news.length = n * ei.size := by rw [hsrc.newsLen, ok2.size]
                have hrun := run_append_room_src (P := P) w t u ty e i2 hun ok2.info ge.blk (ge.base + off) k cap X n news hsrc hroom
                  (fun j hj => by
                    rw [ok2.size]
                    have hlt : ge.base + off + k * ei.size + j < arr.size := by omega
                    simp [World.cell?, e4, hlt])
                  (fun j hj => by simp [World.frozen?, e4])
                rw [setCells_row ge.blk el news _ w arr e4, ok2.size] at hrun
                have hset : ((G.set r ⟨ge.blk, ge.base + off, cap * ei.size, (k + n) * ei.size, ge.gen + 1⟩))[r]? = some ⟨ge.blk, ge.base + off, cap * ei.size, (k + n) * ei.size, ge.gen + 1⟩ := by
                  rw [List.getElem?_set_self (lt_of_get h1)]
                have hge : GLe G (G.set r ⟨ge.blk, ge.base + off, cap * ei.size, (k + n) * ei.size, ge.gen + 1⟩) := GLe.set h1 (.inr (by simp))
                refine ⟨_, _, G.set r ⟨ge.blk, ge.base + off, cap * ei.size, (k + n) * ei.size, ge.gen + 1⟩, hrun, ?_, ?_, ?_, rfl⟩
                · refine .sl hset (by simp only; omega) hroom (fun _ => ⟨by simp, by simp, .inl (by simp)⟩)
                · refine hI.setIn h1 (.inr (by simp)) rfl (by simp) (fun b hb => setRow_other w ge.blk b _ hb) ?_
                  refine ⟨by simp only; omega, by simp only; rw [hlen], by simp only; rw [Nat.add_mul]; omega, _, el, setRow_heap w ge.blk arr _ el (0, 0) e4, by simp [setRV_len]; omega, ?_, ?_⟩
                  · intro x hx
                    rcases List.mem_append.1 hx with hx | hx
                    · exact hro.2.1 x hx
                    · exact hrl.2.1 x hx
                  · intro i x hx
                    have hg := setRV_get news arr.toList (ge.base + off + k * ei.size) (by simp; omega) (ge.base + off + i)
                    by_cases hi : i < k * ei.size
                    · rw [List.getElem?_append_left (by rw [hol]; exact hi), List.getElem?_take_of_lt hi, List.getElem?_drop] at hx
                      obtain ⟨y, hy, hr⟩ := e7 _ x hx
                      refine ⟨y, ?_, hr.mono (MLe.refl _) hge⟩
                      rw [if_neg (by omega)] at hg
                      have hy' : arr.toList[ge.base + off + i]? = some y := by rw [← Nat.add_assoc] at hy; simpa using hy
                      rw [hy'] at hg
                      simpa using hg
                    · rw [List.getElem?_append_right (by omega), hol] at hx
                      obtain ⟨y, hy, hr⟩ := cells_get new _ hrl _ x hx
                      have hin := lt_of_get hx
                      refine ⟨y, ?_, hr.mono (MLe.refl _) hge⟩
                      rw [if_pos (by omega)] at hg
                      have : ge.base + off + i - (ge.base + off + k * ei.size) = i - k * ei.size := by omega
                      rw [this, hy] at hg
                      simpa using hg
                · exact Ext.setIn h1 hfl (.inr (by simp)) rfl rfl rfl rfl (by simp) (fun b hb => setRow_other w ge.blk b _ hb)
              · have hfc : (Builtin.firstCells i2.size k (.slice (some a) k cap)).run P w.drew = .ok olds.toArray w.drew := by rw [ok2.size]; exact hso.cellsD
                have hrun := run_append_grow_src (P := P) w t u ty e i2 z2 hun ok2.info ok2.hz (some a) k cap olds hfc X n news hsrc (by omega) (b63 _ hlim) (fits _ _ hlim (by omega))
                have hgc : k + n ≤ grownCap w (k + n) cap e := by have := grownCap_ge w (k + n) cap e; exact this
                have hset : ((G.set r ⟨w.heap.size, 0, grownCap w (k + n) cap e * ei.size, ((c.drop off).take (k * ei.size) ++ new).length, ge.gen + 1⟩))[r]? = some ⟨w.heap.size, 0, grownCap w (k + n) cap e * ei.size, ((c.drop off).take (k * ei.size) ++ new).length, ge.gen + 1⟩ := by
                  rw [List.getElem?_set_self (lt_of_get h1)]
                have hgle : GLe G (G.set r ⟨w.heap.size, 0, grownCap w (k + n) cap e * ei.size, ((c.drop off).take (k * ei.size) ++ new).length, ge.gen + 1⟩) := GLe.set h1 (.inr (by simp))
                refine ⟨_, _, G.set r ⟨w.heap.size, 0, grownCap w (k + n) cap e * ei.size, ((c.drop off).take (k * ei.size) ++ new).length, ge.gen + 1⟩, hrun, ?_, ?_, ?_, rfl⟩
                · refine .sl hset (by simp only; omega) hgc (fun _ => ⟨?_, ?_, .inl rfl⟩)
                  · simp only; omega
                  · simp only; omega
                · refine hI.drew.setNew h1 (by simp) _ rfl ?_
                  have := new_row ok2 (k + n) _ hgc hlen ((relL_append hro hrl).mono (MLe.refl _) hgle) (w' := w.drew.alloc (.cells ((olds ++ news).toArray ++ Builtin.zeroCells z2.cells (grownCap w (k + n) cap e - (k + n))) e)) (b := w.heap.size) (el := e) (heap_new w _) (ge.gen + 1)
                  rw [← e1]
                  exact this
                · exact Ext.ofDrew (Ext.setNew h1 hfl (by simp) _ (by simp))

end
end Go.Proofs.YtgkalmmlgkaabaaGreat.Am

namespace Go.Proofs.YtgkalmmlgkaabaaGreat.Am

section
variable {P : Program} {T : TE} {M : Mem} {G : List GE}

theorem scal_eq {x y : AV} (h : scalEq x y = some true) : x = y := by
  cases x <;> cases y <;> simp only [scalEq] at h <;> try cases h
  · simp at h; rw [h]
  · split at h
    · rename_i hk; subst hk; simp at h; rw [h]
    · cases h
  · simp at h; rw [h]

theorem sameBits_key {k : AV} {K K' : Value} (hk : RelV M G k K) (hk' : RelV M G k K') (hko : keyOk k = true) (n : Nat) : Instr.sameBits n K K' = true := by
  cases k <;> simp [keyOk] at hko
  · cases hk; cases hk'; cases n <;> simp [Instr.sameBits]
  · cases hk; cases hk'; cases n <;> (simp only [Instr.sameBits]; rw [beq_toListBytes]; simp)

/-- putting into a list of entries, here and there -/
theorem put_rel (hT : TEok P T) {t : TypeId} {d : TypeDesc} (hd : P.underlying t = some d) {k v : AV} {K V : Value} (hk : RelV M G k K) (hv : RelV M G v V) (ht : keyT T t k = true) (clock : Nat) :
    ∀ (es es' : List (AV × AV × Nat)) (clock' : Nat) (ens : List MapEntry) (i0 : Nat), RelE M G es ens → putE k v clock es = some (es', clock') →
      (Instr.findNow d K ens i0 = some none ∧ es' = es ++ [(k, v, clock)] ∧ clock' = clock + 1) ∨
      (∃ i U b kk, Instr.findNow d K ens i0 = some (some (i0 + i, U)) ∧ clock' = clock ∧ (∃ n, ens[i]? = some n ∧ n.born = b ∧ RelV M G k n.key) ∧ es[i]? = some (k, kk, b) ∧ es' = es.set i (k, v, b))
  | [], es', clock', [], i0, _, h => by
    simp only [putE, Option.some.injEq, Prod.mk.injEq] at h
    obtain ⟨rfl, rfl⟩ := h
    exact .inl ⟨rfl, rfl, rfl⟩
  | (k', v', b) :: es, es', clock', n :: ens, i0, hr, h => by
    obtain ⟨h1, h2, h3, h4⟩ := hr.2 0 k' v' b n rfl rfl
    simp only [putE] at h
    split at h
    · rename_i hs
      simp only [Option.some.injEq, Prod.mk.injEq] at h
      obtain ⟨rfl, rfl⟩ := h
      obtain ⟨d', hd', hsn⟩ := same_scal hT hk h3 ht hs
      rw [hd] at hd'; cases hd'
      have hkk := scal_eq hs
      subst hkk
      exact .inr ⟨0, n.val, b, v', by simp [Instr.findNow, hsn], rfl, ⟨n, rfl, h1, h3⟩, rfl, rfl⟩
    · rename_i hs
      obtain ⟨d', hd', hsn⟩ := same_scal hT hk h3 ht hs
      rw [hd] at hd'; cases hd'
      cases hpe : putE k v clock es with
      | none => rw [hpe] at h; cases h
      | some p =>
      obtain ⟨es2, c2⟩ := p
      rw [hpe] at h
      simp only [Option.some.injEq, Prod.mk.injEq] at h
      obtain ⟨rfl, rfl⟩ := h
      rcases put_rel hT hd hk hv ht clock es es2 _ ens (i0 + 1) hr.tail hpe with ⟨h5, h6, h7⟩ | ⟨i, U, b', kk, h5, h6, h7, h8, h9⟩
      · exact .inl ⟨by simp [Instr.findNow, hsn, h5], by rw [h6]; rfl, h7⟩
      · refine .inr ⟨i + 1, U, b', kk, ?_, h6, by simpa using h7, by simpa using h8, by rw [h9]; rfl⟩
        simp only [Instr.findNow, hsn, h5]; congr 3; omega
    · cases h
  | [], _, _, _ :: _, _, hr, _ => by have := hr.1; simp at this
  | _ :: _, _, _, [], _, hr, _ => by have := hr.1; simp at this

theorem run_setObj {w : World} {r : Nat} {o : Go.Obj} (h : w.heap[r]? = some o) (hc : ∀ c t f, o ≠ .cells c t f) (o' : Go.Obj) : (setObj r o').run P w = .ok () { w with heap := w.heap.setIfInBounds r o' } := by
  simp only [setObj, Sem.run, h]

theorem keyT_ok {t : TypeId} {k : AV} (h : keyT T t k = true) : keyOk k = true := by
  unfold keyT at h
  split at h
  · cases h
  · split at h <;> first | rfl | cases h

theorem mapUpdate_run (hT : TEok P T) {st st' : St} {w : World} (hI : Inv M G st.objs w) {t : TypeId} {m k v : AV} {A K X : Value} (hm : RelV M G m A) (hk : RelV M G k K) (hx : RelV M G v X) (h : mapUpdate T st t m k v = some st') :
    ∃ w', (Instr.mapUpdate t A K X).run P w = .ok () w' ∧ Inv M G st'.objs w' ∧ Ext st.floor M G w M G w' ∧ st'.floor = st.floor := by
  unfold mapUpdate at h
  split at h
  · cases h
  · rename_i ti ht
    obtain ⟨i, d, z, okt⟩ := hT.get ht
    have hu := okt.und
    have hk' := okt.k
    split at h <;> try cases h
    rename_i kt e r hkk
    rw [hkk] at hk'
    rw [kOf_map hk'] at hu
    split at h <;> try cases h
    rename_i es clock ho
    split at h <;> try cases h
    rename_i hc
    obtain ⟨hfl, hkt⟩ := hc
    split at h <;> try cases h
    rename_i es' clock' hp
    obtain ⟨dk, hdk⟩ : ∃ dk, P.underlying kt = some dk := by
      rcases keyT_und hT hkt with ⟨q, hu, _⟩ | ⟨hu, _⟩ <;> exact ⟨_, hu⟩
    obtain ⟨ge, ens, g1, g2, rfl, g3, g4⟩ := map_get hI ho hm
    have hget := run_getObj (P := P) g3 (by intro c t f hh; cases hh)
    have hset := fun o' => run_setObj (P := P) g3 (by intro c t f hh; cases hh) o'
    have hck := checkKey_run hT hk hkt false 9999 w
    have hne : ∀ b (o' : Go.Obj), b ≠ ge.blk → (w.heap.setIfInBounds ge.blk o')[b]? = w.heap[b]? := fun b o' hb => by rw [Array.getElem?_setIfInBounds_ne (Ne.symm hb)]
    have hat : ∀ (o' : Go.Obj), (w.heap.setIfInBounds ge.blk o')[ge.blk]? = some o' := fun o' => by
      have := hI.blt r ge g1
      simp [this]
    have fin : ∀ (ens' : Array MapEntry), RelE M G es' ens'.toList → ∃ w', w' = { w with heap := w.heap.setIfInBounds ge.blk (.map ens' clock') } ∧ Inv M G (st.objs.set r (.map es' clock')) w' ∧ Ext st.floor M G w M G w' := by
      intro ens' hr
      refine ⟨_, rfl, ?_, ?_⟩
      · have := hI.setIn (r := r) (o' := .map es' clock') (e' := ge) (w' := { w with heap := w.heap.setIfInBounds ge.blk (.map ens' clock') }) g1 (.inl rfl) rfl (by simp) (fun b hb => hne b _ hb) ?_
        · rw [set_self g1] at this; exact this
        · rw [set_self g1]
          exact ⟨g2, ens', hat _, by simpa using hr.1, fun i k v b n hk hn => hr.2 i k v b n hk (by simpa using hn)⟩
      · have := Ext.setIn (M := M) (G := G) (fl := st.floor) (w := w) (w' := { w with heap := w.heap.setIfInBounds ge.blk (.map ens' clock') }) (e' := ge) g1 hfl (.inl rfl) rfl rfl rfl rfl (by simp) (fun b hb => hne b _ hb)
        rw [set_self g1] at this; exact this
    have hko := keyT_ok hkt
    rcases put_rel hT hdk hk hx hkt clock es es' clock' ens.toList 0 g4 hp with ⟨h5, rfl, rfl⟩ | ⟨j, U, b, kk, h5, rfl, ⟨n, hn1, hn2, hn3⟩, h8, rfl⟩
    · obtain ⟨w', rfl, hI', hE⟩ := fin (ens.push { key := K, val := X, born := clock }) (by
        refine ⟨by simp [g4.1], ?_⟩
        intro i k1 v1 b1 n1 h1 h2
        simp only [Array.toList_push] at h2
        by_cases hi : i < es.length
        · rw [List.getElem?_append_left hi] at h1
          rw [List.getElem?_append_left (g4.1 ▸ hi)] at h2
          exact g4.2 i k1 v1 b1 n1 h1 h2
        · rw [List.getElem?_append_right (by omega)] at h1
          rw [List.getElem?_append_right (by have := g4.1; omega), ← g4.1] at h2
          by_cases h0 : i - es.length = 0
          · rw [h0] at h1 h2
            simp at h1 h2
            obtain ⟨rfl, rfl, rfl⟩ := h1
            subst h2
            exact ⟨rfl, hko, hk, hx⟩
          · have : ([(k, v, clock)] : List (AV × AV × Nat))[i - es.length]? = none := by simp; omega
            rw [this] at h1; cases h1)
      refine ⟨_, ?_, hI', hE, rfl⟩
      simp only [Instr.mapUpdate, Instr.findKey, Sem.run_bind, run_underlying hu, Result.andThen_ok, hget, hck, run_underlying hdk, h5, Sem.run_pure, hset]
    · obtain ⟨w', rfl, hI', hE⟩ := fin (ens.modify j fun e => { e with key := K, val := X }) (by
        refine ⟨by simp [g4.1], ?_⟩
        intro i k1 v1 b1 n1 h1 h2
        by_cases hij : j = i
        · subst hij
          have hlt : j < es.length := lt_of_get h8
          rw [List.getElem?_set_self hlt] at h1
          simp only [Option.some.injEq, Prod.mk.injEq] at h1
          obtain ⟨rfl, rfl, rfl⟩ := h1
          have hn1' : ens[j]? = some n := by simpa using hn1
          have : (ens.modify j fun e => { e with key := K, val := X })[j]? = some { n with key := K, val := X } := by simp [Array.getElem?_modify, hn1']
          have h2' : (ens.modify j fun e => { e with key := K, val := X })[j]? = some n1 := by rw [← Array.getElem?_toList]; exact h2
          rw [this] at h2'
          cases h2'
          exact ⟨hn2, hko, hk, hx⟩
        · rw [List.getElem?_set_ne hij] at h1
          have h2' : (ens.modify j fun e => { e with key := K, val := X })[i]? = some n1 := by rw [← Array.getElem?_toList]; exact h2
          simp only [Array.getElem?_modify, if_neg hij] at h2'
          exact g4.2 i k1 v1 b1 n1 h1 (by simpa using h2'))
      refine ⟨_, ?_, hI', hE, rfl⟩
      have hn1' : ens[0 + j]? = some n := by rw [Nat.zero_add]; simpa using hn1
      have hkts : (Instr.keyThatStays (((ens[0 + j]?).map (·.key)).getD K) K).run P w = .ok K w := by
        rw [hn1']
        simp only [Option.map_some, Option.getD_some, Instr.keyThatStays, sameBits_key hn3 hk hko 10000, if_true, Sem.run_pure]
      simp only [Instr.mapUpdate, Instr.findKey, Sem.run_bind, run_underlying hu, Result.andThen_ok, hget, hck, run_underlying hdk, h5, Sem.run_pure, hset, hkts]
      rw [Nat.zero_add]

theorem next_run {st st' : St} {w : World} (hI : Inv M G st.objs w) {it v : AV} {X : Value} (hx : RelV M G it X) (h : next st it = some (v, st')) (ty : TypeId) :
    ∃ V w', (Instr.next X true ty).run P w = .ok V w' ∧ RelV M G v V ∧ Inv M G st'.objs w' ∧ Ext st.floor M G w M G w' ∧ st'.floor = st.floor := by
  unfold next at h
  split at h <;> try cases h
  rename_i r
  split at h <;> try cases h
  rename_i s pos ho
  split at h <;> try cases h
  rename_i hfl
  obtain ⟨e, he, hrel⟩ := hI.get ho
  obtain ⟨e1, e2, e3⟩ := hrel
  cases hx with
  | ptr h1 h2 h3 =>
    rw [h1] at he
    cases he
    have hA := h3 e1
    subst hA
    have hget := run_getObj (P := P) e3 (by intro c t f hh; cases hh)
    have hsz : (ByteArray.mk s.toArray).size = s.length := by simp [ByteArray.size]
    have hoff : e.base + 0 = 0 := by omega
    split at h
    · rename_i hlt
      simp only [Option.some.injEq, Prod.mk.injEq] at h
      obtain ⟨rfl, rfl⟩ := h
      have hset := run_setObj (P := P) e3 (by intro c t f hh; cases hh) (.stringIter ⟨s.toArray⟩ (pos + (Utf8.decode ⟨s.toArray⟩ pos).2))
      have hne : ∀ b (o' : Go.Obj), b ≠ e.blk → (w.heap.setIfInBounds e.blk o')[b]? = w.heap[b]? := fun b o' hb => by rw [Array.getElem?_setIfInBounds_ne (Ne.symm hb)]
      refine ⟨.tuple ⟨[.bool true, .int .i64 pos, .int .i32 (Utf8.decode ⟨s.toArray⟩ pos).1]⟩, { w with heap := w.heap.setIfInBounds e.blk (.stringIter ⟨s.toArray⟩ (pos + (Utf8.decode ⟨s.toArray⟩ pos).2)) }, ?_, ?_, ?_, ?_, rfl⟩
      · have hlt' : pos < (ByteArray.mk s.toArray).size := by omega
        simp only [hoff, Instr.next, Sem.run_bind, hget, Result.andThen_ok, hlt', if_true, hset, Sem.run_pure]
        rfl
      · refine .tuple rfl ?_
        intro i x y hx hy
        match i with
        | 0 => simp at hx hy; subst hx; subst hy; exact .bool
        | 1 => simp at hx hy; subst hx; subst hy; exact .int
        | 2 => simp at hx hy; subst hx; subst hy; exact .int
        | i + 3 => simp at hx
      · have := hI.setIn (r := r) (o' := .iter s (pos + (Utf8.decode ⟨s.toArray⟩ pos).2)) (e' := e) (w' := { w with heap := w.heap.setIfInBounds e.blk (.stringIter ⟨s.toArray⟩ (pos + (Utf8.decode ⟨s.toArray⟩ pos).2)) }) h1 (.inl rfl) rfl (by simp) (fun b hb => hne b _ hb) ?_
        · rw [set_self h1] at this; exact this
        · rw [set_self h1]
          refine ⟨e1, e2, ?_⟩
          have := hI.blt r e h1
          simp [this]
      · have := Ext.setIn (M := M) (G := G) (fl := st.floor) (w := w) (w' := { w with heap := w.heap.setIfInBounds e.blk (.stringIter ⟨s.toArray⟩ (pos + (Utf8.decode ⟨s.toArray⟩ pos).2)) }) (e' := e) h1 hfl (.inl rfl) rfl rfl rfl rfl (by simp) (fun b hb => hne b _ hb)
        rw [set_self h1] at this; exact this
    · rename_i hlt
      simp only [Option.some.injEq, Prod.mk.injEq] at h
      obtain ⟨rfl, rfl⟩ := h
      refine ⟨.tuple ⟨[.bool false]⟩, w, ?_, ?_, hI, Ext.refl _ _ _ _, rfl⟩
      · have hlt' : ¬ pos < (ByteArray.mk s.toArray).size := by omega
        simp only [hoff, Instr.next, Sem.run_bind, hget, Result.andThen_ok, hlt', if_false, Sem.run_pure]
      · refine .tuple rfl ?_
        intro i x y hx hy
        match i with
        | 0 => simp at hx hy; subst hx; subst hy; exact .bool
        | i + 1 => simp at hx

end
end Go.Proofs.YtgkalmmlgkaabaaGreat.Am

namespace Go.Proofs.YtgkalmmlgkaabaaGreat.Am

section
variable {P : Program} {T : TE} {M : Mem} {G : List GE}

/-- cells are laid into a row of ours -/
theorem storeCells_run {objs : List Obj} {w : World} (hI : Inv M G objs w) {fl r gen off : Nat} {c vs : List AV} {xs : List Value} {e : GE} (ho : objs[r]? = some (.cells c gen)) (he : G[r]? = some e) (hfl : fl ≤ r) (hle : off + vs.length ≤ c.length) (hr : RelL M G vs xs) :
    ∃ w', (storeCells ⟨e.blk, e.base + off, none⟩ xs).run P w = .ok () w' ∧ Inv M G (objs.set r (.cells (setRange c off vs) gen)) w' ∧ Ext fl M G w M G w' := by
  obtain ⟨e', he', hrel⟩ := hI.get ho
  rw [he] at he'
  cases he'
  obtain ⟨e1, e2, e3, arr, el, e4, e5, e6, e7⟩ := hrel
  have hlen : xs.length = vs.length := hr.1.symm
  have hst := run_storeCells_cells (P := P) e.blk (e.base + off) xs 0 w
    (fun j hj => by
      have hlt : e.base + off + j < arr.size := by omega
      simp [World.cell?, e4, hlt])
    (fun j hj => by simp [World.frozen?, e4]) (hr.one)
  simp only [Nat.add_zero] at hst
  rw [setCells_row e.blk el xs _ w arr e4] at hst
  refine ⟨w.setRow e.blk ⟨setRV arr.toList (e.base + off) xs⟩, hst, ?_, ?_⟩
  · have := hI.setIn (r := r) (o' := .cells (setRange c off vs) gen) (e' := e) he (.inl rfl) rfl (w' := w.setRow e.blk ⟨setRV arr.toList (e.base + off) xs⟩) (by simp)
      (fun b hb => setRow_other w e.blk b _ hb) ?_
    · rw [set_self he] at this
      exact this
    · rw [set_self he]
      refine ⟨e1, by rw [setRange_len]; exact e2, e3, _, el, setRow_heap w e.blk arr _ el (0, 0) e4, by simp [setRV_len]; exact e5, ?_, ?_⟩
      · intro x hx
        rcases setRange_mem vs c off x hx with hx | hx
        · exact e6 x hx
        · exact hr.2.1 x hx
      · intro i x hx
        rw [setRange_get vs c off (by omega) i] at hx
        have hg := setRV_get xs arr.toList (e.base + off) (by rw [hlen]; simp; omega) (e.base + i)
        split at hx
        · rename_i hin
          obtain ⟨y, hy, hr⟩ := cells_get vs _ hr _ x hx
          refine ⟨y, ?_, hr⟩
          rw [if_pos (by omega)] at hg
          have : e.base + i - (e.base + off) = i - off := by omega
          rw [this, hy] at hg
          simpa using hg
        · rename_i hin
          obtain ⟨y, hy, hr⟩ := e7 i x hx
          refine ⟨y, ?_, hr⟩
          rw [if_neg (by omega)] at hg
          have hy' : arr.toList[e.base + i]? = some y := by simpa using hy
          rw [hy'] at hg
          simpa using hg
  · have := Ext.setIn (M := M) (G := G) (fl := fl) (w := w) (w' := w.setRow e.blk ⟨setRV arr.toList (e.base + off) xs⟩) (e' := e) he hfl (.inl rfl) rfl rfl rfl rfl (by simp) (fun b hb => setRow_other w e.blk b _ hb)
    rw [set_self he] at this
    exact this

theorem relL_take {cs : List AV} {xs : List Value} (h : RelL M G cs xs) (n : Nat) : RelL M G (cs.take n) (xs.take n) := by
  refine ⟨by simp [h.1], fun x hx => h.2.1 x (List.mem_of_mem_take hx), fun i x y hx hy => ?_⟩
  have hi : i < n := by have := lt_of_get hx; simp at this; omega
  rw [List.getElem?_take_of_lt hi] at hx hy
  exact h.2.2 i x y hx hy

/-- what is copied -/
theorem viewS_run {objs : List Obj} {w : World} (hI : Inv M G objs w) {ei : TI} {x : AV} {X : Value} (hx : RelV M G x X) {n : Nat} {cs : List AV} (h : viewS objs ei x = some (n, cs)) (hs : 0 < ei.size) (m : Nat) (hm : m ≤ n) :
    (Builtin.lenOf X).run P w = .ok n w ∧ cs.length = n * ei.size ∧ ∃ ys, (Builtin.firstCells ei.size m X).run P w = .ok ys w ∧ RelL M G (cs.take (m * ei.size)) ys.toList := by
  have hv : view objs ei.size x = some (n, cs) → (Builtin.lenOf X).run P w = .ok n w ∧ cs.length = n * ei.size ∧ ∃ ys, (Builtin.firstCells ei.size m X).run P w = .ok ys w ∧ RelL M G (cs.take (m * ei.size)) ys.toList := by
    intro h
    rcases view_cells hI hx h hs with ⟨rfl, rfl, rfl⟩ | ⟨a, cap, ys, rfl, hr, hl, hc⟩
    · exact ⟨rfl, by simp, #[], run_firstCells_none w _ _ _ _, by simp, by simp, by simp⟩
    · refine ⟨rfl, hl, (ys.take (m * ei.size)).toArray, ?_, ?_⟩
      · refine run_firstCells_some w ei.size m a n cap (ys.take (m * ei.size)) ?_ ?_
        · have := Nat.mul_le_mul_right ei.size hm
          rw [List.length_take, ← hr.1, hl]; omega
        · intro j v hj
          have hj' : j < m * ei.size := by have := lt_of_get hj; simp at this; omega
          rw [List.getElem?_take_of_lt hj'] at hj
          exact hc j v hj
      · exact relL_take hr _
  unfold viewS at h
  split at h
  · rename_i s
    split at h <;> try cases h
    split at h <;> try cases h
    rename_i h1
    cases hx
    have hbs : ∀ (b : List UInt8) (k : Nat), RelL M G ((b.map fun b => (AV.int .u8 b.toNat : AV)).take k) ((b.take k).map fun b => Value.int .u8 b.toNat) := by
      intro b k
      rw [← List.map_take]
      refine ⟨by simp, ?_, ?_⟩
      · intro x hx
        obtain ⟨y, _, rfl⟩ := List.mem_map.1 hx
        rfl
      · intro i x y hx hy
        rw [List.getElem?_map] at hx hy
        cases hq : (b.take k)[i]? with
        | none => rw [hq] at hx; cases hx
        | some q => rw [hq] at hx hy; cases hx; cases hy; exact .int
    refine ⟨by simp [Builtin.lenOf, ByteArray.size], by simp [h1], ((s.take m).map fun b => Value.int .u8 b.toNat).toArray, ?_, ?_⟩
    · simp only [Builtin.firstCells, Sem.run_pure]
      congr 1
      apply Array.ext'
      simp [ByteArray.data_extract]
    · rw [h1, Nat.mul_one]
      exact hbs s m
  · exact hv h

theorem copy_run (hT : TEok P T) {st st' : St} {w : World} (hI : Inv M G st.objs w) {t : Nat} {d x v : AV} {D X : Value} (hd : RelV M G d D) (hx : RelV M G x X) (h : copy T st t d x = some (v, st'))
    {ats : Array TypeId} {ty : TypeId} {args : Array Value} (ht0 : ats[0]? = some t) (h0 : args[0]? = some D) (h1 : args[1]? = some X) :
    ∃ V w', (Builtin.copy_ ats ty args).run P w = .ok V w' ∧ RelV M G v V ∧ Inv M G st'.objs w' ∧ Ext st.floor M G w M G w' ∧ st'.floor = st.floor := by
  unfold copy at h
  split at h
  · cases h
  · rename_i ti ht
    obtain ⟨i, dd, z, ok⟩ := hT.get ht
    have hun := ok.und
    have hk' := ok.k
    split at h <;> try cases h
    rename_i e hkk
    rw [hkk] at hk'
    rw [kOf_slice hk'] at hun
    split at h
    · cases h
    · rename_i ei he
      obtain ⟨i2, d2, z2, ok2⟩ := hT.get he
      split at h
      · cases h
      · rename_i n new hv
        split at h <;> try cases h
        · cases hd
          have hz : (0 : Nat) ≤ n := Nat.zero_le _
          by_cases hs : 0 < ei.size
          · obtain ⟨hlen, _, ys, hf, hr⟩ := viewS_run (P := P) hI hx hv hs 0 hz
            refine ⟨.int .i64 0, w, ?_, .int, hI, Ext.refl _ _ _ _, rfl⟩
            have hf' : (Builtin.firstCells ei.size 0 X).run P w = .ok ys w := hf
            simp only [Builtin.copy_, ht0, h0, h1, Sem.run_bind, run_underlying hun, Result.andThen_ok, hlen, ok2.run_sizeOf, Nat.min_zero, hf', Sem.run_pure]
            rfl
          · have hs0 : ei.size = 0 := by omega
            -- nothing is known of rows of nothing: their length alone
            have hlen : (Builtin.lenOf X).run P w = .ok n w := by
              unfold viewS at hv
              split at hv
              · split at hv <;> try cases hv
                split at hv <;> try cases hv
                rename_i h1'; omega
              · unfold view at hv
                split at hv <;> try cases hv
                · cases hx; rfl
                · split at hv <;> try cases hv
                  cases hx <;> rfl
                · split at hv <;> try cases hv
                  split at hv <;> try cases hv
                  cases hx; rfl
            have hf' : ∃ ys, (Builtin.firstCells ei.size 0 X).run P w = .ok ys w := by
              rw [hs0]
              cases X <;> simp [Builtin.lenOf] at hlen
              · simp [Builtin.firstCells]
              · rename_i b l c
                cases b with
                | none => exact ⟨_, run_firstCells_none w _ _ _ _⟩
                | some a => exact ⟨_, run_firstCells_some w 0 0 a l c [] (by simp) (by simp)⟩
            obtain ⟨ys, hf'⟩ := hf'
            refine ⟨.int .i64 0, w, ?_, .int, hI, Ext.refl _ _ _ _, rfl⟩
            simp only [Builtin.copy_, ht0, h0, h1, Sem.run_bind, run_underlying hun, Result.andThen_ok, hlen, ok2.run_sizeOf, Nat.min_zero, hf', Sem.run_pure]
            rfl
        · rename_i r off k s g
          split at h <;> try cases h
          rename_i c gen ho
          split at h <;> try cases h
          rename_i hc
          obtain ⟨hfl, rfl, rfl, hs⟩ := hc
          obtain ⟨ge, hge, hrel⟩ := hI.get ho
          obtain ⟨e1, e2, e3, arr, el, e4, e5, e6, e7⟩ := hrel
          cases hd with
          | sl g1 g2 g3 g4 =>
            rename_i a cap
            rw [g1] at hge
            cases hge
            obtain ⟨h5, h6, h7⟩ := g4 e1
            obtain ⟨hlen, hnl, ys, hf, hr⟩ := viewS_run (P := P) hI hx hv hs (min n k) (Nat.min_le_left _ _)
            have hmk : min n k * ei.size ≤ k * ei.size := Nat.mul_le_mul_right _ (Nat.min_le_right _ _)
            have hmn : min n k * ei.size ≤ n * ei.size := Nat.mul_le_mul_right _ (Nat.min_le_left _ _)
            have htl : (new.take (min n k * ei.size)).length = min n k * ei.size := by rw [List.length_take, hnl]; omega
            have hmin : Nat.min n k = min n k := rfl
            rcases h7 with rfl | ⟨h7, h8⟩
            · obtain ⟨w', hst, hI', hE⟩ := storeCells_run (P := P) hI (fl := st.floor) (off := off) ho g1 hfl (by rw [htl]; omega) hr
              refine ⟨.int .i64 (min n k : Nat), w', ?_, .int, hI', hE, rfl⟩
              simp only [Builtin.copy_, ht0, h0, h1, Sem.run_bind, run_underlying hun, Result.andThen_ok, hlen, ok2.run_sizeOf, hmin, hf, hst, Sem.run_pure]
              rfl
            · have hk0 : k = 0 := by omega
              subst hk0
              obtain ⟨w', hst, hI', hE⟩ := storeCells_run (P := P) hI (fl := st.floor) (off := off) ho g1 hfl (by rw [htl]; omega) hr
              have hys : ys.toList = [] := by
                have := hr.1
                rw [htl] at this
                simp at this
                simpa using this.symm
              rw [hys] at hst
              simp only [storeCells, Sem.run_pure, Result.ok.injEq, true_and] at hst
              subst hst
              refine ⟨.int .i64 (min n 0 : Nat), w, ?_, .int, hI', hE, rfl⟩
              simp only [Builtin.copy_, ht0, h0, h1, Sem.run_bind, run_underlying hun, Result.andThen_ok, hlen, ok2.run_sizeOf, hmin, hf, hys, storeCells, Sem.run_pure]
              rfl

theorem clearS_run (hT : TEok P T) {st st' : St} {w : World} (hI : Inv M G st.objs w) {t : Nat} {x : AV} {X : Value} (hx : RelV M G x X) (h : clearS T st t x = some st')
    {ats : Array TypeId} {ty : TypeId} {args : Array Value} (ht0 : ats[0]? = some t) (h0 : args[0]? = some X) :
    ∃ w', (Builtin.clear_ ats ty args).run P w = .ok (.tuple #[]) w' ∧ Inv M G st'.objs w' ∧ Ext st.floor M G w M G w' ∧ st'.floor = st.floor := by
  unfold clearS at h
  split at h
  · cases h
  · rename_i ti ht
    obtain ⟨i, dd, z, ok⟩ := hT.get ht
    have hun := ok.und
    have hk' := ok.k
    split at h <;> try cases h
    rename_i e hkk
    rw [hkk] at hk'
    rw [kOf_slice hk'] at hun
    split at h
    · cases h
    · rename_i ei he
      obtain ⟨i2, d2, z2, ok2⟩ := hT.get he
      split at h <;> try cases h
      · cases hx
        refine ⟨w, ?_, hI, Ext.refl _ _ _ _, rfl⟩
        simp only [Builtin.clear_, ht0, h0, Sem.run_bind, run_underlying hun, Result.andThen_ok, Sem.run_pure]
      · rename_i r off n s g
        split at h <;> try cases h
        rename_i c gen ho
        split at h <;> try cases h
        rename_i hc
        obtain ⟨hfl, rfl, rfl, hs⟩ := hc
        obtain ⟨ge, hge, hrel⟩ := hI.get ho
        obtain ⟨e1, e2, e3, arr, el, e4, e5, e6, e7⟩ := hrel
        cases hx with
        | sl g1 g2 g3 g4 =>
          rename_i a cap
          rw [g1] at hge
          cases hge
          obtain ⟨h5, h6, h7⟩ := g4 e1
          have hflen : ((List.replicate n ei.zero).flatten).length = n * ei.size := by rw [flat_len, ok2.zlen]
          have hz := zeros_rel (M := M) (G := G) ok2 hs n
          have hzc : (Builtin.zeroCells z2.cells n).toList = ((Array.range (n * ei.size)).map (z2.cells[· % z2.cells.size]!)).toList := by
            unfold Builtin.zeroCells
            rw [ok2.zsize]
          obtain ⟨w', hst, hI', hE⟩ := storeCells_run (P := P) hI (fl := st.floor) (off := off) ho g1 hfl (by rw [hflen]; omega) hz
          rw [← hzc] at hst
          refine ⟨w', ?_, hI', hE, rfl⟩
          cases n with
          | zero =>
            have hw : w' = w := by
              have : (Builtin.zeroCells z2.cells 0).toList = [] := by simp [Builtin.zeroCells]
              rw [this] at hst
              simp only [storeCells, Sem.run_pure, Result.ok.injEq, true_and] at hst
              exact hst.symm
            subst hw
            simp only [Builtin.clear_, ht0, h0, Sem.run_bind, run_underlying hun, Result.andThen_ok, Sem.run_pure]
          | succ n =>
            rcases h7 with rfl | ⟨h7, h8⟩
            · simp only [Builtin.clear_, ht0, h0, Sem.run_bind, run_underlying hun, Result.andThen_ok, ok2.run_zeroValue, hst, Sem.run_pure]
            · omega

theorem drop_rel (hT : TEok P T) {t : TypeId} {d : TypeDesc} (hd : P.underlying t = some d) {k : AV} {K : Value} (hk : RelV M G k K) (ht : keyT T t k = true) :
    ∀ (es es' : List (AV × AV × Nat)) (ens : List MapEntry) (i0 : Nat), RelE M G es ens → dropE k es = some es' →
      (Instr.findNow d K ens i0 = some none ∧ es' = es) ∨ (∃ i U, Instr.findNow d K ens i0 = some (some (i0 + i, U)) ∧ i < ens.length ∧ es' = es.eraseIdx i)
  | [], es', [], i0, _, h => by
    simp only [dropE, Option.some.injEq] at h
    exact .inl ⟨rfl, h.symm⟩
  | (k', v', b) :: es, es', n :: ens, i0, hr, h => by
    obtain ⟨h1, h2, h3, h4⟩ := hr.2 0 k' v' b n rfl rfl
    simp only [dropE] at h
    split at h
    · rename_i hs
      simp only [Option.some.injEq] at h
      subst h
      obtain ⟨d', hd', hsn⟩ := same_scal hT hk h3 ht hs
      rw [hd] at hd'; cases hd'
      exact .inr ⟨0, n.val, by simp [Instr.findNow, hsn], by simp, rfl⟩
    · rename_i hs
      obtain ⟨d', hd', hsn⟩ := same_scal hT hk h3 ht hs
      rw [hd] at hd'; cases hd'
      cases hpe : dropE k es with
      | none => rw [hpe] at h; cases h
      | some es2 =>
        rw [hpe] at h
        simp only [Option.some.injEq] at h
        subst h
        rcases drop_rel hT hd hk ht es es2 ens (i0 + 1) hr.tail hpe with ⟨h5, h6⟩ | ⟨i, U, h5, h6, h7⟩
        · exact .inl ⟨by simp [Instr.findNow, hsn, h5], by rw [h6]⟩
        · refine .inr ⟨i + 1, U, ?_, by simpa using h6, by rw [h7]; rfl⟩
          simp only [Instr.findNow, hsn, h5]; congr 3; omega
    · cases h
  | [], _, _ :: _, _, hr, _ => by have := hr.1; simp at this
  | _ :: _, _, [], _, hr, _ => by have := hr.1; simp at this

theorem relE_erase {es : List (AV × AV × Nat)} {ens : List MapEntry} (h : RelE M G es ens) (i : Nat) : RelE M G (es.eraseIdx i) (ens.eraseIdx i) := by
  refine ⟨by simp [List.length_eraseIdx, h.1], fun j k v b n h1 h2 => ?_⟩
  rw [List.getElem?_eraseIdx] at h1 h2
  split at h1
  · rename_i hlt
    rw [if_pos hlt] at h2
    exact h.2 j k v b n h1 h2
  · rename_i hlt
    rw [if_neg hlt] at h2
    exact h.2 (j + 1) k v b n h1 h2

theorem delete_run (hT : TEok P T) {st st' : St} {w : World} (hI : Inv M G st.objs w) {t : Nat} {m k : AV} {A K : Value} (hm : RelV M G m A) (hk : RelV M G k K) (h : delete T st t m k = some st')
    {ats : Array TypeId} {ty : TypeId} {args : Array Value} (ht0 : ats[0]? = some t) (h0 : args[0]? = some A) (h1 : args[1]? = some K) :
    ∃ w', (Builtin.delete_ ats ty args).run P w = .ok (.tuple #[]) w' ∧ Inv M G st'.objs w' ∧ Ext st.floor M G w M G w' ∧ st'.floor = st.floor := by
  unfold delete at h
  split at h
  · cases h
  · rename_i ti ht
    obtain ⟨i, d, z, okt⟩ := hT.get ht
    have hu := okt.und
    have hk' := okt.k
    split at h <;> try cases h
    rename_i kt e r hkk
    rw [hkk] at hk'
    rw [kOf_map hk'] at hu
    split at h <;> try cases h
    rename_i es clock ho
    split at h <;> try cases h
    rename_i hc
    obtain ⟨hfl, hkt⟩ := hc
    split at h <;> try cases h
    rename_i es' hp
    obtain ⟨dk, hdk⟩ : ∃ dk, P.underlying kt = some dk := by
      rcases keyT_und hT hkt with ⟨q, hu, _⟩ | ⟨hu, _⟩ <;> exact ⟨_, hu⟩
    obtain ⟨ge, ens, g1, g2, rfl, g3, g4⟩ := map_get hI ho hm
    have hget := run_getObj (P := P) g3 (by intro c t f hh; cases hh)
    have hset := fun o' => run_setObj (P := P) g3 (by intro c t f hh; cases hh) o'
    have hck := fun b => checkKey_run hT hk hkt b 9999 w
    have hne : ∀ b (o' : Go.Obj), b ≠ ge.blk → (w.heap.setIfInBounds ge.blk o')[b]? = w.heap[b]? := fun b o' hb => by rw [Array.getElem?_setIfInBounds_ne (Ne.symm hb)]
    have hat : ∀ (o' : Go.Obj), (w.heap.setIfInBounds ge.blk o')[ge.blk]? = some o' := fun o' => by
      have := hI.blt r ge g1
      simp [this]
    have fin : ∀ (ens' : Array MapEntry), RelE M G es' ens'.toList → ∃ w', w' = { w with heap := w.heap.setIfInBounds ge.blk (.map ens' clock) } ∧ Inv M G (st.objs.set r (.map es' clock)) w' ∧ Ext st.floor M G w M G w' := by
      intro ens' hr
      refine ⟨_, rfl, ?_, ?_⟩
      · have := hI.setIn (r := r) (o' := .map es' clock) (e' := ge) (w' := { w with heap := w.heap.setIfInBounds ge.blk (.map ens' clock) }) g1 (.inl rfl) rfl (by simp) (fun b hb => hne b _ hb) ?_
        · rw [set_self g1] at this; exact this
        · rw [set_self g1]
          exact ⟨g2, ens', hat _, by simpa using hr.1, fun i k v b n hk hn => hr.2 i k v b n hk (by simpa using hn)⟩
      · have := Ext.setIn (M := M) (G := G) (fl := st.floor) (w := w) (w' := { w with heap := w.heap.setIfInBounds ge.blk (.map ens' clock) }) (e' := ge) g1 hfl (.inl rfl) rfl rfl rfl rfl (by simp) (fun b hb => hne b _ hb)
        rw [set_self g1] at this; exact this
    rcases drop_rel hT hdk hk hkt es es' ens.toList 0 g4 hp with ⟨h5, rfl⟩ | ⟨j, U, h5, h6, rfl⟩
    · obtain ⟨w', rfl, hI', hE⟩ := fin ens g4
      refine ⟨_, ?_, hI', hE, rfl⟩
      simp only [Builtin.delete_, ht0, h0, h1, Instr.findKey, Sem.run_bind, run_underlying hu, Result.andThen_ok, hget, hck, run_underlying hdk, h5, Sem.run_pure, hset]
    · obtain ⟨w', rfl, hI', hE⟩ := fin (ens.eraseIdxIfInBounds j) (by
        have hj : j < ens.size := by simpa using h6
        have := relE_erase g4 j
        simpa [Array.eraseIdxIfInBounds, hj] using this)
      refine ⟨_, ?_, hI', hE, rfl⟩
      simp only [Builtin.delete_, ht0, h0, h1, Instr.findKey, Sem.run_bind, run_underlying hu, Result.andThen_ok, hget, hck, run_underlying hdk, h5, Sem.run_pure, hset, Nat.zero_add]

theorem mapLen_run (hT : TEok P T) {objs : List Obj} {w : World} (hI : Inv M G objs w) {t : Nat} {m v : AV} {A : Value} (hm : RelV M G m A) (h : mapLen T objs t m = some v)
    {ats : Array TypeId} {ty : TypeId} {args : Array Value} (ht0 : ats[0]? = some t) (h0 : args[0]? = some A) :
    ∃ V, (Builtin.len_ ats ty args).run P w = .ok V w ∧ RelV M G v V := by
  unfold mapLen at h
  split at h
  · cases h
  · rename_i ti ht
    obtain ⟨i, d, z, okt⟩ := hT.get ht
    have hu := okt.und
    have hk' := okt.k
    split at h <;> try cases h
    · rename_i kt e hkk
      rw [hkk] at hk'
      rw [kOf_map hk'] at hu
      cases hm
      refine ⟨.int .i64 0, ?_, .int⟩
      simp only [Builtin.len_, ht0, h0, Sem.run_bind, run_underlying hu, Result.andThen_ok, Sem.run_pure]
      rfl
    · rename_i kt e r hkk
      rw [hkk] at hk'
      rw [kOf_map hk'] at hu
      split at h <;> try cases h
      rename_i es clock ho
      obtain ⟨ge, ens, g1, g2, rfl, g3, g4⟩ := map_get hI ho hm
      have hget := run_getObj (P := P) g3 (by intro c t f hh; cases hh)
      refine ⟨.int .i64 es.length, ?_, .int⟩
      have hl : es.length = ens.size := by rw [g4.1]; simp
      simp only [Builtin.len_, ht0, h0, Sem.run_bind, run_underlying hu, Result.andThen_ok, hget, Sem.run_pure, hl]
      rfl

theorem lateOp_sim (hT : TEok P T) {ρ : Operand → AV} {σ : Operand → Value} (hρ : ∀ x, RelV M G (ρ x) (σ x)) {objs : List Obj} {w : World} (hI : Inv M G objs w) (o : Oper) {v : AV} (h : lateOp T ρ objs o.op = some v) :
    ∃ V, (execOp σ o).run P w = .ok (.value V) w ∧ RelV M G v V := by
  obtain ⟨dst, op, ty, pos, after, guard⟩ := o
  simp only at h
  unfold lateOp at h
  split at h <;> try cases h
  rename_i c
  obtain ⟨callee, args, argTypes⟩ := c
  simp only at h
  split at h <;> try cases h
  split at h <;> try cases h
  rename_i t x ht hx
  have e1 : (args.map σ)[0]? = some (σ x) := by simp [hx]
  obtain ⟨V, hr, hv⟩ := mapLen_run (P := P) (ty := ty) hT hI (hρ x) h ht e1
  refine ⟨V, ?_, hv⟩
  simp only [execOp, resolve, invoke, builtin, Sem.run_bind, Sem.run_pure, Result.andThen_ok, hr]

end
end Go.Proofs.YtgkalmmlgkaabaaGreat.Am

namespace Go.Proofs.YtgkalmmlgkaabaaGreat.Am

section
variable {P : Program} {T : TE} {M : Mem} {G : List GE}

theorem writeOp_sim (hT : TEok P T) {ρ : Operand → AV} {σ : Operand → Value} (hρ : ∀ x, RelV M G (ρ x) (σ x)) {st st' : St} {w : World} (hI : Inv M G st.objs w) (o : Oper) {v : AV} (h : writeOp T ρ st o.op = some (v, st')) :
    ∃ n V w' G', (execOp σ o).run P w = .ok n w' ∧ (n = .value V ∨ (n = .skip ∧ V = Go.undef)) ∧ RelV M G' v V ∧ Inv M G' st'.objs w' ∧ Ext st.floor M G w M G' w' ∧ st'.floor = st.floor := by
  obtain ⟨dst, op, ty, pos, after, guard⟩ := o
  simp only at h
  unfold writeOp at h
  split at h
  · rename_i t a x
    simp only [Option.map_eq_some_iff, Prod.mk.injEq] at h
    obtain ⟨st1, hs, rfl, rfl⟩ := h
    obtain ⟨w', hr, hI', hE, hf⟩ := store_run hT hI (hρ a) (hρ x) hs
    refine ⟨.skip, Go.undef, w', G, ?_, .inr ⟨rfl, rfl⟩, .undef, hI', hE, hf⟩
    simp only [execOp, Sem.run_bind, hr, Result.andThen_ok, Sem.run_pure]
  · rename_i t m k x
    simp only [Option.map_eq_some_iff, Prod.mk.injEq] at h
    obtain ⟨st1, hs, rfl, rfl⟩ := h
    obtain ⟨w', hr, hI', hE, hf⟩ := mapUpdate_run hT hI (hρ m) (hρ k) (hρ x) hs
    refine ⟨.skip, Go.undef, w', G, ?_, .inr ⟨rfl, rfl⟩, .undef, hI', hE, hf⟩
    simp only [execOp, Sem.run_bind, hr, Result.andThen_ok, Sem.run_pure]
  · rename_i t m k x
    simp only [Option.map_eq_some_iff, Prod.mk.injEq] at h
    obtain ⟨st1, hs, rfl, rfl⟩ := h
    obtain ⟨w', hr, hI', hE, hf⟩ := mapUpdate_run hT hI (hρ m) (hρ k) (hρ x) hs
    refine ⟨.skip, Go.undef, w', G, ?_, .inr ⟨rfl, rfl⟩, .undef, hI', hE, hf⟩
    simp only [execOp, Sem.run_bind, hr, Result.andThen_ok, Sem.run_pure]
  · rename_i it
    obtain ⟨V, w', hr, hv, hI', hE, hf⟩ := next_run (P := P) hI (hρ it) h ty
    refine ⟨.value V, V, w', G, ?_, .inl rfl, hv, hI', hE, hf⟩
    simp only [execOp, Sem.run_bind, hr, Result.andThen_ok, Sem.run_pure]
  · rename_i c
    obtain ⟨callee, args, argTypes⟩ := c
    simp only at h
    split at h <;> try cases h
    · split at h <;> try cases h
      rename_i t u d x ht hu hd hx
      split at h <;> try cases h
      rename_i ui hui
      split at h <;> try cases h
      rename_i eu hk
      obtain ⟨V, w', G', hr, hv, hI', hE, hf⟩ := append_run (P := P) (ty := ty) (u := u) hT hI hui hk (hρ d) (hρ x) h
      refine ⟨.value V, V, w', G', ?_, .inl rfl, hv, hI', hE, hf⟩
      have hap : (Builtin.append_ argTypes ty (args.map σ)).run P w = .ok V w' := by
        rw [← hr]
        have e1 : (args.map σ)[0]? = some (σ d) := by simp [hd]
        have e2 : (args.map σ)[1]? = some (σ x) := by simp [hx]
        simp only [Builtin.append_, ht, hu, e1, e2]
        rfl
      simp only [execOp, resolve, invoke, builtin, Sem.run_bind, Sem.run_pure, Result.andThen_ok, hap]
    · split at h <;> try cases h
      rename_i t d x ht hd hx
      have e1 : (args.map σ)[0]? = some (σ d) := by simp [hd]
      have e2 : (args.map σ)[1]? = some (σ x) := by simp [hx]
      obtain ⟨V, w', hr, hv, hI', hE, hf⟩ := copy_run (P := P) (ty := ty) hT hI (hρ d) (hρ x) h ht e1 e2
      refine ⟨.value V, V, w', G, ?_, .inl rfl, hv, hI', hE, hf⟩
      simp only [execOp, resolve, invoke, builtin, Sem.run_bind, Sem.run_pure, Result.andThen_ok, hr]
    · split at h <;> try cases h
      rename_i t x ht hx
      have e1 : (args.map σ)[0]? = some (σ x) := by simp [hx]
      simp only [Option.map_eq_some_iff, Prod.mk.injEq] at h
      obtain ⟨st1, hs, rfl, rfl⟩ := h
      obtain ⟨w', hr, hI', hE, hf⟩ := clearS_run (P := P) (ty := ty) hT hI (hρ x) hs ht e1
      refine ⟨.value (.tuple #[]), _, w', G, ?_, .inl rfl, .tuple rfl (by simp), hI', hE, hf⟩
      simp only [execOp, resolve, invoke, builtin, Sem.run_bind, Sem.run_pure, Result.andThen_ok, hr]
    · split at h <;> try cases h
      rename_i t m k ht hm hk
      have e1 : (args.map σ)[0]? = some (σ m) := by simp [hm]
      have e2 : (args.map σ)[1]? = some (σ k) := by simp [hk]
      simp only [Option.map_eq_some_iff, Prod.mk.injEq] at h
      obtain ⟨st1, hs, rfl, rfl⟩ := h
      obtain ⟨w', hr, hI', hE, hf⟩ := delete_run (P := P) (ty := ty) hT hI (hρ m) (hρ k) hs ht e1 e2
      refine ⟨.value (.tuple #[]), _, w', G, ?_, .inl rfl, .tuple rfl (by simp), hI', hE, hf⟩
      simp only [execOp, resolve, invoke, builtin, Sem.run_bind, Sem.run_pure, Result.andThen_ok, hr]
  · cases h

end
end Go.Proofs.YtgkalmmlgkaabaaGreat.Am

namespace Go.Proofs.YtgkalmmlgkaabaaGreat.Am

open Classical in
/-- the objects from n0 on become memory that never changes -/
noncomputable def memF (M : Mem) (G : List GE) (w : World) (n0 : Nat) : Mem := fun b o =>
  if ∃ (r : Nat) (e : GE), n0 ≤ r ∧ G[r]? = some e ∧ e.blk = b then w.cell? ⟨b, o, none⟩ else M b o

section
variable {M : Mem} {G : List GE} {objs : List Obj} {w : World} {n0 : Nat}

theorem memF_old (hI : Inv M G objs w) : MLe M (memF M G w n0) := fun b o x hx => by
  unfold memF
  split
  · rename_i h
    obtain ⟨r, e, _, h2, h3⟩ := h
    have := hI.sep r e o h2
    rw [h3, hx] at this
    cases this
  · exact hx

theorem memF_in {r : Nat} {e : GE} (hr : n0 ≤ r) (he : G[r]? = some e) (o : Nat) : memF M G w n0 e.blk o = w.cell? ⟨e.blk, o, none⟩ := by
  unfold memF
  rw [if_pos ⟨r, e, hr, he, rfl⟩]

theorem frz_cell (objs : List Obj) (n0 : Nat) : ∀ (d : Nat) (v v' : AV), frz objs n0 d v = some v' → v.isCell = true → v'.isCell = true
  | 0, v, v', h, _ => by simp [frz] at h
  | d + 1, v, v', h, hc => by
    cases v <;> simp only [frz] at h <;> simp [AV.isCell] at hc
    case bool => cases h; rfl
    case int => cases h; rfl
    case str => cases h; rfl
    case nilp => cases h; rfl
    case ptr => split at h <;> cases h; rfl
    case fptr => cases h
    case nils => cases h; rfl
    case sl =>
      split at h
      · cases h; rfl
      · split at h <;> try cases h
        split at h <;> try cases h
        split at h <;> cases h; rfl
    case fsl =>
      split at h
      · cases h; rfl
      · split at h <;> cases h; rfl
    case nilm => cases h; rfl
    case map => split at h <;> cases h; rfl
    case nilf => cases h; rfl
    case fn => split at h <;> cases h; rfl
    case niface => cases h; rfl
    case iface => split at h <;> cases h; rfl

/-- a list of values, frozen one by one -/
theorem frzL {objs : List Obj} {n0 d : Nat} {M M2 : Mem} {G G0 : List GE} (ih : ∀ (v v' : AV) (V : Value), frz objs n0 d v = some v' → RelV M G v V → RelV M2 G0 v' V) {cs cs' : List AV} (hm : cs.mapM (frz objs n0 d) = some cs') :
    cs'.length = cs.length ∧ ∀ (i : Nat) (x : AV), cs'[i]? = some x → ∃ y, cs[i]? = some y ∧ frz objs n0 d y = some x ∧ ∀ V, RelV M G y V → RelV M2 G0 x V := by
  refine ⟨mapM_len _ _ _ hm, ?_⟩
  intro i x hx
  obtain ⟨y, h1, h2⟩ := mapM_get _ _ _ hm i x hx
  exact ⟨y, h1, h2, fun V hV => ih y x V h2 hV⟩

theorem rel_back {G0 : List GE} (hG : ∀ (r : Nat) (e : GE), r < n0 → G[r]? = some e → G0[r]? = some e) {r : Nat} {e : GE} (hr : r < n0) (he : G[r]? = some e) : G0[r]? = some e := hG r e hr he

theorem frz_sim (hI : Inv M G objs w) {G0 : List GE} (hG : ∀ (r : Nat) (e : GE), r < n0 → G[r]? = some e → G0[r]? = some e) :
    ∀ (d : Nat) (v v' : AV) (V : Value), frz objs n0 d v = some v' → RelV M G v V → RelV (memF M G w n0) G0 v' V
  | 0, v, v', V, h, _ => by simp [frz] at h
  | d + 1, v, v', V, h, hr => by
    have ih := frz_sim hI hG d
    have hle := memF_old (n0 := n0) hI
    cases hr with
    | undef => simp only [frz, Option.some.injEq] at h; subst h; exact .undef
    | bool => simp only [frz, Option.some.injEq] at h; subst h; exact .bool
    | int => simp only [frz, Option.some.injEq] at h; subst h; exact .int
    | str => simp only [frz, Option.some.injEq] at h; subst h; exact .str
    | nilp => simp only [frz, Option.some.injEq] at h; subst h; exact .nilp
    | ptr h1 h2 h3 =>
      simp only [frz] at h
      split at h <;> cases h
      rename_i hlt
      exact .ptr (hG _ _ hlt h1) h2 h3
    | fptr => simp [frz] at h
    | nils => simp only [frz, Option.some.injEq] at h; subst h; exact .nils
    | sl h1 h2 h3 h4 =>
      rename_i r off n s g e a cap
      simp only [frz] at h
      split at h
      · rename_i hlt
        cases h
        exact .sl (hG _ _ hlt h1) h2 h3 h4
      · rename_i hge
        split at h <;> try cases h
        rename_i c gen ho
        split at h <;> try cases h
        rename_i hgen
        subst hgen
        split at h <;> try cases h
        rename_i cs hm
        obtain ⟨ge, hge', hrel⟩ := hI.get ho
        obtain ⟨e1, e2, e3, arr, el, e4, e5, e6, e7⟩ := hrel
        rw [h1] at hge'
        cases hge'
        obtain ⟨h5, h6, h7⟩ := h4 e1
        obtain ⟨hl, hgt⟩ := frzL ih hm
        have hlen : cs.length = n * s := by rw [hl]; simp; omega
        have cells : ∀ x ∈ cs, x.isCell = true := by
          intro x hx
          obtain ⟨i, hi⟩ := List.mem_iff_getElem?.1 hx
          obtain ⟨y, hy, hf, _⟩ := hgt i x hi
          exact frz_cell _ _ _ _ _ hf (e6 y (List.mem_of_mem_drop (List.mem_of_mem_take (List.mem_of_getElem? hy))))
        have body : ∀ a0 : Addr, a0.spot = none → (n = 0 ∨ a0 = ⟨e.blk, e.base + off, none⟩) → RelV (memF M G w n0) G0 (.fsl n s cs false (cs.all AV.solid)) (.slice (some a0) n cap) := by
          intro a0 hsp ha0
          obtain ⟨b, o, sp⟩ := a0
          simp only at hsp
          subst hsp
          refine .fsl (f := fun i => (arr[e.base + off + i]?).getD Go.undef) hlen h3 (by simp) cells ?_ ?_
          · intro i hi
            rw [hlen] at hi
            rcases ha0 with ha0 | ha0
            · subst ha0; simp at hi
            · simp only [Addr.mk.injEq, and_true] at ha0
              obtain ⟨rfl, rfl⟩ := ha0
              rw [memF_in (by omega) h1]
              have hlt : e.base + off + i < arr.size := by omega
              simp [World.cell?, e4, hlt]
          · intro i x hx
            obtain ⟨y, hy, hf, hrv⟩ := hgt i x hx
            have hi : i < n * s := by have := lt_of_get hy; simp at this; omega
            rw [List.getElem?_take_of_lt hi, List.getElem?_drop] at hy
            obtain ⟨Y, hY, hYr⟩ := e7 _ y hy
            rw [← Nat.add_assoc] at hY
            simp only [hY, Option.getD_some]
            have hfin := hrv Y hYr
            by_cases hs : cs.all AV.solid = true
            · rw [hs]
              exact solid_rel hfin (List.all_eq_true.1 hs x (List.mem_of_getElem? hx))
            · have : cs.all AV.solid = false := by simpa using hs
              rw [this]
              exact hfin
        rcases h7 with rfl | ⟨h7, h8⟩
        · exact body _ rfl (.inr rfl)
        · exact body a h8 (.inl (by omega))
    | fsl0 =>
      simp only [frz, List.mapM_nil] at h
      split at h
      · cases h; exact .fsl0
      · cases h; exact .fsl0
    | fsl hl hn hf h1 h2 h3 =>
      rename_i n s cs full so b base cap f
      simp only [frz] at h
      split at h
      · rename_i hso
        cases h
        subst hso
        exact .fsl hl hn hf h1 (fun i hi => hle _ _ _ (h2 i hi)) (fun i x hx => (h3 i x hx).mono hle (GLe.refl _))
      · rename_i hso
        have hso' : so = false := by simpa using hso
        subst hso'
        split at h <;> try cases h
        rename_i cs' hm
        obtain ⟨hl', hgt⟩ := frzL ih hm
        refine .fsl (f := f) (by rw [hl']; exact hl) hn hf ?_ (fun i hi => hle _ _ _ (h2 i (by omega))) ?_
        · intro x hx
          obtain ⟨i, hi⟩ := List.mem_iff_getElem?.1 hx
          obtain ⟨y, hy, hf', _⟩ := hgt i x hi
          exact frz_cell _ _ _ _ _ hf' (h1 y (List.mem_of_getElem? hy))
        · intro i x hx
          obtain ⟨y, hy, hf', hrv⟩ := hgt i x hx
          have hfin := hrv (f i) (h3 i y hy)
          by_cases hs : cs'.all AV.solid = true
          · rw [hs]
            exact solid_rel hfin (List.all_eq_true.1 hs x (List.mem_of_getElem? hx))
          · have : cs'.all AV.solid = false := by simpa using hs
            rw [this]
            exact hfin
    | nilm => simp only [frz, Option.some.injEq] at h; subst h; exact .nilm
    | map h1 h2 =>
      simp only [frz] at h
      split at h <;> cases h
      rename_i hlt
      exact .map (hG _ _ hlt h1) h2
    | nilf => simp only [frz, Option.some.injEq] at h; subst h; exact .nilf
    | fn la lb ha hb =>
      rename_i f a b xa xb
      simp only [frz] at h
      split at h <;> try cases h
      rename_i a' b' hma hmb
      obtain ⟨la', ga⟩ := frzL ih hma
      obtain ⟨lb', gb⟩ := frzL ih hmb
      refine .fn (by omega) (by omega) ?_ ?_
      · intro i x y hx hy
        obtain ⟨z, hz, _, hrv⟩ := ga i x hx
        exact hrv y (ha i z y hz hy)
      · intro i x y hx hy
        obtain ⟨z, hz, _, hrv⟩ := gb i x hx
        exact hrv y (hb i z y hz hy)
    | niface => simp only [frz, Option.some.injEq] at h; subst h; exact .niface
    | iface hv =>
      simp only [frz] at h
      split at h <;> cases h
      rename_i v2 hv2
      exact .iface (ih _ _ _ hv2 hv)
    | agg hl h1 h2 =>
      simp only [frz] at h
      split at h <;> cases h
      rename_i cs' hm
      obtain ⟨hl', hgt⟩ := frzL ih hm
      refine .agg (by omega) ?_ ?_
      · intro x hx
        obtain ⟨i, hi⟩ := List.mem_iff_getElem?.1 hx
        obtain ⟨y, hy, hf', _⟩ := hgt i x hi
        exact frz_cell _ _ _ _ _ hf' (h1 y (List.mem_of_getElem? hy))
      · intro i x y hx hy
        obtain ⟨z, hz, _, hrv⟩ := hgt i x hx
        exact hrv y (h2 i z y hz hy)
    | tuple hl h2 =>
      simp only [frz] at h
      split at h <;> cases h
      rename_i cs' hm
      obtain ⟨hl', hgt⟩ := frzL ih hm
      refine .tuple (by omega) ?_
      intro i x y hx hy
      obtain ⟨z, hz, _, hrv⟩ := hgt i x hx
      exact hrv y (h2 i z y hz hy)

end

/-- behind a call that changes nothing that was there -/
theorem pure_end {M M1 : Mem} {G G1 : List GE} {objs objs1 : List Obj} {w w1 : World} (hI : Inv M G objs w) (hI1 : Inv M1 G1 objs1 w1) (hE : Ext objs.length M G w M1 G1 w1) (fl : Nat) :
    Inv (memF M1 G1 w1 objs.length) G objs w1 ∧ Ext fl M G w (memF M1 G1 w1 objs.length) G w1 ∧ ∀ (r : Nat) (e : GE), r < objs.length → G1[r]? = some e → G[r]? = some e := by
  have hlen := hI.len
  have back : ∀ (r : Nat) (e : GE), r < objs.length → G1[r]? = some e → G[r]? = some e := by
    intro r e hr he
    have hg : G[r]? = some G[r] := List.getElem?_eq_getElem (by omega)
    obtain ⟨e', h1, h2⟩ := hE.keep r _ hg
    rw [he] at h1
    cases h1
    rcases h2 with rfl | ⟨h2, _⟩
    · exact hg
    · omega
  have forth : ∀ (r : Nat) (e : GE), G[r]? = some e → G1[r]? = some e := by
    intro r e he
    obtain ⟨e', h1, h2⟩ := hE.keep r e he
    rcases h2 with rfl | ⟨h2, _⟩
    · exact h1
    · have := lt_of_get he; omega
  have same : ∀ b, b < w.heap.size → w1.heap[b]? = w.heap[b]? := fun b hb => hE.other b hb (fun r e he hfl => by have := lt_of_get he; omega)
  have hle1 := memF_old (n0 := objs.length) hI1
  have hle : MLe M (memF M1 G1 w1 objs.length) := hE.mle.trans hle1
  refine ⟨?_, ?_, back⟩
  · exact {
      len := hlen
      obj := fun r o e ho he => (hI.obj r o e ho he).mono hle (GLe.refl _) (same _ (hI.blt r e he))
      mem := fun b o x hx => by
        unfold memF at hx
        split at hx
        · exact hx
        · exact hI1.mem b o x hx
      inj := hI.inj
      sep := fun r e o he => by
        unfold memF
        split
        · rename_i h
          obtain ⟨r', e', h1, h2, h3⟩ := h
          have := hI1.inj r' r e' e h2 (forth r e he) h3
          have := lt_of_get he
          omega
        · exact hI1.sep r e o (forth r e he)
      blt := fun r e he => Nat.lt_of_lt_of_le (hI.blt r e he) hE.size }
  · exact {
      os := hE.os
      tape := hE.tape
      output := hE.output
      size := hE.size
      mle := hle
      keep := fun r e he => ⟨e, he, .inl rfl⟩
      blk := fun r e he => .inl ⟨e, he, rfl⟩
      other := fun b hb _ => same b hb
      fresh := fun b o x hx => by
        unfold memF at hx
        split at hx
        · rename_i h
          obtain ⟨r', e', h1, h2, h3⟩ := h
          rcases hE.blk r' e' h2 with ⟨e, h4, _⟩ | h4
          · have := lt_of_get h4; omega
          · exact .inr (by omega)
        · exact hE.fresh b o x hx }

end Go.Proofs.YtgkalmmlgkaabaaGreat.Am
