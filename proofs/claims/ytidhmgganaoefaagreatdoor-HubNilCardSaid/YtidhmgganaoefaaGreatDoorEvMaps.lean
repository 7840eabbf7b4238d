/-
  Maps and iterators. Maps: entries are written. Maps: an entry's value is written by its stamp. Maps: an entry is made sure of. Maps whose entries come in some order: an entry is written. Iterators: begun, moved on, looked at. Iterators: the entry at hand.
-/
import Derived.Test.YtidhmgganaoefaaGreatDoorEvQuiet
namespace Go.AM
section
variable {E : Env} {P : Program} {φ : Ph} {w₀ : Base} {w : World} {h : Heap} {nx : Pos}

/-- Where an entry is put, on both sides. -/
theorem put_find (hE : EOK E P) {t : TypeId} {kv v : AV} {u : Value} (hk : VR φ kv u) : ∀ {es : List (AV × AV)} {en : List MapEntry} {es' : List (AV × AV)} {i n : Nat},
    (en.length = es.length ∧ ∀ (i : Nat) (k v : AV), es[i]? = some (k, v) → ∃ x : MapEntry, en[i]? = some x ∧ VR φ k x.key ∧ VR φ v x.val ∧ x.born = n + i) →
    putE (eqKey E t) kv v es = some es' →
    ((Instr.findAsking t u en i).run P w = .ok none w ∧ es' = es ++ [(kv, v)]) ∨
      ∃ j e, (Instr.findAsking t u en i).run P w = .ok (some (i + j, e.val)) w ∧ en[j]? = some e ∧ e.key = u ∧ es' = es.set j (kv, v)
  | [], en, es', i, n, he, h => by
    simp [putE] at h
    subst h
    have : en = [] := List.eq_nil_of_length_eq_zero (by simpa using he.1)
    subst this
    exact .inl ⟨by simp [Instr.findAsking], rfl⟩
  | (k, v') :: es, [], es', i, n, he, h => by simp at he
  | (k, v') :: es, m :: en, es', i, n, he, h => by
    obtain ⟨x, h1, h2, h3, _⟩ := he.2 0 k v' rfl
    simp at h1
    subst h1
    unfold putE at h
    split at h
    · rename_i hb
      injection h with h
      subst h
      have := eqKey_sound (w := w) (d := 9998) hE hb hk h2
      refine .inr ⟨0, m, ?_, rfl, (key_eq hb hk h2 0).1.symm, rfl⟩
      simp only [Instr.findAsking, Sem.run_bind, Op.equal, Op.maxDepth, this, Result.andThen_ok, if_true, Sem.run_pure, Nat.add_zero]
    · rename_i hb
      have := eqKey_sound (w := w) (d := 9998) hE hb hk h2
      have step : (Instr.findAsking t u (m :: en) i).run P w = (Instr.findAsking t u en (i + 1)).run P w := by
        simp only [Instr.findAsking, Sem.run_bind, Op.equal, Op.maxDepth, this, Result.andThen_ok, Bool.false_eq_true, if_false]
      split at h
      · rename_i r hr
        injection h with h
        subst h
        rcases put_find hE hk (i := i + 1) (ER.tail he) hr with ⟨g1, rfl⟩ | ⟨j, e, g1, g2, g3, rfl⟩
        · exact .inl ⟨step.trans g1, rfl⟩
        · exact .inr ⟨j + 1, e, step.trans (by rw [g1]; congr 3; omega), by simpa using g2, g3, rfl⟩
      · cases h
    · cases h

theorem stays (u : Value) (hs : Instr.sameBits 10000 u u = true) : (Instr.keyThatStays u u).run P w = .ok u w := by
  unfold Instr.keyThatStays
  rw [if_pos hs]
  rfl

theorem mapUpdate_sound (hE : EOK E P) (H : HR φ w₀ h nx w) {t kt e : TypeId} {i : TI} (hi : E.ty t = some i) (hd : i.desc = .map kt e) {b : Pos} {es es' : List (AV × AV)} {kv v : AV} {mv u x : Value} (hm : VR φ (.map b) mv) (hu : VR φ kv u) (hx : VR φ v x)
    (hkey : keyA E kt kv = true) (hg : Tr.get b h = some (.map es)) (hput : putE (eqKey E kt) kv v es = some es') :
    ∃ w', (Instr.mapUpdate t mv u x).run P w = .ok () w' ∧ HR φ w₀ (Tr.set (some (.map es')) b h) nx w' ∧ Kept φ h nx φ (Tr.set (some (.map es')) b h) nx := by
  obtain ⟨d, h1, h2⟩ := hE.desc hi
  rw [hd] at h2
  simp only [DR] at h2
  subst h2
  obtain ⟨ki, hki⟩ := keyA_type hkey
  obtain ⟨dk, hdk, _⟩ := hE.desc hki
  have hck := checkKey_sound (w := w) hE hkey hu false
  have hm' := hm
  simp only [VR] at hm
  obtain ⟨k, B, S, hb, rfl⟩ := hm
  obtain ⟨k', en, e1, e2, e3⟩ := map_at H hg hm'
  injection e1 with e1
  injection e1 with e1
  subst e1
  have hkept : Kept φ h nx φ (Tr.set (some (.map es')) b h) nx := ⟨φ.le_refl, fun q hq _ => ⟨hq, Tr.get_set_ne _ _ _ _ fun e => by subst e; rw [hb] at hq; cases hq⟩, Nat.le_refl _⟩
  have hself : Instr.sameBits 10000 u u = true := by
    unfold keyA at hkey
    split at hkey
    · rename_i hk
      exact (key_eq hk hu hu 9999).2
    · cases hkey
  have hset : ∀ ob : Go.Obj, (setObj k ob).run P w = .ok () { w with heap := w.heap.setIfInBounds k ob } := fun ob => by simp [setObj, Sem.run, e2]
  have hlen := e3.1
  rcases put_find (P := P) (w := w) hE hu (i := 0) (n := 0) ⟨e3.1, fun i k v hi => by simpa using e3.2 i k v hi⟩ hput with ⟨g1, rfl⟩ | ⟨j, e', g1, g2, g3, rfl⟩
  · have hf := findKey_asking hdk g1
    refine ⟨_, ?_, H.write hg hb rfl rfl (x' := .map (en.push { key := u, val := x, born := es.length }) (es.length + 1)) ?_, hkept⟩
    · simp only [Instr.mapUpdate, Sem.run_bind, run_underlying_of h1, Result.andThen_ok, getMap e2, hck, hf, hset]
    · refine ⟨_, by simp; rfl, by simpa using hlen, fun i a c hi' => ?_⟩
      rw [List.getElem?_append] at hi'
      simp only [Array.length_toList] at hlen
      split at hi'
      · rename_i hlt
        obtain ⟨y, y1, y2⟩ := e3.2 i a c hi'
        refine ⟨y, ?_, y2⟩
        rw [Array.toList_push, List.getElem?_append_left (by simp; omega)]
        exact y1
      · rename_i hge
        have : i = es.length := by
          rcases Nat.lt_or_ge (i - es.length) 1 with h | h
          · omega
          · rw [List.getElem?_eq_none (by simpa using h)] at hi'; cases hi'
        subst this
        simp at hi'
        obtain ⟨rfl, rfl⟩ := hi'
        refine ⟨{ key := u, val := x, born := es.length }, ?_, hu, hx, rfl⟩
        rw [Array.toList_push, List.getElem?_append_right (by simp; omega)]
        simp [hlen]
  · have hf := findKey_asking hdk g1
    simp only [Nat.zero_add] at hf
    have hej : en[j]? = some e' := by simpa using g2
    refine ⟨_, ?_, H.write hg hb rfl rfl (x' := .map (en.modify j fun y => { y with key := u, val := x }) es.length) ?_, hkept⟩
    · simp only [Instr.mapUpdate, Sem.run_bind, run_underlying_of h1, Result.andThen_ok, getMap e2, hck, hf, hej, Option.map_some, Option.getD_some, g3, stays u hself, hset]
    · refine ⟨_, by rw [List.length_set], by simpa using hlen, fun i a c hi' => ?_⟩
      rw [Array.getElem?_toList, Array.getElem?_modify]
      have hjl : j < es.length := by
        have := (List.getElem?_eq_some_iff.1 g2).1
        omega
      by_cases hij : j = i
      · subst hij
        rw [List.getElem?_set_self hjl] at hi'
        injection hi' with hi'
        injection hi' with q1 q2
        subst q1 q2
        obtain ⟨y, y1, _, _, y4⟩ := e3.2 j _ _ (List.getElem?_eq_getElem hjl)
        rw [Array.getElem?_toList, hej] at y1
        injection y1 with y1
        subst y1
        exact ⟨{ e' with key := u, val := x }, by simp [hej], hu, hx, y4⟩
      · rw [List.getElem?_set_ne hij] at hi'
        rw [if_neg hij]
        obtain ⟨y, y1, y2⟩ := e3.2 i a c hi'
        exact ⟨y, by simpa using y1, y2⟩
end
end Go.AM
namespace Go.AM
section
variable {E : Env} {P : Program} {φ : Ph} {w₀ : Base} {w : World} {h : Heap} {nx : Pos}

theorem setVal_eq {v : AV} : ∀ {n : Nat} {es es' : List (AV × AV)}, setVal v n es = some es' → ∃ k v0, es[n]? = some (k, v0) ∧ es' = es.set n (k, v)
  | n, [], es', h => by cases n <;> simp [setVal] at h
  | 0, (k, v0) :: es, es', h => by simp [setVal] at h; subst h; exact ⟨k, v0, rfl, rfl⟩
  | n + 1, e :: es, es', h => by
    simp only [setVal] at h
    split at h
    · rename_i r hr
      injection h with h
      subst h
      obtain ⟨k, v0, h1, rfl⟩ := setVal_eq hr
      exact ⟨k, v0, by simpa using h1, rfl⟩
    · cases h

theorem entryStore_sound (H : HR φ w₀ h nx w) {t : TypeId} {b : Pos} {es es' : List (AV × AV)} {v sv : AV} {n : Nat} {mv s x : Value} (hm : VR φ (.map b) mv) (hs : VR φ sv s) (hn : natOf sv = some n) (hx : VR φ v x)
    (hg : Tr.get b h = some (.map es)) (hput : setVal v n es = some es') :
    ∃ w', (Instr.entryStore t mv s x).run P w = .ok () w' ∧ HR φ w₀ (Tr.set (some (.map es')) b h) nx w' ∧ Kept φ h nx φ (Tr.set (some (.map es')) b h) nx := by
  have hm' := hm
  simp only [VR] at hm
  obtain ⟨k, B, S, hb, rfl⟩ := hm
  obtain ⟨k', en, e1, e2, e3⟩ := map_at H hg hm'
  injection e1 with e1
  injection e1 with e1
  subst e1
  obtain ⟨kd, rfl⟩ := asInt_nat hn hs
  obtain ⟨kk, v0, h1, rfl⟩ := setVal_eq hput
  have hkept : Kept φ h nx φ (Tr.set (some (.map (es.set n (kk, v)))) b h) nx := ⟨φ.le_refl, fun q hq _ => ⟨hq, Tr.get_set_ne _ _ _ _ fun e => by subst e; rw [hb] at hq; cases hq⟩, Nat.le_refl _⟩
  have hnl : n < es.length := (List.getElem?_eq_some_iff.1 h1).1
  have hlen := e3.1
  have hborn : ∀ (i : Nat) (y : MapEntry), en.toList[i]? = some y → y.born = i := by
    intro i y hy
    have hi : i < es.length := by
      have := (List.getElem?_eq_some_iff.1 hy).1
      omega
    obtain ⟨z, z1, _, _, z4⟩ := e3.2 i _ _ (List.getElem?_eq_getElem hi)
    rw [hy] at z1
    injection z1 with z1
    subst z1
    exact z4
  have hidx : en.findIdx? (fun e => (e.born : Int) == Int.ofNat n) = some n := by
    rw [show en = en.toList.toArray from rfl, List.findIdx?_toArray, List.findIdx?_eq_some_iff_getElem]
    have hn' : n < en.toList.length := by omega
    refine ⟨hn', ?_, fun j hj => ?_⟩
    · have := hborn n _ (List.getElem?_eq_getElem hn')
      rw [this]
      simp
    · have := hborn j _ (List.getElem?_eq_getElem (by omega))
      rw [this]
      simp
      omega
  have hset : ∀ ob : Go.Obj, (setObj k ob).run P w = .ok () { w with heap := w.heap.setIfInBounds k ob } := fun ob => by simp [setObj, Sem.run, e2]
  refine ⟨_, ?_, H.write hg hb rfl rfl (x' := .map (en.modify n fun y => { y with val := x }) es.length) ?_, hkept⟩
  · simp only [Instr.entryStore, Sem.run_bind, Result.andThen_ok, getMap e2, asInt, asIntOf_run, Sem.run_pure, hidx, hset]
  · refine ⟨_, by rw [List.length_set], by simpa using hlen, fun i a c hi' => ?_⟩
    rw [Array.getElem?_toList, Array.getElem?_modify]
    by_cases hij : n = i
    · subst hij
      rw [List.getElem?_set_self hnl] at hi'
      injection hi' with hi'
      injection hi' with q1 q2
      subst q1 q2
      obtain ⟨y, y1, y2, _, y4⟩ := e3.2 n _ _ h1
      rw [Array.getElem?_toList] at y1
      exact ⟨{ y with val := x }, by simp [y1], y2, hx, y4⟩
    · rw [List.getElem?_set_ne hij] at hi'
      rw [if_neg hij]
      obtain ⟨y, y1, y2⟩ := e3.2 i a c hi'
      exact ⟨y, by simpa using y1, y2⟩

theorem findE_put {eq : AV → AV → Option Bool} {k v : AV} : ∀ {es es' : List (AV × AV)}, findE eq k es = some none → putE eq k v es = some es' → es' = es ++ [(k, v)]
  | [], es', _, h => by simp [putE] at h; subst h; rfl
  | (k', v') :: es, es', hf, h => by
    unfold findE at hf
    unfold putE at h
    split at hf
    · injection hf with hf; cases hf
    · rename_i hb
      rw [hb] at h
      simp only at h
      split at h
      · rename_i r hr
        injection h with h
        subst h
        rw [findE_put hf hr]
        rfl
      · cases h
    · cases hf

theorem idxE_sound {t : TypeId} {kv v : AV} : ∀ {es : List (AV × AV)} {i n : Nat}, findE (eqKey E t) kv es = some (some v) → idxE (eqKey E t) kv es i = some (some n) → i ≤ n ∧ ∃ k, es[n - i]? = some (k, v) ∧ eqKey E t kv k = some true
  | [], i, n, h, _ => by simp [findE] at h
  | (k', v') :: es, i, n, hf, h => by
    unfold findE at hf
    unfold idxE at h
    split at hf
    · rename_i hb
      rw [hb] at h
      simp only at h
      injection hf with hf
      injection hf with hf
      injection h with h
      injection h with h
      subst hf h
      exact ⟨Nat.le_refl _, k', by simp, hb⟩
    · rename_i hb
      rw [hb] at h
      simp only at h
      obtain ⟨h1, k, h2, h3⟩ := idxE_sound hf h
      refine ⟨by omega, k, ?_, h3⟩
      rw [show n - i = (n - (i + 1)) + 1 by omega]
      simpa using h2
    · cases hf

theorem find_idx (hE : EOK E P) {t : TypeId} {kv v : AV} {u : Value} (hk : VR φ kv u) : ∀ {es : List (AV × AV)} {en : List MapEntry} {i c n : Nat},
    (en.length = es.length ∧ ∀ (i : Nat) (k v : AV), es[i]? = some (k, v) → ∃ x : MapEntry, en[i]? = some x ∧ VR φ k x.key ∧ VR φ v x.val ∧ x.born = c + i) →
    findE (eqKey E t) kv es = some (some v) → idxE (eqKey E t) kv es i = some (some n) →
    i ≤ n ∧ ∃ e, (Instr.findAsking t u en i).run P w = .ok (some (n, e.val)) w ∧ en[n - i]? = some e ∧ e.key = u ∧ VR φ v e.val ∧ e.born = c + (n - i)
  | [], en, i, c, n, he, h, _ => by simp [findE] at h
  | (k, v') :: es, [], i, c, n, he, h, _ => by simp at he
  | (k, v') :: es, m :: en, i, c, n, he, hf, h => by
    obtain ⟨x, h1, h2, h3, h4⟩ := he.2 0 k v' rfl
    simp at h1
    subst h1
    unfold findE at hf
    unfold idxE at h
    split at hf
    · rename_i hb
      rw [hb] at h
      simp only at h
      injection hf with hf
      injection hf with hf
      injection h with h
      injection h with h
      subst hf h
      have := eqKey_sound (w := w) (d := 9998) hE hb hk h2
      refine ⟨Nat.le_refl _, m, ?_, by simp, (key_eq hb hk h2 0).1.symm, h3, by simpa using h4⟩
      simp only [Instr.findAsking, Sem.run_bind, Op.equal, Op.maxDepth, this, Result.andThen_ok, if_true, Sem.run_pure]
    · rename_i hb
      rw [hb] at h
      simp only at h
      have := eqKey_sound (w := w) (d := 9998) hE hb hk h2
      obtain ⟨g0, e, g1, g2, g3, g4, g5⟩ := find_idx hE hk (i := i + 1) (ER.tail he) hf h
      refine ⟨by omega, e, ?_, ?_, g3, g4, by omega⟩
      · simp only [Instr.findAsking, Sem.run_bind, Op.equal, Op.maxDepth, this, Result.andThen_ok, Bool.false_eq_true, if_false]
        exact g1
      · rw [show n - i = (n - (i + 1)) + 1 by omega]
        simpa using g2
    · cases hf
end
end Go.AM
namespace Go.AM
section
variable {E : Env} {P : Program} {φ : Ph} {w₀ : Base} {w : World} {h : Heap} {nx : Pos}

theorem mapEntry_old (hE : EOK E P) (H : HR φ w₀ h nx w) {t kt e : TypeId} {i : TI} (hi : E.ty t = some i) (hd : i.desc = .map kt e) {b : Pos} {es : List (AV × AV)} {kv v : AV} {n : Nat} {mv u : Value} (hm : VR φ (.map b) mv) (hu : VR φ kv u)
    (hkey : keyA E kt kv = true) (hg : Tr.get b h = some (.map es)) (hf : findE (eqKey E kt) kv es = some (some v)) (hn : idxE (eqKey E kt) kv es 0 = some (some n)) :
    ∃ w' r, (Instr.mapEntry t mv u).run P w = .ok r w' ∧ HR φ w₀ h nx w' ∧ VR φ (.tuple [v, .int .i64 (.ofNat n)]) r := by
  obtain ⟨d, h1, h2⟩ := hE.desc hi
  rw [hd] at h2
  simp only [DR] at h2
  subst h2
  obtain ⟨ki, hki⟩ := keyA_type hkey
  obtain ⟨dk, hdk, _⟩ := hE.desc hki
  have hck := checkKey_sound (w := w) hE hkey hu false
  have hm' := hm
  simp only [VR] at hm
  obtain ⟨k, B, S, hb, rfl⟩ := hm
  obtain ⟨k', en, e1, e2, e3⟩ := map_at H hg hm'
  injection e1 with e1
  injection e1 with e1
  subst e1
  have hself : Instr.sameBits 10000 u u = true := by
    unfold keyA at hkey
    split at hkey
    · rename_i hk
      exact (key_eq hk hu hu 9999).2
    · cases hkey
  have hset : ∀ ob : Go.Obj, (setObj k ob).run P w = .ok () { w with heap := w.heap.setIfInBounds k ob } := fun ob => by simp [setObj, Sem.run, e2]
  obtain ⟨_, e', g1, g2, g3, g4, g5⟩ := find_idx (P := P) (w := w) hE hu (i := 0) (c := 0) ⟨e3.1, fun i k v hi => by simpa using e3.2 i k v hi⟩ hf hn
  have hff := findKey_asking hdk g1
  have hej : en[n]? = some e' := by simpa using g2
  have hmod : (en.modify n fun y => { y with key := u }) = en := by
    rw [modify_at _ _ _ _ hej]
    apply Array.ext_getElem?
    intro j
    have hk := (Array.getElem?_eq_some_iff.1 hej).1
    have hx : en[n] = e' := by rw [getElem?_pos en n hk] at hej; simpa using hej
    by_cases q : n = j
    · subst q; simp [hk, hx, ← g3]
    · simp [q]
  have hw : ({ w with heap := w.heap.setIfInBounds k (.map en es.length) } : World) = w := by
    have : w.heap.setIfInBounds k (.map en es.length) = w.heap := by
      apply Array.ext_getElem?
      intro j
      have hk := (Array.getElem?_eq_some_iff.1 e2).1
      have hx : w.heap[k] = .map en es.length := by rw [getElem?_pos w.heap k hk] at e2; simpa using e2
      by_cases q : k = j
      · subst q; simp [hk, hx]
      · simp [q]
    rw [this]
  refine ⟨w, .tuple #[e'.val, goInt e'.born], ?_, H, ?_⟩
  · simp only [Instr.mapEntry, Sem.run_bind, run_underlying_of h1, Result.andThen_ok, getMap e2, hck, hff, hej, Option.map_some, Option.getD_some, g3, stays u hself, hset, hmod, hw, Sem.run_pure]
  · simp only [VR]
    refine ⟨[e'.val, goInt e'.born], rfl, ?_⟩
    have : e'.born = n := by omega
    simp [VRL, VR, g4, this, goInt]

/-- An entry is added at a map's end. -/
theorem push_sound (H : HR φ w₀ h nx w) {b : Pos} {es : List (AV × AV)} {kv v : AV} {u x : Value} {k B S : Nat} {en : Array MapEntry} (hg : Tr.get b h = some (.map es)) (hb : φ b = some (k, B, S)) (hu : VR φ kv u) (hx : VR φ v x) (e3 : ER φ es en.toList) :
    HR φ w₀ (Tr.set (some (.map (es ++ [(kv, v)]))) b h) nx { w with heap := w.heap.setIfInBounds k (.map (en.push { key := u, val := x, born := es.length }) (es.length + 1)) } := by
  have hlen := e3.1
  refine H.write hg hb rfl rfl ⟨_, by simp; rfl, by simpa using hlen, fun i a c hi' => ?_⟩
  rw [List.getElem?_append] at hi'
  simp only [Array.length_toList] at hlen
  split at hi'
  · rename_i hlt
    obtain ⟨y, y1, y2⟩ := e3.2 i a c hi'
    refine ⟨y, ?_, y2⟩
    rw [Array.toList_push, List.getElem?_append_left (by simp; omega)]
    exact y1
  · rename_i hge
    have : i = es.length := by
      rcases Nat.lt_or_ge (i - es.length) 1 with h | h
      · omega
      · rw [List.getElem?_eq_none (by simpa using h)] at hi'; cases hi'
    subst this
    simp at hi'
    obtain ⟨rfl, rfl⟩ := hi'
    refine ⟨{ key := u, val := x, born := es.length }, ?_, hu, hx, rfl⟩
    rw [Array.toList_push, List.getElem?_append_right (by simp; omega)]
    simp [hlen]

theorem mapEntry_new (hE : EOK E P) (H : HR φ w₀ h nx w) {t kt e : TypeId} {i ei : TI} (hi : E.ty t = some i) (hd : i.desc = .map kt e) (he : E.ty e = some ei) {b : Pos} {es es' : List (AV × AV)} {kv z : AV} {mv u : Value} (hm : VR φ (.map b) mv) (hu : VR φ kv u)
    (hkey : keyA E kt kv = true) (hg : Tr.get b h = some (.map es)) (hf : findE (eqKey E kt) kv es = some none) (hz : zeroA ei = some z) (hput : putE (eqKey E kt) kv z es = some es') :
    ∃ w' r, (Instr.mapEntry t mv u).run P w = .ok r w' ∧ HR φ w₀ (Tr.set (some (.map es')) b h) nx w' ∧ VR φ (.tuple [z, .int .i64 (.ofNat es.length)]) r ∧ Kept φ h nx φ (Tr.set (some (.map es')) b h) nx := by
  obtain ⟨d, h1, h2⟩ := hE.desc hi
  rw [hd] at h2
  simp only [DR] at h2
  subst h2
  obtain ⟨ki, hki⟩ := keyA_type hkey
  obtain ⟨dk, hdk, _⟩ := hE.desc hki
  have hck := checkKey_sound (w := w) hE hkey hu false
  have hm' := hm
  simp only [VR] at hm
  obtain ⟨k, B, S, hb, rfl⟩ := hm
  obtain ⟨k', en, e1, e2, e3⟩ := map_at H hg hm'
  injection e1 with e1
  injection e1 with e1
  subst e1
  obtain rfl := findE_put hf hput
  have hset : ∀ ob : Go.Obj, (setObj k ob).run P w = .ok () { w with heap := w.heap.setIfInBounds k ob } := fun ob => by simp [setObj, Sem.run, e2]
  obtain ⟨r, g1, g2⟩ := findKey_sound (P := P) (w := w) hE hdk hu e3 hf
  cases r with
  | some q => simp [FR] at g2
  | none =>
    obtain ⟨zv, z1, _, _, z2⟩ := (hE.ty _ _ he).run_zero w
    refine ⟨_, .tuple #[zv, goInt es.length], ?_, push_sound H hg hb hu (z2 φ z hz) e3, ?_, ⟨φ.le_refl, fun q hq _ => ⟨hq, Tr.get_set_ne _ _ _ _ fun e => by subst e; rw [hb] at hq; cases hq⟩, Nat.le_refl _⟩⟩
    · simp only [Instr.mapEntry, Sem.run_bind, run_underlying_of h1, Result.andThen_ok, getMap e2, hck, g1, z1, hset, Sem.run_pure]
    · simp only [VR]
      exact ⟨[zv, goInt es.length], rfl, by simp [VRL, VR, z2 φ z hz, goInt]⟩
end
end Go.AM
namespace Go.AM
section
variable {E : Env} {P : Program} {φ : Ph} {w₀ : Base} {w : World} {h : Heap} {nx : Pos}

/-- A thing is seen otherwise. -/
theorem HR.view (H : HR φ w₀ h nx w) {p : Pos} {o o' : Obj} (hg : Tr.get p h = some o) (hr : o'.ro = o.ro) (hx : ∀ k b s x, φ p = some (k, b, s) → w.heap[k]? = some x → OR_ w₀ φ o x b s → OR_ w₀ φ o' x b s) : HR φ w₀ (Tr.set (some o') p h) nx w := by
  refine { H with clean := fun q hq => by (rw [Tr.get_set_ne _ _ _ _ (fun e => by subst e; rw [H.clean q hq] at hg; cases hg)]; exact H.clean q hq), inj := ?_, obj := ?_, hold := ?_ }
  · intro q r k b s b' s' hq hr' h1 h2
    refine H.inj q r k b s b' s' hq hr' ?_ ?_
    · by_cases e : q = p
      · rw [e, hg]; simp
      · rwa [Tr.get_set_ne _ _ _ _ e] at h1
    · by_cases e : r = p
      · rw [e, hg]; simp
      · rwa [Tr.get_set_ne _ _ _ _ e] at h2
  · intro q o'' k b s hg' hq
    by_cases e : q = p
    · subst e
      rw [Tr.get_set_same] at hg'
      injection hg' with hg'
      subst hg'
      obtain ⟨x, h1, h2⟩ := H.obj q o k b s hg hq
      exact ⟨x, h1, hx k b s x hq h1 h2⟩
    · rw [Tr.get_set_ne _ _ _ _ e] at hg'
      exact H.obj q o'' k b s hg' hq
  · intro q o'' k b s hg' hq
    by_cases e : q = p
    · subst e
      rw [Tr.get_set_same] at hg'
      injection hg' with hg'
      subst hg'
      rw [hr]
      exact H.hold q o k b s hg hq
    · rw [Tr.get_set_ne _ _ _ _ e] at hg'
      exact H.hold q o'' k b s hg' hq

theorem hasS_mem {k : List Nat} : ∀ {es : List (AV × AV)} {b : Bool}, hasS k es = some b → (b = true ↔ ∃ v, (AV.str k, v) ∈ es)
  | [], b, h => by simp [hasS] at h; subst h; simp
  | (k', v') :: es, b, h => by
    cases k' <;> simp only [hasS] at h <;> try (cases h; done)
    rename_i s
    split at h
    · rename_i he
      injection h with h
      subst h
      rw [eqN_eq] at he
      have := eq_of_beq he
      subst this
      exact ⟨fun _ => ⟨v', by simp⟩, fun _ => rfl⟩
    · rename_i he
      have := hasS_mem h
      rw [this]
      have hne : k ≠ s := by
        rintro rfl
        rw [eqN_eq] at he
        simp at he
      constructor
      · rintro ⟨v, hv⟩
        exact ⟨v, by simp [hv]⟩
      · rintro ⟨v, hv⟩
        rcases List.mem_cons.1 hv with hv | hv
        · injection hv with h1 _
          injection h1 with h1
          exact absurd h1 hne
        · exact ⟨v, hv⟩

theorem insS_perm {k : List Nat} {v : AV} : ∀ {es : List (AV × AV)}, ((AV.str k, v) :: es).Perm (insS k v es)
  | [] => by simp [insS]
  | (k', v') :: es => by
    cases k' <;> simp only [insS] <;> try exact List.Perm.refl _
    split
    · exact List.Perm.refl _
    · exact (List.Perm.swap _ _ _).trans (List.Perm.cons _ insS_perm)

theorem setS_eq {k : List Nat} {v : AV} : ∀ {es : List (AV × AV)}, hasS k es = some true → ∃ j v0, es[j]? = some (AV.str k, v0) ∧ setS k v es = es.set j (AV.str k, v)
  | [], h => by simp [hasS] at h
  | (k', v') :: es, h => by
    cases k' <;> simp only [hasS] at h <;> try (cases h; done)
    rename_i s
    split at h
    · rename_i he
      have he' := he
      rw [eqN_eq] at he
      have := eq_of_beq he
      subst this
      exact ⟨0, v', rfl, by simp [setS, he']⟩
    · rename_i he
      obtain ⟨j, v0, h1, h2⟩ := setS_eq (v := v) h
      exact ⟨j + 1, v0, by simpa using h1, by simp [setS, he, h2]⟩

theorem set_perm {es es' : List (AV × AV)} (U : UK es) (p : es'.Perm es) {i j : Nat} {k v v0 v1 : AV} (hi : es'[i]? = some (k, v0)) (hj : es[j]? = some (k, v1)) : (es'.set i (k, v)).Perm (es.set j (k, v)) := by
  have hi' := (List.getElem?_eq_some_iff.1 hi).1
  have hj' := (List.getElem?_eq_some_iff.1 hj).1
  have key : ∀ (l : List (AV × AV)) (n : Nat) (y : AV × AV) (hn : n < l.length), (l.set n y).Perm (y :: l.eraseIdx n) := by
    intro l
    induction l with
    | nil => intro n y hn; simp at hn
    | cons x l ih =>
      intro n y hn
      cases n with
      | zero => simp
      | succ n => simp only [List.set_cons_succ, List.eraseIdx_cons_succ]; exact ((ih n y (by simpa using hn)).cons x).trans (List.Perm.swap _ _ _)
  have key2 : ∀ (l : List (AV × AV)) (n : Nat) (hn : n < l.length), l.Perm (l[n] :: l.eraseIdx n) := by
    intro l
    induction l with
    | nil => intro n hn; simp at hn
    | cons x l ih =>
      intro n hn
      cases n with
      | zero => simp
      | succ n => simp only [List.getElem_cons_succ, List.eraseIdx_cons_succ]; exact ((ih n (by simpa using hn)).cons x).trans (List.Perm.swap _ _ _)
  refine (key es' i _ hi').trans (List.Perm.trans (List.Perm.cons _ ?_) (key es j _ hj').symm)
  have e1 : es'[i] = (k, v0) := by rw [List.getElem?_eq_getElem hi'] at hi; simpa using hi
  have e2 : es[j] = (k, v1) := by rw [List.getElem?_eq_getElem hj'] at hj; simpa using hj
  have hv : (k, v0) = (k, v1) := by
    have m0 : (k, v0) ∈ es := p.mem_iff.1 (e1 ▸ List.getElem_mem hi')
    have m1 : (k, v1) ∈ es := e2 ▸ List.getElem_mem hj'
    have nd := U.2
    obtain ⟨a, ha, ha'⟩ := List.mem_iff_getElem.1 m0
    obtain ⟨b, hb, hb'⟩ := List.mem_iff_getElem.1 m1
    have h1 : (es.map (·.1))[a]'(by simpa using ha) = k := by simp [ha']
    have h2 : (es.map (·.1))[b]'(by simpa using hb) = k := by simp [hb']
    have nd' := List.pairwise_iff_getElem.1 nd
    have hab : a = b := by
      rcases Nat.lt_trichotomy a b with h | h | h
      · exact absurd (by rw [h1, h2]) (nd' a b (by simpa using ha) (by simpa using hb) h)
      · exact h
      · exact absurd (by rw [h1, h2]) (nd' b a (by simpa using hb) (by simpa using ha) h)
    subst hab
    rw [← ha', ← hb']
  have q1 := key2 es' i hi'
  have q2 := key2 es j hj'
  rw [e1] at q1
  rw [e2, ← hv] at q2
  exact (q1.symm.trans (p.trans q2)).cons_inv

theorem putE_str {eq : AV → AV → Option Bool} {a : List Nat} (heq : ∀ b, eq (.str a) (.str b) = some (eqN a b)) {v : AV} : ∀ {es : List (AV × AV)}, (∀ e ∈ es, ∃ s, e.1 = AV.str s ∧ ∀ x ∈ s, x < 256) →
    (∃ j v0, es[j]? = some (AV.str a, v0) ∧ putE eq (.str a) v es = some (es.set j (.str a, v))) ∨ (putE eq (.str a) v es = some (es ++ [(.str a, v)]) ∧ ∀ u, (AV.str a, u) ∉ es)
  | [], _ => .inr ⟨rfl, by simp⟩
  | (k, v') :: es, U => by
    obtain ⟨b, hb, _⟩ := U (k, v') (by simp)
    simp only at hb
    subst hb
    unfold putE
    rw [heq]
    cases hab : eqN a b with
    | true =>
      rw [eqN_eq] at hab
      have := eq_of_beq hab
      subst this
      exact .inl ⟨0, v', rfl, rfl⟩
    | false =>
      simp only
      rcases putE_str heq (v := v) (es := es) (fun e he => U e (by simp [he])) with ⟨j, v0, h1, h2⟩ | ⟨h1, h2⟩
      · exact .inl ⟨j + 1, v0, by simpa using h1, by rw [h2]; rfl⟩
      · refine .inr ⟨by rw [h1]; rfl, fun u hu => ?_⟩
        rcases List.mem_cons.1 hu with hu | hu
        · injection hu with h3 _
          injection h3 with h3
          subst h3
          rw [eqN_eq] at hab
          simp at hab
        · exact h2 u hu

theorem UK.set {es : List (AV × AV)} (U : UK es) {j : Nat} {k v v0 : AV} (hj : es[j]? = some (k, v0)) : UK (es.set j (k, v)) := by
  have hj' := (List.getElem?_eq_some_iff.1 hj).1
  have e2 : es[j] = (k, v0) := by rw [List.getElem?_eq_getElem hj'] at hj; simpa using hj
  refine ⟨fun e he => ?_, ?_⟩
  · rcases List.mem_or_eq_of_mem_set he with h | h
    · exact U.1 e h
    · subst h
      exact U.1 (k, v0) (e2 ▸ List.getElem_mem hj')
  · have : (es.set j (k, v)).map (·.1) = es.map (·.1) := by
      apply List.ext_getElem?
      intro i
      rw [List.getElem?_map, List.getElem?_map]
      by_cases h : j = i
      · subst h; simp [hj', e2]
      · rw [List.getElem?_set_ne h]
    rw [this]
    exact U.2

theorem umapUpdate_sound (hE : EOK E P) (H : HR φ w₀ h nx w) {t kt e : TypeId} {i : TI} (hi : E.ty t = some i) (hd : i.desc = .map kt e) {b : Pos} {es es2 : List (AV × AV)} {s : List Nat} {v : AV} {mv u x : Value} (hm : VR φ (.map b) mv) (hu : VR φ (.str s) u) (hx : VR φ v x)
    (hkey : keyA E kt (.str s) = true) (hg : Tr.get b h = some (.umap es)) (hput : putS s v es = some es2) :
    ∃ w', (Instr.mapUpdate t mv u x).run P w = .ok () w' ∧ HR φ w₀ (Tr.set (some (.umap es2)) b h) nx w' ∧ Kept φ h nx φ (Tr.set (some (.umap es2)) b h) nx := by
  have hm' := hm
  simp only [VR] at hm'
  obtain ⟨k, B, S, hb, rfl⟩ := hm'
  obtain ⟨y, g1, g2⟩ := H.obj _ _ _ _ _ hg hb
  simp only [OR_] at g2
  obtain ⟨en, rfl, es', g3, g4, g5⟩ := g2
  have hlen : es'.length = es.length := g3.length_eq
  have hE' : ∃ a, (AV.str s) = .str a ∧ ∀ c, eqKey E kt (.str a) (.str c) = some (eqN a c) := by
    unfold keyA at hkey
    split at hkey
    · rename_i hk; exact eqKey_str hk
    · cases hkey
  obtain ⟨a, ha, heq⟩ := hE'
  injection ha with ha
  subst ha
  have hbytes : ∀ x ∈ s, x < 256 := by simp only [VR] at hu; exact hu.2
  have g5' := g5.perm g3
  have H1 : HR φ w₀ (Tr.set (some (.map es')) b h) nx w := H.view hg rfl (by
    intro k' b' s' x' h1 h2 _
    rw [hb] at h1
    injection h1 with h1
    injection h1 with h1 h3
    subst h1
    rw [g1] at h2
    injection h2 with h2
    subst h2
    exact ⟨en, by rw [hlen], g4⟩)
  have hget1 : Tr.get b (Tr.set (some (.map es')) b h) = some (.map es') := Tr.get_set_same _ _ _
  have fin : ∀ es'', putE (eqKey E kt) (.str s) v es' = some es'' → es''.Perm es2 → UK es2 → ∃ w', (Instr.mapUpdate t (.map (some k)) u x).run P w = .ok () w' ∧ HR φ w₀ (Tr.set (some (.umap es2)) b h) nx w' ∧ Kept φ h nx φ (Tr.set (some (.umap es2)) b h) nx := by
    intro es'' hput' hp hU
    obtain ⟨w', r1, r2, _⟩ := mapUpdate_sound hE H1 hi hd hm hu hx hkey hget1 hput'
    refine ⟨w', r1, ?_, φ.le_refl, fun q hq _ => ⟨hq, Tr.get_set_ne _ _ _ _ fun e => by subst e; rw [hb] at hq; cases hq⟩, Nat.le_refl _⟩
    have H2 := r2.view (o' := .umap es2) (Tr.get_set_same _ _ _) rfl (by
      intro k' b' s' x' h1 h2 h3
      simp only [OR_] at h3 ⊢
      obtain ⟨en', rfl, h4⟩ := h3
      exact ⟨en', by rw [hp.length_eq], es'', hp, h4, hU⟩)
    refine { H2 with clean := fun q hq => by (have := H2.clean q hq; simp only [Tr.get_set] at this ⊢; split at this <;> simp_all), inj := ?_, obj := ?_, hold := ?_ }
    · intro q r k b' s b'' s'' hq hr h1 h2
      refine H2.inj q r k b' s b'' s'' hq hr ?_ ?_
      · simp only [Tr.get_set] at h1 ⊢; split at h1 <;> simp_all
      · simp only [Tr.get_set] at h2 ⊢; split at h2 <;> simp_all
    · intro q o k b' s hg' hq
      refine H2.obj q o k b' s ?_ hq
      simp only [Tr.get_set] at hg' ⊢; split at hg' <;> simp_all
    · intro q o k b' s hg' hq
      refine H2.hold q o k b' s ?_ hq
      simp only [Tr.get_set] at hg' ⊢; split at hg' <;> simp_all
  unfold putS at hput
  split at hput
  · rename_i hh
    injection hput with hput
    subst hput
    obtain ⟨j, v0, h1, h2⟩ := setS_eq (v := v) hh
    rw [h2] at fin ⊢
    rcases putE_str (v := v) heq g5'.1 with ⟨j', v0', h3, h4⟩ | ⟨h3, h4⟩
    · exact fin _ h4 (set_perm g5 g3 h3 h1) (g5.set h1)
    · obtain ⟨v2, hv2⟩ := (hasS_mem hh).1 rfl
      exact absurd (g3.mem_iff.2 hv2) (h4 v2)
  · rename_i hh
    injection hput with hput
    subst hput
    have hno : ∀ u, (AV.str s, u) ∉ es := fun u hu => by
      have := (hasS_mem hh).2 ⟨u, hu⟩
      cases this
    rcases putE_str (v := v) heq g5'.1 with ⟨j', v0', h3, h4⟩ | ⟨h3, h4⟩
    · have := List.mem_of_getElem? h3
      exact absurd (g3.mem_iff.1 this) (hno v0')
    · have hperm : ((AV.str s, v) :: es).Perm (insS s v es) := insS_perm
      refine fin _ h3 ((List.perm_append_comm.trans (List.Perm.cons _ g3)).trans hperm) (UK.perm ?_ hperm.symm)
      refine ⟨fun e he => ?_, ?_⟩
      · rcases List.mem_cons.1 he with he | he
        · subst he; exact ⟨s, rfl, hbytes⟩
        · exact g5.1 e he
      · simp only [List.map_cons, List.nodup_cons]
        refine ⟨fun hin => ?_, g5.2⟩
        obtain ⟨e, he, he'⟩ := List.mem_map.1 hin
        obtain ⟨k2, v2⟩ := e
        simp only at he'
        subst he'
        exact hno v2 he
  · cases hput
end
end Go.AM
namespace Go.AM
section
variable {E : Env} {P : Program} {φ : Ph} {w₀ : Base} {w : World} {h : Heap} {nx : Pos}

/-- One of the outcomes comes about. -/
def EF (P : Program) (φ : Ph) (w₀ : Base) (h : Heap) (nx : Pos) (w : World) (s : Sem Next) (outs : List VO) : Prop :=
  ∃ w' n v φ' a h' nx', (a, h', nx') ∈ outs ∧ s.run P w = .ok n w' ∧ (n = .value v ∨ n = .skip ∧ v = undef) ∧ HR φ' w₀ h' nx' w' ∧ VR φ' a v ∧ Kept φ h nx φ' h' nx'

theorem EF.value {s : Sem Value} {w' : World} {v : Value} {φ' : Ph} {a : AV} {h' : Heap} {nx' : Pos} {outs : List VO} (hm : (a, h', nx') ∈ outs) (hs : s.run P w = .ok v w') (H : HR φ' w₀ h' nx' w') (hv : VR φ' a v) (K : Kept φ h nx φ' h' nx') :
    EF P φ w₀ h nx w (do pure (.value (← s))) outs := ⟨w', _, v, φ', a, h', nx', hm, by simp [hs], .inl rfl, H, hv, K⟩
theorem EF.unit {s : Sem Unit} {w' : World} {φ' : Ph} {h' : Heap} {nx' : Pos} {outs : List VO} (hm : (AV.undef, h', nx') ∈ outs) (hs : s.run P w = .ok () w') (H : HR φ' w₀ h' nx' w') (K : Kept φ h nx φ' h' nx') :
    EF P φ w₀ h nx w (do s; pure .skip) outs := ⟨w', _, undef, φ', AV.undef, h', nx', hm, by simp [hs], .inr ⟨rfl, rfl⟩, H, VR_undef _, K⟩

/-- A new thing at once. -/
theorem HR.make (H : HR φ w₀ h nx w) {o : Obj} (hro : o.ro = false) {x : Go.Obj} {b s : Nat} (hx : OR_ w₀ (φ.upd nx (w.heap.size, b, s)) o x b s) :
    HR (φ.upd nx (w.heap.size, b, s)) w₀ (Tr.set (some o) nx h) (Pos.succ nx) (w.alloc x) ∧ Kept φ h nx (φ.upd nx (w.heap.size, b, s)) (Tr.set (some o) nx h) (Pos.succ nx) := by
  have hn : φ nx = none := H.fresh nx (Nat.le_refl _)
  refine ⟨(H.name o).place hn (by rw [Pos.val_succ]; omega) (Tr.get_set_same _ _ _) hro hx, Ph.le_upd _ hn, fun p hp hl => ?_, by rw [Pos.val_succ]; omega⟩
  have hne : p ≠ nx := fun e => by subst e; omega
  exact ⟨by rw [Ph.upd_ne _ _ hne]; exact hp, Tr.get_set_ne _ _ _ _ hne⟩
theorem Kept.write {p : Pos} {x : Nat × Nat × Nat} (hp : φ p = some x) (o : Option Obj) : Kept φ h nx φ (Tr.set o p h) nx :=
  ⟨φ.le_refl, fun q hq _ => ⟨hq, Tr.get_set_ne _ _ _ _ fun e => by subst e; rw [hp] at hq; cases hq⟩, Nat.le_refl _⟩

theorem run_newObj (o : Go.Obj) : (newObj o).run P w = .ok w.heap.size (w.alloc o) := rfl

theorem range_sound (hE : EOK E P) (H : HR φ w₀ h nx w) {t : TypeId} {a : AV} {v : Value} {outs : List VO} (hv : VR φ a v) (hr : rangeO E h nx t a = some outs) : EF P φ w₀ h nx w (do pure (.value (← Instr.range t v))) outs := by
  have fin : ∀ {o : Obj} {x : Go.Obj}, o.ro = false → OR_ w₀ (φ.upd nx (w.heap.size, 0, 0)) o x 0 0 → (Instr.range t v).run P w = .ok (.pointer (some ⟨w.heap.size, 0, none⟩)) (w.alloc x) → newV h nx o (fun b => .ptr b 0) = some outs → EF P φ w₀ h nx w (do pure (.value (← Instr.range t v))) outs := by
    intro o x hro hx hrun hn
    injection hn with hn
    subst hn
    obtain ⟨h1, h2⟩ := H.make hro hx
    refine EF.value (a := .ptr nx 0) (List.mem_singleton.2 rfl) hrun h1 ?_ h2
    simp only [VR]
    exact ⟨_, _, _, Ph.upd_same _ _ _, rfl⟩
  have hn : φ nx = none := H.fresh nx (Nat.le_refl _)
  unfold rangeO at hr
  split at hr
  · rename_i i s hi
    obtain ⟨d, h1, h2⟩ := hE.desc hi
    simp only [DR] at h2
    subst h2
    simp only [VR] at hv
    obtain ⟨rfl, hb⟩ := hv
    refine fin (o := .siter s 0) (x := .stringIter (bts s) 0) rfl ⟨rfl, s, rfl, hb, by simp, by simp⟩ ?_ hr
    simp [Instr.range, run_underlying_of h1, bytesVal_eq]
  · rename_i hi
    obtain ⟨d, h1, h2⟩ := hE.desc hi
    simp only [DR] at h2
    subst h2
    simp only [VR] at hv
    subst hv
    refine fin (o := .miter none [] 0) (x := .mapIter none 0 #[] 0) rfl ⟨rfl, _, _, _, rfl⟩ ?_ hr
    simp [Instr.range, run_underlying_of h1]
  · rename_i m hi
    obtain ⟨d, h1, h2⟩ := hE.desc hi
    simp only [DR] at h2
    subst h2
    split at hr
    · rename_i es hg
      obtain ⟨k, en, rfl, e1, e2⟩ := map_at H hg hv
      simp only [VR] at hv
      obtain ⟨k', b, s, e3, e4⟩ := hv
      injection e4 with e4
      injection e4 with e4
      subst e4
      refine fin (o := .miter (some m) [] (lenL es 0)) (x := .mapIter (some k) es.length #[] es.length) rfl ⟨rfl, k, b, s, Ph.le_upd _ hn _ _ e3, by rw [lenL_eq]; simp⟩ ?_ hr
      simp [Instr.range, run_underlying_of h1, getMap e1]
    · rename_i es hg
      simp only [VR] at hv
      obtain ⟨k, b, s, e3, rfl⟩ := hv
      obtain ⟨x, e4, e5⟩ := H.obj _ _ _ _ _ hg e3
      have e6 := H.hold _ _ _ _ _ hg e3
      simp only [OR_] at e5
      obtain ⟨en, rfl, e7⟩ := e5
      simp only [Obj.ro, if_true] at e6
      refine fin (o := .uiter m [] (lenL es 0)) (x := .mapIter (some k) es.length #[] es.length) rfl ⟨rfl, k, b, s, en, #[], Ph.le_upd _ hn _ _ e3, by rw [lenL_eq]; simp, by rw [e6, e4, lenL_eq]; simp, rfl, fun i a ha => by simp at ha⟩ ?_ hr
      simp [Instr.range, run_underlying_of h1, getMap e4]
    · cases hr
  · cases hr

theorem memN_iff {n : Nat} : ∀ {l : List Nat}, memN n l = true ↔ n ∈ l
  | [] => by simp [memN]
  | x :: l => by
    simp only [memN]
    split
    · rename_i h; have := Nat.eq_of_beq_eq_true h; subst this; simp
    · rename_i h
      rw [memN_iff]
      have : n ≠ x := by rintro rfl; simp at h
      simp [this]

theorem stepsM_mem {seen : List Nat} {mk : Nat → AV → AV → VO} : ∀ {es : List (AV × AV)} {n i : Nat} {k v : AV}, es[i]? = some (k, v) → n + i ∉ seen → mk (n + i) k v ∈ stepsM seen mk es n
  | [], n, i, k, v, h, _ => by simp at h
  | (k', v') :: es, n, 0, k, v, h, hs => by
    simp at h
    obtain ⟨rfl, rfl⟩ := h
    have : memN n seen = false := by rw [Bool.eq_false_iff]; exact fun e => hs (by simpa using memN_iff.1 e)
    simp [stepsM, this]
  | (k', v') :: es, n, i + 1, k, v, h, hs => by
    have := stepsM_mem (mk := mk) (es := es) (n := n + 1) (i := i) (by simpa using h) (seen := seen) (by rwa [show n + 1 + i = n + (i + 1) by omega])
    rw [show n + 1 + i = n + (i + 1) by omega] at this
    simp only [stepsM]
    split
    · exact this
    · exact List.mem_cons_of_mem _ this
theorem stepsM_nil {seen : List Nat} {mk : Nat → AV → AV → VO} : ∀ {es : List (AV × AV)} {n : Nat}, (∀ i, i < es.length → n + i ∈ seen) → stepsM seen mk es n = []
  | [], n, _ => rfl
  | (k', v') :: es, n, h => by
    have : memN n seen = true := memN_iff.2 (by simpa using h 0 (by simp))
    simp only [stepsM, this, if_true]
    exact stepsM_nil fun i hi => by have := h (i + 1) (by simpa using hi); rwa [show n + (i + 1) = n + 1 + i by omega] at this

theorem mem_orOver {l : List VO} {outs : List VO} {x : VO} (h : orOver h nx l = some outs) (hm : x ∈ l) : x ∈ outs := by
  unfold orOver at h
  split at h
  · cases hm
  · injection h with h; subst h; exact hm
theorem orOver_nil {outs : List VO} (h' : orOver h nx [] = some outs) : outs = [(.tuple [.bool false], h, nx)] := by
  unfold orOver over one at h'
  injection h' with h'
  exact h'.symm

theorem VR_false : VR φ (.tuple [.bool false]) (.tuple #[.bool false]) := by
  simp only [VR]
  exact ⟨[.bool false], rfl, by simp [VRL, VR]⟩

/-- The model's next step of a range over a map that is not changed: over, or an entry that has not been seen. -/
theorem next_map {r m tot : Nat} {sn : Array Nat} {en : Array MapEntry} (ht : en.size = tot) (hb : ∀ (i : Nat) (e : MapEntry), en[i]? = some e → e.born = i) (h1 : w.heap[r]? = some (.mapIter (some m) tot sn tot)) (h2 : w.heap[m]? = some (.map en tot)) (ty : TypeId) :
    ((∀ e ∈ en.toList, e.born ∈ sn.toList) ∧ ∃ w', (w' = w ∨ w' = w.drew) ∧ (Instr.next (.pointer (some ⟨r, 0, none⟩)) false ty).run P w = .ok (.tuple #[.bool false]) w') ∨
      ∃ e ∈ en.toList, e.born ∉ sn.toList ∧ ∃ w', (w' = w ∨ w' = w.drew) ∧ (Instr.next (.pointer (some ⟨r, 0, none⟩)) false ty).run P w = .ok (.tuple #[.bool true, e.key, e.val]) { w' with heap := w'.heap.setIfInBounds r (.mapIter (some m) tot (sn.push e.born) tot) } := by
  have hg : (getObj r).run P w = .ok (.mapIter (some m) tot sn tot) w := by simp [getObj, Sem.run, h1]
  have hborn : ∀ e ∈ en.toList, e.born < tot := by
    intro e he
    obtain ⟨i, hi, rfl⟩ := List.mem_iff_getElem.1 he
    have := hb i en[i] (by simp)
    simp at hi ⊢
    omega
  have hcond : (!sn.isEmpty && !en.isEmpty && en.all (fun e => decide (e.born ≥ tot))) = false := by
    rw [Bool.eq_false_iff]
    intro hc
    simp only [Bool.and_eq_true, Array.all_eq_true_iff_forall_mem] at hc
    obtain ⟨⟨_, hc2⟩, hc3⟩ := hc
    simp at hc2
    have hpos : 0 < en.size := Array.size_pos_iff.2 hc2
    have := hc3 en[0] (Array.getElem_mem hpos)
    have h4 := hborn en[0] (by simp)
    simp at this
    omega
  generalize hL : (en.filter fun e => !sn.contains e.born) = left
  have hold : left.filter (fun e => decide (e.born < tot)) = left := by
    rw [Array.filter_eq_self]
    intro e he
    subst hL
    have := (Array.mem_filter.1 he).1
    simpa using hborn e (by simpa using this)
  have hnew : left.filter (fun e => decide (e.born ≥ tot)) = #[] := by
    rw [Array.filter_eq_empty_iff]
    intro e he
    subst hL
    have := (Array.mem_filter.1 he).1
    have := hborn e (by simpa using this)
    simp; omega
  have hset : ∀ (w' : World) (o : Go.Obj), w'.heap = w.heap → (setObj r o).run P w' = .ok () { w' with heap := w'.heap.setIfInBounds r o } := fun w' o hw => by simp [setObj, Sem.run, hw, h1]
  have start : (Instr.next (.pointer (some ⟨r, 0, none⟩)) false ty).run P w = (do
      match ((if left.isEmpty then #[none] else #[]) ++ left.map some)[← choose (.mapNext ((if left.isEmpty then #[none] else #[]) ++ left.map some : Array (Option MapEntry)).size)]? with
      | some (some e) =>
        setObj r (.mapIter (some m) tot (sn.push e.born) tot)
        pure (.tuple #[.bool true, e.key, e.val])
      | some none => pure (.tuple #[.bool false])
      | none => stuck "Next: no such candidate" : Sem Value).run P w := by
    unfold Instr.next
    simp only [Sem.run_bind, hg, Result.andThen_ok, getMap h2, hcond, hL, hold, hnew, Array.append_empty]
    simp only [Bool.false_eq_true, if_false, Sem.run_bind]
    rfl
  rw [start]
  by_cases hemp : left = #[]
  · refine .inl ⟨fun e he => ?_, w, .inl rfl, ?_⟩
    · subst hL
      rw [Array.filter_eq_empty_iff] at hemp
      have := hemp e (by simpa using he)
      simpa using this
    · subst hemp
      simp [Sem.run_bind, Question.forced]
  · right
    have hpos : 0 < left.size := Array.size_pos_iff.2 hemp
    have hne : left.isEmpty = false := by simpa using hemp
    simp only [hne, Bool.false_eq_true, if_false, Array.empty_append, Array.size_map]
    have hch : ∃ (i : Nat) (w' : World), i < left.size ∧ (w' = w ∨ w' = w.drew) ∧ (choose (.mapNext left.size)).run P w = .ok i w' := by
      rw [run_choose_drew]
      split
      · exact ⟨0, w, hpos, .inl rfl, rfl⟩
      · exact ⟨_, w.drew, Nat.mod_lt _ hpos, .inr rfl, rfl⟩
    obtain ⟨i, w', hi, hw', hc⟩ := hch
    have hmem : left[i] ∈ left := Array.getElem_mem hi
    have hheap : w'.heap = w.heap := by rcases hw' with rfl | rfl <;> rfl
    refine ⟨left[i], ?_, ?_, w', hw', ?_⟩
    · subst hL
      simpa using (Array.mem_filter.1 hmem).1
    · subst hL
      simpa using (Array.mem_filter.1 hmem).2
    · simp only [Sem.run_bind, hc, Result.andThen_ok, Array.getElem?_map, Array.getElem?_eq_getElem hi, Option.map_some, hset w' _ hheap, Sem.run_pure]

theorem decode_ascii {l : List Nat} {i c : Nat} (h : l[i]? = some c) (hc : c < 128) : Utf8.decode (bts l) i = (c, 1) := by
  have hi := (List.getElem?_eq_some_iff.1 h).1
  have hv : l[i] = c := by rw [List.getElem?_eq_getElem hi] at h; simpa using h
  have : ((bts l).get! (i + 0)).toNat = c := by
    have h2 : i < (bts l).data.size := by simpa [bts] using hi
    show ((bts l).data[i + 0]!).toNat = c
    rw [Nat.add_zero, getElem!_pos _ i h2]
    simp [bts, hv]
    omega
  unfold Utf8.decode
  simp only [this]
  rw [if_pos (by omega)]

theorem born_of {es : List (AV × AV)} {en : Array MapEntry} (e3 : ER φ es en.toList) (i : Nat) (e : MapEntry) (h : en[i]? = some e) : e.born = i := by
  have hi : i < es.length := by
    have := (Array.getElem?_eq_some_iff.1 h).1
    have := e3.1
    simp at this
    omega
  obtain ⟨z, z1, _, _, z4⟩ := e3.2 i _ _ (List.getElem?_eq_getElem hi)
  rw [Array.getElem?_toList, h] at z1
  injection z1 with z1
  subst z1
  exact z4

theorem VR_step {k v : AV} {u x : Value} (h1 : VR φ k u) (h2 : VR φ v x) : VR φ (.tuple [.bool true, k, v]) (.tuple #[.bool true, u, x]) := by
  simp only [VR]
  refine ⟨[.bool true, u, x], rfl, ?_⟩
  simp only [VRL_cons, VRL_nil]
  exact ⟨_, _, rfl, by simp only [VR], _, _, rfl, h1, _, _, rfl, h2, rfl⟩

theorem memK_iff {k : List Nat} : ∀ {l : List AV}, memK k l = true ↔ AV.str k ∈ l
  | [] => by simp [memK]
  | a :: l => by
    cases a <;> simp only [memK] <;> try (rw [memK_iff]; simp; done)
    rename_i x
    split
    · rename_i h
      rw [eqN_eq] at h
      have := eq_of_beq h
      subst this
      simp
    · rename_i h
      rw [memK_iff]
      have : k ≠ x := by rintro rfl; rw [eqN_eq] at h; simp at h
      simp [this]

theorem stepsU_mem {seen : List AV} {mk : AV → AV → VO} : ∀ {es : List (AV × AV)} {l : List VO} {k : List Nat} {v : AV}, stepsU seen mk es = some l → (AV.str k, v) ∈ es → AV.str k ∉ seen → mk (.str k) v ∈ l
  | [], l, k, v, _, h, _ => by cases h
  | (k', v') :: es, l, k, v, hl, h, hs => by
    cases k' <;> simp only [stepsU] at hl <;> try (cases hl; done)
    rename_i s
    split at hl
    · rename_i r hr
      rcases List.mem_cons.1 h with h | h
      · injection h with h1 h2
        injection h1 with h1
        subst h1 h2
        have : memK k seen = false := by rw [Bool.eq_false_iff]; exact fun e => hs (memK_iff.1 e)
        rw [this] at hl
        simp at hl
        subst hl
        simp
      · have := stepsU_mem hr h hs
        split at hl <;> (injection hl with hl; subst hl)
        · exact this
        · exact List.mem_cons_of_mem _ this
    · cases hl
theorem stepsU_nil {seen : List AV} {mk : AV → AV → VO} : ∀ {es : List (AV × AV)} {l : List VO}, stepsU seen mk es = some l → (∀ e ∈ es, e.1 ∈ seen) → l = []
  | [], l, h, _ => by simp [stepsU] at h; exact h
  | (k', v') :: es, l, hl, h => by
    cases k' <;> simp only [stepsU] at hl <;> try (cases hl; done)
    rename_i s
    split at hl
    · rename_i r hr
      have h1 := stepsU_nil hr fun e he => h e (by simp [he])
      have : memK s seen = true := memK_iff.2 (h (.str s, v') (by simp))
      rw [this] at hl
      simp at hl
      rw [← hl]
      exact h1
    · cases hl

theorem bytes_inj {a b : List Nat} (h : bytesVal a = bytesVal b) (ha : ∀ x ∈ a, x < 256) (hb : ∀ x ∈ b, x < 256) : a = b := by
  rw [bytesVal_eq, bytesVal_eq] at h
  injection h with h
  have := congrArg ByteArray.toList h
  rw [bts_list, bts_list] at this
  exact map_ofNat_inj ha hb this

theorem VR_one {φ : Ph} {a b : AV} {u v : Value} (h1 : VR φ a u) (h2 : VR φ b v) : VR φ (.tuple [a, b]) (.tuple #[u, v]) := by
  simp only [VR]
  refine ⟨[u, v], rfl, ?_⟩
  simp only [VRL_cons, VRL_nil]
  exact ⟨_, _, rfl, h1, _, _, rfl, h2, rfl⟩

/-- Entries in some order: an entry and its key. -/
theorem UR.entry {es : List (AV × AV)} {en : List MapEntry} (h : UR φ es en) {e : MapEntry} (he : e ∈ en) : ∃ s v, (AV.str s, v) ∈ es ∧ VR φ (.str s) e.key ∧ VR φ v e.val := by
  obtain ⟨es', h1, h2, h3⟩ := h
  obtain ⟨i, hi, rfl⟩ := List.mem_iff_getElem.1 he
  have hi' : i < es'.length := by rw [← h2.1]; exact hi
  obtain ⟨z, z1, z2, z3, _⟩ := h2.2 i _ _ (List.getElem?_eq_getElem hi')
  rw [List.getElem?_eq_getElem hi] at z1
  injection z1 with z1
  subst z1
  have hm : es'[i] ∈ es := h1.mem_iff.1 (List.getElem_mem hi')
  obtain ⟨s, hs, _⟩ := h3.1 _ hm
  refine ⟨s, es'[i].2, ?_, ?_, z3⟩
  · rw [← hs]; exact hm
  · rw [← hs]; exact z2
theorem UR.same {es : List (AV × AV)} {en : List MapEntry} (h : UR φ es en) {e e' : MapEntry} (he : e ∈ en) (he' : e' ∈ en) {s : List Nat} (h1 : VR φ (.str s) e.key) (h2 : VR φ (.str s) e'.key) : e = e' := by
  obtain ⟨es', p, q, U⟩ := h
  obtain ⟨i, hi, rfl⟩ := List.mem_iff_getElem.1 he
  obtain ⟨j, hj, rfl⟩ := List.mem_iff_getElem.1 he'
  have U' := U.perm p
  have hi' : i < es'.length := by rw [← q.1]; exact hi
  have hj' : j < es'.length := by rw [← q.1]; exact hj
  have key : ∀ (n : Nat) (hn : n < en.length) (hn' : n < es'.length), VR φ (.str s) en[n].key → es'[n].1 = .str s := by
    intro n hn hn' hv
    obtain ⟨z, z1, z2, _, _⟩ := q.2 n es'[n].1 es'[n].2 (by rw [List.getElem?_eq_getElem hn'])
    rw [List.getElem?_eq_getElem hn] at z1
    injection z1 with z1
    subst z1
    obtain ⟨t, ht, hb⟩ := U'.1 _ (List.getElem_mem hn')
    rw [ht] at z2 ⊢
    simp only [VR] at z2 hv
    rw [bytes_inj (z2.1.symm.trans hv.1) z2.2 hv.2]
  have k1 := key i hi hi' h1
  have k2 := key j hj hj' h2
  have nd := List.pairwise_iff_getElem.1 U'.2
  have hij : i = j := by
    rcases Nat.lt_trichotomy i j with h | h | h
    · exact absurd (by rw [List.getElem_map, List.getElem_map, k1, k2]) (nd i j (by simpa using hi') (by simpa using hj') h)
    · exact h
    · exact absurd (by rw [List.getElem_map, List.getElem_map, k1, k2]) (nd j i (by simpa using hj') (by simpa using hi') h)
  subst hij
  rfl

theorem next_sound (H : HR φ w₀ h nx w) {a : AV} {v : Value} {s : Bool} {ty : TypeId} {outs : List VO} (hv : VR φ a v) (hn : nextO h nx a s = some outs) : EF P φ w₀ h nx w (do pure (.value (← Instr.next v s ty))) outs := by
  unfold nextO at hn
  split at hn
  · rename_i b
    simp only [VR] at hv
    obtain ⟨r, B, S, hb, rfl⟩ := hv
    have hB : ∀ {o : Obj}, Tr.get b h = some o → (∃ x, w.heap[r]? = some x ∧ OR_ w₀ φ o x B S) := fun hg => H.obj _ _ _ _ _ hg hb
    have hget : ∀ {x : Go.Obj}, w.heap[r]? = some x → (∀ c t z, x ≠ .cells c t z) → (getObj r).run P w = .ok x w := by
      intro x hx hc
      cases x <;> first | (simp [getObj, Sem.run, hx]; done) | exact absurd rfl (hc _ _ _)
    split at hn
    · rename_i pos hg
      obtain ⟨x, g1, g2⟩ := hB hg
      simp only [OR_] at g2
      obtain ⟨rfl, full, rfl, _, g3, g4⟩ := g2
      injection hn with hn
      subst hn
      have hpos : full.length ≤ pos := by rw [List.drop_eq_nil_iff] at g4; exact g4
      refine EF.value (a := .tuple [.bool false]) (List.mem_singleton.2 rfl) (v := .tuple #[.bool false]) ?_ H VR_false (Kept.refl _ _ _)
      have hsz : ¬ pos < (bts full).size := by rw [bts_size]; omega
      simp only [bts] at hsz
      simp [Instr.next, hget g1 (by simp), hsz]
    · rename_i c rest pos hg
      split at hn
      · rename_i hc
        have hc' : c < 128 := by simpa [Nat.blt_eq] using hc
        obtain ⟨x, g1, g2⟩ := hB hg
        simp only [OR_] at g2
        obtain ⟨rfl, full, rfl, g5, g3, g4⟩ := g2
        injection hn with hn
        subst hn
        have hpos : pos < full.length := by
          rcases Nat.lt_or_ge pos full.length with h | h
          · exact h
          · rw [List.drop_eq_nil_of_le h] at g4; cases g4
        have hcc : full[pos]? = some c := by
          have := congrArg (fun l => l[0]?) g4
          simpa using this
        have hrest : full.drop (pos + 1) = rest := by
          have := congrArg List.tail g4
          simpa using this
        have hsz : pos < (bts full).size := by rw [bts_size]; exact hpos
        have hdec := decode_ascii hcc hc'
        simp only [bts] at hsz hdec
        have hset : ∀ o : Go.Obj, (setObj r o).run P w = .ok () { w with heap := w.heap.setIfInBounds r o } := fun o => by simp [setObj, Sem.run, g1]
        refine EF.value (a := .tuple [.bool true, .int .i64 (.ofNat pos), .int .i32 (.ofNat c)]) (List.mem_singleton.2 rfl) (v := .tuple #[.bool true, goInt pos, .int .i32 c]) ?_
          (H.write hg hb rfl rfl (x' := .stringIter (bts full) (pos + 1)) ⟨rfl, full, rfl, g5, hpos, hrest⟩) (VR_step (by simp only [VR]; rfl) (by simp only [VR]; rfl)) (Kept.write hb _)
        simp [Instr.next, hget g1 (by simp), hsz, hdec, hset, bts]
      · cases hn
    · rename_i hg
      obtain ⟨x, g1, g2⟩ := hB hg
      simp only [OR_] at g2
      obtain ⟨rfl, _, _, _, rfl⟩ := g2
      injection hn with hn
      subst hn
      refine EF.value (a := .tuple [.bool false]) (List.mem_singleton.2 rfl) (v := .tuple #[.bool false]) ?_ H VR_false (Kept.refl _ _ _)
      simp [Instr.next, hget g1 (by simp)]
    · rename_i m seen tot hg
      obtain ⟨x, g1, g2⟩ := hB hg
      simp only [OR_] at g2
      obtain ⟨rfl, k, b', s', g3, rfl⟩ := g2
      split at hn
      · rename_i es hm
        split at hn
        · rename_i ht
          have ht' : tot = es.length := by simpa [lenL_eq] using Nat.eq_of_beq_eq_true ht
          subst ht'
          obtain ⟨k2, en, e1, e2, e3⟩ := map_at H hm (v := .map (some k)) (by simp only [VR]; exact ⟨_, _, _, g3, rfl⟩)
          injection e1 with e1
          injection e1 with e1
          subst e1
          have hlen := e3.1
          simp only [Array.length_toList] at hlen
          rcases next_map (P := P) hlen (born_of e3) g1 e2 ty with ⟨hall, w', hw', hrun⟩ | ⟨e, he, hne, w', hw', hrun⟩
          · have hnil := stepsM_nil (seen := seen) (mk := fun n k v => (AV.tuple [.bool true, k, v], Tr.set (some (Obj.miter (some m) (appL seen [n]) es.length)) b h, nx)) (es := es) (n := 0) (by
              intro i hi
              have hi' : i < en.size := by omega
              have := hall en[i] (by simp)
              rw [born_of e3 i en[i] (by simp)] at this
              simpa using this)
            rw [hnil] at hn
            rw [orOver_nil hn]
            refine EF.value (a := .tuple [.bool false]) (List.mem_singleton.2 rfl) hrun ?_ VR_false (Kept.refl _ _ _)
            rcases hw' with rfl | rfl
            · exact H
            · exact H.drew
          · obtain ⟨i, hi, rfl⟩ := List.mem_iff_getElem.1 he
            have hi' : i < es.length := by simp at hi; omega
            obtain ⟨z, z1, z2, z3, z4⟩ := e3.2 i _ _ (List.getElem?_eq_getElem hi')
            rw [List.getElem?_eq_getElem hi] at z1
            injection z1 with z1
            subst z1
            have hns : 0 + i ∉ seen := by rw [z4] at hne; simpa using hne
            have hmem := stepsM_mem (mk := fun n k v => (AV.tuple [.bool true, k, v], Tr.set (some (Obj.miter (some m) (appL seen [n]) es.length)) b h, nx)) (es := es) (n := 0) (List.getElem?_eq_getElem hi') hns
            have hin := mem_orOver hn hmem
            rw [Nat.zero_add] at hin
            have H' : HR φ w₀ h nx w' := by
              rcases hw' with rfl | rfl
              · exact H
              · exact H.drew
            refine EF.value hin hrun (H'.write hg hb rfl rfl ⟨rfl, k, b', s', g3, ?_⟩) (VR_step z2 z3) (Kept.write hb _)
            rw [z4, appL_eq]
            simp
        · cases hn
      · cases hn
    · rename_i m seen tot hg
      obtain ⟨x, g1, g2⟩ := hB hg
      simp only [OR_] at g2
      obtain ⟨rfl, k, b', s', en, sn, g3, rfl, g4, g5, g6⟩ := g2
      split at hn
      · rename_i es hm
        split at hn
        · rename_i ht
          have ht' : tot = es.length := by simpa [lenL_eq] using Nat.eq_of_beq_eq_true ht
          subst ht'
          obtain ⟨y, e1, e2⟩ := H.obj _ _ _ _ _ hm g3
          simp only [OR_] at e2
          obtain ⟨en', rfl, e4⟩ := e2
          have e5 := H.hold _ _ _ _ _ hm g3
          simp only [Obj.ro, if_true] at e5
          rw [g4, e1] at e5
          injection e5 with e5
          injection e5 with e5 _
          subst e5
          have hlen : en.size = es.length := by
            obtain ⟨es', p, q, _⟩ := e4
            have := q.1
            rw [p.length_eq] at this
            simpa using this
          have hborn : ∀ (i : Nat) (e : MapEntry), en[i]? = some e → e.born = i := by
            obtain ⟨es', p, q, _⟩ := e4
            exact born_of q
          have hsame : ∀ e ∈ en.toList, ∀ e' ∈ en.toList, e.born = e'.born → e = e' := by
            intro e he e' he' hb'
            obtain ⟨i, hi, rfl⟩ := List.mem_iff_getElem.1 he
            obtain ⟨j, hj, rfl⟩ := List.mem_iff_getElem.1 he'
            simp at hi hj
            have h1 := hborn i en.toList[i] (by simp [hi])
            have h2 := hborn j en.toList[j] (by simp [hj])
            have : i = j := by omega
            subst this
            rfl
          split at hn
          · rename_i l hl
            rcases next_map (P := P) hlen hborn g1 e1 ty with ⟨hall, w', hw', hrun⟩ | ⟨e, he, hne, w', hw', hrun⟩
            · have hnil : l = [] := by
                refine stepsU_nil hl fun p hp => ?_
                obtain ⟨es', q1, q2, q3⟩ := e4
                have hp' := q1.mem_iff.2 hp
                obtain ⟨i, hi, hpi⟩ := List.mem_iff_getElem.1 hp'
                obtain ⟨z, z1, z2, _, z4⟩ := q2.2 i p.1 p.2 (by rw [List.getElem?_eq_getElem hi, hpi])
                have hz : z ∈ en.toList := List.mem_of_getElem? z1
                have hzb := hall z hz
                obtain ⟨j, hj, hjz⟩ := List.mem_iff_getElem.1 hzb
                have hj' : j < seen.reverse.length := by simp at hj ⊢; omega
                obtain ⟨e, he, f1, f2⟩ := g6 j seen.reverse[j] (List.getElem?_eq_getElem hj')
                have : e.born = z.born := by
                  have : sn[j]? = some z.born := by rw [← Array.getElem?_toList, List.getElem?_eq_getElem hj, hjz]
                  rw [this] at f1
                  injection f1 with f1
                  exact f1.symm
                have := hsame e he z hz this
                subst this
                obtain ⟨s, hs, hsb⟩ := q3.1 p hp
                rw [hs] at z2 ⊢
                have hmem : seen.reverse[j] ∈ seen := List.mem_reverse.1 (List.getElem_mem hj')
                have hstr : seen.reverse[j] = AV.str s := by
                  simp only [VR] at z2
                  rw [z2.1] at f2
                  generalize seen.reverse[j] = q at f2
                  cases q <;> simp only [VR] at f2 <;> try (first | (cases f2; done) | (obtain ⟨_, f2, _⟩ := f2; cases f2; done) | (obtain ⟨_, _, _, _, f2⟩ := f2; cases f2; done) | (obtain ⟨_, _, _, _, _, f2, _⟩ := f2; cases f2; done))
                  rw [bytes_inj f2.1 z2.2 f2.2]
                rw [← hstr]
                exact hmem
              subst hnil
              rw [orOver_nil hn]
              refine EF.value (a := .tuple [.bool false]) (List.mem_singleton.2 rfl) hrun ?_ VR_false (Kept.refl _ _ _)
              rcases hw' with rfl | rfl
              · exact H
              · exact H.drew
            · obtain ⟨s, v, m1, m2, m3⟩ := e4.entry he
              have hns : AV.str s ∉ seen := by
                intro hin
                obtain ⟨j, hj, hjs⟩ := List.mem_iff_getElem.1 (List.mem_reverse.2 hin)
                obtain ⟨e', f0, f1, f2⟩ := g6 j _ (List.getElem?_eq_getElem hj)
                rw [hjs] at f2
                have := e4.same he f0 m2 f2
                subst this
                exact hne (List.mem_of_getElem? (by rw [Array.getElem?_toList]; exact f1))
              have hmem := stepsU_mem hl m1 hns
              have hin := mem_orOver hn hmem
              have H' : HR φ w₀ h nx w' := by
                rcases hw' with rfl | rfl
                · exact H
                · exact H.drew
              refine EF.value hin hrun (H'.write hg hb rfl rfl ⟨rfl, k, b', s', en, sn.push e.born, g3, rfl, g4, by simp [g5], ?_⟩) (VR_step m2 m3) (Kept.write hb _)
              intro i a ha
              rw [List.reverse_cons] at ha
              by_cases hi : i < seen.reverse.length
              · rw [List.getElem?_append_left hi] at ha
                obtain ⟨e', f0, f1, f2⟩ := g6 i a ha
                refine ⟨e', f0, ?_, f2⟩
                rw [Array.getElem?_push, if_neg (by simp at hi; omega)]
                exact f1
              · rw [List.getElem?_append_right (by omega)] at ha
                have hi0 : i - seen.reverse.length = 0 := by
                  rcases Nat.eq_zero_or_pos (i - seen.reverse.length) with h | h
                  · exact h
                  · rw [List.getElem?_eq_none (by simp at h ⊢; omega)] at ha; cases ha
                rw [hi0] at ha
                simp at ha
                subst ha
                refine ⟨e, he, ?_, m2⟩
                have : i = sn.size := by simp at hi hi0; omega
                rw [this, Array.getElem?_push_size]
          · cases hn
        · cases hn
      · cases hn
    · cases hn
  · cases hn
end
end Go.AM
namespace Go.AM
section
variable {E : Env} {P : Program} {φ : Ph} {w₀ : Base} {w : World} {h : Heap} {nx : Pos}

theorem lastN_back : ∀ {l : List Nat} {n : Nat}, lastN l = some n → l.toArray.back? = some n
  | [], n, h => by simp [lastN] at h
  | [x], n, h => by simp [lastN] at h; subst h; rfl
  | x :: y :: l, n, h => by
    have := lastN_back (l := y :: l) (n := n) (by simpa [lastN] using h)
    rw [← this]
    simp [List.getLast?_cons_cons]

theorem find_born {en : Array MapEntry} (hs : ∀ e ∈ en.toList, ∀ e' ∈ en.toList, e.born = e'.born → e = e') {e : MapEntry} (he : e ∈ en.toList) : en.find? (fun x => x.born == e.born) = some e := by
  cases hf : en.find? (fun x => x.born == e.born) with
  | none =>
    rw [Array.find?_eq_none] at hf
    have := hf e (by simpa using he)
    simp at this
  | some x =>
    have h1 := Array.find?_some hf
    have h2 := Array.mem_of_find?_eq_some hf
    rw [hs x (by simpa using h2) e he (by simpa using h1)]

theorem findK_mem {k : List Nat} {v : AV} : ∀ {es : List (AV × AV)}, findK k es = some v → (AV.str k, v) ∈ es
  | [], h => by simp [findK] at h
  | (k', v') :: es, h => by
    cases k' <;> simp only [findK] at h <;> try (cases h; done)
    split at h
    · rename_i s he
      rw [eqN_eq] at he
      have := eq_of_beq he
      subst this
      injection h with h
      subst h
      simp
    · exact List.mem_cons_of_mem _ (findK_mem h)

theorem entry_sound (H : HR φ w₀ h nx w) {a : AV} {v : Value} {outs : List VO} (hv : VR φ a v) (hn : entryO h nx a = some outs) : EF P φ w₀ h nx w (do pure (.value (← Instr.entry v))) outs := by
  unfold entryO at hn
  split at hn
  · rename_i b
    simp only [VR] at hv
    obtain ⟨r, B, S, hb, rfl⟩ := hv
    split at hn
    · rename_i m seen tot hg
      obtain ⟨x, g1, g2⟩ := H.obj _ _ _ _ _ hg hb
      simp only [OR_] at g2
      obtain ⟨rfl, k, b', s', g3, rfl⟩ := g2
      split at hn
      · rename_i es n hm hlast
        split at hn
        · rename_i ht
          have ht' : tot = es.length := by simpa [lenL_eq] using Nat.eq_of_beq_eq_true ht
          subst ht'
          split at hn
          · rename_i kk vv hnth
            rw [nth?_eq] at hnth
            injection hn with hn
            subst hn
            obtain ⟨k2, en, e1, e2, e3⟩ := map_at H hm (v := .map (some k)) (by simp only [VR]; exact ⟨_, _, _, g3, rfl⟩)
            injection e1 with e1
            injection e1 with e1
            subst e1
            obtain ⟨z, z1, z2, z3, z4⟩ := e3.2 n kk vv hnth
            have hz : z ∈ en.toList := List.mem_of_getElem? z1
            have hb := born_of e3
            have hf := find_born (en := en) (fun e he e' he' hbb => by
              obtain ⟨i, hi, rfl⟩ := List.mem_iff_getElem.1 he
              obtain ⟨j, hj, rfl⟩ := List.mem_iff_getElem.1 he'
              simp at hi hj
              have h1 := hb i en.toList[i] (by simp [hi])
              have h2 := hb j en.toList[j] (by simp [hj])
              have : i = j := by omega
              subst this
              rfl) hz
            rw [z4] at hf
            have hback := lastN_back hlast
            have hgo : (getObj r).run P w = .ok (.mapIter (some k) es.length seen.toArray es.length) w := by simp [getObj, Sem.run, g1]
            refine EF.value (a := .tuple [kk, vv]) (List.mem_singleton.2 rfl) (v := .tuple #[z.key, z.val]) ?_ H (VR_one z2 z3) (Kept.refl _ _ _)
            simp only [Instr.entry, Sem.run_bind, hgo, Result.andThen_ok, hback, getMap e2, bne_self_eq_false, Bool.false_eq_true, if_false, hf, Sem.run_pure]
          · cases hn
        · cases hn
      · cases hn
    · rename_i m kk seen tot hg
      obtain ⟨x, g1, g2⟩ := H.obj _ _ _ _ _ hg hb
      simp only [OR_] at g2
      obtain ⟨rfl, k, b', s', en, sn, g3, rfl, g4, g5, g6⟩ := g2
      split at hn
      · rename_i es hm
        split at hn
        · rename_i ht
          have ht' : tot = es.length := by simpa [lenL_eq] using Nat.eq_of_beq_eq_true ht
          subst ht'
          split at hn
          · rename_i vv hk
            injection hn with hn
            subst hn
            obtain ⟨y, e1, e2⟩ := H.obj _ _ _ _ _ hm g3
            simp only [OR_] at e2
            obtain ⟨en', rfl, e4⟩ := e2
            have e5 := H.hold _ _ _ _ _ hm g3
            simp only [Obj.ro, if_true] at e5
            rw [g4, e1] at e5
            injection e5 with e5
            injection e5 with e5 _
            subst e5
            have hborn : ∀ (i : Nat) (e : MapEntry), en[i]? = some e → e.born = i := by
              obtain ⟨es', p, q, _⟩ := e4
              exact born_of q
            obtain ⟨e, f0, f1, f2⟩ := g6 seen.length (.str kk) (by simp)
            have hf := find_born (en := en) (fun e he e' he' hbb => by
              obtain ⟨i, hi, rfl⟩ := List.mem_iff_getElem.1 he
              obtain ⟨j, hj, rfl⟩ := List.mem_iff_getElem.1 he'
              simp at hi hj
              have h1 := hborn i en.toList[i] (by simp [hi])
              have h2 := hborn j en.toList[j] (by simp [hj])
              have : i = j := by omega
              subst this
              rfl) f0
            have hback : sn.back? = some e.born := by
              rw [Array.back?, show sn.size - 1 = seen.length by simp at g5; omega]
              exact f1
            have hgo : (getObj r).run P w = .ok (.mapIter (some k) es.length sn es.length) w := by simp [getObj, Sem.run, g1]
            have hval : VR φ vv e.val := by
              obtain ⟨s, v, m1, m2, m3⟩ := e4.entry f0
              have hkk := f2
              simp only [VR] at m2 hkk
              have hs : s = kk := bytes_inj (m2.1.symm.trans hkk.1) m2.2 hkk.2
              subst hs
              have hmem := findK_mem hk
              obtain ⟨es', _, _, U⟩ := e4
              have e7 := findE_mem (eq := fun a b => match a, b with | .str x, .str y => some (eqN x y) | _, _ => none) (a := s) (fun b => rfl) U hmem
              have e8 := findE_mem (eq := fun a b => match a, b with | .str x, .str y => some (eqN x y) | _, _ => none) (a := s) (fun b => rfl) U m1
              rw [e7] at e8
              injection e8 with e8
              injection e8 with e8
              rw [e8]
              exact m3
            refine EF.value (a := .tuple [.str kk, vv]) (List.mem_singleton.2 rfl) (v := .tuple #[e.key, e.val]) ?_ H (VR_one f2 hval) (Kept.refl _ _ _)
            simp only [Instr.entry, Sem.run_bind, hgo, Result.andThen_ok, hback, getMap e1, bne_self_eq_false, Bool.false_eq_true, if_false, hf, Sem.run_pure]
          · cases hn
        · cases hn
      · cases hn
    · cases hn
  · cases hn
end
end Go.AM
