/-
  The evaluator is sound: regions that draw their order. Sets of places as numbers; what an operation waits for, looks at, writes. The staged evaluator is sound: regions that draw their order. The staged evaluator is sound: regions that draw their order: all together.
-/
import Derived.Test.YtidhmgganaoefaaGreatDoorEvSound
import Derived.OrdersIn
namespace Go.AM

theorem kept_eq (W t : Nat) : kept W t = W.testBit t := by
  unfold kept Nat.testBit
  rw [Bool.eq_iff_iff]
  show Nat.beq (W >>> t &&& 1) 1 = true ↔ (1 &&& (W >>> t) != 0) = true
  rw [Nat.and_comm 1, Nat.and_one_is_mod]
  have : W >>> t % 2 < 2 := Nat.mod_lt _ (by omega)
  rcases (by omega : W >>> t % 2 = 0 ∨ W >>> t % 2 = 1) with e | e <;> rw [e] <;> decide
theorem kept_or (a b t : Nat) : kept (Nat.lor a b) t = (kept a t || kept b t) := by
  rw [kept_eq, kept_eq, kept_eq]
  exact Nat.testBit_or a b t
theorem kept_bit (i t : Nat) : kept (bitN i) t = decide (i = t) := by
  rw [kept_eq]
  show (1 <<< i).testBit t = _
  rw [Nat.one_shiftLeft, Nat.testBit_two_pow]
theorem kept_zero (t : Nat) : kept 0 t = false := by rw [kept_eq]; simp
theorem kept_lt {w i j : Nat} (h : Nat.ble (bitN i) w = false) (hj : kept w j = true) : j < i := by
  have hw : w < 2 ^ i := by
    have : ¬ bitN i ≤ w := fun e => by rw [Nat.ble_eq_true_of_le e] at h; cases h
    have e : bitN i = 2 ^ i := Nat.one_shiftLeft i
    omega
  rw [kept_eq] at hj
  exact Classical.byContradiction fun hn => by
    have : w.testBit j = false := Nat.testBit_lt_two_pow (Nat.lt_of_lt_of_le hw (Nat.pow_le_pow_right (by omega) (by omega)))
    rw [this] at hj
    cases hj
theorem allIn_iff {w A : Nat} : allIn w A = true ↔ ∀ j, kept w j = true → kept A j = true := by
  unfold allIn
  constructor
  · intro h j hj
    have e : w &&& A = w := Nat.eq_of_beq_eq_true h
    rw [kept_eq] at *
    rw [← e, Nat.testBit_and] at hj
    exact (Bool.and_eq_true _ _ ▸ hj).2
  · intro h
    have : w &&& A = w := by
      apply Nat.eq_of_testBit_eq
      intro j
      rw [Nat.testBit_and]
      cases hw : w.testBit j with
      | false => rfl
      | true =>
        have := h j (by rw [kept_eq]; exact hw)
        rw [kept_eq] at this
        rw [this]
        rfl
    show Nat.beq (w &&& A) w = true
    rw [this]
    exact Nat.beq_refl w

theorem waitsL_iff {j : Nat} : ∀ {l : List Edge} {m : Nat}, kept (waitsL l m) j = true ↔ kept m j = true ∨ ∃ e ∈ l, Region.binds .any e = true ∧ e.on = j
  | [], m => by simp [waitsL]
  | e :: l, m => by
    simp only [waitsL]
    rw [waitsL_iff]
    cases hb : Region.binds .any e
    · rw [bb_false]
      simp [hb]
    · rw [bb_true, kept_or, kept_bit]
      simp [hb, or_assoc]
theorem waitsM_iff {o : Oper} {j : Nat} : kept (waitsM o) j = true ↔ ∃ e ∈ o.after, Region.binds .any e = true ∧ e.on = j := by
  unfold waitsM
  rw [waitsL_iff, kept_zero]
  simp
theorem ancL_iff {j : Nat} {acc : List Nat} : ∀ {l : List Edge} {m : Nat}, kept (ancL acc l m) j = true ↔ kept m j = true ∨ ∃ e ∈ l, Region.binds .any e = true ∧ (e.on = j ∨ kept (nth 0 acc e.on) j = true)
  | [], m => by simp [ancL]
  | e :: l, m => by
    simp only [ancL]
    rw [ancL_iff]
    cases hb : Region.binds .any e
    · rw [bb_false]
      simp [hb]
    · rw [bb_true, kept_or, kept_or, kept_bit]
      simp [hb, or_assoc]
theorem nth_getD {α : Type} (d : α) : ∀ (l : List α) (n : Nat), nth d l n = (l[n]?).getD d
  | [], _ => rfl
  | _ :: _, 0 => rfl
  | _ :: l, n + 1 => nth_getD d l n
theorem tmpsM_iff {t : Nat} : ∀ {l : List Operand} {m : Nat}, kept (tmpsM l m) t = true ↔ kept m t = true ∨ Operand.tmp t ∈ l
  | [], m => by simp [tmpsM]
  | x :: l, m => by
    simp only [tmpsM]
    rw [tmpsM_iff]
    cases x with
    | tmp u =>
      rw [kept_or, kept_bit]
      simp only [Bool.or_eq_true, decide_eq_true_eq, List.mem_cons, Operand.tmp.injEq]
      constructor
      · rintro ((h | h) | h)
        · exact .inl h
        · exact .inr (.inl h.symm)
        · exact .inr (.inr h)
      · rintro (h | h | h)
        · exact .inl (.inl h)
        · exact .inl (.inr h.symm)
        · exact .inr h
    | _ => simp

/-- What must be ahead of an operation is there, when what it waits for is. -/
theorem ancs_len : ∀ (r : List Oper) (acc : List Nat), (ancs r acc).length = acc.length + r.length
  | [], acc => rfl
  | o :: r, acc => by
    simp only [ancs]
    rw [ancs_len, appL_eq]
    simp
    omega
theorem ancs_pre : ∀ (r : List Oper) (acc : List Nat) (i : Nat), i < acc.length → (ancs r acc)[i]? = acc[i]?
  | [], acc, i, _ => rfl
  | o :: r, acc, i, h => by
    simp only [ancs]
    rw [ancs_pre r _ i (by rw [appL_eq]; simp; omega), appL_eq, List.getElem?_append_left h]
theorem ancs_at : ∀ (r : List Oper) (acc : List Nat) (i : Nat) (o : Oper), r[i]? = some o → ∃ acc', (∀ j, j < acc.length + i → acc'[j]? = (ancs r acc)[j]?) ∧ acc'.length = acc.length + i ∧ (ancs r acc)[acc.length + i]? = some (ancL acc' o.after.toList 0)
  | [], _, i, o, h => by simp at h
  | o' :: r, acc, 0, o, h => by
    simp at h
    subst h
    refine ⟨acc, fun j hj => ?_, rfl, ?_⟩
    · simp only [ancs]
      rw [ancs_pre r _ j (by rw [appL_eq]; simp; omega), appL_eq, List.getElem?_append_left (by omega)]
    · simp only [ancs]
      rw [ancs_pre r _ _ (by rw [appL_eq]; simp), appL_eq]
      simp
  | o' :: r, acc, i + 1, o, h => by
    simp only [ancs]
    obtain ⟨acc', h1, h2, h3⟩ := ancs_at r (appL acc [ancL acc o'.after.toList 0]) i o (by simpa using h)
    have hl : (appL acc [ancL acc o'.after.toList 0]).length = acc.length + 1 := by rw [appL_eq]; simp
    rw [hl] at h1 h2 h3
    refine ⟨acc', fun j hj => h1 j (by omega), by omega, ?_⟩
    rw [show acc.length + (i + 1) = acc.length + 1 + i by omega]
    exact h3

theorem anc_closed {all : List Oper} {C : Nat → Prop} (hlt : ∀ (i : Nat) (o : Oper), all[i]? = some o → ∀ j, kept (waitsM o) j = true → j < i) (hC : ∀ (i : Nat) (o : Oper), all[i]? = some o → C i → ∀ j, kept (waitsM o) j = true → C j) :
    ∀ (i : Nat) (o : Oper), all[i]? = some o → (∀ j, kept (waitsM o) j = true → C j) → ∀ j, kept (nth 0 (ancs all []) i) j = true → C j ∧ j < i := by
  intro i
  induction i using Nat.strongRecOn with
  | _ i ih =>
    intro o ho hw j hj
    obtain ⟨acc', h1, h2, h3⟩ := ancs_at all [] i o ho
    simp only [List.length_nil, Nat.zero_add] at h1 h2 h3
    rw [nth_getD, h3, Option.getD_some, ancL_iff, kept_zero] at hj
    obtain ⟨e, he, hb, hj⟩ := hj.resolve_left (by simp)
    have hk : kept (waitsM o) e.on = true := waitsM_iff.2 ⟨e, by simpa using he, hb, rfl⟩
    have hlt' := hlt i o ho _ hk
    rcases hj with rfl | hj
    · exact ⟨hw _ hk, hlt'⟩
    · rw [nth_getD, h1 _ hlt', ← nth_getD] at hj
      have hi : i < all.length := (List.getElem?_eq_some_iff.1 ho).1
      obtain ⟨o', ho'⟩ : ∃ o', all[e.on]? = some o' := ⟨all[e.on], List.getElem?_eq_getElem (by omega)⟩
      obtain ⟨g1, g2⟩ := ih e.on hlt' o' ho' (hC e.on o' ho' (hw _ hk)) j hj
      exact ⟨g1, by omega⟩

theorem mindsL_get {all : List Oper} : ∀ (r : List Oper) (k : Nat), (mindsL all r)[k]? = (r[k]?).map (mindsM all)
  | [], k => by simp [mindsL]
  | o :: r, 0 => by simp [mindsL]
  | o :: r, k + 1 => by simpa [mindsL] using mindsL_get r k
theorem apartL_spec {i d : Nat} : ∀ {ms an : List Nat} {j : Nat}, apartL i d ms an j = true → ∀ (k m a : Nat), ms[k]? = some m → an[k]? = some a → j + k ≠ i → kept m d = true → kept a i = true
  | [], [], j, _, k, m, a, h, _, _, _ => by simp at h
  | m' :: ms, a' :: an, j, h, k, m, a, h1, h2, h3, h4 => by
    simp only [apartL] at h
    cases hc : bb (Nat.beq i j) true (bb (kept m' d) (kept a' i) true) with
    | false => rw [hc] at h; cases h
    | true =>
      rw [hc] at h
      cases k with
      | zero =>
        simp only [List.getElem?_cons_zero, Option.some.injEq] at h1 h2
        subst h1 h2
        have : Nat.beq i j = false := by rw [Bool.eq_false_iff]; exact fun e => h3 (by have := Nat.eq_of_beq_eq_true e; omega)
        rw [this, h4] at hc
        exact hc
      | succ k =>
        simp only [List.getElem?_cons_succ] at h1 h2
        exact apartL_spec (j := Nat.succ j) h k m a h1 h2 (by omega) h4
  | [], _ :: _, j, h, _, _, _, _, _, _, _ => by cases h
  | _ :: _, [], j, h, _, _, _, _, _, _, _ => by cases h
theorem apartAll_spec {i ai d : Nat} : ∀ {ms an : List Nat} {j : Nat}, apartAll i ai d ms an j = true → ∀ (k m a : Nat), ms[k]? = some m → an[k]? = some a → j + k ≠ i → kept m d = true → kept a i = true ∨ kept ai (j + k) = true
  | [], [], j, _, k, m, a, h, _, _, _ => by simp at h
  | m' :: ms, a' :: an, j, h, k, m, a, h1, h2, h3, h4 => by
    simp only [apartAll] at h
    cases hc : bb (Nat.beq i j) true (bb (kept m' d) (bb (kept a' i) true (kept ai j)) true) with
    | false => rw [hc] at h; cases h
    | true =>
      rw [hc] at h
      cases k with
      | zero =>
        simp only [List.getElem?_cons_zero, Option.some.injEq] at h1 h2
        subst h1 h2
        have : Nat.beq i j = false := by rw [Bool.eq_false_iff]; exact fun e => h3 (by have := Nat.eq_of_beq_eq_true e; omega)
        rw [this, h4] at hc
        cases ha : kept a' i with
        | true => exact .inl rfl
        | false => rw [ha] at hc; exact .inr hc
      | succ k =>
        simp only [List.getElem?_cons_succ] at h1 h2
        have := apartAll_spec (j := Nat.succ j) h k m a h1 h2 (by omega) h4
        rw [show j + (k + 1) = Nat.succ j + k by omega]
        exact this
  | [], _ :: _, j, h, _, _, _, _, _, _, _ => by cases h
  | _ :: _, [], j, h, _, _, _, _, _, _, _ => by cases h

/-- What the items say, from the place i₀ on. -/
structure ItsAt (E : Env) (all : List Oper) (an : List Nat) (i₀ : Nat) (its : List Itm) : Prop where
  it : ∀ t ∈ its, i₀ ≤ t.i ∧ all[t.i]? = some t.o ∧ t.w = waitsM t.o ∧ an[t.i]? = some t.an
  each : ∀ (i : Nat) (o : Oper), i₀ ≤ i → all[i]? = some o → ∃ t ∈ its, t.i = i
  lt : ∀ t ∈ its, ∀ j, kept (waitsM t.o) j = true → j < t.i
  apart : ∀ t ∈ its, ∀ d, t.o.dst = some d → ∀ (j : Nat) (oj : Oper) (a : Nat), all[j]? = some oj → an[j]? = some a → j ≠ t.i → kept (mindsM all oj) d = true → kept a t.i = true ∨ kept t.an j = true
  guard : ∀ t ∈ its, ∀ j want, t.o.guard = some (j, want) → kept (waitsM t.o) j = true
  light : ∀ t ∈ its, t.li = true → lightK (kindOf E t.o.op) = true ∧ ∀ d, t.o.dst = some d → kept (looksM all t.o) d = false ∧
    ∀ (j : Nat) (oj : Oper) (a : Nat), all[j]? = some oj → an[j]? = some a → j ≠ t.i → kept (mindsM all oj) d = true → kept a t.i = true
  uniq : ∀ t ∈ its, ∀ u ∈ its, t.i = u.i → t = u

theorem itms_spec {E : Env} {all : List Oper} {an : List Nat} : ∀ (r : List Oper) (ar : List Nat) (i : Nat) (pre : List Oper) (pan : List Nat) (its : List Itm), all = pre ++ r → an = pan ++ ar → pre.length = i → pan.length = i → itms E all an (mindsL all all) r ar i = some its → ItsAt E all an i its
  | [], [], i, pre, pan, its, e1, e2, e3, e4, h => by
    injection h with h
    subst h
    refine ⟨fun _ h => (nomatch h), fun j o hj ho => ?_, fun _ h => (nomatch h), fun _ h => (nomatch h), fun _ h => (nomatch h), fun _ h => (nomatch h), fun _ h => (nomatch h)⟩
    have := (List.getElem?_eq_some_iff.1 ho).1
    rw [e1] at this
    simp at this
    omega
  | o :: r, a :: ar, i, pre, pan, its, e1, e2, e3, e4, h => by
    simp only [itms] at h
    split at h
    · rename_i l hl
      have ih := itms_spec r ar (Nat.succ i) (pre ++ [o]) (pan ++ [a]) l (by rw [e1]; simp) (by rw [e2]; simp) (by simp; omega) (by simp; omega) hl
      obtain ⟨h1, h⟩ := bb_some_none h
      obtain ⟨h2, h⟩ := bb_some_none h
      injection h with h
      subst h
      have ho : all[i]? = some o := by rw [e1]; simp [← e3]
      have ha : an[i]? = some a := by rw [e2]; simp [← e4]
      have h1a : Nat.ble (bitN i) (waitsM o) = false := by
        cases hb : Nat.ble (bitN i) (waitsM o) with
        | false => rfl
        | true => rw [hb] at h1; cases h1
      rw [h1a] at h1
      have h1b : (match o.dst with | some d => apartAll i a d (mindsL all all) an 0 | none => true) = true := h1
      refine ⟨?_, ?_, ?_, ?_, ?_, ?_, ?_⟩
      · intro t ht
        rcases List.mem_cons.1 ht with rfl | ht
        · exact ⟨Nat.le_refl _, ho, rfl, ha⟩
        · obtain ⟨g1, g2⟩ := ih.it t ht
          exact ⟨by omega, g2⟩
      · intro j o' hj ho'
        by_cases hji : j = i
        · exact ⟨_, List.mem_cons_self .., hji.symm⟩
        · obtain ⟨t, g1, g2⟩ := ih.each j o' (by omega) ho'
          exact ⟨t, List.mem_cons_of_mem _ g1, g2⟩
      · intro t ht
        rcases List.mem_cons.1 ht with rfl | ht
        · exact fun j hj => kept_lt h1a hj
        · exact ih.lt t ht
      · intro t ht
        rcases List.mem_cons.1 ht with rfl | ht
        · intro d hd j oj aj hj haj hne hk
          rw [show o.dst = some d from hd] at h1b
          have := apartAll_spec h1b j _ aj (by rw [mindsL_get, hj]; rfl) haj (by simpa using hne) hk
          simpa using this
        · exact ih.apart t ht
      · intro t ht
        rcases List.mem_cons.1 ht with rfl | ht
        · intro j want hg
          rw [show o.guard = some (j, want) from hg] at h2
          exact h2
        · exact ih.guard t ht
      · intro t ht
        rcases List.mem_cons.1 ht with rfl | ht
        · intro hli
          cases hk : lightK (kindOf E o.op) with
          | false => simp only [hk] at hli; cases hli
          | true =>
            simp only [hk] at hli
            refine ⟨by first | exact hk | rfl, fun d hd => ?_⟩
            rw [show o.dst = some d from hd] at hli
            have hli' : bb (kept (looksM all o) d) false (apartL i d (mindsL all all) an 0) = true := hli
            cases hlk : kept (looksM all o) d with
            | true => rw [hlk] at hli'; cases hli'
            | false =>
              rw [hlk] at hli'
              refine ⟨rfl, fun j oj aj hj haj hne hkk => ?_⟩
              exact apartL_spec hli' j _ aj (by rw [mindsL_get, hj]; rfl) haj (by simpa using hne) hkk
        · exact ih.light t ht
      · intro t ht u hu e
        rcases List.mem_cons.1 ht with ht | ht <;> rcases List.mem_cons.1 hu with hu | hu
        · rw [ht, hu]
        · have := (ih.it u hu).1
          rw [ht] at e
          have e' : i = u.i := e
          omega
        · have := (ih.it t ht).1
          rw [hu] at e
          have e' : t.i = i := e
          omega
        · exact ih.uniq t ht u hu e
    · cases h
  | [], _ :: _, i, pre, pan, its, _, _, _, _, h => by cases h
  | _ :: _, [], i, pre, pan, its, _, _, _, _, h => by cases h
end Go.AM
namespace Go.AM

mutual
theorem eqV_eq : ∀ {a b : AV}, eqV a b = true → a = b
  | .bool a, b, h => by
    cases b <;> simp only [eqV, Bool.false_eq_true] at h
    rename_i b
    cases a <;> cases b <;> first | rfl | cases h
  | .int j a, b, h => by
    cases b <;> simp only [eqV, Bool.false_eq_true] at h
    rw [Bool.and_eq_true, intEq_eq] at h
    rw [kindEq_eq h.1, eq_of_beq h.2]
  | .str a, b, h => by
    cases b <;> simp only [eqV, Bool.false_eq_true] at h
    rw [eqN_eq] at h
    rw [eq_of_beq h]
  | .nilptr, b, h => by cases b <;> first | rfl | simp only [eqV, Bool.false_eq_true] at h
  | .nilslice, b, h => by cases b <;> first | rfl | simp only [eqV, Bool.false_eq_true] at h
  | .nilmap, b, h => by cases b <;> first | rfl | simp only [eqV, Bool.false_eq_true] at h
  | .nilfunc, b, h => by cases b <;> first | rfl | simp only [eqV, Bool.false_eq_true] at h
  | .nilIface, b, h => by cases b <;> first | rfl | simp only [eqV, Bool.false_eq_true] at h
  | .ptr p o, b, h => by
    cases b <;> simp only [eqV, Bool.false_eq_true] at h
    rw [Bool.and_eq_true] at h
    rw [Pos.beq_eq h.1, Nat.eq_of_beq_eq_true h.2]
  | .gptr p o, b, h => by
    cases b <;> simp only [eqV, Bool.false_eq_true] at h
    rw [Bool.and_eq_true] at h
    rw [Nat.eq_of_beq_eq_true h.1, Nat.eq_of_beq_eq_true h.2]
  | .slice p o n c s e, b, h => by
    cases b <;> simp only [eqV, Bool.false_eq_true] at h
    rename_i p' o' n' c' s' e'
    simp only [Bool.and_eq_true] at h
    obtain ⟨⟨⟨⟨⟨h1, h2⟩, h3⟩, h4⟩, h5⟩, h6⟩ := h
    rw [Pos.beq_eq h1, Nat.eq_of_beq_eq_true h2, Nat.eq_of_beq_eq_true h3, Nat.eq_of_beq_eq_true h4, Nat.eq_of_beq_eq_true h5]
    cases e <;> cases e' <;> first | rfl | cases h6
  | .map p, b, h => by
    cases b <;> simp only [eqV, Bool.false_eq_true] at h
    rw [Pos.beq_eq h]
  | .func f c, b, h => by
    cases b <;> simp only [eqV, Bool.false_eq_true] at h
    rw [Bool.and_eq_true] at h
    rw [Nat.eq_of_beq_eq_true h.1, eqVs_eq h.2]
  | .yield _, b, h => by cases b <;> simp only [eqV, Bool.false_eq_true] at h
  | .iface t v, b, h => by
    cases b <;> simp only [eqV, Bool.false_eq_true] at h
    rw [Bool.and_eq_true] at h
    rw [Nat.eq_of_beq_eq_true h.1, eqV_eq h.2]
  | .agg l, b, h => by
    cases b <;> simp only [eqV, Bool.false_eq_true] at h
    rw [eqVs_eq h]
  | .tuple l, b, h => by
    cases b <;> simp only [eqV, Bool.false_eq_true] at h
    rw [eqVs_eq h]
theorem eqVs_eq : ∀ {a b : List AV}, eqVs a b = true → a = b
  | [], b, h => by cases b <;> first | rfl | simp only [eqVs, Bool.false_eq_true] at h
  | v :: l, b, h => by
    cases b <;> simp only [eqVs, Bool.false_eq_true] at h
    rw [Bool.and_eq_true] at h
    rw [eqV_eq h.1, eqVs_eq h.2]
end

/-- A part of a heap. -/
def SubH (h' h : Heap) : Prop := ∀ p o, Tr.get p h' = some o → Tr.get p h = some o
theorem HR.sub {φ : Ph} {B : Base} {h h' : Heap} {nx : Pos} {w : World} (H : HR φ B h nx w) (s : SubH h' h) : HR φ B h' nx w where
  fresh := H.fresh
  clean p hp := by
    cases e : Tr.get p h' with
    | none => rfl
    | some o =>
      have := s p o e
      rw [H.clean p hp] at this
      cases this
  blk := H.blk
  inj p q k b s₁ b' s' h1 h2 h3 h4 := by
    refine H.inj p q k b s₁ b' s' h1 h2 ?_ ?_
    · cases e : Tr.get p h' with
      | none => exact absurd e h3
      | some o => rw [s p o e]; simp
    · cases e : Tr.get q h' with
      | none => exact absurd e h4
      | some o => rw [s q o e]; simp
  obj p o k b s₁ h1 h2 := H.obj p o k b s₁ (s p o h1) h2
  hold p o k b s₁ h1 h2 := H.hold p o k b s₁ (s p o h1) h2
  old := H.old
  os := H.os
  tape := H.tape
  output := H.output

theorem nextLight_some {A : Nat} {t : Itm} : ∀ {its : List Itm}, nextLight A its = some t → t ∈ its ∧ kept A t.i = false ∧ t.li = true ∧ allIn t.w A = true
  | [], h => by cases h
  | u :: r, h => by
    simp only [nextLight] at h
    cases h1 : kept A u.i with
    | true =>
      rw [h1] at h
      obtain ⟨g1, g2⟩ := nextLight_some (its := r) h
      exact ⟨List.mem_cons_of_mem _ g1, g2⟩
    | false =>
      rw [h1] at h
      cases h2 : u.li with
      | false =>
        rw [h2] at h
        obtain ⟨g1, g2⟩ := nextLight_some (its := r) h
        exact ⟨List.mem_cons_of_mem _ g1, g2⟩
      | true =>
        rw [h2] at h
        cases h3 : allIn u.w A with
        | false =>
          rw [h3] at h
          obtain ⟨g1, g2⟩ := nextLight_some (its := r) h
          exact ⟨List.mem_cons_of_mem _ g1, g2⟩
        | true =>
          rw [h3] at h
          have : u = t := by injection h
          subst this
          exact ⟨List.mem_cons_self .., h1, h2, h3⟩
theorem nextLight_none {A : Nat} : ∀ {its : List Itm}, nextLight A its = none → ∀ t ∈ its, kept A t.i = false → t.li = true → allIn t.w A = false
  | [], _, t, ht => by cases ht
  | u :: r, h, t, ht => by
    intro g1 g2
    simp only [nextLight] at h
    rcases List.mem_cons.1 ht with rfl | ht
    · rw [g1, g2] at h
      cases h3 : allIn t.w A with
      | false => rfl
      | true => rw [h3] at h; cases h
    · have : nextLight A r = none := by
        cases h1 : kept A u.i <;> cases h2 : u.li <;> cases h3 : allIn u.w A <;> rw [h1, h2, h3] at h <;> first | exact h | cases h
      exact nextLight_none this t ht g1 g2
theorem readyHeavy_mem {A : Nat} {t : Itm} : ∀ {its : List Itm}, t ∈ readyHeavy A its ↔ t ∈ its ∧ kept A t.i = false ∧ allIn t.w A = true
  | [] => by simp [readyHeavy]
  | u :: r => by
    simp only [readyHeavy]
    cases h1 : kept A u.i with
    | true =>
      show t ∈ readyHeavy A r ↔ _
      rw [readyHeavy_mem]
      constructor
      · rintro ⟨g1, g2⟩
        exact ⟨List.mem_cons_of_mem _ g1, g2⟩
      · rintro ⟨g1, g2, g3⟩
        rcases List.mem_cons.1 g1 with rfl | g1
        · rw [h1] at g2; cases g2
        · exact ⟨g1, g2, g3⟩
    | false =>
      cases h3 : allIn u.w A with
      | false =>
        show t ∈ readyHeavy A r ↔ _
        rw [readyHeavy_mem]
        constructor
        · rintro ⟨g1, g2⟩
          exact ⟨List.mem_cons_of_mem _ g1, g2⟩
        · rintro ⟨g1, g2, g3⟩
          rcases List.mem_cons.1 g1 with rfl | g1
          · rw [h3] at g3; cases g3
          · exact ⟨g1, g2, g3⟩
      | true =>
        show t ∈ u :: readyHeavy A r ↔ _
        rw [List.mem_cons, readyHeavy_mem, List.mem_cons]
        constructor
        · rintro (rfl | ⟨g1, g2⟩)
          · exact ⟨.inl rfl, h1, h3⟩
          · exact ⟨.inr g1, g2⟩
        · rintro ⟨rfl | g1, g2⟩
          · exact .inl rfl
          · exact .inr ⟨g1, g2⟩
theorem fullN_of {A : Nat} : ∀ {its : List Itm}, (∀ t ∈ its, kept A t.i = true) → fullN A its = true
  | [], _ => rfl
  | t :: r, h => by
    simp only [fullN, h t (List.mem_cons_self ..)]
    exact fullN_of fun u hu => h u (List.mem_cons_of_mem _ hu)

section
variable {cx : Cx} {all : List Oper} {nm : List Tmp} {l : L} {tm : Slots} {df : List Df} {h : Heap} {nx : Pos} {c : FC} {k : K} {rs : List CR}

/-- Whether it is wanted, by what the evaluator holds. -/
def GA (W nt : Nat) (nm : List Tmp) (l : L) (tm : Slots) (all : List Oper) (o : Oper) (b : Bool) : Prop :=
  match o.guard with
  | none => b = true
  | some (j, want) => ∃ oj d g, all[j]? = some oj ∧ oj.dst = some d ∧ rho W nt nm l tm (.tmp d) = some g ∧ b = (match g with | .bool x => x == want | _ => false)

theorem GA.one {W nt : Nat} {o : Oper} {b b' : Bool} (h : GA W nt nm l tm all o b) (h' : GA W nt nm l tm all o b') : b = b' := by
  unfold GA at h h'
  cases e : o.guard with
  | none =>
    rw [e] at h h'
    rw [h, h']
  | some q =>
    obtain ⟨j, want⟩ := q
    rw [e] at h h'
    obtain ⟨oj, d, g, h1, h2, h3, rfl⟩ := h
    obtain ⟨oj', d', g', h1', h2', h3', rfl⟩ := h'
    rw [h1] at h1'
    injection h1' with h1'
    subst h1'
    rw [h2] at h2'
    injection h2' with h2'
    subst h2'
    rw [h3] at h3'
    injection h3' with h3'
    rw [h3']

def boolA (g : AV) : Option Bool := match g with | .bool b => some b | _ => none
def boolV (g : Option Value) : Option Bool := match g with | some (.bool b) => some b | _ => none
theorem bool_of {φ : Ph} {g : AV} {vs : Array Value} {d : Nat} (hv : VR φ g (vs.getD d Go.undef)) : boolV vs[d]? = boolA g := by
  have e2 : vs.getD d Go.undef = (vs[d]?).getD Go.undef := by simp
  rw [e2] at hv
  cases ht : vs[d]? with
  | none =>
    rw [ht] at hv
    have : ∀ b, g ≠ .bool b := fun b hb => by
      rw [hb] at hv
      simp [VR, Go.undef] at hv
    cases g <;> first | rfl | exact absurd rfl (this _)
  | some u =>
    rw [ht] at hv
    simp only [Option.getD_some] at hv
    cases hfl : g with
    | bool b =>
      rw [hfl] at hv
      simp only [VR] at hv
      rw [hv]
      rfl
    | _ =>
      have : ∀ b, u ≠ .bool b := fun b hb => by
        rw [hb] at hv
        have := VR_bool hv
        rw [hfl] at this
        cases this
      cases u <;> first | rfl | exact absurd rfl (this _)

theorem guardA {o : Oper} {g g' : Rg} {fc : VC} (hb : guardB cx all nm o.guard g fc = some ⟨g'⟩) (hg : g' c l tm df h nx k = some rs) :
    (GA cx.W cx.nt nm l tm all o true ∧ g c l tm df h nx k = some rs) ∨ (GA cx.W cx.nt nm l tm all o false ∧ fc c AV.undef l tm df h nx k = some rs) := by
  unfold guardB at hb
  unfold GA
  split at hb
  · rename_i e
    injection hb with hb
    injection hb with hb
    subst hb
    rw [e]
    exact .inl ⟨rfl, hg⟩
  · rename_i j want e
    split at hb
    · rename_i oj hj
      rw [nth?_eq] at hj
      split at hb
      · rename_i d hd
        split at hb
        · rename_i f hf
          injection hb with hb
          injection hb with hb
          subst hb
          rw [e]
          dsimp only at hg ⊢
          cases hfl : f l tm with
          | bool b =>
            rw [hfl] at hg
            have hr : rho cx.W cx.nt nm l tm (.tmp d) = some (.bool b) := by rw [rho_of hf, hfl]
            cases b <;> cases want <;> first | exact .inl ⟨⟨oj, d, _, hj, hd, hr, rfl⟩, hg⟩ | exact .inr ⟨⟨oj, d, _, hj, hd, hr, rfl⟩, hg⟩
          | _ =>
            rw [hfl] at hg
            have hr : rho cx.W cx.nt nm l tm (.tmp d) = some (f l tm) := rho_of hf
            rw [hfl] at hr
            exact .inr ⟨⟨oj, d, _, hj, hd, hr, rfl⟩, hg⟩
        · cases hb
      · cases hb
    · cases hb

theorem GA.wanted {W nt : Nat} {φ : Ph} {ops : Array Oper} {o : Oper} {b : Bool} {vs : Array Value} (h : GA W nt nm l tm ops.toList o b)
    (hv : ∀ j want oj d g, o.guard = some (j, want) → ops[j]? = some oj → oj.dst = some d → rho W nt nm l tm (.tmp d) = some g → VR φ g (vs.getD d Go.undef)) : Region.wanted o (yielded ops vs) = b := by
  unfold GA at h
  unfold Region.wanted
  split at h
  · rename_i e
    rw [e, h]
  · rename_i j want e
    obtain ⟨oj, d, g, hj, hd, hr, rfl⟩ := h
    rw [Array.getElem?_toList] at hj
    have hv := hv j want oj d g e hj hd hr
    have hy : yielded ops vs j = boolA g := by
      have e1 : ((ops[j]?).bind (·.dst)).bind (vs[·]?) = vs[d]? := by simp [hj, hd]
      rw [← bool_of hv, ← e1]
      rfl
    rw [e]
    simp only [hy, boolA]
    cases g <;> first | rfl | (rename_i b; cases b <;> cases want <;> rfl)

/-- What the second look at a quiet operation says. -/
def Again (cx : Cx) (all : List Oper) (nm : List Tmp) (l : L) (tm : Slots) (h : Heap) (o : Oper) : Prop :=
  GA cx.W cx.nt nm l tm all o false ∨ GA cx.W cx.nt nm l tm all o true ∧ ∃ v, quietA cx.E (rho cx.W cx.nt nm l tm) h o.op = some v ∧ ∀ d, o.dst = some d → rho cx.W cx.nt nm l tm (.tmp d) = some v

theorem againB_spec {o : Oper} {fr fr' : Rg} (hb : againB cx all nm o fr = some ⟨fr'⟩) (hg : fr' c l tm df h nx k = some rs) :
    fr c l tm df h nx k = some rs ∧ (kindOf cx.E o.op = .quiet → Again cx all nm l tm h o) := by
  unfold againB at hb
  split at hb
  · split at hb
    · rename_i q hq
      split at hb
      · rename_i hd
        rcases guardA hb hg with ⟨h1, h2⟩ | ⟨h1, h2⟩
        · obtain ⟨v, h3, h4⟩ := ob_some h2
          exact ⟨h4, fun _ => .inr ⟨h1, v, quietB_sound hq h3, fun d e => by rw [hd] at e; cases e⟩⟩
        · exact ⟨h2, fun _ => .inl h1⟩
      · rename_i d hd
        split at hb
        · rename_i f hf
          rcases guardA hb hg with ⟨h1, h2⟩ | ⟨h1, h2⟩
          · obtain ⟨v, h3, h4⟩ := ob_some h2
            obtain ⟨h5, h6⟩ := bb_some_none h4
            refine ⟨h6, fun _ => .inr ⟨h1, v, quietB_sound hq h3, fun d' e => ?_⟩⟩
            rw [hd] at e
            injection e with e
            subst e
            rw [rho_of hf, eqV_eq h5]
          · exact ⟨h2, fun _ => .inl h1⟩
        · cases hb
    · cases hb
  · rename_i hk
    injection hb with hb
    injection hb with hb
    subst hb
    exact ⟨hg, fun e => absurd e hk⟩

theorem againsB_spec {A must : Nat} : ∀ {its : List Itm} {fr fr' : Rg}, againsB cx all nm A must fr its = some ⟨fr'⟩ → fr' c l tm df h nx k = some rs →
    fr c l tm df h nx k = some rs ∧ ∀ t ∈ its, kept A t.i = true → t.li = true → kept must t.i = false → kindOf cx.E t.o.op = .quiet → Again cx all nm l tm h t.o
  | [], fr, fr', hb, hg => by
    simp only [againsB] at hb
    injection hb with hb
    injection hb with hb
    subst hb
    exact ⟨hg, fun _ h => (nomatch h)⟩
  | t :: r, fr, fr', hb, hg => by
    simp only [againsB] at hb
    split at hb
    · rename_i g hr
      cases hc : bb (kept A t.i) (bb t.li (bb (kept must t.i) false true) false) false with
      | true =>
        rw [hc] at hb
        obtain ⟨h1, h2⟩ := againB_spec (o := t.o) hb hg
        obtain ⟨h3, h4⟩ := againsB_spec hr h1
        refine ⟨h3, fun u hu => ?_⟩
        rcases List.mem_cons.1 hu with rfl | hu
        · exact fun _ _ _ hk => h2 hk
        · exact h4 u hu
      | false =>
        rw [hc] at hb
        have hb : (some ⟨g⟩ : Option (Box Rg)) = some ⟨fr'⟩ := hb
        injection hb with hb
        injection hb with hb
        subst hb
        obtain ⟨h3, h4⟩ := againsB_spec hr hg
        refine ⟨h3, fun u hu => ?_⟩
        rcases List.mem_cons.1 hu with rfl | hu
        · intro g1 g2 g3 _
          rw [g1, g2, g3] at hc
          cases hc
        · exact h4 u hu
    · cases hb

theorem altsB_spec {its : List Itm} {A must : Nat} : ∀ {n : Nat} {L' : List Itm} {g : Rg}, altsB cx all its n A must nm L' = some ⟨g⟩ → g c l tm df h nx k = some rs → ∀ t ∈ L',
    ∃ n' fr fr' gt rt, drawB cx all its n' (Nat.lor A (bitN t.i)) (Nat.lor (bitN t.i) (Nat.lor t.an must)) (namesOf nm t.o.dst) = some ⟨fr⟩ ∧ againsB cx all (namesOf nm t.o.dst) A (Nat.lor (bitN t.i) (Nat.lor t.an must)) fr its = some ⟨fr'⟩ ∧
      stepB cx all nm t.o fr' = some ⟨gt⟩ ∧ gt c l tm df h nx k = some rt ∧ ∀ r ∈ rt, r ∈ rs := by
  intro n
  induction n generalizing rs with
  | zero => intro L' g hb _ t ht; cases L' <;> simp [altsB] at hb
  | succ n ih =>
    intro L' g hb hg t ht
    cases L' with
    | nil => cases ht
    | cons u r =>
      simp only [altsB] at hb
      split at hb
      · rename_i fr hfr
        split at hb
        · rename_i fr' hfr'
          split at hb
          · rename_i gt hgt
            split at hb
            · injection hb with hb
              injection hb with hb
              subst hb
              have : t = u := by simpa using ht
              subst this
              exact ⟨n, fr, fr', _, rs, hfr, hfr', hgt, hg, fun _ h => h⟩
            · split at hb
              · rename_i g' hg'
                injection hb with hb
                injection hb with hb
                subst hb
                unfold appR at hg
                obtain ⟨r1, h1, hg⟩ := ob_some hg
                obtain ⟨r2, h2, hg⟩ := ob_some hg
                injection hg with hg
                rw [appL_eq] at hg
                subst hg
                rcases List.mem_cons.1 ht with rfl | ht
                · exact ⟨n, fr, fr', gt, r1, hfr, hfr', hgt, h1, fun _ h => List.mem_append_left _ h⟩
                · obtain ⟨n', f1, f2, f3, f4, e1, e2, e3, e4, e5⟩ := ih hg' h2 t ht
                  exact ⟨n', f1, f2, f3, f4, e1, e2, e3, e4, fun y hy => List.mem_append_right _ (e5 y hy)⟩
              · cases hb
          · cases hb
        · cases hb
      · cases hb
end

section
variable {W nt : Nat} {nm : List Tmp} {l : L} {tm : Slots} {v : AV}

theorem rho_tmp (t : Tmp) : rho W nt nm l tm (.tmp t) = (match idxOf t nm 0 with | some i => some ((l[i]?).getD AV.undef) | none => if kept W t = true ∧ t < nt then some (Slots.get t tm) else none) := by
  cases hi : idxOf t nm 0 with
  | some i =>
    obtain ⟨f, h1, h2⟩ := rdB_local (W := W) (nt := nt) hi
    rw [rho_of h1, h2]
  | none =>
    simp only [rho, rdB, hi]
    cases h1 : kept W t with
    | false => simp [bb]
    | true =>
      cases h2 : Nat.ble (Nat.succ t) nt with
      | false =>
        have : ¬ t < nt := fun e => by rw [Nat.ble_eq_true_of_le e] at h2; cases h2
        simp [bb, this]
      | true =>
        have : t < nt := Nat.le_of_ble_eq_true h2
        rw [bb_true, bb_true, unB_eq]
        simp [this, getB_eq]

theorem rho_other {y : Operand} (hy : ∀ t, y ≠ .tmp t) (nm' : List Tmp) (l' : L) (tm' : Slots) : rho W nt nm' l' tm' y = rho W nt nm l tm y := by
  cases y with
  | tmp t => exact absurd rfl (hy t)
  | const u =>
    simp only [rho, rdB]
    cases constA u <;> rfl
  | _ => rfl

theorem rho_put_ne {d t : Nat} (hd : d < nt) (hnt : nt ≤ 512) (h : t ≠ d) : rho W nt (d :: nm) (v :: l) (if kept W d = true then Slots.set d v tm else tm) (.tmp t) = rho W nt nm l tm (.tmp t) := by
  rw [rho_tmp, rho_tmp, idxOf_cons_ne h]
  cases hi : idxOf t nm 0 with
  | some i => simp
  | none =>
    simp only [Option.map_none]
    by_cases hc : kept W t = true ∧ t < nt
    · rw [if_pos hc, if_pos hc]
      split
      · rw [Slots.get_set_ne (by omega) (by omega) (Ne.symm h)]
      · rfl
    · rw [if_neg hc, if_neg hc]
theorem rho_put_eq {d : Tmp} : rho W nt (d :: nm) (v :: l) (if kept W d = true then Slots.set d v tm else tm) (.tmp d) = some v := by
  rw [rho_tmp, idxOf_cons_eq]
  rfl
theorem rho_lP {dst : Option Tmp} (hd : ∀ d, dst = some d → d < nt) (hnt : nt ≤ 512) {y : Operand} (hy : ∀ d, dst = some d → y ≠ .tmp d) : rho W nt (namesOf nm dst) (lP dst v l) (tP W dst v tm) y = rho W nt nm l tm y := by
  cases dst with
  | none => rfl
  | some d =>
    cases y with
    | tmp t => exact rho_put_ne (hd d rfl) hnt fun e => hy d rfl (by rw [e])
    | _ => exact rho_other (fun t h => by cases h) _ _ _
theorem rho_lP_dst {dst : Option Tmp} {d : Tmp} (h : dst = some d) : rho W nt (namesOf nm dst) (lP dst v l) (tP W dst v tm) (.tmp d) = some v := by
  subst h
  exact rho_put_eq
end

/-- How an operation that the model has not yet done stands: N: its thing's name. -/
def Pend (cx : Cx) (all : List Oper) (x : Fx) (N : Nat → Option Pos) (nm : List Tmp) (l : L) (tm : Slots) (h : Heap) (nx : Pos) (φ : Ph) (p : Itm) : Prop :=
  ∃ v, (∀ d, p.o.dst = some d → rho cx.W cx.nt nm l tm (.tmp d) = some v ∧ idxOf d nm 0 ≠ none) ∧
    ((GA cx.W cx.nt nm l tm all p.o false ∧ v = AV.undef) ∨
     (GA cx.W cx.nt nm l tm all p.o true ∧
      ((∃ (ρ : Rho) (h' : Heap), kindOf cx.E p.o.op = .quiet ∧ quietA cx.E ρ h' p.o.op = some v ∧ SubH h' h ∧ (∀ y ∈ p.o.op.operands.toList, ∀ b, ρ y = some b → rho cx.W cx.nt nm l tm y = some b)) ∨
       (∃ (ρ : Rho) (ob : Obj) (f : Pos → AV) (n : Pos), N p.i = some n ∧ allocA cx.E ρ p.o.op = some (ob, f) ∧ v = f n ∧ φ n = none ∧ n.val < nx.val ∧ x.nx.val ≤ n.val ∧ Tr.get n h = some ob ∧
          (∀ y ∈ p.o.op.operands.toList, ∀ b, ρ y = some b → rho cx.W cx.nt nm l tm y = some b)))))

/-- Done by the model. -/
def Mo (listed : Array Bool) (j : Nat) : Prop := listed[j]? = some true

/-- The model may be behind the evaluator. -/
structure DInv (x : Fx) (cx : Cx) (ops : Array Oper) (its : List Itm) (N : Nat → Option Pos) (A must : Nat) (nm : List Tmp) (l : L) (tm : Slots) (df : List Df) (h : Heap) (nx : Pos) (φ : Ph) (listed : Array Bool) (a : Act) (w : World) : Prop where
  size : listed.size = ops.size
  sub : ∀ j, Mo listed j → kept A j = true
  bound : ∀ j, kept A j = true → j < ops.size
  clA : ∀ t ∈ its, kept A t.i = true → ∀ j, kept (waitsM t.o) j = true → kept A j = true
  clM : ∀ t ∈ its, Mo listed t.i → ∀ j, kept (waitsM t.o) j = true → Mo listed j
  light : ∀ t ∈ its, kept A t.i = true → ¬ Mo listed t.i → t.li = true
  must : ∀ j, kept must j = true → Mo listed j
  ei : EI φ (fun d => ∃ p ∈ its, kept A p.i = true ∧ ¬ Mo listed p.i ∧ p.o.dst = some d) cx.W cx.nt nm l tm a.tmps
  dfr : DfR φ df a.defers
  hr : HR φ x.B h nx w
  kp : Kept x.φ x.h x.nx φ h nx
  inj : ∀ p ∈ its, ∀ q ∈ its, ∀ n, kept A p.i = true → kept A q.i = true → ¬ Mo listed p.i → ¬ Mo listed q.i → N p.i = some n → N q.i = some n → p.i = q.i
  low : ∀ p ∈ its, kept A p.i = true → ¬ Mo listed p.i → ∀ n, N p.i = some n → n.val < nx.val
  pend : ∀ p ∈ its, kept A p.i = true → ¬ Mo listed p.i → Pend cx ops.toList x N nm l tm h nx φ p

theorem EI.catch {φ : Ph} {D : Tmp → Prop} {W nt : Nat} {nm : List Tmp} {l : L} {tm : Slots} {vs : Array Value} (I : EI φ D W nt nm l tm vs) {d : Nat} {v : AV} {u : Value} (hr : AM.rho W nt nm l tm (.tmp d) = some v) (hi : idxOf d nm 0 ≠ none) (hv : VR φ v u) :
    EI φ (fun t => D t ∧ t ≠ d) W nt nm l tm (vs.setIfInBounds d u) := by
  obtain ⟨i, hi⟩ : ∃ i, idxOf d nm 0 = some i := by
    cases e : idxOf d nm 0 with
    | none => exact absurd e hi
    | some i => exact ⟨i, rfl⟩
  have hd := I.lt d i hi
  have hs := I.size
  rw [rho_tmp, hi] at hr
  injection hr with hr
  refine ⟨by simpa using I.size, I.most, I.len, fun t j hj hD => ?_, fun t ht hk hD => ?_, I.lt, I.both⟩
  · by_cases e : t = d
    · subst e
      rw [hi] at hj
      injection hj with hj
      subst hj
      rw [hr, getD_set_same (by omega)]
      exact hv
    · rw [getD_set_other (Ne.symm e)]
      exact I.loc t j hj fun h => hD ⟨h, e⟩
  · by_cases e : t = d
    · subst e
      rw [I.both t i hi hk, hr, getD_set_same (by omega)]
      exact hv
    · rw [getD_set_other (Ne.symm e)]
      exact I.slot t ht hk fun h => hD ⟨h, e⟩

section
variable {x : Fx} {cx : Cx} {ops : Array Oper} {its : List Itm} {N : Nat → Option Pos} {A must : Nat} {nm : List Tmp} {l : L} {tm : Slots} {df : List Df} {h : Heap} {nx : Pos} {φ : Ph} {listed : Array Bool} {a : Act} {w : World}

theorem ItsAt.same {E : Env} {all : List Oper} {an : List Nat} {i₀ : Nat} (S : ItsAt E all an i₀ its) {p q : Itm} (hp : p ∈ its) (hq : q ∈ its) (e : p.i = q.i) : p.o = q.o := by
  have h1 := (S.it p hp).2.1
  have h2 := (S.it q hq).2.1
  rw [e, h2] at h1
  injection h1 with h1
  exact h1.symm

theorem Mo.closed (S : ItsAt cx.E ops.toList (ancs ops.toList []) 0 its) {C : Nat → Prop} (cl : ∀ t ∈ its, C t.i → ∀ j, kept (waitsM t.o) j = true → C j) {p : Itm} (hp : p ∈ its) (hw : ∀ j, kept (waitsM p.o) j = true → C j) :
    ∀ j, kept p.an j = true → C j ∧ j < p.i := by
  have each : ∀ (i : Nat) (o : Oper), ops.toList[i]? = some o → ∃ t ∈ its, t.i = i ∧ t.o = o := fun i o ho => by
    obtain ⟨t, h1, h2⟩ := S.each i o (Nat.zero_le _) ho
    refine ⟨t, h1, h2, ?_⟩
    have := (S.it t h1).2.1
    rw [h2, ho] at this
    injection this with this
    exact this.symm
  intro j hj
  obtain ⟨_, ho, _, ha⟩ := S.it p hp
  refine anc_closed (all := ops.toList) (C := C) (fun i o ho' => ?_) (fun i o ho' => ?_) p.i p.o ho hw j ?_
  · obtain ⟨t, h1, rfl, rfl⟩ := each i o ho'
    exact S.lt t h1
  · obtain ⟨t, h1, rfl, rfl⟩ := each i o ho'
    exact cl t h1
  · rw [nth_getD, ha]
    exact hj

/-- What a waiting one writes is no affair of one that is ready. -/
theorem DInv.clear (S : ItsAt cx.E ops.toList (ancs ops.toList []) 0 its) (I : DInv x cx ops its N A must nm l tm df h nx φ listed a w) {p q : Itm} (hp : p ∈ its) (hw : ∀ j, kept (waitsM p.o) j = true → Mo listed j)
    (hq : q ∈ its) (hA : kept A q.i = true) (hM : ¬ Mo listed q.i) (hne : q.i ≠ p.i) {d : Tmp} (hd : q.o.dst = some d) : kept (mindsM ops.toList p.o) d = false := by
  rw [Bool.eq_false_iff]
  intro hk
  obtain ⟨_, ho, _, ha⟩ := S.it p hp
  have := ((S.light q hq (I.light q hq hA hM)).2 d hd).2 p.i p.o p.an ho ha (Ne.symm hne) hk
  exact hM (Mo.closed S I.clM hp hw q.i this).1

theorem looks_op {all : List Oper} {o : Oper} {t : Tmp} (h : .tmp t ∈ o.op.operands.toList) : kept (looksM all o) t = true := by
  unfold looksM
  rw [tmpsM_iff]
  exact .inr h
theorem looks_guard {ops : Array Oper} {o oj : Oper} {j : Nat} {want : Bool} {d : Tmp} (hg : o.guard = some (j, want)) (hj : ops[j]? = some oj) (hd : oj.dst = some d) : kept (looksM ops.toList o) d = true := by
  unfold looksM
  rw [tmpsM_iff, hg]
  refine .inl ?_
  simp only [nth?_eq, Array.getElem?_toList, hj, hd, kept_bit, decide_true]
theorem minds_looks {all : List Oper} {o : Oper} {t : Tmp} (h : kept (looksM all o) t = true) : kept (mindsM all o) t = true := by
  unfold mindsM
  split
  · rw [kept_or, h]; rfl
  · exact h
theorem minds_dst {all : List Oper} {o : Oper} {d : Tmp} (h : o.dst = some d) : kept (mindsM all o) d = true := by
  unfold mindsM
  rw [h]
  simp only [kept_or, kept_bit, decide_true, Bool.or_true]

theorem Mo_set {listed : Array Bool} {i j : Nat} (hi : i < listed.size) : Mo (listed.setIfInBounds i true) j ↔ j = i ∨ Mo listed j := by
  unfold Mo
  by_cases e : i = j
  · subst e
    simp [hi]
  · rw [Array.getElem?_setIfInBounds_ne e]
    simp [Ne.symm e]

/-- What one that is ready looks at is there. -/
theorem DInv.notD (S : ItsAt cx.E ops.toList (ancs ops.toList []) 0 its) (I : DInv x cx ops its N A must nm l tm df h nx φ listed a w) {p : Itm} (hp : p ∈ its) (hw : ∀ j, kept (waitsM p.o) j = true → Mo listed j) (_hs : kept A p.i = true → ¬ Mo listed p.i)
    {d : Tmp} (hk : kept (looksM ops.toList p.o) d = true) : ¬ ∃ q ∈ its, kept A q.i = true ∧ ¬ Mo listed q.i ∧ q.o.dst = some d := by
  rintro ⟨q, hq, hA, hM, hd⟩
  by_cases e : q.i = p.i
  · have ho := S.same hq hp e
    have := ((S.light q hq (I.light q hq hA hM)).2 d hd).1
    rw [ho, hk] at this
    cases this
  · have := I.clear S hp hw hq hA hM e hd
    rw [minds_looks hk] at this
    cases this

theorem DInv.guardV (S : ItsAt cx.E ops.toList (ancs ops.toList []) 0 its) (I : DInv x cx ops its N A must nm l tm df h nx φ listed a w) {p : Itm} (hp : p ∈ its) (hw : ∀ j, kept (waitsM p.o) j = true → Mo listed j) (hs : kept A p.i = true → ¬ Mo listed p.i)
    {b : Bool} (hg : GA cx.W cx.nt nm l tm ops.toList p.o b) : Region.wanted p.o (yielded ops a.tmps) = b := by
  refine hg.wanted (φ := φ) fun j want oj d g h1 h2 h3 h4 => ?_
  have hn := I.notD S hp hw hs (looks_guard h1 h2 h3)
  have O := I.ei.rho (xs := [.tmp d]) (fun t ht => by
    have : t = d := by simpa using ht
    subst this
    exact hn)
  exact O (.tmp d) (by simp) g h4

/-- The state when the model has done one that waited. -/
theorem DInv.after (S : ItsAt cx.E ops.toList (ancs ops.toList []) 0 its) (I : DInv x cx ops its N A must nm l tm df h nx φ listed a w) {p : Itm} (hp : p ∈ its) (hA : kept A p.i = true) (_hM : ¬ Mo listed p.i) (hw : ∀ j, kept (waitsM p.o) j = true → Mo listed j)
    {v : AV} {u : Value} {φ' : Ph} {w' : World} (hle : φ.le φ') (hv : VR φ' v u) (hd : ∀ d, p.o.dst = some d → rho cx.W cx.nt nm l tm (.tmp d) = some v ∧ idxOf d nm 0 ≠ none) (H : HR φ' x.B h nx w') (Kp : Kept x.φ x.h x.nx φ' h nx)
    (hN : ∀ q ∈ its, ∀ n, N q.i = some n → kept A q.i = true → ¬ Mo listed q.i → q.i ≠ p.i → φ n = none → φ' n = none) :
    DInv x cx ops its N A must nm l tm df h nx φ' (listed.setIfInBounds p.i true) (a.put p.o.dst u) w' := by
  have hi : p.i < listed.size := by rw [I.size]; exact I.bound _ hA
  have hm : ∀ {j}, ¬ Mo (listed.setIfInBounds p.i true) j → j ≠ p.i ∧ ¬ Mo listed j := fun hn => ⟨fun e => hn ((Mo_set hi).2 (.inl e)), fun e => hn ((Mo_set hi).2 (.inr e))⟩
  refine ⟨by simpa using I.size, fun j hj => ?_, I.bound, I.clA, fun t ht hj j hk => ?_, fun t ht h1 h2 => I.light t ht h1 (hm h2).2, fun j hj => (Mo_set hi).2 (.inr (I.must j hj)), ?_, ?_, H, Kp, ?_, fun q hq a1 m1 => I.low q hq a1 (hm m1).2, ?_⟩
  · rcases (Mo_set hi).1 hj with rfl | hj
    · exact hA
    · exact I.sub j hj
  · rcases (Mo_set hi).1 hj with e | hj
    · rw [S.same ht hp e] at hk
      exact (Mo_set hi).2 (.inr (hw j hk))
    · exact (Mo_set hi).2 (.inr (I.clM t ht hj j hk))
  · rw [put_tmps]
    have I' := I.ei.mono hle
    cases hdst : p.o.dst with
    | none =>
      refine I'.weaken ?_
      rintro t ⟨q, h1, h2, h3, h4⟩
      refine ⟨q, h1, h2, fun e => ?_, h4⟩
      rcases (Mo_set hi).1 e with e | e
      · rw [S.same h1 hp e, hdst] at h4
        cases h4
      · exact h3 e
    | some d =>
      obtain ⟨g1, g2⟩ := hd d hdst
      refine (I'.catch g1 g2 hv).weaken ?_
      rintro t ⟨⟨q, h1, h2, h3, h4⟩, hne⟩
      refine ⟨q, h1, h2, fun e => ?_, h4⟩
      rcases (Mo_set hi).1 e with e | e
      · rw [S.same h1 hp e, hdst] at h4
        injection h4 with h4
        exact hne h4.symm
      · exact h3 e
  · rw [put_defers]
    exact I.dfr.mono hle
  · intro q hq r hr n a1 a2 m1 m2
    exact I.inj q hq r hr n a1 a2 (hm m1).2 (hm m2).2
  · intro q hq hA' hM'
    obtain ⟨hne, hM'⟩ := hm hM'
    obtain ⟨v', h1, h2⟩ := I.pend q hq hA' hM'
    refine ⟨v', h1, ?_⟩
    rcases h2 with h2 | ⟨h2, h3 | ⟨ρ, ob', f, n, g0, g1, g2, g3, g4⟩⟩
    · exact .inl h2
    · exact .inr ⟨h2, .inl h3⟩
    · exact .inr ⟨h2, .inr ⟨ρ, ob', f, n, g0, g1, g2, hN q hq n g0 hA' hM' hne g3, g4⟩⟩

theorem alloc_kind {E : Env} (ρ : Rho) (op : Op) (h : allocA E ρ op ≠ none) : kindOf E op = .alloc := by
  cases op with
  | convert src dst y =>
    have : toBytes E src dst = true := by
      unfold toBytes
      simp only [allocA] at h
      split at h
      · rename_i h1 h2 h3
        rw [h1, h2]
      · exact absurd rfl h
    simp only [kindOf, this, if_true]
  | _ => first | rfl | (exact absurd rfl h)

theorem light_sem {ro : Option Nat} {E : Env} {o : Oper} (h : lightK (kindOf E o.op) = true) (a : Act) : o.semAt ro a.eval = execOp (ev a.tmps) o := by
  rw [eval_ev]
  exact Oper.semAt_eq _ _ _ fun c hc => by rw [hc] at h; cases h

/-- The model does one that waited. -/
theorem DInv.catchup {ro : Option Nat} (hE : EOK cx.E x.P) (hG : GB cx.E x.B) (S : ItsAt cx.E ops.toList (ancs ops.toList []) 0 its) (I : DInv x cx ops its N A must nm l tm df h nx φ listed a w) {p : Itm} (hp : p ∈ its) (hA : kept A p.i = true) (hM : ¬ Mo listed p.i)
    (hw : ∀ j, kept (waitsM p.o) j = true → Mo listed j) {next : Act → World → Prop} {Q : Exit → Act → World → Prop} (hn : ∀ φ' a' w', DInv x cx ops its N A must nm l tm df h nx φ' (listed.setIfInBounds p.i true) a' w' → next a' w') :
    wpOpIn (FenceR ro) 0 x.P ops Q p.i next a w := by
  have ho : ops[p.i]? = some p.o := by rw [← Array.getElem?_toList]; exact (S.it p hp).2.1
  have hli := (S.light p hp (I.light p hp hA hM)).1
  obtain ⟨v, hd, hc⟩ := I.pend p hp hA hM
  have O : ∀ (ρ : Rho), (∀ y ∈ p.o.op.operands.toList, ∀ b, ρ y = some b → rho cx.W cx.nt nm l tm y = some b) → OpsR φ ρ a.tmps p.o.op.operands.toList := fun ρ hρ y hy b hb =>
    I.ei.rho (xs := p.o.op.operands.toList) (fun t ht => I.notD S hp hw (fun _ => hM) (looks_op ht)) y hy b (hρ y hy b hb)
  unfold wpOpIn
  simp only [ho]
  rcases hc with ⟨hg, rfl⟩ | ⟨hg, hc⟩
  · rw [I.guardV S hp hw (fun _ => hM) hg, if_neg (by simp)]
    exact ⟨fun _ _ => trivial, hn φ _ _ (I.after S hp hA hM hw φ.le_refl (VR_undef φ) hd I.hr I.kp (fun _ _ _ _ _ _ _ h => h))⟩
  · rw [I.guardV S hp hw (fun _ => hM) hg, if_pos rfl]
    refine ⟨fun _ _ => trivial, ?_⟩
    show p.o.uponIn (FenceR ro) 0 x.P a next Q ((p.o.semAt ro a.eval).run x.P w)
    rw [light_sem hli]
    rcases hc with ⟨ρ, h', _, h1, h2, h3⟩ | ⟨ρ, ob', f, n, h0, h1, rfl, h2, h3, h4, h5, h6⟩
    · have H' := I.hr.sub h2
      obtain ⟨u, h4, h5⟩ := quiet_sound hE H' (H'.globals hG) (O ρ h3) h1
      rw [h4]
      exact hn φ _ _ (I.after S hp hA hM hw φ.le_refl h5 hd I.hr I.kp (fun _ _ _ _ _ _ _ h => h))
    · obtain ⟨y, w', u, h7, h8, h9⟩ := quiet_alloc hE I.hr h2 h3 h5 (O ρ h6) h1
      rw [h7]
      refine hn _ _ _ (I.after S hp hA hM hw (Ph.le_upd _ h2) h9 hd h8 ⟨Ph.le_trans I.kp.le (Ph.le_upd _ h2), fun q hq hl => ?_, I.kp.up⟩ (fun q hq n' hn' hA' hM' hne hq0 => ?_))
      · have hne : q ≠ n := fun e => by rw [e] at hl; omega
        obtain ⟨g1, g2⟩ := I.kp.none q hq hl
        exact ⟨by rw [Ph.upd_ne _ _ hne]; exact g1, g2⟩
      · rw [Ph.upd_ne _ _ (fun e => hne (I.inj q hq p hp n' hA' hA hM' hM hn' (by rw [h0, e])))]
        exact hq0

theorem GA.move {o : Oper} {b : Bool} {dst : Option Tmp} {v : AV} (h : GA cx.W cx.nt nm l tm ops.toList o b) (hd : ∀ d, dst = some d → d < cx.nt) (hnt : cx.nt ≤ 512) (hy : ∀ d, dst = some d → kept (looksM ops.toList o) d = false) :
    GA cx.W cx.nt (namesOf nm dst) (lP dst v l) (tP cx.W dst v tm) ops.toList o b := by
  unfold GA at h ⊢
  cases e : o.guard with
  | none => rw [e] at h; exact h
  | some q =>
    obtain ⟨j, want⟩ := q
    rw [e] at h
    obtain ⟨oj, d, g, h1, h2, h3, h4⟩ := h
    refine ⟨oj, d, g, h1, h2, ?_, h4⟩
    rw [rho_lP hd hnt, h3]
    intro d' hd' he
    injection he with he
    subst he
    have := looks_guard e (by rw [← Array.getElem?_toList]; exact h1) h2
    rw [hy _ hd'] at this
    cases this

theorem idxOf_names {d : Tmp} {dst : Option Tmp} (h : idxOf d nm 0 ≠ none) : idxOf d (namesOf nm dst) 0 ≠ none := by
  cases dst with
  | none => exact h
  | some e =>
    show idxOf d (e :: nm) 0 ≠ none
    by_cases he : d = e
    · subst he
      rw [idxOf_cons_eq]
      simp
    · rw [idxOf_cons_ne he]
      cases hi : idxOf d nm 0 with
      | none => exact absurd hi h
      | some i => simp

theorem Pend.move {p : Itm} (P : Pend cx ops.toList x N nm l tm h nx φ p) {dst : Option Tmp} {v : AV} (hd : ∀ d, dst = some d → d < cx.nt) (hnt : cx.nt ≤ 512) (hy : ∀ d, dst = some d → kept (mindsM ops.toList p.o) d = false)
    {N' : Nat → Option Pos} {h' : Heap} {nx' : Pos} (hN : N' p.i = N p.i) (hs : SubH h h') (hx : nx.val ≤ nx'.val) : Pend cx ops.toList x N' (namesOf nm dst) (lP dst v l) (tP cx.W dst v tm) h' nx' φ p := by
  have hlk : ∀ d, dst = some d → kept (looksM ops.toList p.o) d = false := fun d e => by
    cases hk : kept (looksM ops.toList p.o) d with
    | false => rfl
    | true => rw [← minds_looks hk, hy d e]
  have hop : ∀ y ∈ p.o.op.operands.toList, rho cx.W cx.nt (namesOf nm dst) (lP dst v l) (tP cx.W dst v tm) y = rho cx.W cx.nt nm l tm y := fun y hy' => rho_lP hd hnt fun d e he => by
    subst he
    have := looks_op (all := ops.toList) hy'
    rw [hlk d e] at this
    cases this
  obtain ⟨u, h1, h2⟩ := P
  refine ⟨u, fun d e => ?_, ?_⟩
  · obtain ⟨g1, g2⟩ := h1 d e
    refine ⟨?_, idxOf_names g2⟩
    rw [rho_lP hd hnt, g1]
    intro d' e' he
    injection he with he
    subst he
    have := minds_dst (all := ops.toList) e
    rw [hy _ e'] at this
    cases this
  · rcases h2 with ⟨g, rfl⟩ | ⟨g, ⟨ρ, h'', k0, k1, k2, k3⟩ | ⟨ρ, ob', f, n, k0, k1, k2, k3, k4, k5, k6, k7⟩⟩
    · exact .inl ⟨g.move hd hnt hlk, rfl⟩
    · exact .inr ⟨g.move hd hnt hlk, .inl ⟨ρ, h'', k0, k1, fun q o hq => hs q o (k2 q o hq), fun y hy' b hb => by rw [hop y hy']; exact k3 y hy' b hb⟩⟩
    · refine .inr ⟨g.move hd hnt hlk, .inr ⟨ρ, ob', f, n, by rw [hN]; exact k0, k1, k2, k3, by omega, k5, hs _ _ k6, fun y hy' b hb => by rw [hop y hy']; exact k7 y hy' b hb⟩⟩

theorem EI.lag {φ : Ph} {D : Tmp → Prop} {W nt : Nat} {nm : List Tmp} {l : L} {tm : Slots} {vs : Array Value} (I : EI φ D W nt nm l tm vs) {dst : Option Tmp} (hd : ∀ d, dst = some d → d < nt) (v : AV) :
    EI φ (fun t => D t ∨ dst = some t) W nt (namesOf nm dst) (lP dst v l) (tP W dst v tm) vs := by
  have hm := I.most
  cases dst with
  | none => exact I.weaken fun t ht => .inl ht
  | some d =>
    have hdn : d < nt := hd d rfl
    show EI φ _ W nt (d :: nm) (v :: l) (if kept W d = true then Slots.set d v tm else tm) vs
    refine ⟨I.size, hm, by simp [I.len], fun t i hi hD => ?_, fun t ht hk hD => ?_, fun t i hi => ?_, fun t i hi hk => ?_⟩
    · by_cases e : t = d
      · exact absurd (.inr (by rw [e])) hD
      · rw [idxOf_cons_ne e] at hi
        cases hj : idxOf t nm 0 with
        | none => rw [hj] at hi; cases hi
        | some j =>
          rw [hj] at hi
          injection hi with hi
          subst hi
          simpa using I.loc t j hj fun h => hD (.inl h)
    · by_cases e : t = d
      · exact absurd (.inr (by rw [e])) hD
      · have := I.slot t ht hk fun h => hD (.inl h)
        split
        · rw [Slots.get_set_ne (Nat.lt_of_lt_of_le hdn hm) (Nat.lt_of_lt_of_le ht hm) (Ne.symm e)]; exact this
        · exact this
    · by_cases e : t = d
      · rw [e]; exact hdn
      · rw [idxOf_cons_ne e] at hi
        cases hj : idxOf t nm 0 with
        | none => rw [hj] at hi; cases hi
        | some j => exact I.lt t j hj
    · by_cases e : t = d
      · subst e
        rw [idxOf_cons_eq] at hi
        injection hi with hi
        subst hi
        rw [if_pos hk, Slots.get_set_same]
        rfl
      · rw [idxOf_cons_ne e] at hi
        cases hj : idxOf t nm 0 with
        | none => rw [hj] at hi; cases hi
        | some j =>
          rw [hj] at hi
          injection hi with hi
          subst hi
          have hb := I.both t j hj hk
          have ht := I.lt t j hj
          split
          · rw [Slots.get_set_ne (Nat.lt_of_lt_of_le hdn hm) (Nat.lt_of_lt_of_le ht hm) (Ne.symm e)]; simpa using hb
          · simpa using hb

/-- The evaluator takes a light one alone: what then stands. -/
theorem DInv.ahead (S : ItsAt cx.E ops.toList (ancs ops.toList []) 0 its) (I : DInv x cx ops its N A must nm l tm df h nx φ listed a w) {t : Itm} (ht : t ∈ its) (hA : kept A t.i = false) (hli : t.li = true) (hw : ∀ j, kept (waitsM t.o) j = true → kept A j = true)
    (hd : ∀ d, t.o.dst = some d → d < cx.nt) {v : AV} {h' : Heap} {nx' : Pos} {N' : Nat → Option Pos} (hN : ∀ q ∈ its, q.i ≠ t.i → N' q.i = N q.i) (hs : SubH h h') (hx : nx.val ≤ nx'.val) (H : HR φ x.B h' nx' w) (Kp : Kept x.φ x.h x.nx φ h' nx')
    (hinj : ∀ n, N' t.i = some n → ∀ q ∈ its, kept A q.i = true → ¬ Mo listed q.i → q.i ≠ t.i → N q.i ≠ some n) (hlow : ∀ n, N' t.i = some n → n.val < nx'.val)
    (hP : Pend cx ops.toList x N' (namesOf nm t.o.dst) (lP t.o.dst v l) (tP cx.W t.o.dst v tm) h' nx' φ t) :
    DInv x cx ops its N' (Nat.lor A (bitN t.i)) must (namesOf nm t.o.dst) (lP t.o.dst v l) (tP cx.W t.o.dst v tm) df h' nx' φ listed a w := by
  have hk : ∀ {j}, kept (Nat.lor A (bitN t.i)) j = true ↔ kept A j = true ∨ t.i = j := fun {j} => by rw [kept_or, kept_bit]; simp
  have hno : ¬ Mo listed t.i := fun e => by rw [I.sub _ e] at hA; cases hA
  refine ⟨I.size, fun j hj => hk.2 (.inl (I.sub j hj)), fun j hj => ?_, fun u hu hj j hjw => ?_, I.clM, fun u hu h1 h2 => ?_, I.must, ?_, I.dfr, H, Kp, ?_, ?_, ?_⟩
  · rcases hk.1 hj with hj | rfl
    · exact I.bound j hj
    · have := (List.getElem?_eq_some_iff.1 (S.it t ht).2.1).1
      simpa using this
  · rcases hk.1 hj with hj | e
    · exact hk.2 (.inl (I.clA u hu hj j hjw))
    · rw [S.same hu ht e.symm] at hjw
      exact hk.2 (.inl (hw j hjw))
  · rcases hk.1 h1 with h1 | e
    · exact I.light u hu h1 h2
    · rw [S.uniq u hu t ht e.symm]
      exact hli
  · refine (I.ei.lag hd v).weaken ?_
    rintro d (⟨q, h1, h2, h3, h4⟩ | h4)
    · exact ⟨q, h1, hk.2 (.inl h2), h3, h4⟩
    · exact ⟨t, ht, hk.2 (.inr rfl), hno, h4⟩
  · intro p hp q hq n a1 a2 m1 m2 e e'
    by_cases hpt : p.i = t.i <;> by_cases hqt : q.i = t.i
    · rw [hpt, hqt]
    · have := (hk.1 a2).resolve_right (Ne.symm hqt)
      rw [hpt] at e
      rw [hN q hq hqt] at e'
      exact absurd e' (hinj n e q hq this m2 hqt)
    · have := (hk.1 a1).resolve_right (Ne.symm hpt)
      rw [hqt] at e'
      rw [hN p hp hpt] at e
      exact absurd e (hinj n e' p hp this m1 hpt)
    · rw [hN p hp hpt] at e
      rw [hN q hq hqt] at e'
      exact I.inj p hp q hq n ((hk.1 a1).resolve_right (Ne.symm hpt)) ((hk.1 a2).resolve_right (Ne.symm hqt)) m1 m2 e e'
  · intro p hp a1 m1 n e
    by_cases hpt : p.i = t.i
    · rw [hpt] at e
      exact hlow n e
    · rw [hN p hp hpt] at e
      exact Nat.lt_of_lt_of_le (I.low p hp ((hk.1 a1).resolve_right (Ne.symm hpt)) m1 n e) hx
  · intro p hp h1 h2
    by_cases hpt : p.i = t.i
    · rw [S.uniq p hp t ht hpt]
      exact hP
    · have hpA := (hk.1 h1).resolve_right (Ne.symm hpt)
      refine (I.pend p hp hpA h2).move hd I.ei.most (fun d e => ?_) (hN p hp hpt) hs hx
      rw [Bool.eq_false_iff]
      intro hkk
      obtain ⟨_, ho, _, ha⟩ := S.it p hp
      have := ((S.light t ht hli).2 d e).2 p.i p.o p.an ho ha hpt hkk
      have hcl := (Mo.closed S (C := fun j => kept A j = true) I.clA hp (I.clA p hp hpA) t.i this).1
      rw [hA] at hcl
      cases hcl

/-- The evaluator takes a light one alone. -/
theorem DInv.light1 {c : FC} {k : K} {rs : List CR} {fr g : Rg} (S : ItsAt cx.E ops.toList (ancs ops.toList []) 0 its) (I : DInv x cx ops its N A must nm l tm df h nx φ listed a w) {t : Itm} (ht : t ∈ its) (hA : kept A t.i = false) (hli : t.li = true) (hall : allIn t.w A = true)
    (hs : stepB cx ops.toList nm t.o fr = some ⟨g⟩) (hg : g c l tm df h nx k = some rs) :
    ∃ v h' nx' N', fr c (lP t.o.dst v l) (tP cx.W t.o.dst v tm) df h' nx' k = some rs ∧ DInv x cx ops its N' (Nat.lor A (bitN t.i)) must (namesOf nm t.o.dst) (lP t.o.dst v l) (tP cx.W t.o.dst v tm) df h' nx' φ listed a w := by
  have hw : ∀ j, kept (waitsM t.o) j = true → kept A j = true := by
    rw [(S.it t ht).2.2.1] at hall
    exact allIn_iff.1 hall
  obtain ⟨hk, hl⟩ := S.light t ht hli
  have hnt := I.ei.most
  unfold stepB at hs
  split at hs
  · rename_i fc hfc
    obtain ⟨he, hd⟩ := contB_eq hfc
    split at hs
    · rename_i g₀ hop
      have hop' : ∀ v, ∀ y ∈ t.o.op.operands.toList, rho cx.W cx.nt (namesOf nm t.o.dst) (lP t.o.dst v l) (tP cx.W t.o.dst v tm) y = rho cx.W cx.nt nm l tm y := fun v y hy' => rho_lP hd hnt fun d e he => by
        subst he
        have := looks_op (all := ops.toList) hy'
        rw [(hl d e).1] at this
        cases this
      have hdst : ∀ v d, t.o.dst = some d → rho cx.W cx.nt (namesOf nm t.o.dst) (lP t.o.dst v l) (tP cx.W t.o.dst v tm) (.tmp d) = some v ∧ idxOf d (namesOf nm t.o.dst) 0 ≠ none := fun v d e => by
        refine ⟨rho_lP_dst e, ?_⟩
        rw [e]
        show idxOf d (d :: nm) 0 ≠ none
        rw [idxOf_cons_eq]
        simp
      rcases guardA hs hg with ⟨hga, h1⟩ | ⟨hga, h1⟩
      · unfold operB at hop
        cases hkd : kindOf cx.E t.o.op with
        | quiet =>
          rw [hkd] at hop
          dsimp only at hop
          split at hop
          · rename_i q hq
            injection hop with hop
            injection hop with hop
            subst hop
            obtain ⟨v, h2, h3⟩ := ob_some h1
            rw [he] at h3
            refine ⟨v, h, nx, fun i => if i = t.i then none else N i, h3, I.ahead S ht hA hli hw hd (fun q _ hne => if_neg hne) (fun _ _ h => h) (Nat.le_refl _) I.hr I.kp (fun n e => by rw [if_pos rfl] at e; cases e) (fun n e => by rw [if_pos rfl] at e; cases e) ?_⟩
            exact ⟨v, hdst v, .inr ⟨hga.move hd hnt (fun d e => (hl d e).1), .inl ⟨_, h, hkd, quietB_sound hq h2, fun _ _ h => h, fun y hy b hb => by rw [hop' v y hy]; exact hb⟩⟩⟩
          · cases hop
        | alloc =>
          rw [hkd] at hop
          dsimp only at hop
          injection hop with hop
          injection hop with hop
          subst hop
          obtain ⟨⟨ob', f⟩, h2, h3⟩ := ob_some h1
          rw [he] at h3
          have hn : φ nx = none := I.hr.fresh nx (Nat.le_refl _)
          refine ⟨f nx, Tr.set (some ob') nx h, Pos.succ nx, fun i => if i = t.i then some nx else N i, h3, I.ahead S ht hA hli hw hd (fun q _ hne => if_neg hne) (fun p o hp => ?_) (by rw [Pos.val_succ]; omega) (I.hr.name ob') ⟨I.kp.le, fun p hp hlt => ?_, by rw [Pos.val_succ]; have := I.kp.up; omega⟩ (fun n e q hq hAq hMq hne e' => ?_) (fun n e => ?_) ?_⟩
          · have : p ≠ nx := fun e => by
              subst e
              rw [I.hr.clean p (Nat.le_refl _)] at hp
              cases hp
            rw [Tr.get_set_ne _ _ _ _ this]
            exact hp
          · obtain ⟨g1, g2⟩ := I.kp.none p hp hlt
            refine ⟨g1, ?_⟩
            have : p ≠ nx := fun e => by
              subst e
              have := I.kp.up
              omega
            rw [Tr.get_set_ne _ _ _ _ this]
            exact g2
          · simp only [if_true] at e
            injection e with e
            have := I.low q hq hAq hMq n e'
            rw [e] at this
            omega
          · simp only [if_true] at e
            injection e with e
            rw [← e, Pos.val_succ]
            omega
          · exact ⟨f nx, hdst (f nx), .inr ⟨hga.move hd hnt (fun d e => (hl d e).1), .inr ⟨_, ob', f, nx, if_pos rfl, h2, rfl, hn, by rw [Pos.val_succ]; omega, I.kp.up, Tr.get_set_same _ _ _, fun y hy b hb => by rw [hop' _ y hy]; exact hb⟩⟩⟩
        | _ => rw [hkd] at hk; cases hk
      · rw [he] at h1
        refine ⟨AV.undef, h, nx, fun i => if i = t.i then none else N i, h1, I.ahead S ht hA hli hw hd (fun q _ hne => if_neg hne) (fun _ _ h => h) (Nat.le_refl _) I.hr I.kp (fun n e => by rw [if_pos rfl] at e; cases e) (fun n e => by rw [if_pos rfl] at e; cases e) ?_⟩
        exact ⟨AV.undef, hdst _, .inl ⟨hga.move hd hnt (fun d e => (hl d e).1), rfl⟩⟩
    · cases hs
  · cases hs

/-- Both take a heavy one: what then stands. -/
theorem DInv.both (S : ItsAt cx.E ops.toList (ancs ops.toList []) 0 its) (I : DInv x cx ops its N A must nm l tm df h nx φ listed a w) {t : Itm} (ht : t ∈ its) (hA : kept A t.i = false) (hw : ∀ j, kept (waitsM t.o) j = true → Mo listed j)
    (hd : ∀ d, t.o.dst = some d → d < cx.nt) {v : AV} {u : Value} {df' : List Df} {h' : Heap} {nx' : Pos} {φ' : Ph} {w' : World} {a' : Act} (H : HR φ' x.B h' nx' w') (hv : VR φ' v u) (Kp : Kept φ h nx φ' h' nx') (D' : DfR φ' df' a'.defers) (ha : a'.tmps = a.tmps)
    (hag : ∀ q ∈ its, kept A q.i = true → q.li = true → kept (Nat.lor (bitN t.i) (Nat.lor t.an must)) q.i = false → kindOf cx.E q.o.op = .quiet → Again cx ops.toList (namesOf nm t.o.dst) (lP t.o.dst v l) (tP cx.W t.o.dst v tm) h' q.o) :
    DInv x cx ops its N (Nat.lor A (bitN t.i)) (Nat.lor (bitN t.i) (Nat.lor t.an must)) (namesOf nm t.o.dst) (lP t.o.dst v l) (tP cx.W t.o.dst v tm) df' h' nx' φ' (listed.setIfInBounds t.i true) (a'.put t.o.dst u) w' := by
  have hk : ∀ {j}, kept (Nat.lor A (bitN t.i)) j = true ↔ kept A j = true ∨ t.i = j := fun {j} => by rw [kept_or, kept_bit]; simp
  have hti : t.i < ops.size := by
    have := (List.getElem?_eq_some_iff.1 (S.it t ht).2.1).1
    simpa using this
  have hi : t.i < listed.size := by rw [I.size]; exact hti
  have hm : ∀ {j}, ¬ Mo (listed.setIfInBounds t.i true) j → j ≠ t.i ∧ ¬ Mo listed j := fun hn => ⟨fun e => hn ((Mo_set hi).2 (.inl e)), fun e => hn ((Mo_set hi).2 (.inr e))⟩
  have hmust : ∀ j, kept (Nat.lor (bitN t.i) (Nat.lor t.an must)) j = true → Mo (listed.setIfInBounds t.i true) j := fun j hj => by
    rw [kept_or, kept_or, kept_bit] at hj
    simp only [Bool.or_eq_true, decide_eq_true_eq] at hj
    rcases hj with e | hj | hj
    · exact (Mo_set hi).2 (.inl e.symm)
    · exact (Mo_set hi).2 (.inr (Mo.closed S I.clM ht hw j hj).1)
    · exact (Mo_set hi).2 (.inr (I.must j hj))
  have old : ∀ {j}, kept (Nat.lor A (bitN t.i)) j = true → ¬ Mo (listed.setIfInBounds t.i true) j → kept A j = true ∧ ¬ Mo listed j ∧ j ≠ t.i := fun h1 h2 => ⟨(hk.1 h1).resolve_right (fun e => (hm h2).1 e.symm), (hm h2).2, (hm h2).1⟩
  refine ⟨by simpa using I.size, fun j hj => ?_, fun j hj => ?_, fun q hq hj j hjw => ?_, fun q hq hj j hjw => ?_, fun q hq h1 h2 => I.light q hq (old h1 h2).1 (old h1 h2).2.1, hmust, ?_, by rw [put_defers]; exact D', H, I.kp.trans Kp, fun p hp q hq n a1 a2 m1 m2 => I.inj p hp q hq n (old a1 m1).1 (old a2 m2).1 (old a1 m1).2.1 (old a2 m2).2.1, fun p hp a1 m1 n e => Nat.lt_of_lt_of_le (I.low p hp (old a1 m1).1 (old a1 m1).2.1 n e) Kp.up, ?_⟩
  · rcases (Mo_set hi).1 hj with e | hj
    · exact hk.2 (.inr e.symm)
    · exact hk.2 (.inl (I.sub j hj))
  · rcases hk.1 hj with hj | rfl
    · exact I.bound j hj
    · exact hti
  · rcases hk.1 hj with hj | e
    · exact hk.2 (.inl (I.clA q hq hj j hjw))
    · rw [S.same hq ht e.symm] at hjw
      exact hk.2 (.inl (I.sub j (hw j hjw)))
  · rcases (Mo_set hi).1 hj with e | hj
    · rw [S.same hq ht e] at hjw
      exact (Mo_set hi).2 (.inr (hw j hjw))
    · exact (Mo_set hi).2 (.inr (I.clM q hq hj j hjw))
  · rw [put_tmps, ha]
    have I' := (I.ei.mono Kp.le).putL hd hv
    refine I'.weaken ?_
    rintro d ⟨⟨q, h1, h2, h3, h4⟩, _⟩
    refine ⟨q, h1, hk.2 (.inl h2), fun e => ?_, h4⟩
    rcases (Mo_set hi).1 e with e | e
    · rw [e, hA] at h2; cases h2
    · exact h3 e
  · intro q hq h1 h2
    obtain ⟨hqA, hqM, hqt⟩ := old h1 h2
    have hy : ∀ d, t.o.dst = some d → kept (mindsM ops.toList q.o) d = false := fun d e => by
      rw [Bool.eq_false_iff]
      intro hkk
      obtain ⟨_, ho, _, hqa⟩ := S.it q hq
      rcases S.apart t ht d e q.i q.o q.an ho hqa hqt hkk with h3 | h3
      · have := (Mo.closed S (C := fun j => kept A j = true) I.clA hq (I.clA q hq hqA) t.i h3).1
        rw [hA] at this
        cases this
      · exact hqM (Mo.closed S I.clM ht hw q.i h3).1
    have hmq : kept (Nat.lor (bitN t.i) (Nat.lor t.an must)) q.i = false := by
      rw [Bool.eq_false_iff]
      exact fun e => h2 (hmust q.i e)
    obtain ⟨z, g1, g2⟩ := (I.pend q hq hqA hqM)
    have Pm := Pend.move (N' := N) (v := v) ⟨z, g1, g2⟩ hd I.ei.most hy rfl (fun _ _ h => h) (Nat.le_refl _)
    obtain ⟨z', k1, k2⟩ := Pm
    rcases k2 with ⟨k2, rfl⟩ | ⟨k2, ⟨ρ, h'', k3, _⟩ | ⟨ρ, ob', f, n, k3, k4, k5, k6, k7, k8, k9, k10⟩⟩
    · exact ⟨_, k1, .inl ⟨k2, rfl⟩⟩
    · rcases hag q hq hqA (I.light q hq hqA hqM) hmq k3 with e | ⟨_, z2, e1, e2⟩
      · cases e.one k2
      · exact ⟨z2, fun d e => ⟨e2 d e, (k1 d e).2⟩, .inr ⟨k2, .inl ⟨_, h', k3, e1, fun _ _ h => h, fun _ _ _ h => h⟩⟩⟩
    · obtain ⟨m1, m2⟩ := Kp.none n k6 k7
      exact ⟨z', k1, .inr ⟨k2, .inr ⟨ρ, ob', f, n, k3, k4, k5, m1, Nat.lt_of_lt_of_le k7 Kp.up, k8, by rw [m2]; exact k9, k10⟩⟩⟩
end
end Go.AM
namespace Go.AM
section
variable {x : Fx} {cx : Cx} {ops : Array Oper} {its : List Itm} {c : FC} {k : K} {ro : Option Nat}

/-- First the evaluator takes the light ones that are ready. -/
theorem DInv.advance (S : ItsAt cx.E ops.toList (ancs ops.toList []) 0 its) : ∀ (n A must : Nat) (N : Nat → Option Pos) (nm : List Tmp) (l : L) (tm : Slots) (df : List Df) (h : Heap) (nx : Pos) (φ : Ph) (listed : Array Bool) (a : Act) (w : World) (g : Rg) (rs : List CR),
    DInv x cx ops its N A must nm l tm df h nx φ listed a w → drawB cx ops.toList its n A must nm = some ⟨g⟩ → g c l tm df h nx k = some rs →
    ∃ n' A' N' nm' l' tm' h' nx' g', DInv x cx ops its N' A' must nm' l' tm' df h' nx' φ listed a w ∧ drawB cx ops.toList its n' A' must nm' = some ⟨g'⟩ ∧ g' c l' tm' df h' nx' k = some rs ∧ nextLight A' its = none := by
  intro n
  induction n with
  | zero => intro A must N nm l tm df h nx φ listed a w g rs _ hb; simp [drawB] at hb
  | succ n ih =>
    intro A must N nm l tm df h nx φ listed a w g rs I hb hg
    cases hn : nextLight A its with
    | none => exact ⟨n + 1, A, N, nm, l, tm, h, nx, g, I, hb, hg, hn⟩
    | some t =>
      simp only [drawB, hn] at hb
      split at hb
      · rename_i fr hfr
        obtain ⟨h1, h2, h3, h4⟩ := nextLight_some hn
        obtain ⟨v, h', nx', N', e1, I'⟩ := I.light1 S h1 h2 h3 h4 hb hg
        exact ih _ _ _ _ _ _ _ _ _ _ _ _ _ _ _ I' hfr e1
      · cases hb

theorem Mo_not {listed : Array Bool} {j : Nat} (hj : j < listed.size) : ¬ Mo listed j ↔ listed.getD j true = false := by
  unfold Mo
  simp [hj]

theorem count_set {listed : Array Bool} {i n : Nat} (hi : i < listed.size) (hM : ¬ Mo listed i) (h : listed.toList.count false ≤ n + 1) : (listed.setIfInBounds i true).toList.count false ≤ n := by
  have e : listed[i] = false := by
    unfold Mo at hM
    rw [getElem?_pos listed i hi] at hM
    cases hb : listed[i] <;> simp_all
  have hp : 0 < listed.toList.count false := List.count_pos_iff.2 (by rw [← e]; simp)
  rw [Array.toList_setIfInBounds, List.count_set (by simpa using hi)]
  simp only [Array.count_toList] at h hp ⊢
  simp [e]
  omega

/-- A region that draws its order. -/
theorem drawn_main (hW : cx.W = x.W) (hnt : cx.nt = x.nt) (hE : EOK cx.E x.P) (hG : GB cx.E x.B) (hX : ExtOK cx.E x.P) (hc : FcOK cx.E x.P c) (hrd : ro ≠ none → cx.rd = true) {kx : KX} {kp : AV → K}
    (hpe : ∀ v tm df h nx rs, cx.pe c v tm df h nx = some rs → df = [] ∧ kp v tm [] h nx = some rs) (S : ItsAt cx.E ops.toList (ancs ops.toList []) 0 its) :
    ∀ (fuel n A must : Nat) (N : Nat → Option Pos) (nm : List Tmp) (l : L) (tm : Slots) (df : List Df) (h : Heap) (nx : Pos) (φ : Ph) (listed : Array Bool) (a : Act) (w : World) (g : Rg) (rs : List CR),
    DInv x cx ops its N A must nm l tm df h nx φ listed a w → drawB cx ops.toList its n A must nm = some ⟨g⟩ → g c l tm df h nx k = some rs → (∀ r ∈ rs, r ∈ x.T) → listed.toList.count false ≤ fuel →
    wpAnyIn (FenceR ro) 0 x.P .any ops (Post x k kx kp) fuel listed a w := by
  have done : ∀ (n A must : Nat) (N : Nat → Option Pos) (nm : List Tmp) (l : L) (tm : Slots) (df : List Df) (h : Heap) (nx : Pos) (φ : Ph) (listed : Array Bool) (a : Act) (w : World) (g : Rg) (rs : List CR),
      DInv x cx ops its N A must nm l tm df h nx φ listed a w → drawB cx ops.toList its n A must nm = some ⟨g⟩ → g c l tm df h nx k = some rs → (∀ r ∈ rs, r ∈ x.T) → (∀ j, j < ops.size → Mo listed j) → Post x k kx kp .normal a w := by
    intro n A must N nm l tm df h nx φ listed a w g rs I hb hg hT hall
    obtain ⟨n', A', N', nm', l', tm', h', nx', g', I', hb', hg', hn⟩ := I.advance S n A must N nm l tm df h nx φ listed a w g rs hb hg
    have hin : ∀ t ∈ its, Mo listed t.i := fun t ht => hall _ (by have := (List.getElem?_eq_some_iff.1 (S.it t ht).2.1).1; simpa using this)
    cases n' with
    | zero => simp [drawB] at hb'
    | succ n' =>
      have hr : readyHeavy A' its = [] := by
        cases e : readyHeavy A' its with
        | nil => rfl
        | cons t r =>
          have : t ∈ readyHeavy A' its := by rw [e]; exact List.mem_cons_self ..
          obtain ⟨h1, h2, _⟩ := readyHeavy_mem.1 this
          rw [I'.sub _ (hin t h1)] at h2
          cases h2
      simp only [drawB, hn, hr, fullN_of (fun t ht => I'.sub _ (hin t ht)), bb_true] at hb'
      injection hb' with hb'
      injection hb' with hb'
      subst hb'
      refine ⟨φ, tm', df, h', nx', rs, hg', hT, ?_, I'.dfr, I'.hr, I'.kp⟩
      rw [← hW, ← hnt]
      exact I'.ei.tr fun t ⟨q, h1, _, h3, _⟩ => h3 (hin q h1)
  have inReady : ∀ {listed : Array Bool}, listed.size = ops.size → ∀ t ∈ its, ¬ Mo listed t.i → (∀ j, kept (waitsM t.o) j = true → Mo listed j) → t.i ∈ Region.ready .any ops listed := by
    intro listed hs t ht hM hw
    have ho : ops[t.i]? = some t.o := by rw [← Array.getElem?_toList]; exact (S.it t ht).2.1
    have hlt : t.i < listed.size := by rw [hs]; exact (Array.getElem?_eq_some_iff.1 ho).1
    refine mem_ready.2 ⟨(Mo_not hlt).1 hM, t.o, ho, fun e he hb => ?_⟩
    have := hw e.on (waitsM_iff.2 ⟨e, he, hb, rfl⟩)
    unfold Mo at this
    simp [this]
  have allOf : ∀ {listed : Array Bool}, listed.size = ops.size → Region.ready .any ops listed = [] → ∀ j, j < ops.size → Mo listed j := by
    intro listed hs hr j
    induction j using Nat.strongRecOn with
    | _ j ih =>
      intro hj
      refine Classical.byContradiction fun hM => ?_
      obtain ⟨t, h1, rfl⟩ := S.each j ops[j] (Nat.zero_le _) (by simp [hj])
      have := inReady hs t h1 hM (fun i hi => ih i (S.lt t h1 i hi) (Nat.lt_trans (S.lt t h1 i hi) hj))
      rw [hr] at this
      cases this
  intro fuel
  induction fuel with
  | zero =>
    intro n A must N nm l tm df h nx φ listed a w g rs I hb hg hT hcnt
    have hall : ∀ j, j < ops.size → Mo listed j := fun j hj => Classical.byContradiction fun hM => by
      have := count_set (n := 0) (by rw [I.size]; exact hj) hM (by omega)
      have hjs : j < listed.size := by rw [I.size]; exact hj
      have hp : 0 < listed.toList.count false := List.count_pos_iff.2 (by
        unfold Mo at hM
        rw [getElem?_pos listed j hjs] at hM
        have e : listed[j] = false := by cases hb : listed[j] <;> simp_all
        rw [← e]
        simp)
      omega
    refine ⟨?_, done n A must N nm l tm df h nx φ listed a w g rs I hb hg hT hall⟩
    refine List.eq_nil_iff_forall_not_mem.2 fun j hj => ?_
    obtain ⟨h1, o, ho, _⟩ := mem_ready.1 hj
    have hj' := (Array.getElem?_eq_some_iff.1 ho).1
    exact (Mo_not (by rw [I.size]; exact hj')).2 h1 (hall j hj')
  | succ fuel ih =>
    intro n A must N nm l tm df h nx φ listed a w g rs I hb hg hT hcnt
    refine ⟨fun hr => done n A must N nm l tm df h nx φ listed a w g rs I hb hg hT (allOf I.size hr), fun i hi => ?_⟩
    obtain ⟨h1, o, ho, hr⟩ := mem_ready.1 hi
    have hi' := (Array.getElem?_eq_some_iff.1 ho).1
    obtain ⟨t, ht, rfl⟩ := S.each i o (Nat.zero_le _) (by rw [Array.getElem?_toList]; exact ho)
    have hto : t.o = o := by
      have := (S.it t ht).2.1
      rw [Array.getElem?_toList, ho] at this
      injection this with this
      exact this.symm
    have hlt : t.i < listed.size := by rw [I.size]; exact hi'
    have hM : ¬ Mo listed t.i := (Mo_not hlt).2 h1
    have hw : ∀ j, kept (waitsM t.o) j = true → Mo listed j := fun j hj => by
      obtain ⟨e, he, hb, rfl⟩ := waitsM_iff.1 hj
      rw [hto] at he
      have := hr e he hb
      unfold Mo
      cases hx : listed[e.on]? <;> simp_all
    obtain ⟨n', A', N', nm', l', tm', h', nx', g', I', hb', hg', hn⟩ := I.advance S n A must N nm l tm df h nx φ listed a w g rs hb hg
    by_cases hA : kept A' t.i = true
    · exact I'.catchup hE hG S ht hA hM hw fun φ' a' w' I'' => ih n' A' must N' nm' l' tm' df h' nx' φ' _ a' w' g' rs I'' hb' hg' hT (count_set hlt hM hcnt)
    · rw [Bool.not_eq_true] at hA
      have hA' : kept A' t.i = true → ¬ Mo listed t.i := fun e => by rw [hA] at e; cases e
      cases n' with
      | zero => simp [drawB] at hb'
      | succ n' =>
        have hmem : t ∈ readyHeavy A' its := readyHeavy_mem.2 ⟨ht, hA, by rw [(S.it t ht).2.2.1]; exact allIn_iff.2 fun j hj => I'.sub j (hw j hj)⟩
        simp only [drawB, hn] at hb'
        split at hb'
        · rename_i e
          rw [e] at hmem
          cases hmem
        · obtain ⟨n2, fr, fr', gt, rt, e1, e2, e3, e4, e5⟩ := altsB_spec hb' hg' t hmem
          have hd : ∀ d, t.o.dst = some d → d < cx.nt := by
            have e3' := e3
            unfold stepB at e3'
            split at e3'
            · rename_i fc hfc
              exact (contB_eq hfc).2
            · cases e3'
          unfold wpOpIn
          simp only [ho]
          rw [← hto]
          refine stepB_sound hE hG hX hc hrd e3 e4 (fun r hr => hT r (e5 r hr)) I'.hr I'.ei I'.dfr (fun d hd => I'.notD S ht hw hA' (looks_op hd)) (fun j want oj d q1 q2 q3 => I'.notD S ht hw hA' (looks_guard q1 q2 q3)) ?_ ?_
          · intro v df2 h2 nx2 rs2 φ2 u w2 a2 q1 q2 q3 q4 q5 q6 q7
            obtain ⟨m1, m2⟩ := againsB_spec e2 q1
            exact ih n2 _ _ _ _ _ _ _ _ _ _ _ _ _ _ rs2 (I'.both S ht hA hw hd q3 q4 q5 q6 q7 m2) e1 m1 q2 (count_set hlt hM hcnt)
          · intro v h2 nx2 rs2 φ2 u w2 q1 q2 q3 q4 q5
            have D2 := I'.dfr.mono q5.le
            obtain ⟨q0, q6⟩ := hpe _ _ _ _ _ _ q1
            subst q0
            exact ⟨φ2, v, u, tm', [], h2, nx2, rs2, rfl, q4, q6, q2, .inr rfl, D2, q3, I'.kp.trans q5⟩

theorem bareP_spec {pe : FC → AV → K} {v : AV} {tm : Slots} {df : List Df} {h : Heap} {nx : Pos} {rs : List CR} (e : bareP pe c v tm df h nx = some rs) : df = [] ∧ pe c v tm [] h nx = some rs := by
  cases df with
  | nil => exact ⟨rfl, e⟩
  | cons d l => cases d <;> cases e

theorem drawn_ok (hm : x.P.follows .mixedOrders = true) (hW : cx.W = x.W) (hnt : cx.nt = x.nt) (hE : EOK cx.E x.P) (hG : GB cx.E x.B) (hX : ExtOK cx.E x.P) (hc : FcOK cx.E x.P c) (hrd : ro ≠ none → cx.rd = true) : DrawnOK x cx c ro := by
  intro id ops g tm df h nx k kx φ a w rs hb hg hT T D H Kp
  unfold drawnB at hb
  split at hb
  · rename_i its hits
    have S := itms_spec ops.toList (ancs ops.toList []) 0 [] [] its rfl rfl rfl rfl hits
    refine wpIn_region_any hm ?_
    have hno : ∀ j, ¬ Mo (Array.replicate ops.size false) j := fun j e => by
      unfold Mo at e
      rw [Array.getElem?_replicate] at e
      split at e <;> cases e
    have k0 : ∀ {j : Nat}, kept 0 j = true → False := fun e => by rw [kept_zero] at e; cases e
    have I₀ := EI.of_tr (W := x.W) (nt := x.nt) T
    refine drawn_main (cx := { E := cx.E, W := cx.W, nt := cx.nt, pe := bareP cx.pe, rd := cx.rd }) hW hnt hE hG hX hc hrd (kp := cx.pe c) (fun v tm df h nx rs e => bareP_spec e) S ops.size _ 0 0 (fun _ => none) [] [] tm df h nx φ _ a _ g rs
      ⟨by simp, fun j e => absurd e (hno j), fun j e => (k0 e).elim, fun _ _ e => (k0 e).elim, fun _ _ e => absurd e (hno _), fun _ _ e => (k0 e).elim, fun _ e => (k0 e).elim, ?_, D, H.drew, Kp, fun _ _ _ _ _ e => (k0 e).elim, fun _ _ e => (k0 e).elim, fun _ _ e => (k0 e).elim⟩ hb hg hT ?_
    · show EI φ _ cx.W cx.nt [] [] tm a.tmps
      rw [hW, hnt]
      exact I₀.weaken fun _ e => e.elim
    · simp
  · cases hb
end
end Go.AM
