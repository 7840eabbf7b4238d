/-
  The evaluator is sound: operations, regions, code. The staged evaluator is sound: temporaries. The staged evaluator is sound: quiet operations that are met often. The staged evaluator is sound: one operation. The staged evaluator is sound: regions whose order is not drawn. The staged evaluator is sound: code.
-/
import Derived.Test.YtidhmgganaoefaaGreatDoorEvEffect
import Derived.Test.YtidhmgganaoefaaGreatDoorEvComp
import Derived.RangeFuncIn
namespace Go.AM

theorem unB_eq {α β : Type} (b : Box α) (k : α → β) : unB b k = k b.f := by cases b; rfl
theorem selB_eq {α : Type} (i : Nat) (t : N8 α) : (selB i).f t = N8.get i t := by
  match i with
  | 0 | 1 | 2 | 3 | 4 | 5 | 6 | n + 7 => rfl
theorem updB_eq {α : Type} (i : Nat) (u : α → α) (t : N8 α) : (updB i).f u t = N8.upd i u t := by
  cases t
  match i with
  | 0 | 1 | 2 | 3 | 4 | 5 | 6 | n + 7 => rfl
theorem getB_eq (t : Nat) (s : Slots) : (getB t).f s = Slots.get t s := by
  unfold getB Slots.get
  simp only [unB_eq, selB_eq]
theorem setB_eq (t : Nat) (v : AV) (s : Slots) : (setB t).f v s = Slots.set t v s := by
  unfold setB Slots.set
  simp only [unB_eq, updB_eq]
  congr 1
  funext a
  rw [updB_eq]
  congr 1
  funext b
  rw [updB_eq]
theorem hdL_tlL : ∀ l : L, hdL l = (l[0]?).getD AV.undef
  | [] => rfl
  | _ :: _ => rfl
theorem nthB_eq : ∀ (i : Nat) (l : L), (nthB i).f l = (l[i]?).getD AV.undef
  | 0, l => hdL_tlL l
  | i + 1, l => by
    simp only [nthB, unB_eq]
    rw [nthB_eq i]
    cases l with
    | nil => simp [tlL]
    | cons x l => rfl

theorem bb_true {β : Type} (x y : β) : bb true x y = x := rfl
theorem bb_false {β : Type} (x y : β) : bb false x y = y := rfl
theorem ob_some {α β : Type} {o : Option α} {k : α → Option β} {r : β} (h : ob o k = some r) : ∃ x, o = some x ∧ k x = some r := by
  cases o with
  | none => cases h
  | some x => exact ⟨x, rfl, h⟩
theorem bb_some {β : Type} {b : Bool} {x y : Option β} {r : β} (h : bb b x y = some r) : (b = true ∧ x = some r) ∨ (b = false ∧ y = some r) := by
  cases b
  · exact .inr ⟨rfl, h⟩
  · exact .inl ⟨rfl, h⟩
theorem bb_some_none {β : Type} {b : Bool} {x : Option β} {r : β} (h : bb b x none = some r) : b = true ∧ x = some r := by
  cases b
  · cases h
  · exact ⟨rfl, h⟩

theorem idxOf_some {t : Nat} : ∀ {nm : List Tmp} {i j : Nat}, idxOf t nm i = some j → i ≤ j ∧ nm[j - i]? = some t
  | [], i, j, h => by simp [idxOf] at h
  | u :: nm, i, j, h => by
    simp only [idxOf] at h
    rcases bb_some h with ⟨h1, h2⟩ | ⟨h1, h2⟩
    · injection h2 with h2
      subst h2
      have := Nat.eq_of_beq_eq_true h1
      subst this
      simp
    · obtain ⟨g1, g2⟩ := idxOf_some h2
      refine ⟨by omega, ?_⟩
      rw [show j - i = (j - Nat.succ i) + 1 by omega]
      simpa using g2
theorem idxOf_shift {t : Nat} : ∀ {nm : List Tmp} {i : Nat}, idxOf t nm (i + 1) = (idxOf t nm i).map (· + 1)
  | [], i => rfl
  | u :: nm, i => by
    simp only [idxOf]
    cases Nat.beq t u
    · exact idxOf_shift (nm := nm) (i := i + 1)
    · rfl
theorem idxOf_cons_ne {t u : Nat} (h : t ≠ u) (nm : List Tmp) : idxOf t (u :: nm) 0 = (idxOf t nm 0).map (· + 1) := by
  have : Nat.beq t u = false := by rw [Bool.eq_false_iff]; exact fun e => h (Nat.eq_of_beq_eq_true e)
  simp only [idxOf, this]
  exact idxOf_shift (nm := nm) (i := 0)
theorem idxOf_cons_eq (t : Nat) (nm : List Tmp) : idxOf t (t :: nm) 0 = some 0 := by
  have : Nat.beq t t = true := Nat.beq_refl t
  simp only [idxOf, this]
  rfl

/-- The locals and the slots against a frame's temporaries, but for some. -/
structure EI (φ : Ph) (D : Tmp → Prop) (W nt : Nat) (nm : List Tmp) (l : L) (tm : Slots) (vs : Array Value) : Prop where
  size : vs.size = nt
  most : nt ≤ 512
  len : l.length = nm.length
  loc : ∀ t i, idxOf t nm 0 = some i → ¬ D t → VR φ ((l[i]?).getD AV.undef) (vs.getD t Go.undef)
  slot : ∀ t, t < nt → kept W t = true → ¬ D t → VR φ (Slots.get t tm) (vs.getD t Go.undef)
  lt : ∀ t i, idxOf t nm 0 = some i → t < nt
  both : ∀ t i, idxOf t nm 0 = some i → kept W t = true → Slots.get t tm = (l[i]?).getD AV.undef

section
variable {φ : Ph} {D : Tmp → Prop} {W nt : Nat} {nm : List Tmp} {l : L} {tm : Slots} {vs : Array Value}

theorem rdB_local {t i : Nat} (h : idxOf t nm 0 = some i) : ∃ f, rdB W nt nm (.tmp t) = some ⟨f⟩ ∧ ∀ l tm, f l tm = (l[i]?).getD AV.undef := by
  refine ⟨fun l _ => (nthB i).f l, ?_, fun l tm => nthB_eq i l⟩
  simp only [rdB, h, unB_eq]
theorem rdB_slot {t : Nat} (h : idxOf t nm 0 = none) {b : Box Rd} (hb : rdB W nt nm (.tmp t) = some b) : kept W t = true ∧ t < nt ∧ ∀ l tm, b.f l tm = Slots.get t tm := by
  simp only [rdB, h] at hb
  obtain ⟨h1, hb⟩ := bb_some_none hb
  obtain ⟨h2, hb⟩ := bb_some_none hb
  rw [unB_eq] at hb
  injection hb with hb
  subst hb
  exact ⟨h1, Nat.le_of_ble_eq_true h2, fun l tm => getB_eq t tm⟩

theorem EI.read (I : EI φ D W nt nm l tm vs) {x : Operand} {b : Box Rd} (h : rdB W nt nm x = some b) (hD : ∀ t, x = .tmp t → ¬ D t) : VR φ (b.f l tm) (ev vs x) := by
  cases x with
  | tmp t =>
    cases hi : idxOf t nm 0 with
    | some i =>
      obtain ⟨f, h1, h2⟩ := rdB_local (W := W) (nt := nt) hi
      rw [h] at h1
      injection h1 with h1
      subst h1
      simp only [h2]
      exact I.loc t i hi (hD t rfl)
    | none =>
      obtain ⟨h1, h2, h3⟩ := rdB_slot hi h
      rw [h3]
      exact I.slot t h2 h1 (hD t rfl)
  | const v =>
    simp only [rdB] at h
    split at h
    · rename_i a ha
      injection h with h
      subst h
      exact constA_sound ha
    · cases h
  | global g =>
    simp only [rdB] at h
    injection h with h
    subst h
    simp [VR, ev]
  | func f =>
    simp only [rdB] at h
    injection h with h
    subst h
    simp only [VR, ev]
    exact ⟨[], rfl, by simp [VRL]⟩

theorem EI.rho (I : EI φ D W nt nm l tm vs) {xs : List Operand} (hD : ∀ t, .tmp t ∈ xs → ¬ D t) : OpsR φ (rho W nt nm l tm) vs xs := by
  intro x hx a ha
  unfold AM.rho at ha
  split at ha
  · rename_i b hb
    injection ha with ha
    subst ha
    exact I.read hb fun t ht => hD t (ht ▸ hx)
  · cases ha

theorem EI.mono {ψ : Ph} (h : φ.le ψ) (I : EI φ D W nt nm l tm vs) : EI ψ D W nt nm l tm vs :=
  ⟨I.size, I.most, I.len, fun t i h1 h2 => (I.loc t i h1 h2).mono h, fun t h1 h2 h3 => (I.slot t h1 h2 h3).mono h, I.lt, I.both⟩

theorem getD_set_same {vs : Array Value} {d : Nat} {u : Value} (h : d < vs.size) : (vs.setIfInBounds d u).getD d Go.undef = u := by simp [h]
theorem getD_set_other {vs : Array Value} {d t : Nat} {u : Value} (h : d ≠ t) : (vs.setIfInBounds d u).getD t Go.undef = vs.getD t Go.undef := by simp [Array.getElem?_setIfInBounds_ne h]

/-- A value is put, on both sides. -/
theorem EI.put (I : EI φ D W nt nm l tm vs) {d : Nat} (hd : d < nt) {v : AV} {u : Value} (hv : VR φ v u) : EI φ (fun t => D t ∧ t ≠ d) W nt (d :: nm) (v :: l) (if kept W d = true then Slots.set d v tm else tm) (vs.setIfInBounds d u) := by
  have hm := I.most
  refine ⟨by simpa using I.size, hm, by simp [I.len], fun t i hi hD => ?_, fun t ht hk hD => ?_, fun t i hi => ?_, fun t i hi hk => ?_⟩
  · by_cases e : t = d
    · subst e
      rw [idxOf_cons_eq] at hi
      injection hi with hi
      subst hi
      rw [getD_set_same (by rw [I.size]; exact hd)]
      exact hv
    · rw [idxOf_cons_ne e] at hi
      cases hj : idxOf t nm 0 with
      | none => rw [hj] at hi; cases hi
      | some j =>
        rw [hj] at hi
        injection hi with hi
        subst hi
        rw [getD_set_other (Ne.symm e)]
        simpa using I.loc t j hj fun h => hD ⟨h, e⟩
  · by_cases e : t = d
    · subst e
      rw [if_pos hk, Slots.get_set_same, getD_set_same (by rw [I.size]; exact ht)]
      exact hv
    · rw [getD_set_other (Ne.symm e)]
      have := I.slot t ht hk fun h => hD ⟨h, e⟩
      split
      · rw [Slots.get_set_ne (by omega) (by omega) (Ne.symm e)]; exact this
      · exact this
  · by_cases e : t = d
    · omega
    · rw [idxOf_cons_ne e] at hi
      cases hj : idxOf t nm 0 with
      | none => rw [hj] at hi; cases hi
      | some j => exact I.lt t j hj
  · by_cases e : t = d
    · subst e
      rw [idxOf_cons_eq] at hi
      injection hi with hi
      subst hi
      rw [if_pos hk, Slots.get_set_same]
      rfl
    · rw [idxOf_cons_ne e] at hi
      cases hj : idxOf t nm 0 with
      | none => rw [hj] at hi; cases hi
      | some j =>
        rw [hj] at hi
        injection hi with hi
        subst hi
        have hb := I.both t j hj hk
        have ht := I.lt t j hj
        split
        · rw [Slots.get_set_ne (by omega) (by omega) (Ne.symm e)]; simpa using hb
        · simpa using hb

theorem EI.weaken {D' : Tmp → Prop} (h : ∀ t, D t → D' t) (I : EI φ D W nt nm l tm vs) : EI φ D' W nt nm l tm vs :=
  ⟨I.size, I.most, I.len, fun t i h1 h2 => I.loc t i h1 fun h3 => h2 (h t h3), fun t h1 h2 h3 => I.slot t h1 h2 fun h4 => h3 (h t h4), I.lt, I.both⟩
end
end Go.AM
namespace Go.AM
section
variable {E : Env} {P : Program} {W nt : Nat} {nm : List Tmp} {l : L} {tm : Slots} {h : Heap}

theorem boolC_some {β : Type} {v : AV} {k : Bool → Option β} {r : β} (h : boolC v k none = some r) : ∃ b, v = .bool b ∧ k b = some r := by
  cases v <;> first | exact ⟨_, rfl, h⟩ | cases h
theorem intC_some {β : Type} {v : AV} {k : IntKind → Int → Option β} {r : β} (h : intC v k none = some r) : ∃ q n, v = .int q n ∧ k q n = some r := by
  cases v <;> first | exact ⟨_, _, rfl, h⟩ | cases h
theorem ptrC_some {β : Type} {v : AV} {k : Pos → Nat → Option β} {g : Nat → Nat → Option β} {r : β} (h : ptrC v k g none = some r) : (∃ b o, v = .ptr b o ∧ k b o = some r) ∨ ∃ b o, v = .gptr b o ∧ g b o = some r := by
  cases v <;> first | exact .inl ⟨_, _, rfl, h⟩ | exact .inr ⟨_, _, rfl, h⟩ | cases h
theorem tupC_some {β : Type} {v : AV} {k : List AV → Option β} {r : β} (h : tupC v k none = some r) : ∃ b, v = .tuple b ∧ k b = some r := by
  cases v <;> first | exact ⟨_, rfl, h⟩ | cases h
theorem cellsC_some {β : Type} {o : Obj} {k : List AV → Option β} {r : β} (h : cellsC o k none = some r) : ∃ c x y z e, o = .cells c x y z e ∧ k c = some r := by
  cases o <;> first | exact ⟨_, _, _, _, _, rfl, h⟩ | cases h
theorem funC_some {β : Type} {v : AV} {k : Nat → List AV → Option β} {y : Pos → Option β} {r : β} (h : funC v k y none = some r) : (∃ f c, v = .func f c ∧ k f c = some r) ∨ ∃ p, v = .yield p ∧ y p = some r := by
  cases v <;> first | exact .inl ⟨_, _, rfl, h⟩ | exact .inr ⟨_, rfl, h⟩ | cases h
theorem ifaceC_some {β : Type} {v : AV} {k : Option β} {r : β} (h : ifaceC v k none = some r) : (∃ t x, v = .iface t x) ∧ k = some r := by
  cases v <;> first | exact ⟨⟨_, _, rfl⟩, h⟩ | cases h
theorem isKB_eq {k x : IntKind} (h : (isKB k).f x = true) : x = k := by cases k <;> cases x <;> first | rfl | cases h

theorem ble_blt (a b : Nat) : Nat.ble a b = !(Nat.blt b a) := by
  rcases Nat.lt_or_ge b a with h | h
  · rw [show Nat.blt b a = true from Nat.ble_eq_true_of_le h]
    exact Bool.eq_false_iff.2 fun e => absurd (Nat.le_of_ble_eq_true e) (by omega)
  · rw [show Nat.blt b a = false from Bool.eq_false_iff.2 fun e => absurd (Nat.le_of_ble_eq_true e) (by omega)]
    exact Nat.ble_eq_true_of_le h
theorem fastInt_eq {op : BinOp} {k : IntKind} {z : Nat → Nat → AV} (h : fastInt op k = some ⟨z⟩) (a b : Nat) : binInt op k (.ofNat a) (.ofNat b) = some (z a b) := by
  cases op <;> simp only [fastInt] at h <;> try (cases h; done)
  all_goals (injection h with h; injection h with h; subst h; simp only [binInt])
  · simp only [addA, wrapA]
    have : Nat.ble (limA k) (Nat.add a b) = !(Nat.blt (Nat.add a b) (limA k)) := ble_blt _ _
    rw [this]
    cases Nat.blt (Nat.add a b) (limA k) <;> rfl
  · simp only [intEq]
  · simp only [intEq]
    cases Nat.beq a b <;> rfl
  · simp only [intLt]; rfl
  · simp only [intLt, ble_blt]
  · simp only [intLt]; rfl
  · simp only [intLt, ble_blt]

theorem rd1_some {β : Type} {x : Operand} {k : Rd → Option β} {r : β} (h : rd1 W nt nm x k = some r) : ∃ f, rdB W nt nm x = some ⟨f⟩ ∧ k f = some r := by
  unfold rd1 at h
  split at h
  · rename_i f hf; exact ⟨f, hf, h⟩
  · cases h
theorem rho_of {x : Operand} {f : Rd} (h : rdB W nt nm x = some ⟨f⟩) : rho W nt nm l tm x = some (f l tm) := by simp only [rho, h]

theorem binB_sound {t t' : TypeId} {k : IntKind} {i : TI} (_hi : E.ty t = some i) (hd : i.desc = .int k) {op : BinOp} {x y : Operand} {f g : Rd} (hf : rdB W nt nm x = some ⟨f⟩) (hg : rdB W nt nm y = some ⟨g⟩) {v : AV} (h1 : (binB k op f g).f l tm h = some v) :
    quietA E (rho W nt nm l tm) h (.binOp op t x y t') = some v := by
  unfold binB at h1
  rw [unB_eq] at h1
  have key : ∀ p m q n, f l tm = .int p m → g l tm = .int q n → binOpA E op t (.int p m) (.int q n) = some v → quietA E (rho W nt nm l tm) h (.binOp op t x y t') = some v := by
    intro p m q n e1 e2 e3
    simp only [quietA, qBin, rho_of hf, rho_of hg, e1, e2]
    exact e3
  have fin : ∀ p m q n, f l tm = .int p m → g l tm = .int q n → p = q → binInt op p m n = some v → binOpA E op t (.int p m) (.int q n) = some v := by
    rintro p m _ n _ _ rfl e
    have hk : kindEq p p = true := by cases p <;> rfl
    unfold binOpA
    simp only [hk, if_true]
    cases op <;> exact e
  by_cases hsh : op = .shl ∨ op = .shr
  · have h2 : (intC (f l tm) (fun p m => intC (g l tm) (fun _ n => binInt op p m n) none) none) = some v := by rcases hsh with rfl | rfl <;> exact h1
    obtain ⟨p, m, e1, h3⟩ := intC_some h2
    obtain ⟨q, n, e2, h4⟩ := intC_some h3
    refine key p m q n e1 e2 ?_
    unfold binOpA
    rcases hsh with rfl | rfl <;> exact h4
  · have h2 : (match fastInt op k with
      | some ⟨z⟩ => (⟨fun l tm _ => intC (f l tm) (fun p m => intC (g l tm) (fun q n => bb ((isKB k).f p) (bb ((isKB k).f q) (natC m (fun a => natC n (fun b => some (z a b)) (binInt op p m n)) (binInt op p m n)) none) none) none) none⟩ : Box Q)
      | none => ⟨fun l tm _ => intC (f l tm) (fun p m => intC (g l tm) (fun q n => bb ((isKB k).f p) (bb ((isKB k).f q) (binInt op p m n) none) none) none) none⟩).f l tm h = some v := by
      cases op <;> first | exact h1 | (exfalso; simp at hsh)
    split at h2
    · rename_i z hz
      obtain ⟨p, m, e1, h3⟩ := intC_some h2
      obtain ⟨q, n, e2, h4⟩ := intC_some h3
      obtain ⟨g1, h5⟩ := bb_some_none h4
      obtain ⟨g2, h6⟩ := bb_some_none h5
      obtain rfl := isKB_eq g1
      obtain rfl := isKB_eq g2
      refine key _ m _ n e1 e2 (fin _ m _ n e1 e2 rfl ?_)
      cases m with
      | negSucc m => exact h6
      | ofNat a =>
        cases n with
        | negSucc n => exact h6
        | ofNat b =>
          rw [fastInt_eq hz]
          exact h6
    · obtain ⟨p, m, e1, h3⟩ := intC_some h2
      obtain ⟨q, n, e2, h4⟩ := intC_some h3
      obtain ⟨g1, h5⟩ := bb_some_none h4
      obtain ⟨g2, h6⟩ := bb_some_none h5
      obtain rfl := isKB_eq g1
      obtain rfl := isKB_eq g2
      exact key _ m _ n e1 e2 (fin _ m _ n e1 e2 rfl h6)

theorem quietB_sound {op : Op} {b : Box Q} (hb : quietB E W nt nm op = some b) {v : AV} (hv : b.f l tm h = some v) : quietA E (rho W nt nm l tm) h op = some v := by
  unfold quietB at hb
  split at hb
  · obtain ⟨f, hf, hb⟩ := rd1_some hb
    injection hb with hb
    subst hb
    simp only [quietA, rho_of hf]
    exact hv
  · obtain ⟨f, hf, hb⟩ := rd1_some hb
    injection hb with hb
    subst hb
    simp only [quietA, rho_of hf]
    exact hv
  · obtain ⟨f, hf, hb⟩ := rd1_some hb
    unfold rd2 at hb
    obtain ⟨g, hg, hb⟩ := rd1_some hb
    obtain ⟨g', hg', hb⟩ := rd1_some hb
    injection hb with hb
    subst hb
    obtain ⟨t, e, hv⟩ := boolC_some hv
    simp only [quietA, rho_of hf, rho_of hg, rho_of hg', e]
    cases t <;> exact hv
  · obtain ⟨f, hf, hb⟩ := rd1_some hb
    split at hb
    · rename_i i hi
      injection hb with hb
      subst hb
      simp only [quietA, rho_of hf, loadA, hi]
      rcases ptrC_some hv with ⟨b, o, e, hv⟩ | ⟨b, o, e, hv⟩
      · obtain ⟨ob', h1, hv⟩ := ob_some hv
        obtain ⟨c, x, y, z, e', rfl, hv⟩ := cellsC_some hv
        simp only [e, cellsAt, h1]
        exact hv
      · obtain ⟨cs, h1, hv⟩ := ob_some hv
        simp only [e, cellsAt, h1]
        exact hv
    · cases hb
  · obtain ⟨f, hf, hb⟩ := rd1_some hb
    injection hb with hb
    subst hb
    simp only [quietA, rho_of hf]
    rcases ptrC_some hv with ⟨b, o, e, hv⟩ | ⟨b, o, e, hv⟩ <;> simp only [e] <;> exact hv
  · split at hb
    · rename_i hi
      unfold rd2 at hb
      obtain ⟨f, hf, hb⟩ := rd1_some hb
      obtain ⟨g, hg, hb⟩ := rd1_some hb
      injection hb with hb
      subst hb
      exact binB_sound hi rfl hf hg hv
    · injection hb with hb
      subst hb
      exact hv
  · obtain ⟨f, hf, hb⟩ := rd1_some hb
    split at hb
    · rename_i hs
      split at hb
      · rename_i hn
        split at hb
        · rename_i j hj
          split at hb
          · cases hb
          · rename_i hz
            injection hb with hb
            subst hb
            simp only [quietA, qFieldAddr, hs, rho_of hf, hn, hj]
            rw [if_neg hz]
            rcases ptrC_some hv with ⟨b, o, e, hv⟩ | ⟨b, o, e, hv⟩ <;> simp only [e] <;> exact hv
        · cases hb
      · cases hb
    · cases hb
  · obtain ⟨f, hf, hb⟩ := rd1_some hb
    injection hb with hb
    subst hb
    obtain ⟨r, e, hv⟩ := tupC_some hv
    simp only [quietA, rho_of hf, e]
    exact hv
  · injection hb with hb
    subst hb
    exact hv
end
end Go.AM
namespace Go.AM

def DfR (φ : Ph) : List Df → List Deferred → Prop
  | [], ds => ds = []
  | .call f as :: l, ds => ∃ d r vs cap, ds = d :: r ∧ d.target = .fn (.func f) cap ∧ d.args ++ cap = (List.toArray vs) ∧ VRL φ as vs ∧ DfR φ l r
  | .collected p :: l, ds => ∃ d r k b s, ds = d :: r ∧ d.target = .collected k ∧ φ p = some (k, b, s) ∧ DfR φ l r
theorem DfR.mono {φ ψ : Ph} (h : φ.le ψ) : ∀ {l : List Df} {ds : List Deferred}, DfR φ l ds → DfR ψ l ds
  | [], _, e => e
  | .call _ _ :: _, _, ⟨d, r, vs, cap, h1, h2, h3, h4, h5⟩ => ⟨d, r, vs, cap, h1, h2, h3, h4.mono h, h5.mono h⟩
  | .collected _ :: _, _, ⟨d, r, k, b, s, h1, h2, h3, h4⟩ => ⟨d, r, k, b, s, h1, h2, h _ _ h3, h4.mono h⟩

/-- Inside a function's call: what it began with, how it may end. -/
structure Fx where
  P : Program
  E : Env
  B : Base
  W : Nat
  nt : Nat
  φ : Ph
  h : Heap
  nx : Pos
  T : List CR

/-- On from here it goes well. -/
def Fits (x : Fx) (k : K) (a : Act) (w : World) : Prop :=
  ∃ φ tm df h nx rs, k tm df h nx = some rs ∧ (∀ r ∈ rs, r ∈ x.T) ∧ TR φ x.W x.nt tm a.tmps ∧ DfR φ df a.defers ∧ HR φ x.B h nx w ∧ Kept x.φ x.h x.nx φ h nx
/-- .. with a panic. -/
def FitsP (x : Fx) (k : AV → K) (ch : List PanicEntry) (a : Act) (w : World) : Prop :=
  ∃ φ v u tm df h nx rs, ch = [{ v := u, recovered := false }] ∧ VR φ v u ∧ k v tm df h nx = some rs ∧ (∀ r ∈ rs, r ∈ x.T) ∧ (TR φ x.W x.nt tm a.tmps ∨ df = []) ∧ DfR φ df a.defers ∧ HR φ x.B h nx w ∧ Kept x.φ x.h x.nx φ h nx
def Post (x : Fx) (kn : K) (kx : KX) (kp : AV → K) : Exit → Act → World → Prop
  | .normal, a, w => Fits x kn a w
  | .exit id, a, w => Fits x (kx (id + 1)) a w
  | .ret, a, w => Fits x (kx 0) a w
  | .panic ch, a, w => FitsP x kp ch a w
  | _, _, _ => False

/-- How a call ends: one of these. -/
def RetR (B : Base) (φ : Ph) (h : Heap) (nx : Pos) (rs : List CR) : Ending → World → Prop
  | .returned u, w => ∃ φ' v h' nx', CR.ret v h' nx' ∈ rs ∧ HR φ' B h' nx' w ∧ VR φ' v u ∧ Kept φ h nx φ' h' nx'
  | .panicked ch, w => ∃ φ' v u h' nx', CR.pan v h' nx' ∈ rs ∧ ch = [{ v := u, recovered := false }] ∧ HR φ' B h' nx' w ∧ VR φ' v u ∧ Kept φ h nx φ' h' nx'
  | .outgrown, _ => False
def callV (u : Value) (args : Array Value) : Sem Next := do
  let d ← Deferred.ofValue u args
  invoke d.target d.args
def CallR (P : Program) (R : Ending → World → Prop) : Result Next → Prop
  | .ok (.enter f as) w => CallsIn Fence.wide 0 P f as w R
  | .ok (.round l f tmps assign body) w => RoundIn Fence.wide 0 P l f tmps assign body w R
  | _ => False
def FcOK (E : Env) (P : Program) (fc : FC) : Prop :=
  ∀ v l h nx rs, fc v l h nx = some rs → ∀ B φ w u us, GB E B → HR φ B h nx w → VR φ v u → VRL φ l us → CallR P (RetR B φ h nx rs) ((callV u us.toArray).run P w)

/-- The wide fence, in a round or not. -/
def FenceR (ro : Option Nat) : Fence := { Fence.wide with round := ro }

theorem mapL_some {α : Type} {k : α → R} : ∀ {l : List α} {rs : List CR}, mapL k l = some rs → ∀ x ∈ l, ∃ r, k x = some r ∧ ∀ y ∈ r, y ∈ rs
  | [], _, _, x, hx => by cases hx
  | [a], rs, h, x, hx => by
    rw [List.mem_singleton.1 hx]
    exact ⟨rs, h, fun y hy => hy⟩
  | a :: b :: l, rs, h, x, hx => by
    have h' : appR (k a) (mapL k (b :: l)) = some rs := h
    unfold appR at h'
    obtain ⟨r1, h1, h'⟩ := ob_some h'
    obtain ⟨r2, h2, h'⟩ := ob_some h'
    injection h' with h'
    rw [appL_eq] at h'
    subst h'
    rcases List.mem_cons.1 hx with rfl | hx
    · exact ⟨r1, h1, fun y hy => List.mem_append_left _ hy⟩
    · obtain ⟨r, g1, g2⟩ := mapL_some h2 x hx
      exact ⟨r, g1, fun y hy => List.mem_append_right _ (g2 y hy)⟩

theorem rdsB_sound {W nt : Nat} {nm : List Tmp} {l : L} {tm : Slots} {φ : Ph} {vs : Array Value} : ∀ {xs : List Operand} {b : Box (L → Slots → List AV)}, rdsB W nt nm xs = some b → OpsR φ (rho W nt nm l tm) vs xs → VRL φ (b.f l tm) (xs.map (ev vs))
  | [], b, h, _ => by
    simp only [rdsB] at h
    injection h with h
    subst h
    simp [VRL]
  | x :: xs, b, h, O => by
    simp only [rdsB] at h
    split at h
    · rename_i f g hf hg
      injection h with h
      subst h
      simp only [List.map_cons, VRL_cons]
      exact ⟨_, _, rfl, O x (by simp) _ (rho_of hf), rdsB_sound hg fun y hy => O y (by simp [hy])⟩
    · cases h

theorem eval_ev (a : Act) : a.eval = ev a.tmps := by
  funext x
  cases x <;> rfl

/-- Functions without a body do as their tags say. -/
def ExtOK (E : Env) (P : Program) : Prop :=
  ∀ f fn tag as h nx outs, E.fn f = some fn → Tr.get (Pos.ofNat f) E.exts = some tag → extA E fn tag as h nx = some outs →
    ∀ φ B w us, HR φ B h nx w → VRL φ as us → EF P φ B h nx w (callV (.func (.func f) #[] #[]) us.toArray) outs

section
variable {x : Fx} {cx : Cx} {nm : List Tmp} {l : L} {tm : Slots} {df : List Df} {h : Heap} {nx : Pos} {φ : Ph} {a : Act} {w : World} {c : FC} {k : K} {fc : VC} {o : Oper} {ro : Option Nat}
  {next : Act → World → Prop} {Q : Exit → Act → World → Prop} {rs : List CR}

/-- With a value it goes on. -/
def Goes (x : Fx) (fc : VC) (c : FC) (l : L) (tm : Slots) (k : K) (a : Act) (φ : Ph) (h : Heap) (nx : Pos) (dst : Option Tmp) (next : Act → World → Prop) : Prop :=
  ∀ v df h' nx' rs φ' u w' (a' : Act), fc c v l tm df h' nx' k = some rs → (∀ r ∈ rs, r ∈ x.T) → HR φ' x.B h' nx' w' → VR φ' v u → Kept φ h nx φ' h' nx' → DfR φ' df a'.defers → a'.tmps = a.tmps → next (a'.put dst u) w'
/-- With a panic. -/
def GoesP (x : Fx) (kp : AV → K) (tm : Slots) (df : List Df) (a : Act) (φ : Ph) (h : Heap) (nx : Pos) (Q : Exit → Act → World → Prop) : Prop :=
  ∀ v h' nx' rs φ' u w', kp v tm df h' nx' = some rs → (∀ r ∈ rs, r ∈ x.T) → HR φ' x.B h' nx' w' → VR φ' v u → Kept φ h nx φ' h' nx' → Q (.panic [{ v := u, recovered := false }]) a w'

theorem upon_EF {s : Sem Next} {outs : List VO} (e : EF x.P φ x.B h nx w s outs) (D : DfR φ df a.defers) (hm : mapL (fun (r : VO) => fc c r.1 l tm df r.2.1 r.2.2 k) outs = some rs) (hT : ∀ r ∈ rs, r ∈ x.T)
    (go : Goes x fc c l tm k a φ h nx o.dst next) : o.uponIn (FenceR ro) 0 x.P a next Q (s.run x.P w) := by
  obtain ⟨w', n, v, φ', av, h', nx', h1, h2, h3, h4, h5, h6⟩ := e
  obtain ⟨r, g1, g2⟩ := mapL_some hm _ h1
  have := go _ _ _ _ _ φ' v w' a g1 (fun y hy => hT y (g2 y hy)) h4 h5 h6 (D.mono h6.le) rfl
  rw [h2]
  rcases h3 with rfl | ⟨rfl, rfl⟩
  · exact this
  · exact this

theorem upon_call {u : Value} {us : List Value} {r1 : List CR} (hR : CallR x.P (RetR x.B φ h nx r1) ((callV u us.toArray).run x.P w)) (D : DfR φ df a.defers) {kp : AV → K}
    (hm : mapL (fun r => crC r (fun v h nx => fc c v l tm df h nx k) (fun v h nx => kp v tm df h nx)) r1 = some rs) (hT : ∀ r ∈ rs, r ∈ x.T)
    (go : Goes x fc c l tm k a φ h nx o.dst next) (goP : GoesP x kp tm df a φ h nx Q) : o.uponIn (FenceR ro) 0 x.P a next Q ((callV u us.toArray).run x.P w) := by
  have key : ∀ e w', RetR x.B φ h nx r1 e w' → (match e with
      | .returned v => next (a.put o.dst v) w'
      | .panicked chain => Q (.panic chain) a w'
      | .outgrown => LetsOut Q) := by
    intro e w' he
    cases e with
    | returned v =>
      obtain ⟨φ', av, h', nx', h1, h2, h3, h4⟩ := he
      obtain ⟨r, g1, g2⟩ := mapL_some hm _ h1
      exact go _ _ _ _ _ φ' v w' a g1 (fun y hy => hT y (g2 y hy)) h2 h3 h4 (D.mono h4.le) rfl
    | panicked ch =>
      obtain ⟨φ', av, v, h', nx', h1, rfl, h2, h3, h4⟩ := he
      obtain ⟨r, g1, g2⟩ := mapL_some hm _ h1
      exact goP _ _ _ _ φ' v w' g1 (fun y hy => hT y (g2 y hy)) h2 h3 h4
    | outgrown => exact he.elim
  generalize (callV u us.toArray).run x.P w = r at hR
  cases r with
  | halt => exact hR.elim
  | ok n w' =>
    cases n with
    | enter f as =>
      refine ⟨fun h => (nomatch h), ?_⟩
      exact CallsIn.mono (F := Fence.wide) hR (fun e w'' he => by
        have := key e w'' he
        cases e <;> exact this)
    | round ll f tmps assign body =>
      refine ⟨fun h => (nomatch h), ?_⟩
      exact RoundIn.mono (F := Fence.wide) hR (fun e w'' he => by
        have := key e w'' he
        cases e <;> exact this)
    | _ => exact hR.elim

theorem exec_call {f : Operand} {args : Array Operand} {ts : Array TypeId} {vs : Array Value} (ho : o.op = .call { callee := .value f, args := args, argTypes := ts }) : execOp (ev vs) o = callV (ev vs f) (args.map (ev vs)) := by
  unfold execOp
  rw [ho]
  rfl

theorem operB_sound (hE : EOK cx.E x.P) (hG : GB cx.E x.B) (hX : ExtOK cx.E x.P) (hc : FcOK cx.E x.P c) (hrd : ro ≠ none → cx.rd = true) {g : Rg} (hb : operB cx nm o.op fc = some ⟨g⟩) (hg : g c l tm df h nx k = some rs)
    (hT : ∀ r ∈ rs, r ∈ x.T) (H : HR φ x.B h nx w) (O : OpsR φ (rho cx.W cx.nt nm l tm) a.tmps o.op.operands.toList) (D : DfR φ df a.defers)
    (go : Goes x fc c l tm k a φ h nx o.dst next) (goP : GoesP x (cx.pe c) tm df a φ h nx Q) : o.uponIn (FenceR ro) 0 x.P a next Q ((o.semAt ro a.eval).run x.P w) := by
  have GRw : GR cx.E w := H.globals hG
  have nodef : ∀ {kd : Kind}, kindOf cx.E o.op = kd → kd ≠ .defer → o.semAt ro a.eval = execOp (ev a.tmps) o := by
    intro kd hk hne
    rw [eval_ev]
    exact Oper.semAt_eq _ _ _ fun c hc => hne (by rw [← hk, hc]; rfl)
  unfold operB at hb
  split at hb
  · rename_i hk
    rw [nodef hk (by simp)]
    split at hb
    · rename_i q hq
      injection hb with hb
      injection hb with hb
      subst hb
      obtain ⟨v, h1, h2⟩ := ob_some hg
      obtain ⟨u, h3, h4⟩ := quiet_sound hE H GRw O (quietB_sound hq h1)
      rw [h3]
      exact go _ _ _ _ _ φ u w a h2 hT H h4 (Kept.refl _ _ _) D rfl
    · cases hb
  · rename_i hk
    rw [nodef hk (by simp)]
    injection hb with hb
    injection hb with hb
    subst hb
    obtain ⟨⟨ob', f⟩, h1, h2⟩ := ob_some hg
    have hn : φ nx = none := H.fresh nx (Nat.le_refl _)
    obtain ⟨y, w', v, h3, h4, h5⟩ := quiet_alloc hE (H.name ob') hn (by rw [Pos.val_succ]; omega) (Tr.get_set_same _ _ _) O h1
    rw [h3]
    refine go _ _ _ _ _ (φ.upd nx y) v w' a h2 hT h4 h5 ⟨Ph.le_upd _ hn, fun p hp hl => ?_, by rw [Pos.val_succ]; omega⟩ (D.mono (Ph.le_upd _ hn)) rfl
    have hne : p ≠ nx := fun e => by subst e; omega
    exact ⟨by rw [Ph.upd_ne _ _ hne]; exact hp, Tr.get_set_ne _ _ _ _ hne⟩
  · rename_i hk
    rw [nodef hk (by simp)]
    injection hb with hb
    injection hb with hb
    subst hb
    obtain ⟨outs, h1, h2⟩ := ob_some hg
    exact upon_EF (eff_sound hE H O h1) D h2 hT go
  · rename_i hk
    rw [nodef hk (by simp)]
    split at hb
    · rename_i f args ts ho
      have hops : ∀ y, y = f ∨ y ∈ args.toList → y ∈ o.op.operands.toList := by
        intro y hy
        rw [ho]
        simpa [Op.operands, Call.operands] using hy
      rw [exec_call ho, ops_map]
      split at hb
      · rename_i fn tag hx
        split at hb
        · rename_i as has
          injection hb with hb
          injection hb with hb
          subst hb
          obtain ⟨outs, h1, h2⟩ := ob_some hg
          have hv := rdsB_sound (l := l) (tm := tm) has (fun y hy => O y (hops y (.inr hy)))
          unfold extOf at hx
          split at hx
          · rename_i n hn
            split at hx
            · rename_i fn' tag' hfn htag
              injection hx with hx
              injection hx with hx1 hx2
              subst hx1 hx2
              have hf : f = .func n := by
                cases f <;> simp [fnOf] at hn
                rw [hn]
              subst hf
              exact upon_EF (hX _ _ _ _ _ _ _ hfn htag h1 _ _ _ _ H hv) D h2 hT go
            · cases hx
          · cases hx
        · cases hb
      · split at hb
        · rename_i gf as hf has
          injection hb with hb
          injection hb with hb
          subst hb
          obtain ⟨r1, h1, h2⟩ := ob_some hg
          have hv := rdsB_sound (l := l) (tm := tm) has (fun y hy => O y (hops y (.inr hy)))
          exact upon_call (hc _ _ _ _ _ h1 _ _ _ _ _ hG H (O f (hops f (.inl rfl)) _ (rho_of hf)) hv) D h2 hT go goP
        · cases hb
    · cases hb
  · rename_i hk
    split at hb
    · rename_i f args ts ho
      have hops : ∀ y, y = f ∨ y ∈ args.toList → y ∈ o.op.operands.toList := by
        intro y hy
        rw [ho]
        simpa [Op.operands, Call.operands] using hy
      split at hb
      · cases hb
      · rename_i hr
        have hro : ro = none := Classical.byContradiction fun hne => hr (hrd hne)
        subst hro
        split at hb
        · rename_i gf as hf has
          injection hb with hb
          injection hb with hb
          subst hb
          have hv := rdsB_sound (l := l) (tm := tm) has (fun y hy => O y (hops y (.inr hy)))
          have hfv := O f (hops f (.inl rfl)) _ (rho_of hf)
          rcases funC_some hg with ⟨fi, cap, e, h2⟩ | ⟨p, e, h2⟩
          · rw [e] at hfv
            simp only [VR] at hfv
            obtain ⟨cs, hcs, hcap⟩ := hfv
            have hrun : (o.semAt none a.eval).run x.P w = .ok (.defer { target := .fn (.func fi) cs.toArray, args := (args.toList.map (ev a.tmps)).toArray }) w := by
              rw [Oper.semAt_none, eval_ev]
              unfold execOp
              rw [ho]
              simp [resolve, Deferred.ofValue, hcs, ops_map]
            rw [hrun]
            refine go AV.undef _ _ _ _ φ undef w { a with defers := _ :: a.defers } h2 hT H (VR_undef _) (Kept.refl _ _ _) ?_ rfl
            refine ⟨_, _, args.toList.map (ev a.tmps) ++ cs, cs.toArray, rfl, rfl, by simp, ?_, D⟩
            rw [appL_eq]
            exact hv.append hcap
          · cases h2
        · cases hb
    · cases hb
  · rename_i hk
    rw [nodef hk (by simp)]
    split at hb
    · rename_i y ho
      split at hb
      · rename_i f hf
        injection hb with hb
        injection hb with hb
        subst hb
        obtain ⟨⟨t, v, e⟩, h2⟩ := ifaceC_some hg
        have hv := O y (by rw [ho]; simp [Op.operands]) _ (rho_of hf)
        have hv' := hv
        rw [e] at hv'
        simp only [VR] at hv'
        obtain ⟨u, hu, _⟩ := hv'
        have hrun : (execOp (ev a.tmps) o).run x.P w = .halt (.panic (ev a.tmps y)) w := by
          unfold execOp
          rw [ho]
          simp [Instr.panic, hu, goPanic]
        rw [hrun]
        exact goP _ _ _ _ φ _ w h2 hT H hv (Kept.refl _ _ _)
      · cases hb
    · cases hb
  · cases hb
end
end Go.AM
namespace Go.AM

def lP (dst : Option Tmp) (v : AV) (l : L) : L := match dst with | none => l | some _ => v :: l
def tP (W : Nat) (dst : Option Tmp) (v : AV) (tm : Slots) : Slots := match dst with | none => tm | some d => if kept W d = true then Slots.set d v tm else tm

def sP (dst : Option Tmp) (u : Value) (vs : Array Value) : Array Value := match dst with | some d => vs.setIfInBounds d u | none => vs

theorem contB_eq {cx : Cx} {dst : Option Tmp} {fr : Rg} {fc : VC} (h : contB cx dst fr = some ⟨fc⟩) : (∀ c v l tm df h nx k, fc c v l tm df h nx k = fr c (lP dst v l) (tP cx.W dst v tm) df h nx k) ∧ ∀ d, dst = some d → d < cx.nt := by
  unfold contB at h
  cases dst with
  | none =>
    injection h with h
    injection h with h
    subst h
    exact ⟨fun _ _ _ _ _ _ _ _ => rfl, fun d hd => by cases hd⟩
  | some d =>
    obtain ⟨h1, h2⟩ := bb_some_none h
    have hd : d < cx.nt := Nat.le_of_ble_eq_true h1
    refine ⟨?_, fun d' hd' => by injection hd' with hd'; rw [← hd']; exact hd⟩
    rcases bb_some h2 with ⟨h3, h4⟩ | ⟨h3, h4⟩
    · rw [unB_eq] at h4
      injection h4 with h4
      injection h4 with h4
      subst h4
      intro c v l tm df h nx k
      simp only [lP, tP, setB_eq, if_pos h3]
    · injection h4 with h4
      injection h4 with h4
      subst h4
      intro c v l tm df h nx k
      simp only [lP, tP, h3, Bool.false_eq_true, if_false]

theorem VR_bool {φ : Ph} {v : AV} {b : Bool} (h : VR φ v (.bool b)) : v = .bool b := by
  cases v <;> simp [VR, bytesVal] at h
  rw [h]

section
variable {cx : Cx} {nm : List Tmp} {l : L} {tm : Slots} {df : List Df} {h : Heap} {nx : Pos} {φ : Ph} {a : Act} {c : FC} {k : K} {fc : VC} {rs : List CR}

theorem guardB_sound {ops : Array Oper} {o : Oper} {g g' : Rg} (hb : guardB cx ops.toList nm o.guard g fc = some ⟨g'⟩) (hg : g' c l tm df h nx k = some rs)
    (hv : ∀ j want oj d f, o.guard = some (j, want) → ops[j]? = some oj → oj.dst = some d → rdB cx.W cx.nt nm (.tmp d) = some ⟨f⟩ → VR φ (f l tm) (a.tmps.getD d Go.undef)) :
    (Region.wanted o (yielded ops a.tmps) = true ∧ g c l tm df h nx k = some rs) ∨ (Region.wanted o (yielded ops a.tmps) = false ∧ fc c AV.undef l tm df h nx k = some rs) := by
  unfold guardB at hb
  unfold Region.wanted
  split at hb
  · rename_i e
    injection hb with hb
    injection hb with hb
    subst hb
    rw [e]
    exact .inl ⟨rfl, hg⟩
  · rename_i j want e
    split at hb
    · rename_i oj hj
      rw [nth?_eq, Array.getElem?_toList] at hj
      split at hb
      · rename_i d hd
        split at hb
        · rename_i f hf
          injection hb with hb
          injection hb with hb
          subst hb
          have hv := hv j want oj d f e hj hd hf
          have hy : yielded ops a.tmps j = (match f l tm with | .bool b => some b | _ => none) := by
            have e1 : ((ops[j]?).bind (·.dst)).bind (a.tmps[·]?) = a.tmps[d]? := by simp [hj, hd]
            simp only [yielded, e1]
            have e2 : a.tmps.getD d Go.undef = (a.tmps[d]?).getD Go.undef := by simp
            rw [e2] at hv
            cases ht : a.tmps[d]? with
            | none =>
              rw [ht] at hv
              have : ∀ b, f l tm ≠ .bool b := fun b hb => by
                rw [hb] at hv
                simp [VR, Go.undef] at hv
              cases hfl : f l tm <;> first | rfl | exact absurd hfl (this _)
            | some u =>
              rw [ht] at hv
              simp only [Option.getD_some] at hv
              cases hfl : f l tm with
              | bool b =>
                rw [hfl] at hv
                simp only [VR] at hv
                rw [hv]
              | _ =>
                have : ∀ b, u ≠ .bool b := fun b hb => by
                  rw [hb] at hv
                  have := VR_bool hv
                  rw [hfl] at this
                  cases this
                cases u <;> first | rfl | exact absurd rfl (this _)
          rw [e]
          simp only [hy]
          dsimp only at hg
          cases hfl : f l tm with
          | bool b =>
            rw [hfl] at hg
            cases b <;> cases want <;> first | exact .inl ⟨rfl, hg⟩ | exact .inr ⟨rfl, hg⟩
          | _ =>
            rw [hfl] at hg
            exact .inr ⟨rfl, hg⟩
        · cases hb
      · cases hb
    · cases hb

theorem EI.putL {D : Tmp → Prop} {W nt : Nat} {vs : Array Value} (I : EI φ D W nt nm l tm vs) {dst : Option Tmp} (hd : ∀ d, dst = some d → d < nt) {v : AV} {u : Value} (hv : VR φ v u) :
    EI φ (fun t => D t ∧ dst ≠ some t) W nt (namesOf nm dst) (lP dst v l) (tP W dst v tm) (sP dst u vs) := by
  cases dst with
  | none => exact I.weaken fun t ht => ⟨ht, by simp⟩
  | some d => exact (I.put (hd d rfl) hv).weaken fun t ht => ⟨ht.1, fun e => ht.2 (by injection e with e; exact e.symm)⟩

theorem EI.vr {D : Tmp → Prop} {W nt : Nat} {vs : Array Value} (I : EI φ D W nt nm l tm vs) {t : Tmp} {f : Rd} (h : rdB W nt nm (.tmp t) = some ⟨f⟩) (hD : ¬ D t) : VR φ (f l tm) (vs.getD t Go.undef) :=
  I.read h fun u hu => by injection hu with hu; rw [← hu]; exact hD

variable {x : Fx} {ro : Option Nat} {o : Oper} {ops : Array Oper} {w : World} {next : Act → World → Prop} {Q : Exit → Act → World → Prop} {fr g : Rg}

theorem put_tmps (a : Act) (dst : Option Tmp) (u : Value) : (a.put dst u).tmps = sP dst u a.tmps := by cases dst <;> rfl
theorem put_defers (a : Act) (dst : Option Tmp) (u : Value) : (a.put dst u).defers = a.defers := by cases dst <;> rfl

/-- One operation, on the way. -/
theorem stepB_sound {D : Tmp → Prop} (hE : EOK cx.E x.P) (hG : GB cx.E x.B) (hX : ExtOK cx.E x.P) (hc : FcOK cx.E x.P c) (hrd : ro ≠ none → cx.rd = true)
    (hs : stepB cx ops.toList nm o fr = some ⟨g⟩) (hg : g c l tm df h nx k = some rs) (hT : ∀ r ∈ rs, r ∈ x.T) (H : HR φ x.B h nx w) (I : EI φ D cx.W cx.nt nm l tm a.tmps) (Df' : DfR φ df a.defers)
    (hD : ∀ t, .tmp t ∈ o.op.operands.toList → ¬ D t) (hDg : ∀ j want oj d, o.guard = some (j, want) → ops[j]? = some oj → oj.dst = some d → ¬ D d)
    (go : Goes x (fun c v l tm df h nx k => fr c (lP o.dst v l) (tP cx.W o.dst v tm) df h nx k) c l tm k a φ h nx o.dst next)
    (goP : GoesP x (cx.pe c) tm df a φ h nx Q) :
    if Region.wanted o (yielded ops a.tmps) = true then o.wpIn (FenceR ro) 0 x.P a w next Q else (∀ f, o.about x.P w a.eval = some f → (FenceR ro).fn f) ∧ next (a.put o.dst undef) w := by
  unfold stepB at hs
  split at hs
  · rename_i fc hfc
    obtain ⟨he, _⟩ := contB_eq hfc
    split at hs
    · rename_i g₀ hop
      rcases guardB_sound (a := a) (φ := φ) hs hg (fun j want oj d f h1 h2 h3 h4 => I.vr h4 (hDg j want oj d h1 h2 h3)) with ⟨hw, h1⟩ | ⟨hw, h1⟩
      · rw [if_pos hw]
        refine ⟨fun _ _ => trivial, ?_⟩
        refine operB_sound hE hG hX hc hrd hop h1 hT H (I.rho hD) Df' ?_ goP
        intro v df' h' nx' rs' φ' u w' a' e1
        rw [he] at e1
        exact go v df' h' nx' rs' φ' u w' a' e1
      · rw [if_neg (by rw [hw]; simp)]
        rw [he] at h1
        exact ⟨fun _ _ => trivial, go AV.undef _ _ _ _ φ undef w a h1 hT H (VR_undef _) (Kept.refl _ _ _) Df' rfl⟩
    · cases hs
  · cases hs

theorem EI.tr {D : Tmp → Prop} {W nt : Nat} {vs : Array Value} (I : EI φ D W nt nm l tm vs) (h : ∀ t, ¬ D t) : TR φ W nt tm vs := ⟨I.size, I.most, fun t h1 h2 => I.slot t h1 h2 (h t)⟩
theorem EI.of_tr {W nt : Nat} {vs : Array Value} (T : TR φ W nt tm vs) : EI φ (fun _ => False) W nt [] [] tm vs :=
  ⟨T.1, T.2.1, rfl, fun _t _i h => (nomatch h), fun t h1 h2 _ => T.2.2 t h1 h2, fun _t _i h => (nomatch h), fun _t _i h => (nomatch h)⟩

/-- A region's operations, one after the other. -/
theorem opsB_sound (hW : cx.W = x.W) (hnt : cx.nt = x.nt) (hE : EOK cx.E x.P) (hG : GB cx.E x.B) (hX : ExtOK cx.E x.P) (hc : FcOK cx.E x.P c) (hrd : ro ≠ none → cx.rd = true) {kx : KX} :
    ∀ (r pre : List Oper) (nm : List Tmp) (l : L) (g : Rg) (tm : Slots) (df : List Df) (h : Heap) (nx : Pos) (φ : Ph) (a : Act) (w : World) (rs : List CR), ops.toList = pre ++ r → opsB cx ops.toList r nm = some ⟨g⟩ → g c l tm df h nx k = some rs → (∀ r ∈ rs, r ∈ x.T) →
      HR φ x.B h nx w → EI φ (fun _ => False) cx.W cx.nt nm l tm a.tmps → DfR φ df a.defers → Kept x.φ x.h x.nx φ h nx →
      wpOpsIn (FenceR ro) 0 x.P ops (Post x k kx (cx.pe c)) (List.range' pre.length r.length) a w
  | [], pre, nm, l, g, tm, df, h, nx, φ, a, w, rs, e, hb, hg, hT, H, I, Df', Kp => by
    simp only [opsB] at hb
    injection hb with hb
    injection hb with hb
    subst hb
    refine ⟨φ, tm, df, h, nx, rs, hg, hT, ?_, Df', H, Kp⟩
    rw [← hW, ← hnt]
    exact I.tr fun _ h => h
  | o :: r, pre, nm, l, g, tm, df, h, nx, φ, a, w, rs, e, hb, hg, hT, H, I, Df', Kp => by
    simp only [opsB] at hb
    split at hb
    · rename_i fr hfr
      have ho : ops[pre.length]? = some o := by
        rw [← Array.getElem?_toList, e]
        simp
      have hdst : ∀ d, o.dst = some d → d < cx.nt := by
        unfold stepB at hb
        split at hb
        · rename_i fc hfc
          exact (contB_eq hfc).2
        · cases hb
      have st := stepB_sound (next := wpOpsIn (FenceR ro) 0 x.P ops (Post x k kx (cx.pe c)) (List.range' (pre.length + 1) r.length)) (Q := Post x k kx (cx.pe c)) hE hG hX hc hrd hb hg hT H I Df' (fun _ _ h => h) (fun _ _ _ _ _ _ _ h => h)
        (by
          intro v df' h' nx' rs' φ' u w' a' e1 hT' H' hv Kp' D' ha
          have := opsB_sound hW hnt hE hG hX hc hrd (kx := kx) r (pre ++ [o]) _ _ fr _ df' h' nx' φ' (a'.put o.dst u) w' rs' (by rw [e]; simp) hfr e1 hT' H'
            (by
              rw [put_tmps, ha]
              have I' := (I.mono Kp'.le).putL hdst hv
              exact I'.weaken (by intro t ht; exact ht.1))
            (by rw [put_defers]; exact D') (Kp.trans Kp')
          simpa using this)
        (by
          intro v h' nx' rs' φ' u w' e1 hT' H' hv Kp'
          refine ⟨φ', v, u, tm, df, h', nx', rs', rfl, hv, e1, hT', .inl ?_, Df'.mono Kp'.le, H', Kp.trans Kp'⟩
          rw [← hW, ← hnt]
          exact (I.mono Kp'.le).tr fun _ h => h)
      rw [List.length_cons, List.range'_succ]
      simp only [wpOpsIn, ho]
      exact st
    · cases hb
end
end Go.AM
namespace Go.AM
section
variable {cx : Cx} {c : FC} {x : Fx} {ro : Option Nat}

/-- Regions that draw their order, as the evaluator takes them. -/
def DrawnOK (x : Fx) (cx : Cx) (c : FC) (ro : Option Nat) : Prop :=
  ∀ (id : Nat) (ops : Array Oper) (g : Rg) (tm : Slots) (df : List Df) (h : Heap) (nx : Pos) (k : K) (kx : KX) (φ : Ph) (a : Act) (w : World) (rs : List CR), drawnB cx ops.toList = some ⟨g⟩ → g c [] tm df h nx k = some rs → (∀ r ∈ rs, r ∈ x.T) →
    TR φ x.W x.nt tm a.tmps → DfR φ df a.defers → HR φ x.B h nx w → Kept x.φ x.h x.nx φ h nx → (Code.region id ops true).wpIn (FenceR ro) 0 x.P (Post x k kx (cx.pe c)) a w
/-- Ranges over a function. -/
def RangeOK (x : Fx) (cx : Cx) (c : FC) (ro : Option Nat) : Prop :=
  ∀ (g : Operand) (ps : Array Tmp) (as bd : Code) (f : Cd) (tm : Slots) (df : List Df) (h : Heap) (nx : Pos) (kn : K) (kx : KX) (φ : Ph) (a : Act) (w : World) (rs : List CR), codeB cx (.rangeFunc g ps as bd) = some ⟨f⟩ → f c tm df h nx kn kx = some rs → (∀ r ∈ rs, r ∈ x.T) →
    TR φ x.W x.nt tm a.tmps → DfR φ df a.defers → HR φ x.B h nx w → Kept x.φ x.h x.nx φ h nx → (Code.rangeFunc g ps as bd).wpIn (FenceR ro) 0 x.P (Post x kn kx (cx.pe c)) a w

theorem least {p : Nat → Prop} (h : ∃ n, p n) : ∃ n, p n ∧ ∀ m, p m → n ≤ m := by
  obtain ⟨n, hn⟩ := h
  induction n using Nat.strongRecOn with
  | _ n ih =>
    by_cases e : ∃ m, m < n ∧ p m
    · obtain ⟨m, h1, h2⟩ := e
      exact ih m h1 h2
    · exact ⟨n, hn, fun m hm => Nat.le_of_not_lt fun hl => e ⟨m, hl, hm⟩⟩
open Classical in
noncomputable def leastN (p : Nat → Prop) : Nat := if h : ∃ n, p n then Classical.choose (least h) else 0
theorem leastN_spec {p : Nat → Prop} (h : ∃ n, p n) : p (leastN p) ∧ ∀ m, p m → leastN p ≤ m := by
  unfold leastN
  rw [dif_pos h]
  exact Classical.choose_spec (least h)

theorem codeB_sound (hW : cx.W = x.W) (hnt : cx.nt = x.nt) (hE : EOK cx.E x.P) (hG : GB cx.E x.B) (hX : ExtOK cx.E x.P) (hc : FcOK cx.E x.P c) (hrd : ro ≠ none → cx.rd = true) (hdr : DrawnOK x cx c ro) (hrg : RangeOK x cx c ro) (cd : Code) :
    ∀ (f : Cd) (tm : Slots) (df : List Df) (h : Heap) (nx : Pos) (kn : K) (kx : KX) (φ : Ph) (a : Act) (w : World) (rs : List CR), codeB cx cd = some ⟨f⟩ → f c tm df h nx kn kx = some rs → (∀ r ∈ rs, r ∈ x.T) →
      TR φ x.W x.nt tm a.tmps → DfR φ df a.defers → HR φ x.B h nx w → Kept x.φ x.h x.nx φ h nx → cd.wpIn (FenceR ro) 0 x.P (Post x kn kx (cx.pe c)) a w := by
  induction cd with
  | skip =>
    intro f tm df h nx kn kx φ a w rs hb hg hT T D H Kp
    simp only [codeB] at hb
    injection hb with hb
    injection hb with hb
    subst hb
    exact wpIn_skip ⟨φ, tm, df, h, nx, rs, hg, hT, T, D, H, Kp⟩
  | label n =>
    intro f tm df h nx kn kx φ a w rs hb hg hT T D H Kp
    simp only [codeB] at hb
    injection hb with hb
    injection hb with hb
    subst hb
    exact wpIn_label ⟨φ, tm, df, h, nx, rs, hg, hT, T, D, H, Kp⟩
  | region id ops draws =>
    intro f tm df h nx kn kx φ a w rs hb hg hT T D H Kp
    cases draws with
    | false =>
      simp only [codeB] at hb
      split at hb
      · rename_i g hgb
        injection hb with hb
        injection hb with hb
        subst hb
        refine wpIn_region ?_
        have := opsB_sound hW hnt hE hG hX hc hrd (kx := kx) ops.toList [] [] [] g tm df h nx φ a w rs rfl hgb hg hT H (by rw [hW, hnt]; exact EI.of_tr T) D Kp
        rw [List.range_eq_range']
        simpa using this
      · cases hb
    | true =>
      simp only [codeB] at hb
      split at hb
      · rename_i g hgb
        injection hb with hb
        injection hb with hb
        subst hb
        exact hdr id ops g tm df h nx kn kx φ a w rs hgb hg hT T D H Kp
      · cases hb
  | seq a b iha ihb =>
    intro f tm df h nx kn kx φ ac w rs hb hg hT T D H Kp
    simp only [codeB] at hb
    split at hb
    · rename_i fa fb ha hb'
      injection hb with hb
      injection hb with hb
      subst hb
      refine wpIn_seq (wpIn_mono (iha fa tm df h nx _ kx φ ac w rs ha hg hT T D H Kp) fun e a' w' q => ?_)
      cases e with
      | normal =>
        obtain ⟨φ', tm', df', h', nx', rs', g1, g2, g3, g4, g5, g6⟩ := q
        exact ihb fb tm' df' h' nx' kn kx φ' a' w' rs' hb' g1 g2 g3 g4 g5 g6
      | _ => exact q
    · cases hb
  | cond y a b iha ihb =>
    intro f tm df h nx kn kx φ ac w rs hb hg hT T D H Kp
    simp only [codeB] at hb
    split at hb
    · rename_i fy fa fb hy ha hb'
      injection hb with hb
      injection hb with hb
      subst hb
      obtain ⟨t, e, h2⟩ := boolC_some hg
      have hv : VR φ (fy [] tm) (ev ac.tmps y) := (EI.of_tr (W := cx.W) (nt := cx.nt) (by rw [hW, hnt]; exact T)).read hy (fun _ _ h => h)
      rw [e] at hv
      simp only [VR] at hv
      refine wpIn_cond (t := t) (by rw [eval_ev]; exact hv) ?_
      cases t with
      | true => exact iha fa tm df h nx kn kx φ ac w rs ha h2 hT T D H Kp
      | false => exact ihb fb tm df h nx kn kx φ ac w rs hb' h2 hT T D H Kp
    · cases hb
  | block id b ih =>
    intro f tm df h nx kn kx φ ac w rs hb hg hT T D H Kp
    simp only [codeB] at hb
    split at hb
    · rename_i fb hb'
      injection hb with hb
      injection hb with hb
      subst hb
      refine wpIn_block (wpIn_mono (ih fb tm df h nx kn _ φ ac w rs hb' hg hT T D H Kp) fun e a' w' q => ?_)
      cases e with
      | exit id' =>
        simp only [Exit.inBlock]
        have q' : Fits x (bb (Nat.beq (id' + 1) (Nat.succ id)) kn (kx (id' + 1))) a' w' := q
        by_cases he : id' = id
        · rw [if_pos he]
          subst he
          rw [Nat.beq_refl] at q'
          exact q'
        · rw [if_neg he]
          have : Nat.beq (id' + 1) (Nat.succ id) = false := by
            rw [Bool.eq_false_iff]
            exact fun e => he (by have := Nat.eq_of_beq_eq_true e; omega)
          rw [this] at q'
          exact q'
      | ret =>
        have q' : Fits x (bb (Nat.beq 0 (Nat.succ id)) kn (kx 0)) a' w' := q
        exact q'
      | _ => exact q
    · cases hb
  | loop b ih =>
    intro f tm df h nx kn kx φ ac w rs hb hg hT T D H Kp
    simp only [codeB] at hb
    split at hb
    · rename_i fb hb'
      injection hb with hb
      injection hb with hb
      subst hb
      let I : Act → World → Nat → Prop := fun a w n => Fits x (fun tm df h nx => iterC fb n c tm df h nx kn kx) a w
      refine wpIn_loop (fun a w => ∃ n, I a w n) (fun a w => leastN (I a w)) ⟨1000000, φ, tm, df, h, nx, rs, hg, hT, T, D, H, Kp⟩ ?_
      intro a w hI
      have hf := (leastN_spec hI).1
      revert hf
      cases hn : leastN (I a w) with
      | zero =>
        rintro ⟨φ', tm', df', h', nx', rs', g1, _⟩
        cases g1
      | succ m =>
        rintro ⟨φ', tm', df', h', nx', rs', g1, g2, g3, g4, g5, g6⟩
        refine wpIn_mono (ih fb tm' df' h' nx' _ kx φ' a w rs' hb' g1 g2 g3 g4 g5 g6) fun e a' w' q => ?_
        cases e with
        | normal =>
          have hx : ∃ n, I a' w' n := ⟨m, q⟩
          refine ⟨hx, ?_⟩
          exact Nat.lt_succ_of_le ((leastN_spec hx).2 m q)
        | _ => exact q
    · cases hb
  | exit id =>
    intro f tm df h nx kn kx φ a w rs hb hg hT T D H Kp
    simp only [codeB] at hb
    injection hb with hb
    injection hb with hb
    subst hb
    exact wpIn_exit ⟨φ, tm, df, h, nx, rs, hg, hT, T, D, H, Kp⟩
  | ret =>
    intro f tm df h nx kn kx φ a w rs hb hg hT T D H Kp
    simp only [codeB] at hb
    injection hb with hb
    injection hb with hb
    subst hb
    exact wpIn_ret ⟨φ, tm, df, h, nx, rs, hg, hT, T, D, H, Kp⟩
  | rangeFunc g ps as bd _ _ =>
    intro f tm df h nx kn kx φ a w rs hb hg hT T D H Kp
    exact hrg g ps as bd f tm df h nx kn kx φ a w rs hb hg hT T D H Kp
  | _ =>
    intro f tm df h nx kn kx φ a w rs hb hg hT T D H Kp
    simp only [codeB] at hb
    injection hb with hb
    injection hb with hb
    subst hb
    cases hg
end
end Go.AM
