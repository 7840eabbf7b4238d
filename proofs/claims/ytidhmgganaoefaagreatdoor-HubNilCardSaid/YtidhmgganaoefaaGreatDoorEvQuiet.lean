/-
  Quiet operations; the heap; what is made; stores. The operations that change nothing: put together. The heap on both sides: a new name, a place for it, a write, a name struck. Operations that make a thing of their own. Operations that change what is there.
-/
import Derived.Test.YtidhmgganaoefaaGreatDoorEvOps
import Derived.Laws.MakeOwn
import Derived.Great.BuildSlice
import Derived.Laws.NewFold
namespace Go.AM
section
variable {E : Env} {P : Program} {φ : Ph} {w₀ : Base} {w : World} {h : Heap} {nx : Pos}

theorem liesA_mem {e o u : Nat} : ∀ {l : List (TypeId × Nat × TypeId)}, liesA e o u l = true → (e, o, u) ∈ l
  | [], h => by simp [liesA] at h
  | (a, b, c) :: l, h => by
    unfold liesA at h
    split at h
    · rename_i hc
      simp only [Bool.and_eq_true] at hc
      obtain ⟨⟨h1, h2⟩, h3⟩ := hc
      rw [Nat.eq_of_beq_eq_true h1, Nat.eq_of_beq_eq_true h2, Nat.eq_of_beq_eq_true h3]
      exact .head _
    · exact .tail _ (liesA_mem h)

/-- An operation that gives a value and changes nothing. -/
def QN (P : Program) (φ : Ph) (w : World) (s : Sem Next) (r : AV) : Prop := ∃ v, s.run P w = .ok (.value v) w ∧ VR φ r v
theorem QS.next {s : Sem Value} {r : AV} (q : QS P φ w s r) : QN P φ w (do pure (.value (← s))) r := by
  obtain ⟨v, h1, h2⟩ := q
  exact ⟨v, by simp [h1], h2⟩
theorem QN.pure {v : Value} {r : AV} (hv : VR φ r v) : QN P φ w (Pure.pure (.value v)) r := ⟨v, rfl, hv⟩

theorem quiet_load (hE : EOK E P) (H : HR φ w₀ h nx w) (G : GR E w) {ρ : Rho} {vs : Array Value} {t : TypeId} {a : Operand} {r : AV} (O : OpsR φ ρ vs [a]) (hq : quietA E ρ h (.load t a) = some r) : QS P φ w (Instr.loadAt t (ev vs a)) r := by
  simp only [quietA] at hq
  split at hq
  · rename_i p hp
    exact load_sound hE H G hq (O a (by simp) p hp)
  · cases hq

theorem quiet_bin (hE : EOK E P) {ρ : Rho} {vs : Array Value} {op : BinOp} {t t' : TypeId} {x y : Operand} {r : AV} (O : OpsR φ ρ vs [x, y]) (hq : quietA E ρ h (.binOp op t x y t') = some r) :
    QS P φ w (do eqGuard op t x y (ev vs x) (ev vs y); binOp op t (ev vs x) (ev vs y)) r := by
  simp only [quietA, qBin] at hq
  split at hq
  · rename_i hx hy
    split at hq
    · rename_i c
      exact binOp_sound hE hq (O _ (by simp) _ hx) (O _ (by simp) _ hy) fun _ _ => ⟨c, rfl⟩
    · cases hq
  · rename_i a b hn hx hy
    exact binOp_sound hE hq (O _ (by simp) _ hx) (O _ (by simp) _ hy) fun e1 e2 => (hn e1 e2).elim
  · cases hq

theorem quiet_convert (hE : EOK E P) (H : HR φ w₀ h nx w) (G : GR E w) {ρ : Rho} {vs : Array Value} {src dst : TypeId} {x : Operand} {r : AV} (O : OpsR φ ρ vs [x]) (hq : quietA E ρ h (.convert src dst x) = some r) :
    QS P φ w (convert src dst (ev vs x)) r := by
  simp only [quietA, qConvert] at hq
  split at hq
  · rename_i hs hd hx
    injection hq with hq
    subst hq
    have hv := O x (by simp) _ hx
    simp only [VR] at hv
    rw [hv]
    exact ⟨_, convert_int_sound hE hs hd rfl, by simp only [VR]⟩
  · rename_i hs hd hx
    have hv := O x (by simp) _ hx
    split at hq
    · cases hq
    · rename_i hu
      have hu' := hu
      rw [Bool.not_eq_true, Bool.not_eq_false'] at hu'
      split at hq
      · injection hq with hq
        subst hq
        simp only [VR] at hv
        rw [hv]
        exact convert_bytes_nil_sound hE hs hd rfl rfl hu'
      · split at hq
        · rename_i l hl
          split at hq
          · rename_i r' hr'
            split at hq
            · rename_i s hs'
              injection hq with hq
              subst hq
              exact convert_bytes_sound hE H G hs hd rfl rfl hu' hv hl hr' hs'
            · cases hq
          · cases hq
        · cases hq
      · cases hq
  · rename_i hs hd hx
    have hv := O x (by simp) _ hx
    split at hq
    · rename_i ht hg
      split at hq
      · rename_i ho
        split at hq
        · cases hq
        · rename_i hz
          injection hq with hq
          subst hq
          have ho' := ho
          rw [Nat.blt_eq, lenL_eq] at ho'
          exact to_unsafe_sound hE H hs hd rfl rfl ht (fun e => hz (by rw [e]; rfl)) hg (by omega) hv
      · cases hq
    · cases hq
  · rename_i hs hd hx
    have hv := O x (by simp) _ hx
    split at hq
    · rename_i hg
      split at hq
      · rename_i he
        split at hq
        · rename_i hl
          split at hq
          · rename_i hz
            split at hq
            · rename_i hlie
              injection hq with hq
              subst hq
              have hl' := Nat.eq_of_beq_eq_true hl
              rw [lenL_eq] at hl'
              rw [Nat.blt_eq] at hz
              obtain ⟨h1, h2⟩ := hE.lies _ (liesA_mem hlie)
              exact from_unsafe_sound hE H hs hd rfl rfl hg he (by omega) hz h2 h1 hv
            · cases hq
          · cases hq
        · cases hq
      · cases hq
    · cases hq
  · cases hq

theorem quiet_fieldAddr (hE : EOK E P) {ρ : Rho} {vs : Array Value} {s : TypeId} {x : Operand} {f : Nat} {r : AV} (O : OpsR φ ρ vs [x]) (hq : quietA E ρ h (.fieldAddr s x f) = some r) : QS P φ w (Instr.fieldAt s (ev vs x) f) r := by
  simp only [quietA, qFieldAddr] at hq
  split at hq
  · rename_i hs hx
    have hv := O x (by simp) _ hx
    split at hq
    · rename_i off t hf
      split at hq
      · rename_i j hj
        split at hq
        · cases hq
        · rename_i hz
          have hz' : ∃ j, E.ty t = some j ∧ j.size ≠ 0 := ⟨j, hj, fun e => hz (by rw [e]; rfl)⟩
          split at hq
          · injection hq with hq
            subst hq
            simp only [VR] at hv
            obtain ⟨k, b, S, e1, e2⟩ := hv
            exact ⟨_, fieldAddr_sound (_a := .nilptr) hE hs rfl hf e2 hz', by simp only [VR]; exact ⟨k, b, S, e1, by rw [Nat.add_assoc]; rfl⟩⟩
          · injection hq with hq
            subst hq
            simp only [VR] at hv
            exact ⟨_, fieldAddr_sound (_a := .nilptr) hE hs rfl hf hv hz', by simp only [VR]; rfl⟩
          · cases hq
      · cases hq
    · cases hq
  · cases hq

theorem quiet_field (hE : EOK E P) {ρ : Rho} {vs : Array Value} {s : TypeId} {x : Operand} {f : Nat} {r : AV} (O : OpsR φ ρ vs [x]) (hq : quietA E ρ h (.field s x f) = some r) : QS P φ w (Instr.field s (ev vs x) f) r := by
  simp only [quietA, qField] at hq
  split at hq
  · rename_i hs hx
    have hv := O x (by simp) _ hx
    split at hq
    · rename_i off t hf
      split at hq
      · rename_i j hj
        exact field_sound hE hs rfl hf hj hv hq
      · cases hq
    · cases hq
  · cases hq

theorem quiet_indexAddr (hE : EOK E P) {ρ : Rho} {vs : Array Value} {t : TypeId} {x i : Operand} {r : AV} (O : OpsR φ ρ vs [x, i]) (hq : quietA E ρ h (.indexAddr t x i) = some r) : QS P φ w (Instr.indexAt t (ev vs x) (ev vs i)) r := by
  simp only [quietA, qIndexAddr] at hq
  split at hq
  · rename_i hs hx hi
    have hv := O x (by simp) _ hx
    have hiv := O i (by simp) _ hi
    split at hq
    · rename_i k ei hk he
      obtain ⟨kd, hkd⟩ := asInt_nat hk hiv
      rw [hkd]
      split at hq
      · rename_i hlt
        rw [Nat.blt_eq] at hlt
        split at hq
        · injection hq with hq
          subst hq
          simp only [VR] at hv
          obtain ⟨k', b, S, e1, e2⟩ := hv
          rw [e2]
          exact ⟨_, indexAddr_array_sound hE hs rfl he hlt, by simp only [VR]; exact ⟨k', b, S, e1, by rw [Nat.add_assoc]; rfl⟩⟩
        · injection hq with hq
          subst hq
          simp only [VR] at hv
          rw [hv]
          exact ⟨_, indexAddr_array_sound hE hs rfl he hlt, by simp only [VR]; rfl⟩
        · cases hq
      · cases hq
    · cases hq
  · rename_i hs hx hi
    have hv := O x (by simp) _ hx
    have hiv := O i (by simp) _ hi
    split at hq
    · rename_i k ei hk he
      obtain ⟨kd, hkd⟩ := asInt_nat hk hiv
      rw [hkd]
      split at hq
      · rename_i hlt
        rw [Nat.blt_eq] at hlt
        split at hq
        · rename_i hsz
          have hsz' := Nat.eq_of_beq_eq_true hsz
          injection hq with hq
          subst hq
          simp only [VR] at hv
          obtain ⟨k', b, S, cap, e1, e2, _⟩ := hv
          rw [e2]
          exact ⟨_, indexAddr_slice_sound hE hs rfl he hlt, by simp only [VR]; exact ⟨k', b, S, e1, by rw [Nat.add_assoc, hsz']; rfl⟩⟩
        · cases hq
      · cases hq
    · cases hq
  · cases hq

theorem quiet_index (hE : EOK E P) {ρ : Rho} {vs : Array Value} {t : TypeId} {x i : Operand} {r : AV} (O : OpsR φ ρ vs [x, i]) (hq : quietA E ρ h (.index t x i) = some r) : QS P φ w (Instr.index t (ev vs x) (ev vs i)) r := by
  simp only [quietA, qIndex] at hq
  split at hq
  · rename_i hs hx hi
    have hv := O x (by simp) _ hx
    have hiv := O i (by simp) _ hi
    split at hq
    · rename_i k ei hk he
      obtain ⟨kd, hkd⟩ := asInt_nat hk hiv
      rw [hkd]
      split at hq
      · rename_i hlt
        rw [Nat.blt_eq] at hlt
        exact index_array_sound hE hs rfl he hlt hv hq
      · cases hq
    · cases hq
  · rename_i hs hx hi
    have hv := O x (by simp) _ hx
    have hiv := O i (by simp) _ hi
    split at hq
    · rename_i k hk
      obtain ⟨kd, hkd⟩ := asInt_nat hk hiv
      rw [hkd]
      split at hq
      · rename_i c hc
        injection hq with hq
        subst hq
        simp only [VR] at hv
        obtain ⟨e1, e2⟩ := hv
        rw [e1]
        exact ⟨_, index_string_sound hE hs rfl hc e2, by simp only [VR]⟩
      · cases hq
    · cases hq
  · cases hq

theorem takeL_sub {n : Nat} {l r : List Nat} {m : Nat} (h : takeL n (dropL m l) = some r) (hl : ∀ x ∈ l, x < 256) : ∀ x ∈ r, x < 256 := by
  obtain ⟨_, rfl⟩ := takeL_eq _ _ _ h
  intro x hx
  rw [dropL_eq] at hx
  exact hl x (List.mem_of_mem_drop (List.mem_of_mem_take hx))

theorem quiet_slice (hE : EOK E P) {ρ : Rho} {vs : Array Value} {t : TypeId} {x : Operand} {lo hi : Option Operand} {r : AV} (O : OpsR φ ρ vs (x :: (lo.toList ++ hi.toList))) (hq : quietA E ρ h (.slice t x lo hi none) = some r) :
    QS P φ w (Instr.sliceAt t (ev vs x) (lo.map (ev vs)) (hi.map (ev vs)) none) r := by
  have O' : OpsR φ ρ vs (lo.toList ++ hi.toList) := fun y hy => O y (.tail _ hy)
  simp only [quietA, qSlice] at hq
  split at hq
  · rename_i hs hx
    have hv := O x (by simp) _ hx
    split at hq
    · rename_i l m hb
      split at hq
      · rename_i r' hr
        injection hq with hq
        subst hq
        simp only [VR] at hv
        obtain ⟨e1, e2⟩ := hv
        rw [e1]
        exact ⟨_, slice_string_sound hE hs rfl hb O' hr, by simp only [VR]; exact ⟨trivial, takeL_sub hr e2⟩⟩
      · cases hq
    · cases hq
  · rename_i hs hx
    have hv := O x (by simp) _ hx
    split at hq
    · rename_i l m ei hb he
      split at hq
      · rename_i hlt
        rw [Nat.blt_eq] at hlt
        split at hq
        · rename_i hsz
          injection hq with hq
          subst hq
          exact slice_slice_sound hE hs rfl he hb O' hlt (Nat.eq_of_beq_eq_true hsz) hv
        · cases hq
      · cases hq
    · cases hq
  · rename_i hs hx
    have hv := O x (by simp) _ hx
    split at hq
    · rename_i lm ei hb he
      injection hq with hq
      subst hq
      simp only [VR] at hv
      rw [hv]
      exact ⟨_, slice_nil_sound hE hs rfl he hb O', by simp only [VR]⟩
    · cases hq
  · cases hq

theorem quiet_lookup (hE : EOK E P) (H : HR φ w₀ h nx w) {ρ : Rho} {vs : Array Value} {t : TypeId} {m k : Operand} {ok : Bool} {r : AV} (O : OpsR φ ρ vs [m, k]) (hq : quietA E ρ h (.lookup t m k ok) = some r) :
    QS P φ w (Instr.lookup t (ev vs m) (ev vs k) ok) r := by
  simp only [quietA, qLookup] at hq
  split at hq
  · rename_i hs hm hk
    have hv := O m (by simp) _ hm
    have hkv := O k (by simp) _ hk
    split at hq
    · cases hq
    · rename_i hkey
      rw [Bool.not_eq_true, Bool.not_eq_false'] at hkey
      split at hq
      · rename_i es hes
        split at hes
        · injection hes with hes
          subst hes
          simp only [VR] at hv
          exact lookup_sound hE hs rfl hkey hkv (es := []) (.inl ⟨hv, rfl⟩) ⟨rfl, fun i k v h => by simp at h⟩ hq
        · obtain ⟨k', en, es', e1, e2, e3, e4⟩ := ents_at H hes hv
          refine lookup_sound hE hs rfl hkey hkv (es := es') (.inr ⟨k', _, e1, e2⟩) e3 ?_
          split at hq
          · rename_i hf; rw [ents_find e4 hf]; exact hq
          · rename_i hf; rw [ents_find e4 hf]; exact hq
          · cases hq
        · cases hes
      · cases hq
  · cases hq

theorem quiet_build (hE : EOK E P) {ρ : Rho} {vs : Array Value} {t : TypeId} {parts : Array (Nat × Operand)} {r : AV} (O : OpsR φ ρ vs (parts.toList.map (·.2))) (hq : quietA E ρ h (.build t parts) = some r) :
    QS P φ w (Instr.build t (parts.map fun (i, x) => (i, ev vs x))) r := by
  simp only [quietA, qBuild] at hq
  split at hq
  · rename_i i ps hi hps
    split at hq
    · rename_i fs hd
      split at hq
      · rename_i places hpl
        split at hq
        · rename_i cs hcs
          injection hq with hq
          subst hq
          exact build_struct_sound hE hi hd hps O hpl hcs
        · cases hq
      · cases hq
    · rename_i n e hd
      split at hq
      · rename_i ei he
        split at hq
        · rename_i cs hcs
          injection hq with hq
          subst hq
          exact build_array_sound hE hi hd he hps O hcs
        · cases hq
      · cases hq
    · cases hq
  · cases hq

theorem argD_ne (hE : EOK E P) {ts : Array TypeId} {D : TD} (h : argD E ts.toList = D) (hD : D ≠ .other) : ∃ t d, ts[0]? = some t ∧ P.underlying t = some d ∧ DR D d := by
  cases hts : ts.toList with
  | nil => rw [hts] at h; simp [argD] at h; exact absurd h.symm hD
  | cons t l =>
    rw [hts] at h
    simp only [argD] at h
    split at h
    · rename_i i hi
      obtain ⟨d, h1, h2⟩ := hE.desc hi
      refine ⟨t, d, ?_, h1, h ▸ h2⟩
      rw [← Array.getElem?_toList, hts]
      rfl
    · exact absurd h.symm hD

theorem VRL_one {a : AV} {us : List Value} (h : VRL φ [a] us) : ∃ u, us = [u] ∧ VR φ a u := by
  simp only [VRL_cons, VRL_nil] at h
  obtain ⟨u, r, rfl, h1, rfl⟩ := h
  exact ⟨u, rfl, h1⟩
theorem VRL_two {a b : AV} {us : List Value} (h : VRL φ [a, b] us) : ∃ u v, us = [u, v] ∧ VR φ a u ∧ VR φ b v := by
  rw [VRL_cons] at h
  obtain ⟨u, r, rfl, h1, h2⟩ := h
  obtain ⟨v, rfl, h3⟩ := VRL_one h2
  exact ⟨u, v, rfl, h1, h3⟩
theorem VRL_three {a b c : AV} {us : List Value} (h : VRL φ [a, b, c] us) : ∃ u v x, us = [u, v, x] ∧ VR φ a u ∧ VR φ b v ∧ VR φ c x := by
  rw [VRL_cons] at h
  obtain ⟨u, r, rfl, h1, h2⟩ := h
  obtain ⟨v, x, rfl, h3, h4⟩ := VRL_two h2
  exact ⟨u, v, x, rfl, h1, h3, h4⟩

theorem quiet_builtin (hE : EOK E P) (H : HR φ w₀ h nx w) {ρ : Rho} {vs : Array Value} {b : Builtin} {args : Array Operand} {ts : Array TypeId} {ty : TypeId} {cs : Array Bool} {r : AV} (O : OpsR φ ρ vs args.toList)
    (hq : quietA E ρ h (.call { callee := .builtin b, args, argTypes := ts }) = some r) : QN P φ w (builtin b ts ty cs (args.map (ev vs))) r := by
  simp only [quietA, qBuiltin] at hq
  split at hq
  · rename_i l hl
    have L := evalL_sound O hl
    have hargs : args.map (ev vs) = (args.toList.map (ev vs)).toArray := by apply Array.ext'; simp
    rw [hargs]
    generalize args.toList.map (ev vs) = us at L
    split at hq <;> (try injection hq with hq) <;> (try subst hq)
    all_goals first | contradiction | skip
    · rename_i hD
      obtain ⟨u, rfl, hu⟩ := VRL_one L
      obtain ⟨t, d, h1, h2, h3⟩ := argD_ne hE hD (by simp)
      simp only [DR] at h3
      simp only [VR] at hu
      obtain ⟨rfl, _⟩ := hu
      subst h3
      refine QS.next (s := Builtin.len_ ts ty _) ⟨_, ?_, by simp only [VR]; rfl⟩
      simp [Builtin.len_, h1, run_underlying_of h2, bytesVal_eq, bts_size, goInt, lenL_eq]
    · rename_i hD
      obtain ⟨u, rfl, hu⟩ := VRL_one L
      obtain ⟨t, d, h1, h2, h3⟩ := argD_ne hE hD (by simp)
      simp only [DR] at h3
      simp only [VR] at hu
      obtain ⟨_, _, _, _, _, rfl, _⟩ := hu
      subst h3
      refine QS.next (s := Builtin.len_ ts ty _) ⟨_, ?_, by simp only [VR]; rfl⟩
      simp [Builtin.len_, h1, run_underlying_of h2, goInt]
    · rename_i hD
      obtain ⟨u, rfl, hu⟩ := VRL_one L
      obtain ⟨t, d, h1, h2, h3⟩ := argD_ne hE hD (by simp)
      simp only [DR] at h3
      simp only [VR] at hu
      subst hu h3
      refine QS.next (s := Builtin.len_ ts ty _) ⟨_, ?_, by simp only [VR]; rfl⟩
      simp [Builtin.len_, h1, run_underlying_of h2, goInt]
    · rename_i hD
      obtain ⟨u, rfl, hu⟩ := VRL_one L
      obtain ⟨t, d, h1, h2, h3⟩ := argD_ne hE hD (by simp)
      simp only [DR] at h3
      split at hq
      · rename_i es hg
        injection hq with hq
        subst hq h3
        obtain ⟨k', en, es', rfl, e2, e3, e4⟩ := ents_at H hg hu
        refine QS.next (s := Builtin.len_ ts ty _) ⟨_, ?_, by simp only [VR]; rfl⟩
        have hl : es'.length = es.length := by rcases e4 with rfl | ⟨p, _⟩; rfl; exact p.length_eq
        have := e3.1
        simp only [Array.length_toList, hl] at this
        simp [Builtin.len_, h1, run_underlying_of h2, goInt, getMap e2, lenL_eq, this]
      · cases hq
    · rename_i hD
      obtain ⟨u, rfl, hu⟩ := VRL_one L
      obtain ⟨t, d, h1, h2, h3⟩ := argD_ne hE hD (by simp)
      simp only [DR] at h3
      simp only [VR] at hu
      subst hu h3
      refine QS.next (s := Builtin.cap_ ts ty _) ⟨_, ?_, by simp only [VR]; rfl⟩
      simp [Builtin.cap_, h1, run_underlying_of h2, goInt]
    · rename_i hD
      obtain ⟨u, rfl, hu⟩ := VRL_one L
      obtain ⟨t, d, h1, h2, h3⟩ := argD_ne hE hD (by simp)
      simp only [DR] at h3
      simp only [VR] at hu
      obtain ⟨_, _, _, cap, _, rfl, _, _, hc, _⟩ := hu
      subst h3
      refine QS.next (s := Builtin.cap_ ts ty _) ⟨_, ?_, by simp only [VR]; rfl⟩
      simp [Builtin.cap_, h1, run_underlying_of h2, goInt, hc]
    · obtain ⟨u, v, rfl, hu, hv⟩ := VRL_two L
      simp only [VR] at hu hv
      subst hu hv
      refine QS.next (s := Builtin.max_ ts ty _) ⟨_, ?_, by simp only [VR]; rfl⟩
      simp [Builtin.max_, Builtin.max2, intLt_eq]
    · obtain ⟨u, v, rfl, hu, hv⟩ := VRL_two L
      simp only [VR] at hu hv
      subst hu hv
      refine QS.next (s := Builtin.min_ ts ty _) ⟨_, ?_, by simp only [VR]; rfl⟩
      simp [Builtin.min_, Builtin.min2, intLt_eq]
    · obtain ⟨u, v, x, rfl, hu, hv, hx⟩ := VRL_three L
      simp only [VR] at hu hv hx
      subst hu hv hx
      refine QS.next (s := Builtin.min_ ts ty _) ⟨_, ?_, by simp only [VR]; rfl⟩
      simp [Builtin.min_, Builtin.min2, intLt_eq]
    · obtain ⟨u, rfl, hu⟩ := VRL_one L
      split at hq
      · rename_i hc
        injection hq with hq
        subst hq
        rw [Nat.blt_eq] at hc
        simp only [VR] at hu
        obtain ⟨k, b, S, cap, e1, rfl, _, e2, _⟩ := hu
        refine QS.next (s := Builtin.unsafeSliceData_ ts ty _) ⟨.pointer (some ⟨k, b + _, none⟩), ?_, by simp only [VR]; exact ⟨k, b, S, e1, rfl⟩⟩
        have : cap ≠ 0 := by omega
        show Sem.run P (ite (cap ≠ 0) (pure (Value.pointer (some _))) _) w = _
        rw [if_pos this]
        rfl
      · cases hq
    · obtain ⟨u, rfl, hu⟩ := VRL_one L
      simp only [VR] at hu
      subst hu
      exact QS.next (s := Builtin.unsafeSliceData_ ts ty _) ⟨.pointer none, rfl, by simp only [VR]⟩
  · cases hq

/-- What an operation that changes nothing gives in the abstract it gives in the model. -/
theorem quiet_sound (hE : EOK E P) (H : HR φ w₀ h nx w) (G : GR E w) {o : Oper} {ρ : Rho} {vs : Array Value} {r : AV} (O : OpsR φ ρ vs o.op.operands.toList) (hq : quietA E ρ h o.op = some r) : QN P φ w (execOp (ev vs) o) r := by
  unfold execOp
  generalize o.op = op at O hq
  cases op with
  | move x =>
    simp only [quietA] at hq
    exact QN.pure (O x (by simp [Op.operands]) r hq)
  | assign x =>
    simp only [quietA] at hq
    exact QN.pure (O x (by simp [Op.operands]) r hq)
  | pick c a b =>
    simp only [quietA] at hq
    split at hq
    · rename_i hc
      have hv := O c (by simp [Op.operands]) _ hc
      simp only [VR] at hv
      exact ⟨_, by simp [asBool, hv], O a (by simp [Op.operands]) r hq⟩
    · rename_i hc
      have hv := O c (by simp [Op.operands]) _ hc
      simp only [VR] at hv
      exact ⟨_, by simp [asBool, hv], O b (by simp [Op.operands]) r hq⟩
    · cases hq
  | load t a => exact (quiet_load hE H G (fun x hx => O x (by simpa [Op.operands] using hx)) hq).next
  | nilCheck x =>
    simp only [quietA] at hq
    split at hq
    · rename_i hx
      injection hq with hq
      subst hq
      have hv := O x (by simp [Op.operands]) _ hx
      have hv' := hv
      simp only [VR] at hv
      obtain ⟨k, b, S, _, e⟩ := hv
      exact ⟨ev vs x, by simp only [e]; rfl, hv'⟩
    · rename_i hx
      injection hq with hq
      subst hq
      have hv := O x (by simp [Op.operands]) _ hx
      have hv' := hv
      simp only [VR] at hv
      exact ⟨ev vs x, by simp only [hv]; rfl, hv'⟩
    · cases hq
  | binOp op t x y t' => exact (quiet_bin hE (fun x hx => O x (by simpa [Op.operands] using hx)) hq).next
  | unOp op t x =>
    simp only [quietA] at hq
    split at hq
    · rename_i a ha
      exact (unOp_sound hq (O x (by simp [Op.operands]) a ha)).next
    · cases hq
  | convert src dst x => exact (quiet_convert hE H G (fun x hx => O x (by simpa [Op.operands] using hx)) hq).next
  | makeInterface t x =>
    simp only [quietA, qIface] at hq
    split at hq
    · rename_i i v hi hx
      obtain ⟨d, h1, h2⟩ := hE.desc hi
      have hd : ∀ ms, d ≠ .interface ms := by
        rintro ms rfl
        split at hq
        · cases hq
        · cases hq
        · rename_i n1 n2
          cases hD : i.desc <;> rw [hD] at h2 <;> simp [DR] at h2 <;> first | exact n1 hD | exact n2 hD
      have hr : r = .iface t v := by
        split at hq
        · cases hq
        · cases hq
        · injection hq with hq; exact hq.symm
      subst hr
      refine QS.next ⟨.iface t (ev vs x), ?_, by simp only [VR]; exact ⟨_, rfl, O x (by simp [Op.operands]) v hx⟩⟩
      simp only [Instr.makeInterface, Sem.run_bind, run_underlying_of h1, Result.andThen_ok]
      rfl
    · cases hq
  | makeFunc fn first cap =>
    cases fn with
    | func f =>
      obtain ⟨fl⟩ := first
      cases fl with
      | cons => simp [quietA] at hq
      | nil =>
        simp only [quietA] at hq
        split at hq
        · rename_i l hl
          injection hq with hq
          subst hq
          have L := evalL_sound (φ := φ) (vs := vs) (fun x hx => O x (by simpa [Op.operands] using hx)) hl
          refine QS.next ⟨_, rfl, ?_⟩
          simp only [VR]
          have e : cap.map (ev vs) = (cap.toList.map (ev vs)).toArray := by apply Array.ext'; simp
          have e0 : Array.map (ev vs) (⟨[]⟩ : Array Operand) = #[] := by apply Array.ext'; simp
          exact ⟨_, by rw [e, e0], L⟩
        · cases hq
    | _ => simp [quietA] at hq
  | slice t x lo hi mx =>
    cases mx with
    | some m => simp [quietA] at hq
    | none => exact (quiet_slice hE (fun y hy => O y (by simpa [Op.operands] using hy)) hq).next
  | fieldAddr s x f => exact (quiet_fieldAddr hE (fun x hx => O x (by simpa [Op.operands] using hx)) hq).next
  | field s x f => exact (quiet_field hE (fun x hx => O x (by simpa [Op.operands] using hx)) hq).next
  | indexAddr t x i => exact (quiet_indexAddr hE (fun x hx => O x (by simpa [Op.operands] using hx)) hq).next
  | index t x i => exact (quiet_index hE (fun x hx => O x (by simpa [Op.operands] using hx)) hq).next
  | lookup t m k ok => exact (quiet_lookup hE H (fun x hx => O x (by simpa [Op.operands] using hx)) hq).next
  | build t parts => exact (quiet_build hE (fun x hx => O x (by simpa [Op.operands] using hx)) hq).next
  | extract x i =>
    simp only [quietA] at hq
    split at hq
    · rename_i l hl
      exact (extract_sound (O x (by simp [Op.operands]) _ hl) hq).next
    · cases hq
  | typeAssert x t u ok =>
    cases ok with
    | false => simp [quietA] at hq
    | true =>
      simp only [quietA, qAssert] at hq
      split at hq
      · rename_i hx hu
        split at hq
        · rename_i ht
          injection hq with hq
          subst hq
          exact (assert_sound hE hu rfl (O x (by simp [Op.operands]) _ hx) (Nat.eq_of_beq_eq_true ht)).next
        · cases hq
      · cases hq
  | call c =>
    obtain ⟨callee, args, ts⟩ := c
    cases callee with
    | builtin b =>
      show QN P φ w (builtin b ts o.type _ (args.map (ev vs))) r
      exact quiet_builtin hE H (fun x hx => O x (by simpa [Op.operands, Call.operands] using hx)) hq
    | _ => simp [quietA] at hq
  | _ => simp [quietA] at hq
end
end Go.AM
namespace Go.AM
section
variable {E : Env} {P : Program} {φ : Ph} {w₀ : Base} {w : World} {h : Heap} {nx : Pos}

def Ph.upd (φ : Ph) (p : Pos) (x : Nat × Nat × Nat) : Ph := fun q => if q.val = p.val then some x else φ q
theorem Ph.upd_same (φ : Ph) (p : Pos) (x : Nat × Nat × Nat) : φ.upd p x p = some x := by simp [Ph.upd]
theorem Ph.upd_ne (φ : Ph) {p q : Pos} (x : Nat × Nat × Nat) (h : q ≠ p) : φ.upd p x q = φ q := by
  unfold Ph.upd
  rw [if_neg fun e => h (Pos.val_inj e)]
theorem Ph.le_upd {φ : Ph} {p : Pos} (x : Nat × Nat × Nat) (h : φ p = none) : φ.le (φ.upd p x) := by
  intro q y hq
  rw [Ph.upd_ne φ x (fun e => by subst e; rw [h] at hq; cases hq)]
  exact hq

/-- What is listed of the variables is so. -/
theorem HR.globals (H : HR φ w₀ h nx w) (G : GB E w₀) : GR E w := by
  intro g l hl i v hv
  obtain ⟨c, e, fz, h1, h2⟩ := G g l hl
  obtain ⟨u, h3, h4⟩ := h2 i v hv
  exact ⟨u, by rw [cell_at (H.old _ _ h1)]; exact h3, h4⟩

/-- A new name: its thing is not there yet. -/
theorem HR.name (H : HR φ w₀ h nx w) (o : Obj) : HR φ w₀ (Tr.set (some o) nx h) (Pos.succ nx) w := by
  have hn : φ nx = none := H.fresh nx (Nat.le_refl _)
  refine { H with fresh := fun p hp => H.fresh p (by rw [Pos.val_succ] at hp; omega), clean := fun p hp => by (rw [Pos.val_succ] at hp; rw [Tr.get_set_ne _ _ _ _ (fun e => by subst e; omega)]; exact H.clean p (by omega)), inj := ?_, obj := ?_, hold := ?_ }
  · intro p q k b s b' s' hp hq h1 h2
    refine H.inj p q k b s b' s' hp hq ?_ ?_
    · rwa [Tr.get_set_ne _ _ _ _ (fun e => by subst e; rw [hn] at hp; cases hp)] at h1
    · rwa [Tr.get_set_ne _ _ _ _ (fun e => by subst e; rw [hn] at hq; cases hq)] at h2
  · intro p o' k b s hg hp
    rw [Tr.get_set_ne _ _ _ _ (fun e => by subst e; rw [hn] at hp; cases hp)] at hg
    exact H.obj p o' k b s hg hp
  · intro p o' k b s hg hp
    rw [Tr.get_set_ne _ _ _ _ (fun e => by subst e; rw [hn] at hp; cases hp)] at hg
    exact H.hold p o' k b s hg hp

theorem alloc_heap (w : World) (x : Go.Obj) : (w.alloc x).heap = w.heap.push x := rfl

theorem HR.new_free (H : HR φ w₀ h nx w) : w₀.keep w.heap.size = none := by
  cases hk : w₀.keep w.heap.size with
  | none => rfl
  | some x =>
    have := H.old _ _ hk
    simp at this

/-- The thing that a name stands for comes to be. -/
theorem HR.place (H : HR φ w₀ h nx w) {p : Pos} (hp : φ p = none) (hlt : p.val < nx.val) {o : Obj} (hg : Tr.get p h = some o) (hro : o.ro = false) {x : Go.Obj} {b s : Nat} (hx : OR_ w₀ (φ.upd p (w.heap.size, b, s)) o x b s) :
    HR (φ.upd p (w.heap.size, b, s)) w₀ h nx (w.alloc x) := by
  have hle : φ.le (φ.upd p (w.heap.size, b, s)) := Ph.le_upd _ hp
  have hold : ∀ q k b' s', q ≠ p → φ.upd p (w.heap.size, b, s) q = some (k, b', s') → φ q = some (k, b', s') := fun q k b' s' hne hq => by rwa [Ph.upd_ne _ _ hne] at hq
  have hsame : ∀ q k b' s', φ.upd p (w.heap.size, b, s) q = some (k, b', s') → q = p → k = w.heap.size ∧ b' = b ∧ s' = s := by
    intro q k b' s' hq e
    subst e
    rw [Ph.upd_same] at hq
    simp at hq
    exact ⟨hq.1.symm, hq.2.1.symm, hq.2.2.symm⟩
  refine ⟨?_, H.clean, ?_, ?_, ?_, ?_, ?_, H.os, H.tape, H.output⟩
  · intro q hq
    rw [Ph.upd_ne _ _ (fun e => by subst e; omega)]
    exact H.fresh q hq
  · intro q k b' s' hq
    rw [alloc_heap, Array.size_push]
    by_cases e : q = p
    · have := hsame q k b' s' hq e
      omega
    · have := H.blk q k b' s' (hold q k b' s' e hq)
      omega
  · intro q r k b' s' b'' s'' hq hr h1 h2
    by_cases e : q = p
    · by_cases e' : r = p
      · rw [e, e']
      · have := hsame q k b' s' hq e
        have := H.blk r k b'' s'' (hold r k b'' s'' e' hr)
        omega
    · by_cases e' : r = p
      · have := hsame r k b'' s'' hr e'
        have := H.blk q k b' s' (hold q k b' s' e hq)
        omega
      · exact H.inj q r k b' s' b'' s'' (hold _ _ _ _ e hq) (hold _ _ _ _ e' hr) h1 h2
  · intro q o' k b' s' hg' hq
    by_cases e : q = p
    · obtain ⟨rfl, rfl, rfl⟩ := hsame q k b' s' hq e
      subst e
      rw [hg] at hg'
      injection hg' with hg'
      subst hg'
      exact ⟨x, by rw [alloc_heap]; simp, hx⟩
    · obtain ⟨y, h1, h2⟩ := H.obj q o' k b' s' hg' (hold _ _ _ _ e hq)
      have := H.blk q k b' s' (hold _ _ _ _ e hq)
      exact ⟨y, by rw [alloc_heap, Array.getElem?_push, if_neg (by omega)]; exact h1, h2.mono hle⟩
  · intro q o' k b' s' hg' hq
    by_cases e : q = p
    · obtain ⟨rfl, rfl, rfl⟩ := hsame q k b' s' hq e
      subst e
      rw [hg] at hg'
      injection hg' with hg'
      subst hg'
      rw [hro]
      exact H.new_free
    · have h1 := H.hold q o' k b' s' hg' (hold _ _ _ _ e hq)
      have := H.blk q k b' s' (hold _ _ _ _ e hq)
      have h2 : (w.alloc x).heap[k]? = w.heap[k]? := by rw [alloc_heap, Array.getElem?_push, if_neg (by omega)]
      rw [h2]
      exact h1
  · intro i y hi
    have h1 := H.old i y hi
    have : i < w.heap.size := (Array.getElem?_eq_some_iff.1 h1).1
    rw [alloc_heap, Array.getElem?_push, if_neg (by omega)]
    exact h1

/-- A thing is written. -/
theorem HR.write (H : HR φ w₀ h nx w) {p : Pos} {o o' : Obj} {k b s : Nat} (hg : Tr.get p h = some o) (hp : φ p = some (k, b, s)) (hr : o.ro = false) (hr' : o'.ro = false) {x' : Go.Obj} (hx : OR_ w₀ φ o' x' b s) :
    HR φ w₀ (Tr.set (some o') p h) nx { w with heap := w.heap.setIfInBounds k x' } := by
  have hk := H.blk p k b s hp
  have hfree : w₀.keep k = none := by rw [H.hold p o k b s hg hp, hr]; rfl
  have hother : ∀ q o'' k' b' s', q ≠ p → Tr.get q h = some o'' → φ q = some (k', b', s') → k' ≠ k := by
    rintro q o'' k' b' s' e hg' hq rfl
    exact e (H.inj q p k' b' s' b s hq hp (by rw [hg']; simp) (by rw [hg]; simp))
  have hpn : p.val < nx.val := by
    rcases Nat.lt_or_ge p.val nx.val with h | h
    · exact h
    · rw [H.fresh p h] at hp; cases hp
  refine ⟨H.fresh, fun q hq => by rw [Tr.get_set_ne _ _ _ _ (fun e => by subst e; omega)]; exact H.clean q hq, fun q k' b' s' hq => by simpa using H.blk q k' b' s' hq, ?_, ?_, ?_, ?_, H.os, H.tape, H.output⟩
  · intro q r k' b' s' b'' s'' hq hr h1 h2
    refine H.inj q r k' b' s' b'' s'' hq hr ?_ ?_
    · by_cases e : q = p
      · rw [e, hg]; simp
      · rwa [Tr.get_set_ne _ _ _ _ e] at h1
    · by_cases e : r = p
      · rw [e, hg]; simp
      · rwa [Tr.get_set_ne _ _ _ _ e] at h2
  · intro q o'' k' b' s' hg' hq
    by_cases e : q = p
    · subst e
      rw [hp] at hq
      injection hq with hq
      injection hq with e1 hq
      injection hq with e2 e3
      subst e1 e2 e3
      rw [Tr.get_set_same] at hg'
      injection hg' with hg'
      subst hg'
      exact ⟨x', by simp [hk], hx⟩
    · rw [Tr.get_set_ne _ _ _ _ e] at hg'
      obtain ⟨y, h1, h2⟩ := H.obj q o'' k' b' s' hg' hq
      refine ⟨y, ?_, h2⟩
      simp only
      rw [Array.getElem?_setIfInBounds_ne (Ne.symm (hother q o'' k' b' s' e hg' hq))]
      exact h1
  · intro q o'' k' b' s' hg' hq
    by_cases e : q = p
    · subst e
      rw [hp] at hq
      injection hq with hq
      injection hq with e1 hq
      subst e1
      rw [Tr.get_set_same] at hg'
      injection hg' with hg'
      subst hg'
      rw [hr']
      exact hfree
    · rw [Tr.get_set_ne _ _ _ _ e] at hg'
      rw [H.hold q o'' k' b' s' hg' hq]
      simp only
      rw [Array.getElem?_setIfInBounds_ne (Ne.symm (hother q o'' k' b' s' e hg' hq))]
  · intro i y hi
    simp only
    rw [Array.getElem?_setIfInBounds_ne (by rintro rfl; rw [hfree] at hi; cases hi)]
    exact H.old i y hi

/-- A name is struck. -/
theorem HR.strike (H : HR φ w₀ h nx w) (p : Pos) : HR φ w₀ (Tr.set none p h) nx w := by
  refine { H with clean := fun q hq => by (rw [Tr.get_set]; split; rfl; exact H.clean q hq), inj := ?_, obj := ?_, hold := ?_ }
  · intro q r k b s b' s' hq hr h1 h2
    rw [Tr.get_set] at h1 h2
    split at h1
    · exact absurd rfl h1
    · split at h2
      · exact absurd rfl h2
      · exact H.inj q r k b s b' s' hq hr h1 h2
  · intro q o k b s hg hq
    rw [Tr.get_set] at hg
    split at hg
    · cases hg
    · exact H.obj q o k b s hg hq
  · intro q o k b s hg hq
    rw [Tr.get_set] at hg
    split at hg
    · cases hg
    · exact H.hold q o k b s hg hq

/-- A name is another one's, from a place on. -/
theorem HR.rename (H : HR φ w₀ h nx w) {p : Pos} {o o' : Obj} {k b s b' s' : Nat} (hg : Tr.get p h = some o) (hp : φ p = some (k, b, s)) (hr : o.ro = false) (hr' : o'.ro = false) {x' : Go.Obj} (hx : OR_ w₀ (φ.upd nx (k, b', s')) o' x' b' s') :
    HR (φ.upd nx (k, b', s')) w₀ (Tr.set (some o') nx (Tr.set none p h)) (Pos.succ nx) { w with heap := w.heap.setIfInBounds k x' } := by
  have hn : φ nx = none := H.fresh nx (Nat.le_refl _)
  have hpn : p ≠ nx := fun e => by rw [e, hn] at hp; cases hp
  have hle : φ.le (φ.upd nx (k, b', s')) := Ph.le_upd _ hn
  have hk := H.blk p k b s hp
  have hfree : w₀.keep k = none := by rw [H.hold p o k b s hg hp, hr]; rfl
  have hold : ∀ q j c d, q ≠ nx → φ.upd nx (k, b', s') q = some (j, c, d) → φ q = some (j, c, d) := fun q j c d hne hq => by rwa [Ph.upd_ne _ _ hne] at hq
  have hget : ∀ q, q ≠ nx → Tr.get q (Tr.set (some o') nx (Tr.set none p h)) ≠ none → q ≠ p ∧ Tr.get q (Tr.set (some o') nx (Tr.set none p h)) = Tr.get q h := by
    intro q hq h1
    rw [Tr.get_set_ne _ _ _ _ hq, Tr.get_set] at h1 ⊢
    split at h1
    · exact absurd rfl h1
    · rename_i e; rw [if_neg e]; exact ⟨e, rfl⟩
  have hother : ∀ q j c d, q ≠ nx → φ q = some (j, c, d) → Tr.get q (Tr.set (some o') nx (Tr.set none p h)) ≠ none → j ≠ k := by
    rintro q j c d e hq h1 rfl
    obtain ⟨h2, h3⟩ := hget q e h1
    rw [h3] at h1
    exact h2 (H.inj q p j c d b s hq hp h1 (by rw [hg]; simp))
  refine ⟨?_, ?_, ?_, ?_, ?_, ?_, ?_, H.os, H.tape, H.output⟩
  · intro q hq
    rw [Pos.val_succ] at hq
    rw [Ph.upd_ne _ _ (fun e => by subst e; omega)]
    exact H.fresh q (by omega)
  · intro q hq
    rw [Pos.val_succ] at hq
    rw [Tr.get_set_ne _ _ _ _ (fun e => by subst e; omega), Tr.get_set]
    split
    · rfl
    · exact H.clean q (by omega)
  · intro q j c d hq
    simp only [Array.size_setIfInBounds]
    by_cases e : q = nx
    · subst e; rw [Ph.upd_same] at hq; simp at hq; omega
    · exact H.blk q j c d (hold q j c d e hq)
  · intro q r j c d c' d' hq hr h1 h2
    by_cases e : q = nx
    · by_cases e' : r = nx
      · rw [e, e']
      · have := hother r j c' d' e' (hold _ _ _ _ e' hr) h2
        subst e; rw [Ph.upd_same] at hq; simp at hq; omega
    · by_cases e' : r = nx
      · have := hother q j c d e (hold _ _ _ _ e hq) h1
        subst e'; rw [Ph.upd_same] at hr; simp at hr; omega
      · obtain ⟨_, g1⟩ := hget q e h1
        obtain ⟨_, g2⟩ := hget r e' h2
        exact H.inj q r j c d c' d' (hold _ _ _ _ e hq) (hold _ _ _ _ e' hr) (by rw [← g1]; exact h1) (by rw [← g2]; exact h2)
  · intro q o'' j c d hg' hq
    by_cases e : q = nx
    · subst e
      rw [Ph.upd_same] at hq
      simp at hq
      obtain ⟨rfl, rfl, rfl⟩ := hq
      rw [Tr.get_set_same] at hg'
      injection hg' with hg'
      subst hg'
      exact ⟨x', by simp [hk], hx⟩
    · have hne : Tr.get q (Tr.set (some o') nx (Tr.set none p h)) ≠ none := by rw [hg']; simp
      obtain ⟨_, g1⟩ := hget q e hne
      rw [g1] at hg'
      obtain ⟨y, h1, h2⟩ := H.obj q o'' j c d hg' (hold _ _ _ _ e hq)
      refine ⟨y, ?_, h2.mono hle⟩
      simp only
      rw [Array.getElem?_setIfInBounds_ne (Ne.symm (hother q j c d e (hold _ _ _ _ e hq) hne))]
      exact h1
  · intro q o'' j c d hg' hq
    by_cases e : q = nx
    · subst e
      rw [Ph.upd_same] at hq
      simp at hq
      obtain ⟨rfl, rfl, rfl⟩ := hq
      rw [Tr.get_set_same] at hg'
      injection hg' with hg'
      subst hg'
      rw [hr']; exact hfree
    · have hne : Tr.get q (Tr.set (some o') nx (Tr.set none p h)) ≠ none := by rw [hg']; simp
      obtain ⟨_, g1⟩ := hget q e hne
      rw [g1] at hg'
      rw [H.hold q o'' j c d hg' (hold _ _ _ _ e hq)]
      simp only
      rw [Array.getElem?_setIfInBounds_ne (Ne.symm (hother q j c d e (hold _ _ _ _ e hq) hne))]
  · intro i y hi
    simp only
    rw [Array.getElem?_setIfInBounds_ne (by rintro rfl; rw [hfree] at hi; cases hi)]
    exact H.old i y hi

/-- What no step touches: names that have no place yet. -/
structure Kept (φ : Ph) (h : Heap) (nx : Pos) (φ' : Ph) (h' : Heap) (nx' : Pos) : Prop where
  le : φ.le φ'
  none : ∀ p : Pos, φ p = none → p.val < nx.val → φ' p = none ∧ Tr.get p h' = Tr.get p h
  up : nx.val ≤ nx'.val

theorem Kept.refl (φ : Ph) (h : Heap) (nx : Pos) : Kept φ h nx φ h nx := ⟨φ.le_refl, fun _ hp _ => ⟨hp, rfl⟩, Nat.le_refl _⟩
theorem Kept.trans {φ φ' φ'' : Ph} {h h' h'' : Heap} {nx nx' nx'' : Pos} (a : Kept φ h nx φ' h' nx') (b : Kept φ' h' nx' φ'' h'' nx'') : Kept φ h nx φ'' h'' nx'' :=
  ⟨Ph.le_trans a.le b.le, fun p hp hl => by
    obtain ⟨h1, h2⟩ := a.none p hp hl
    obtain ⟨h3, h4⟩ := b.none p h1 (Nat.lt_of_lt_of_le hl a.up)
    exact ⟨h3, h4.trans h2⟩, Nat.le_trans a.up b.up⟩
end
end Go.AM
namespace Go.AM
section
variable {E : Env} {P : Program} {φ : Ph} {w₀ : Base} {w : World} {h : Heap} {nx : Pos}

theorem OR_cells_new {ψ : Ph} {l : List AV} {us : List Value} (hl : VRL ψ l us) (one : Bool) (e : TypeId) : OR_ w₀ ψ (.cells l false false one e) (.cells us.toArray e) 0 us.length := by
  refine ⟨us.toArray, 0, 0, rfl, fun _ => ⟨rfl, hl.length⟩, by simp, by rw [hl.length]; omega, ?_, ⟨fun j _ _ _ => by omega, fun _ => .inl rfl⟩⟩
  intro i v hi
  obtain ⟨u, h1, h2⟩ := hl.get hi
  exact ⟨u, by simpa using h1, h2⟩

/-- A thing comes to be where the model makes it. -/
def AN (_E : Env) (P : Program) (φ : Ph) (w₀ : Base) (h : Heap) (nx : Pos) (w : World) (p : Pos) (f : Pos → AV) (s : Sem Next) : Prop :=
  ∃ x, ∃ w' v, s.run P w = .ok (.value v) w' ∧ HR (φ.upd p x) w₀ h nx w' ∧ VR (φ.upd p x) (f p) v

theorem AN.of (H : HR φ w₀ h nx w) {p : Pos} (hp : φ p = none) (hlt : p.val < nx.val) {ob : Obj} (hg : Tr.get p h = some ob) {s : Sem Value} {x : Go.Obj} {b S : Nat} {v : Value} {f : Pos → AV}
    (hs : s.run P w = .ok v (w.alloc x)) (hx : OR_ w₀ (φ.upd p (w.heap.size, b, S)) ob x b S) (hv : VR (φ.upd p (w.heap.size, b, S)) (f p) v) (hro : ob.ro = false := by rfl) : AN E P φ w₀ h nx w p f (do pure (.value (← s))) :=
  ⟨_, _, v, by simp [hs], H.place hp hlt hg hro hx, hv⟩

theorem VRL_u8s {ψ : Ph} : ∀ s : List Nat, VRL ψ (u8s s) (s.map fun n => Value.int .u8 (Int.ofNat n))
  | [] => by simp [u8s, VRL]
  | n :: s => by
    simp only [u8s, List.map_cons, VRL_cons]
    exact ⟨_, _, rfl, by simp only [VR], VRL_u8s s⟩

theorem flatten_rep {α : Type} (l : List α) : ∀ n i, i < n * l.length → (List.replicate n l).flatten[i]? = l[i % l.length]?
  | 0, i, h => by simp at h
  | n + 1, i, h => by
    rw [List.replicate_succ, List.flatten_cons]
    by_cases hi : i < l.length
    · rw [List.getElem?_append_left hi, Nat.mod_eq_of_lt hi]
    · rw [List.getElem?_append_right (by omega), flatten_rep l n (i - l.length) (by rw [Nat.succ_mul] at h; omega), ← Nat.mod_eq_sub_mod (by omega)]

theorem rep_made {z : Array Value} {n m : Nat} (hz : z.size = m) : (madeCells z (n * m)).toList = (List.replicate n z.toList).flatten := by
  apply List.ext_getElem?
  intro i
  by_cases hi : i < n * m
  · have hm : 0 < m := by
      rcases Nat.eq_zero_or_pos m with h | h
      · subst h; simp at hi
      · exact h
    rw [flatten_rep _ _ _ (by simpa [hz] using hi)]
    have : i % m < z.size := by rw [hz]; exact Nat.mod_lt _ hm
    simp only [madeCells, Array.toList_map, List.getElem?_map, Array.toList_range, List.getElem?_range hi, Option.map_some, hz, Array.getElem?_toList, Array.length_toList]
    rw [getElem?_pos z (i % m) this, getElem!_pos z (i % m) this]
  · rw [List.getElem?_eq_none (by simp [madeCells]; omega), List.getElem?_eq_none (by simp [hz]; omega)]

theorem VRL_rep {ψ : Ph} {l : List AV} {us : List Value} (h : VRL ψ l us) : ∀ n, VRL ψ (repL l n) (List.replicate n us).flatten
  | 0 => by simp [repL, VRL]
  | n + 1 => by
    rw [List.replicate_succ, List.flatten_cons]
    simp only [repL, appL_eq]
    exact h.append (VRL_rep h n)

theorem HR.drew (H : HR φ w₀ h nx w) : HR φ w₀ h nx w.drew := ⟨H.fresh, H.clean, H.blk, H.inj, H.obj, H.hold, H.old, H.os, H.tape, H.output⟩

theorem modify_push {α : Type} (a : Array α) (x : α) (f : α → α) : (a.push x).modify a.size f = a.push (f x) := by
  apply Array.ext_getElem?
  intro i
  rw [Array.getElem?_modify]
  by_cases h : a.size = i
  · subst h; simp
  · rw [if_neg h, Array.getElem?_push, Array.getElem?_push, if_neg (Ne.symm h), if_neg (Ne.symm h)]

theorem run_stringToBytes (e : TypeId) (s : ByteArray) : ∃ cap, s.size ≤ cap ∧ (Conv.stringToBytes e s).run P w = .ok (.slice (some ⟨w.heap.size, 0, none⟩) s.size cap)
    (w.drew.alloc (.cells (s.data.map (fun b => Value.int .u8 b.toNat) ++ Array.replicate (cap - s.size) (.int .u8 0)) e (cap, cap + 1))) := by
  refine ⟨Question.cut (.appendCap s.size 0 e) (w.tape w.drawn (.appendCap s.size 0 e)), by simp [Question.cut], ?_⟩
  generalize hc : Question.cut (.appendCap s.size 0 e) (w.tape w.drawn (.appendCap s.size 0 e)) = cap
  have hle : s.size ≤ cap := by rw [← hc]; simp [Question.cut]
  have hf : Question.forced (.appendCap s.size 0 e) = false := rfl
  have hch : (choose (.appendCap s.size 0 e)).run P w = .ok cap w.drew := by rw [run_choose_drew, hf, ← hc]; rfl
  unfold Conv.stringToBytes
  simp only [Sem.run_bind, hch, Result.andThen_ok]
  generalize hC : (s.data.map (fun b => Value.int .u8 b.toNat) ++ Array.replicate (cap - s.size) (.int .u8 0)) = C
  have hsize : C.size = cap := by
    rw [← hC]
    have : s.data.size = s.size := rfl
    simp [this]; omega
  have hrow : (newRow e C).run P w.drew = .ok ⟨w.heap.size, 0, none⟩ (w.drew.alloc (.cells C e)) := by simp [newRow]
  simp only [hrow, Result.andThen_ok]
  have hsh : (w.drew.alloc (.cells C e)).shape? w.heap.size = some (e, cap) := by
    have : (w.drew.alloc (.cells C e)).heap[w.heap.size]? = some (.cells C e) := by rw [alloc_heap]; exact Array.getElem?_push_size
    unfold World.shape?
    rw [this]
    simp [hsize]
  have hmark : (markStringish ⟨w.heap.size, 0, none⟩).run P (w.drew.alloc (.cells C e)) = .ok () (w.drew.alloc (.cells C e (cap, cap + 1))) := by
    simp only [markStringish, Sem.run_bind, run_shape, Result.andThen_ok, hsh, run_freeze]
    congr 1
    simp only [World.freeze, Nat.one_ne_zero, if_false, alloc_heap]
    exact congrArg (fun hp => ({ w.drew.alloc (.cells C e) with heap := hp } : World)) (modify_push w.heap _ _)
  simp only [hmark, Result.andThen_ok, Sem.run_pure]

theorem fillA_length {pl : Nat → Option (Nat × Nat)} : ∀ {ps : List (Nat × AV)} {a b : List AV}, fillA pl ps a = some b → b.length = a.length
  | [], a, b, h => by simp [fillA] at h; rw [h]
  | (i, v) :: ps, a, b, h => by
    unfold fillA at h
    split at h
    · cases h
    · split at h
      · split at h
        · rename_i c hc
          rw [fillA_length h]
          obtain ⟨h1, rfl⟩ := putL_eq _ _ _ _ hc
          simp
          omega
        · cases h
      · cases h

theorem quiet_alloc (hE : EOK E P) (H : HR φ w₀ h nx w) {p : Pos} (hp : φ p = none) (hlt : p.val < nx.val) {ob : Obj} (hg : Tr.get p h = some ob) {ρ : Rho} {vs : Array Value} {o : Oper} {f : Pos → AV} (O : OpsR φ ρ vs o.op.operands.toList)
    (ha : allocA E ρ o.op = some (ob, f)) : AN E P φ w₀ h nx w p f (execOp (ev vs) o) := by
  unfold execOp
  generalize o.op = op at O ha
  cases op with
  | alloc t =>
    simp only [allocA] at ha
    split at ha
    · rename_i i hi
      injection ha with ha
      injection ha with e1 e2
      subst e1 e2
      obtain ⟨z, h1, h2, h3, _⟩ := (hE.ty _ _ hi).run_zero w
      refine AN.of H hp hlt hg (x := .cells z.cells t) (b := 0) (S := z.cells.toList.length) (v := .pointer (some ⟨w.heap.size, 0, none⟩)) ?_ ?_ ?_
      · simp [Instr.alloc, h1, newVar, newRow]
      · have := OR_cells_new (w₀ := w₀) (ψ := φ.upd p (w.heap.size, 0, z.cells.toList.length)) (h3 _) true t
        simpa using this
      · simp only [VR]
        exact ⟨_, _, _, Ph.upd_same _ _ _, rfl⟩
    · cases ha
  | box t x =>
    simp only [allocA] at ha
    split at ha
    · rename_i a hx
      injection ha with ha
      injection ha with e1 e2
      subst e1 e2
      have hv := O x (by simp [Op.operands]) _ hx
      refine AN.of H hp hlt hg (x := .cells (ev vs x).cells t) (b := 0) (S := (ev vs x).cells.toList.length) (v := .pointer (some ⟨w.heap.size, 0, none⟩)) ?_ ?_ ?_
      · simp [Instr.box, newVar, newRow]
      · have := OR_cells_new (w₀ := w₀) (VR_cells (hv.mono (Ph.le_upd (w.heap.size, 0, (ev vs x).cells.toList.length) hp))) true t
        simpa using this
      · simp only [VR]
        exact ⟨_, _, _, Ph.upd_same _ _ _, rfl⟩
    · cases ha
  | makeMap t r =>
    cases r with
    | some _ => simp [allocA] at ha
    | none =>
      simp only [allocA] at ha
      injection ha with ha
      injection ha with e1 e2
      subst e1 e2
      refine AN.of H hp hlt hg (x := .map #[] 0) (b := 0) (S := 0) (v := .map (some w.heap.size)) ?_ ?_ ?_ (by split <;> rfl)
      · simp [Instr.makeMap]
      · have hER : ER (φ.upd p (w.heap.size, 0, 0)) [] [] := ⟨rfl, by simp⟩
        split
        · exact ⟨#[], rfl, [], List.Perm.refl _, hER, by simp, by simp⟩
        · exact ⟨#[], rfl, hER⟩
      · simp only [VR]
        exact ⟨_, _, _, Ph.upd_same _ _ _, rfl⟩
  | makeSlice t n c =>
    simp only [allocA] at ha
    split at ha
    · rename_i hs hn hc
      split at ha
      · rename_i n' c' ei hn' hc' he
        split at ha
        · rename_i hcond
          simp only [Bool.and_eq_true, Nat.blt_eq] at hcond
          obtain ⟨⟨h1, h2⟩, h3⟩ := hcond
          obtain rfl := Nat.eq_of_beq_eq_true h1
          injection ha with ha
          injection ha with e1 e2
          subst e1 e2
          obtain ⟨k1, e1⟩ := asInt_nat hn' (O n (by simp [Op.operands]) _ hn)
          obtain ⟨k2, e2⟩ := asInt_nat hc' (O c (by simp [Op.operands]) _ hc)
          obtain ⟨d, h4, h5⟩ := hE.desc hs
          simp only [DR] at h5
          subst h5
          obtain ⟨x, z, g1, g2, g3, g4, g5, g6, g7, _⟩ := (hE.ty _ _ he).info
          have h3' : n' * x.bytes < 4294967296 := by rw [g3]; exact h3
          have hrun := run_make (P := P) w t _ x z h4 g1 g4 k1 k2 (Int.ofNat n') (Int.ofNat n') (by simp) (by simp) (by
            have : (x.bytes : Int) * (n' : Int) = ((n' * x.bytes : Nat) : Int) := by rw [Int.natCast_mul, Int.mul_comm]
            simp only [Int.ofNat_eq_natCast, this]; omega) (by simp; omega)
          rw [← e1, ← e2] at hrun
          have hcells : (madeCells z.cells (n' * x.size)).toList = (List.replicate n' z.cells.toList).flatten := rep_made (by rw [g5, g2])
          refine AN.of H hp hlt hg (b := 0) (S := n' * x.size) hrun ?_ ?_
          · have := OR_cells_new (w₀ := w₀) (VRL_rep (g7 (φ.upd p (w.heap.size, 0, n' * x.size))) n') true
            rw [← hcells] at this
            simpa [size_madeCells] using this _
          · simp only [VR]
            refine ⟨_, _, _, n', Ph.upd_same _ _ _, by simp, Nat.le_refl _, Nat.le_refl _, fun _ => rfl, ?_⟩
            simp [g2]
        · cases ha
      · cases ha
    · cases ha
  | buildSlice t n parts =>
    simp only [allocA] at ha
    split at ha
    · rename_i e _ _ ps hs hps
      split at ha
      · rename_i ei he
        split at ha
        · rename_i hsmall
          split at ha
          · rename_i cs hf
            injection ha with ha
            injection ha with e1 e2
            subst e1 e2
            obtain ⟨d, h4, h5⟩ := hE.desc hs
            simp only [DR] at h5
            subst h5
            obtain ⟨x, z, g1, g2, g3, g4, g5, g6, g7, _⟩ := (hE.ty _ _ he).info
            have hsm := Nat.le_of_ble_eq_true hsmall
            obtain ⟨h7, h8⟩ := evalP_sound (φ := φ) (vs := vs) (fun y hy => O y (by simpa [Op.operands] using hy)) hps
            have hq : (parts.map fun (i, x) => (i, ev vs x)).toList = parts.toList.map (fun (i, x) => (i, ev vs x)) := by simp
            obtain ⟨us, h9, h10⟩ := fill_sound (φ := φ) (qs := parts.toList.map (fun (i, x) => (i, ev vs x))) (by rw [h7]; simp [Function.comp_def]) (by simpa [Function.comp_def] using h8) (VRL_rep (g7 φ) n) hf
            have hus : us.length = n * ei.size := by
              have e1 := h10.length
              have e2 := (VRL_rep (g7 φ) n).length
              have e3 : ∀ {ps : List (Nat × AV)} {a b : List AV} {pl}, fillA pl ps a = some b → b.length = a.length := fillA_length
              have e4 := e3 hf
              rw [e1, e4, ← e2]
              simp [g5]
            have hmade : (List.replicate n z.cells.toList).flatten.toArray = madeCells z.cells (n * ei.size) := by
              apply Array.ext'
              rw [rep_made g5]
            have hrun : (Instr.buildSlice t n (parts.map fun (i, x) => (i, ev vs x))).run P w = .ok (.slice (some ⟨w.heap.size, 0, none⟩) n n) (w.alloc (.cells us.toArray e)) := by
              unfold Instr.buildSlice
              have hns : ¬ n * ei.size > 2 ^ 24 := by simp only [Nat.mul_eq] at hsm; omega
              simp only [Sem.run_bind, run_underlying_of h4, Result.andThen_ok, (hE.ty _ _ he).run_size, if_neg hns]
              by_cases h0 : n * ei.size = 0
              · have : (List.replicate n z.cells.toList).flatten.toArray = ((Array.range (n * ei.size)).map ((#[] : Array Value)[· % (#[] : Array Value).size]!)) := by
                  rw [hmade, h0]; simp [madeCells]
                rw [this] at h9
                simp only [if_pos h0, Sem.run_bind, Sem.run_pure, Result.andThen_ok, hq]
                have h9' : Instr.fill (fun i => some (i * ei.size, ei.size)) ((Array.range (n * ei.size)).map ((#[] : Array Value)[· % (#[] : Array Value).size]!)) (parts.toList.map (fun x => (x.fst, ev vs x.snd))) = some us.toArray := h9
                rw [h9']
                simp [newRow]
              · rw [hmade] at h9
                have hz : (zeroValue e).run P w = .ok z w := by simp [zeroValue, run_typeInfo_of g1, g4]
                simp only [if_neg h0, Sem.run_bind, hz, Sem.run_pure, Result.andThen_ok, hq]
                have h9' : Instr.fill (fun i => some (i * ei.size, ei.size)) ((Array.range (n * ei.size)).map (z.cells[· % z.cells.size]!)) (parts.toList.map (fun x => (x.fst, ev vs x.snd))) = some us.toArray := h9
                rw [h9']
                simp [newRow]
            refine AN.of H hp hlt hg (b := 0) (S := us.length) hrun (OR_cells_new (h10.mono (Ph.le_upd _ hp)) true _) ?_
            simp only [VR]
            exact ⟨_, _, _, n, Ph.upd_same _ _ _, by simp, Nat.le_refl _, Nat.le_refl _, fun _ => rfl, by rw [hus]; simp⟩
          · cases ha
        · cases ha
      · cases ha
    · cases ha
  | convert src dst x =>
    simp only [allocA] at ha
    split at ha
    · rename_i e _ _ l hs hd hx
      split at ha
      · rename_i hu
        injection ha with ha
        injection ha with e1 e2
        subst e1 e2
        have hv := O x (by simp [Op.operands]) _ hx
        simp only [VR] at hv
        obtain ⟨hv, hb⟩ := hv
        obtain ⟨d, h4, h5⟩ := hE.desc hs
        obtain ⟨d', h6, h7⟩ := hE.desc hd
        simp only [DR] at h5 h7
        subst h5 h7
        obtain ⟨cap, hcap, hrun⟩ := run_stringToBytes (P := P) (w := w) e (bts l)
        have hlen : (bts l).size = l.length := bts_size l
        have hconv : (convert src dst (ev vs x)).run P w = (Conv.stringToBytes e (bts l)).run P w := by
          rw [hv, bytesVal_eq]
          simp [convert, run_underlying_of h4, run_underlying_of h6, run_underlying_of (isU8_desc hE hu)]
        have hdata : ((bts l).data.map (fun b => Value.int .u8 b.toNat)).toList = l.map (fun n => Value.int .u8 (Int.ofNat n)) := by
          simp only [bts, Array.toList_map, List.map_map]
          apply List.map_congr_left
          intro n hn
          simp [UInt8.toNat_ofNat', Nat.mod_eq_of_lt (hb n hn)]
        have hul : (u8s l).length = l.length := by
          have := (VRL_u8s (ψ := φ) l).length
          simpa using this.symm
        have hOR : OR_ w₀ (φ.upd p (w.heap.size, 0, cap)) (.cells (u8s l) false true false e) (.cells ((bts l).data.map (fun b => Value.int .u8 b.toNat) ++ Array.replicate (cap - (bts l).size) (.int .u8 0)) e (cap, cap + 1)) 0 cap := by
          refine ⟨_, cap, cap + 1, rfl, (fun h => nomatch h), ?_, by rw [hul]; omega, ?_, ⟨fun j _ h1 _ => by omega, fun h => nomatch h⟩⟩
          · have : (bts l).data.size = l.length := hlen
            simp [this]; omega
          · intro i v hi
            obtain ⟨u, g1, g2⟩ := (VRL_u8s (ψ := φ.upd p (w.heap.size, 0, cap)) l).get hi
            refine ⟨u, ?_, g2⟩
            rw [← hdata, Array.getElem?_toList] at g1
            have hlt' : i < ((bts l).data.map (fun b => Value.int .u8 b.toNat)).size := (Array.getElem?_eq_some_iff.1 g1).1
            rw [Nat.zero_add, Array.getElem?_append_left hlt']
            exact g1
        rw [hlen] at hrun hOR
        refine ⟨(w.heap.size, 0, cap), _, _, (show (do pure (.value (← convert src dst (ev vs x))) : Sem Next).run P w = _ by simp only [Sem.run_bind, hconv, hrun, Result.andThen_ok, Sem.run_pure]; rfl), HR.place (p := p) H.drew hp hlt hg rfl (b := 0) (s := cap) hOR, ?_⟩
        · simp only [VR]
          refine ⟨_, _, _, cap, Ph.upd_same _ _ _, by simp [lenL_eq], by simp [lenL_eq], by simp [lenL_eq]; omega, (fun h => nomatch h), by omega⟩
      · cases ha
    · cases ha
  | _ => simp [allocA] at ha
end
end Go.AM
namespace Go.AM
section
variable {E : Env} {P : Program} {φ : Ph} {w₀ : Base} {w : World} {h : Heap} {nx : Pos}

theorem set_set {α : Type} (a : Array α) (k : Nat) (x y : α) : (a.setIfInBounds k x).setIfInBounds k y = a.setIfInBounds k y := by
  apply Array.ext_getElem?
  intro i
  by_cases h : k = i
  · subst h
    by_cases h' : k < a.size <;> simp [h']
  · simp [h]

theorem modify_at {α : Type} (a : Array α) (k : Nat) (x : α) (f : α → α) (h : a[k]? = some x) : a.modify k f = a.setIfInBounds k (f x) := by
  apply Array.ext_getElem?
  intro i
  rw [Array.getElem?_modify]
  have hk := (Array.getElem?_eq_some_iff.1 h).1
  have hx : a[k] = x := by rw [getElem?_pos a k hk] at h; simpa using h
  by_cases e : k = i
  · subst e; simp [hk, hx]
  · simp [e]

theorem take_set_drop (c : List Value) (n : Nat) (v : Value) (r : List Value) (h : n + (r.length + 1) ≤ c.length) :
    (c.set n v).take (n + 1) ++ r ++ (c.set n v).drop (n + 1 + r.length) = c.take n ++ v :: r ++ c.drop (n + (r.length + 1)) := by
  rw [List.drop_set_of_lt (by omega), List.take_set, List.take_add_one, List.getElem?_eq_getElem (by omega : n < c.length)]
  simp only [Option.toList_some]
  rw [List.set_append_right _ _ (by simp; omega)]
  simp only [List.length_take, Nat.min_eq_left (by omega : n ≤ c.length), Nat.sub_self, List.set_cons_zero, List.append_assoc, List.cons_append, List.nil_append]
  rw [show n + 1 + r.length = n + (r.length + 1) by omega]

theorem storeCells_run {k o : Nat} {e : TypeId} {lo hi : Nat} : ∀ (us : List Value) (i : Nat) (c : Array Value) (w : World), w.heap[k]? = some (.cells c e (lo, hi)) → o + i + us.length ≤ c.size →
    (∀ j, i ≤ j → j < i + us.length → ¬ (lo ≤ o + j ∧ o + j < hi)) → (∀ v ∈ us, v.oneCell' = true) →
    (storeCells ⟨k, o, none⟩ us i).run P w = .ok () { w with heap := w.heap.setIfInBounds k (.cells (c.toList.take (o + i) ++ us ++ c.toList.drop (o + i + us.length)).toArray e (lo, hi)) }
  | [], i, c, w, h, _, _, _ => by
    simp only [storeCells, Sem.run_pure, List.append_nil, List.length_nil, Nat.add_zero, List.take_append_drop, Array.toArray_toList]
    have : w.heap.setIfInBounds k (.cells c e (lo, hi)) = w.heap := by
      apply Array.ext_getElem?
      intro j
      have hk := (Array.getElem?_eq_some_iff.1 h).1
      have hx : w.heap[k] = .cells c e (lo, hi) := by rw [getElem?_pos w.heap k hk] at h; simpa using h
      by_cases e : k = j
      · subst e; simp [hk, hx]
      · simp [e]
    rw [this]
  | v :: r, i, c, w, h, hl, hf, h1 => by
    simp only [List.length_cons] at hl
    have hlt : o + i < c.size := by omega
    have hcell : w.cell? ⟨k, o + i, none⟩ = some c[o + i] := by rw [cell_at h]; simp [hlt]
    have hfz : w.frozen? ⟨k, o + i, none⟩ = false := by
      have := hf i (Nat.le_refl _) (by simp)
      simp only [World.frozen?, h, Bool.and_eq_false_iff, decide_eq_false_iff_not]
      by_cases hh : lo ≤ o + i
      · exact .inr fun h2 => this ⟨hh, h2⟩
      · exact .inl hh
    have hset : w.setCell ⟨k, o + i, none⟩ v = { w with heap := w.heap.setIfInBounds k (.cells (c.setIfInBounds (o + i) v) e (lo, hi)) } := by
      simp only [World.setCell]
      rw [modify_at _ _ _ _ h]
      rfl
    have hk := (Array.getElem?_eq_some_iff.1 h).1
    have ih := storeCells_run (k := k) (o := o) (e := e) (lo := lo) (hi := hi) r (i + 1) (c.setIfInBounds (o + i) v) { w with heap := w.heap.setIfInBounds k (.cells (c.setIfInBounds (o + i) v) e (lo, hi)) }
      (by simp [hk]) (by simp; omega) (fun j h2 h3 => hf j (by omega) (by simp; omega)) (fun u hu => h1 u (by simp [hu]))
    simp only [storeCells, Sem.run_bind, add_at, run_store P w _ v _ (h1 v (by simp)), hcell, hfz, Bool.false_eq_true, if_false, Result.andThen_ok, hset, ih, set_set]
    congr 5
    have := take_set_drop c.toList (o + i) v r (by simpa using hl)
    simpa [Nat.add_assoc, Nat.add_comm, Nat.add_left_comm] using this

theorem put_get {α : Type} (l xs : List α) (n : Nat) (h : n + xs.length ≤ l.length) (i : Nat) : (l.take n ++ xs ++ l.drop (n + xs.length))[i]? = if n ≤ i ∧ i < n + xs.length then xs[i - n]? else l[i]? := by
  by_cases h1 : i < n
  · rw [if_neg (by omega), List.append_assoc, List.getElem?_append_left (by simp; omega)]
    simp [h1]
  · by_cases h2 : i < n + xs.length
    · rw [if_pos (by omega), List.append_assoc, List.getElem?_append_right (by simp; omega), List.getElem?_append_left (by simp; omega)]
      simp only [List.length_take]
      congr 1
      omega
    · rw [if_neg (by omega), List.getElem?_append_right (by simp; omega), List.getElem?_drop]
      simp only [List.length_append, List.length_take]
      congr 1
      omega

theorem oneCell_of {a : AV} {v : Value} (hv : VR φ a v) (h1 : ∀ l, a ≠ .agg l) (h2 : ∀ l, a ≠ .tuple l) : v.oneCell' = true := by
  cases a <;> simp only [VR] at hv
  case agg l => exact absurd rfl (h1 l)
  case tuple l => exact absurd rfl (h2 l)
  all_goals first
    | (subst hv; rfl)
    | (obtain ⟨rfl, _⟩ := hv; rfl)
    | (obtain ⟨_, rfl, _⟩ := hv; rfl)
    | (obtain ⟨_, _, _, _, rfl, _⟩ := hv; rfl)
    | (obtain ⟨_, _, _, _, rfl⟩ := hv; rfl)
    | (obtain ⟨_, _, _, _, _, rfl, _⟩ := hv; rfl)

theorem allOne_sound : ∀ {l : List AV} {us : List Value}, allOne l = true → VRL φ l us → ∀ u ∈ us, u.oneCell' = true
  | [], us, _, hl, u, hu => by rw [VRL_nil] at hl; subst hl; cases hu
  | a :: l, us, h, hl, u, hu => by
    rw [VRL_cons] at hl
    obtain ⟨v, r, rfl, hv, hr⟩ := hl
    have h12 : (∀ l, a ≠ .agg l) ∧ (∀ l, a ≠ .tuple l) ∧ allOne l = true := by
      cases a <;> simp_all [allOne]
    cases hu with
    | head => exact oneCell_of hv h12.1 h12.2.1
    | tail _ hu => exact allOne_sound h12.2.2 hr u hu

/-- Cells are written, one after the other. -/
theorem put_sound (H : HR φ w₀ h nx w) {b : Pos} {l l' xs : List AV} {sx one : Bool} {e : TypeId} {o k B S : Nat} {us : List Value} (hg : Tr.get b h = some (.cells l false sx one e)) (hb : φ b = some (k, B, S)) (hx : VRL φ xs us) (h1 : allOne xs = true) (hp : putL xs o l = some l') :
    ∃ w', (storeCells ⟨k, B + o, none⟩ us).run P w = .ok () w' ∧ HR φ w₀ (Tr.set (some (.cells l' false sx one e)) b h) nx w' := by
  obtain ⟨x, e1, e2⟩ := H.obj _ _ _ _ _ hg hb
  simp only [OR_] at e2
  obtain ⟨c, lo, hi, rfl, e3, e4, e5, e6, e7⟩ := e2
  obtain ⟨g1, rfl⟩ := putL_eq _ _ _ _ hp
  have hlen := hx.length
  have hrun := storeCells_run (P := P) (o := B + o) us 0 c w e1 (by omega) (fun j _ h3 => e7.free (B + o + j) (by omega) (by omega) (fun h => nomatch h)) (allOne_sound h1 hx)
  simp only [Nat.add_zero] at hrun
  refine ⟨_, hrun, H.write hg hb rfl rfl ?_⟩
  have hsz : o + xs.length ≤ l.length := g1
  have hlen' : (l.take o ++ xs ++ l.drop (o + xs.length)).length = l.length := by simp; omega
  refine ⟨_, lo, hi, rfl, fun h => ⟨(e3 h).1, by rw [hlen']; exact (e3 h).2⟩, by simp; omega, by rw [hlen']; exact e5, ?_, by rw [hlen']; exact e7⟩
  intro i v hi'
  rw [put_get _ _ _ g1] at hi'
  have hput := put_get c.toList us (B + o) (by simp; omega) (B + i)
  rw [List.getElem?_toArray, hput]
  by_cases hin : o ≤ i ∧ i < o + xs.length
  · rw [if_pos hin] at hi'
    rw [if_pos (by omega), show B + i - (B + o) = i - o by omega]
    exact hx.get hi'
  · rw [if_neg hin] at hi'
    rw [if_neg (by omega)]
    simpa using e6 i v hi'

theorem store_sound (hE : EOK E P) (H : HR φ w₀ h nx w) {t : TypeId} {p a : AV} {pv v : Value} {h' : Heap} (hs : storeA E h t p a = some h') (hp : VR φ p pv) (hv : VR φ a v) :
    ∃ w', (Instr.storeAt t pv v).run P w = .ok () w' ∧ HR φ w₀ h' nx w' ∧ Kept φ h nx φ h' nx := by
  unfold storeA at hs
  split at hs
  · rename_i i b o hi
    split at hs
    · rename_i l sx one e hg
      split at hs
      · rename_i hc
        simp only [Bool.and_eq_true] at hc
        obtain ⟨h1, h2⟩ := hc
        split at hs
        · rename_i l' hput
          injection hs with hs
          subst hs
          simp only [VR] at hp
          obtain ⟨k, B, S, hb, rfl⟩ := hp
          have hx := VR_cells hv
          obtain ⟨w', g1, g2⟩ := put_sound (P := P) H hg hb hx h2 hput
          have hsz := Nat.eq_of_beq_eq_true h1
          rw [lenL_eq] at hsz
          have hlen := hx.length
          simp only [Array.length_toList] at hlen
          refine ⟨w', ?_, g2, φ.le_refl, fun q hq _ => ⟨hq, Tr.get_set_ne _ _ _ _ fun e => by subst e; rw [hb] at hq; cases hq⟩, Nat.le_refl _⟩
          simp only [Instr.storeAt, Instr.sureAddr, Sem.run_bind, Sem.run_pure, Result.andThen_ok, storeVar, (hE.ty _ _ hi).run_size]
          rw [if_neg (by omega)]
          exact g1
        · cases hs
      · cases hs
    · cases hs
  · cases hs

/-! ### Maps -/
theorem sameBits_T {φ : Ph} {d : TD} {x y : AV} {u v : Value} (h : eqT d x y = some true) (hx : VR φ x u) (hy : VR φ y v) (n : Nat) : Instr.sameBits n u v = true := by
  unfold eqT at h
  split at h
  · split at h
    · rename_i hk
      injection h with h
      rw [intEq_eq] at h
      simp only [VR] at hx hy
      subst hx hy
      obtain rfl := kindEq_eq hk
      have := eq_of_beq h
      subst this
      cases n <;> simp [Instr.sameBits]
    · cases h
  · injection h with h
    simp only [VR] at hx hy
    obtain ⟨rfl, h1⟩ := hx
    obtain ⟨rfl, h2⟩ := hy
    rw [bytesVal_eq, bytesVal_eq]
    have := bts_beq' h1 h2
    rw [h] at this
    cases n <;> simp [Instr.sameBits, this]
  · injection h with h
    simp only [VR] at hx hy
    subst hx hy
    rename_i a b
    cases a <;> cases b <;> first | (simp at h; done) | (cases n <;> rfl)
  · cases h

theorem eqT_eq {d : TD} {x y : AV} {u v : Value} (h : eqT d x y = some true) (hx : VR φ x u) (hy : VR φ y v) : u = v := by
  unfold eqT at h
  split at h
  · split at h
    · rename_i hk
      injection h with h
      rw [intEq_eq] at h
      simp only [VR] at hx hy
      subst hx hy
      obtain rfl := kindEq_eq hk
      have := eq_of_beq h
      subst this
      rfl
    · cases h
  · injection h with h
    simp only [VR] at hx hy
    obtain ⟨rfl, h1⟩ := hx
    obtain ⟨rfl, h2⟩ := hy
    rw [eqN_eq] at h
    rw [eq_of_beq h]
  · injection h with h
    simp only [VR] at hx hy
    subst hx hy
    rename_i a b
    cases a <;> cases b <;> first | (simp at h; done) | rfl
  · cases h

theorem eqFs_eq {n : Nat} : ∀ {fs : List (Nat × TypeId)} {k : Nat} {l m : List AV} {xs ys : List Value}, eqFs E fs k l m = some true → VRL φ l xs → VRL φ m ys →
    xs = ys ∧ (xs.zip ys).all (fun (x, y) => Instr.sameBits n x y) = true
  | [], k, l, m, xs, ys, h, hx, hy => by
    cases l <;> cases m <;> simp [eqFs] at h
    rw [VRL_nil] at hx hy
    subst hx hy
    exact ⟨rfl, rfl⟩
  | (off, t) :: fs, k, l, m, xs, ys, h, hx, hy => by
    cases l with
    | nil => simp [eqFs] at h
    | cons a l =>
    cases m with
    | nil => simp [eqFs] at h
    | cons b m =>
      rw [VRL_cons] at hx hy
      obtain ⟨u, xs, rfl, hu, hx⟩ := hx
      obtain ⟨v, ys, rfl, hv, hy⟩ := hy
      simp only [eqFs] at h
      split at h
      · split at h
        · split at h
          · rename_i ht
            obtain ⟨h1, h2⟩ := eqFs_eq (n := n) h hx hy
            have h3 := sameBits_T ht hu hv n
            have h4 := eqT_eq ht hu hv
            refine ⟨by rw [h1, h4], ?_⟩
            simp only [List.zip_cons_cons, List.all_cons, h3, Bool.true_and]
            exact h2
          · cases h
          · cases h
        · cases h
      · cases h

theorem key_eq {t : TypeId} {x y : AV} {u v : Value} (h : eqKey E t x y = some true) (hx : VR φ x u) (hy : VR φ y v) (n : Nat) : u = v ∧ Instr.sameBits (n + 1) u v = true := by
  unfold eqKey at h
  split at h
  · cases h
  · split at h
    · split at h
      · simp only [VR] at hx hy
        obtain ⟨xs, rfl, hx⟩ := hx
        obtain ⟨ys, rfl, hy⟩ := hy
        obtain ⟨h1, h2⟩ := eqFs_eq (n := n) h hx hy
        subst h1
        refine ⟨rfl, ?_⟩
        simp only [Instr.sameBits, BEq.rfl, Bool.true_and]
        exact h2
      · cases h
    · exact ⟨eqT_eq h hx hy, sameBits_T h hx hy _⟩
end
end Go.AM
