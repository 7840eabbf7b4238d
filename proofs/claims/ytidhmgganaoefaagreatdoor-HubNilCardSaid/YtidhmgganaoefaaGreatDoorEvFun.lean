/-
  The evaluator is sound: functions. The staged evaluator is sound: ranges over a function. The staged evaluator is sound: functions: arguments, results. The staged evaluator is sound: deferred functions that recover first of all. The staged evaluator is sound: deferred calls, a function's call, a round's. The staged evaluator is sound: a round of a range over a function.
-/
import Derived.Test.YtidhmgganaoefaaGreatDoorEvSound
import Derived.RangeFuncRecord
import Derived.Test.YtidhmgganaoefaaGreatDoorEvDraw
import Derived.RecoverIn
namespace Go.AM
section
variable {cx : Cx} {c : FC} {x : Fx} {ro : Option Nat}

/-- What is called as a function is entered. -/
def FcFn (P : Program) (fc : FC) : Prop := ∀ f cap l h nx rs, fc (.func f cap) l h nx = some rs → ∀ args w, (callFunc f args).run P w = .ok (.enter f args) w

theorem callFunc_body {P : Program} {f : Nat} {fn : Func} {b : Code} (hf : P.funcs[f]? = some fn) (hb : fn.body = some b) (hn : fn.name ≠ "runtime.NumGoroutine") (args : Array Value) (w : World) :
    (callFunc f args).run P w = .ok (.enter f args) w := by
  simp [callFunc, hf, hb, hn]

theorem crC_ret {v : AV} {h : Heap} {nx : Pos} {kv kp : AV → Heap → Pos → R} : crC (.ret v h nx) kv kp = kv v h nx := rfl
theorem crC_pan {v : AV} {h : Heap} {nx : Pos} {kv kp : AV → Heap → Pos → R} : crC (.pan v h nx) kv kp = kp v h nx := rfl

theorem range_ok (hW : cx.W = x.W) (hnt : cx.nt = x.nt) (hG : GB cx.E x.B) (hc : FcOK cx.E x.P c) (hn : FcFn x.P c) (hrd : ro ≠ none → cx.rd = true) : RangeOK x cx c ro := by
  intro g ps as bd f tm df h nx kn kx φ a w rs hb hg hT T D H Kp
  simp only [codeB] at hb
  split at hb
  · cases hb
  · rename_i hr
    have hro : ro = none := Classical.byContradiction fun hne => hr (hrd hne)
    subst hro
    split at hb
    · split at hb
      · rename_i fg hfg
        injection hb with hb
        injection hb with hb
        subst hb
        rcases funC_some hg with ⟨fi, cap, e, hg⟩ | ⟨p, e, hg⟩
        · obtain ⟨r1, hg1, hg2⟩ := ob_some hg
          have hv : VR φ (fg [] tm) (ev a.tmps g) := (EI.of_tr (W := cx.W) (nt := cx.nt) (by rw [hW, hnt]; exact T)).read hfg (fun _ _ h => h)
          refine wpIn_rangeFunc fun fn _ => ?_
          -- the block for deferred calls, the record
          obtain ⟨H1, K1⟩ := H.make (o := .deferred false) rfl (x := .deferred (some [])) (b := 0) (s := 0) rfl
          obtain ⟨H2, K2⟩ := H1.make (o := .loop .ready none cx.W cx.nt tm ps.toList as bd) rfl (x := .loop { state := .ready, pending := none, fn := fn, tmps := a.tmps, params := ps, assign := as, body := bd, defers := w.heap.size }) (b := 0) (s := 0) ⟨_, _, _, rfl, by
            rw [hW, hnt]
            exact T.mono (Ph.le_trans (Ph.le_upd _ (H.fresh nx (Nat.le_refl _))) (Ph.le_upd _ (H1.fresh _ (Nat.le_refl _))))⟩
          rw [World.size_alloc] at H2 K2
          have hel := run_enterLoop_outer (P := x.P) (w := w) fn a.tmps ps as bd
          generalize (w.alloc (.deferred (some []))).alloc (.loop { state := .ready, pending := none, fn := fn, tmps := a.tmps, params := ps, assign := as, body := bd, defers := w.heap.size }) = w2 at H2 hel
          have K12 := K1.trans K2
          have hve := hv
          rw [e] at hve
          simp only [VR] at hve
          obtain ⟨cs, hcs, hcap⟩ := hve
          have cr := hc _ _ _ _ _ hg1 x.B _ _ (ev a.tmps g) [.func (.yield (w.heap.size + 1)) #[] #[]] hG H2 (hv.mono K12.le) (by
            simp only [VRL, VR]
            exact ⟨_, [], rfl, ⟨_, _, _, Ph.upd_same _ _ _, rfl⟩, rfl⟩)
          rw [e] at hg1
          have hent := hn _ _ _ _ _ _ hg1
          have hrun : (callV (ev a.tmps g) [Value.func (.yield (w.heap.size + 1)) #[] #[]].toArray).run x.P w2 =
              .ok (.enter fi (#[Value.func (.yield (w.heap.size + 1)) #[] #[]] ++ cs.toArray)) w2 := by
            rw [hcs]
            unfold callV
            simp only [Deferred.ofValue, Sem.run_bind, Sem.run_pure, Result.andThen_ok, invoke]
            have := hent (#[Value.func (.yield (w.heap.size + 1)) #[] #[]] ++ cs.toArray) w2
            simpa using this
          rw [hrun] at cr
          refine ⟨_, _, w2, { target := .fn (.func fi) cs.toArray, args := #[Value.func (.yield (w.heap.size + 1)) #[] #[]] }, w2, fi, #[Value.func (.yield (w.heap.size + 1)) #[] #[]] ++ cs.toArray, w2, hel, ?_, fun _ _ => trivial, ?_, fun h => (nomatch h), ?_⟩
          · have he : a.eval g = .func (.func fi) #[] cs.toArray := by rw [eval_ev]; exact hcs
            have hy : a.eval (.const (.func (.yield (w.heap.size + 1)) #[] #[])) = .func (.yield (w.heap.size + 1)) #[] #[] := rfl
            simp [resolve, he, hy, Deferred.ofValue]
          · simp only [invoke]
            exact hent _ _
          · refine CallsIn.mono (F := Fence.wide) cr fun en w3 hR => ?_
            cases en with
            | outgrown => exact hR.elim
            | returned u =>
              obtain ⟨φ3, v3, h3, nx3, hm, H3, hv3, K3⟩ := hR
              obtain ⟨r, hr1, hr2⟩ := mapL_some hg2 _ hm
              rw [crC_ret] at hr1
              split at hr1
              · cases hr1
              · rename_i st p W' nt' tm' ps' a' b' hnb hget
                have hφl : φ3 (Pos.succ nx) = some (w.heap.size + 1, 0, 0) := K3.le _ _ (Ph.upd_same _ _ _)
                have hφd : φ3 nx = some (w.heap.size, 0, 0) := K3.le _ _ (K2.le _ _ (Ph.upd_same _ _ _))
                obtain ⟨y, hy, ho⟩ := H3.obj _ _ _ _ _ hget hφl
                obtain ⟨f3, tms3, d3, rfl, T3⟩ := ho
                have hst : st ≠ .busy := fun e => by
                  subst e
                  exact hnb rfl
                have he := run_endLoop (P := x.P) hy hst
                refine ⟨_, _, he, ?_⟩
                have H4 := H3.write (o' := .loop .exhausted p W' nt' tm' ps' a' b') hget hφl rfl rfl (x' := .loop { state := .exhausted, pending := p, fn := f3, tmps := tms3, params := ps'.toArray, assign := a', body := b', defers := d3 }) ⟨_, _, _, rfl, T3⟩
                have K4 : Kept φ h nx φ3 (Tr.set (some (.loop .exhausted p W' nt' tm' ps' a' b')) (Pos.succ nx) h3) nx3 := (K12.trans K3).trans (Kept.write hφl _)
                have D4 : DfR φ3 (.collected nx :: df) ([{ target := Target.collected w.heap.size, args := #[] }] ++ a.defers) := ⟨_, _, _, _, _, rfl, rfl, hφd, D.mono K4.le⟩
                have fits : ∀ k : K, k tm (.collected nx :: df) (Tr.set (some (.loop .exhausted p W' nt' tm' ps' a' b')) (Pos.succ nx) h3) nx3 = some r → Fits x k { tmps := a.tmps, defers := [{ target := Target.collected w.heap.size, args := #[] }] ++ a.defers } (w3.putObj (w.heap.size + 1) (.loop { state := .exhausted, pending := p, fn := f3, tmps := tms3, params := ps'.toArray, assign := a', body := b', defers := d3 })) :=
                  fun k hk => ⟨φ3, tm, _, _, nx3, r, hk, fun y hy => hT y (hr2 y hy), T.mono K4.le, D4, H4, Kp.trans K4⟩
                cases p with
                | none => exact fits kn hr1
                | some j =>
                  simp only [gotoB] at hr1
                  cases j with
                  | ret => exact wpIn_ret (fits (kx 0) hr1)
                  | exit id => exact wpIn_exit (fits (kx (id + 1)) hr1)
                  | _ => cases hr1
              · cases hr1
            | panicked ch =>
              obtain ⟨φ3, v3, u, h3, nx3, hm, rfl, H3, hv3, K3⟩ := hR
              obtain ⟨r, hr1, hr2⟩ := mapL_some hg2 _ hm
              rw [crC_pan] at hr1
              have hφd : φ3 nx = some (w.heap.size, 0, 0) := K3.le _ _ (K2.le _ _ (Ph.upd_same _ _ _))
              have K4 := K12.trans K3
              exact ⟨φ3, v3, u, tm, _, h3, nx3, r, rfl, hv3, hr1, fun y hy => hT y (hr2 y hy), .inl (T.mono K4.le), ⟨_, _, _, _, _, rfl, rfl, hφd, D.mono K4.le⟩, H3, Kp.trans K4⟩
        · cases hg
      · cases hb
    · cases hb

end
end Go.AM
namespace Go.AM
section
variable {φ : Ph} {W nt : Nat}

theorem slots0_get (i : Nat) : Slots.get i slots0 = AV.undef := by
  unfold Slots.get slots0 N8.all N8.get
  split <;> split <;> split <;> rfl

theorem argT_get : ∀ (l : List AV) (n : Nat) (t : Slots) (i : Nat), n + l.length ≤ 512 → i < 512 → Slots.get i (argT l n t) = if n ≤ i ∧ i < n + l.length then (l[i - n]?).getD AV.undef else Slots.get i t
  | [], n, t, i, _, _ => by
    simp only [argT]
    rw [if_neg (by simp)]
  | v :: l, n, t, i, h, hi => by
    simp only [argT]
    simp only [List.length_cons] at h
    rw [argT_get l (Nat.succ n) _ i (by omega) hi]
    rw [unB_eq, setB_eq]
    by_cases e : i = n
    · subst e
      rw [if_neg (by omega), if_pos (by simp), Slots.get_set_same]
      simp
    · by_cases h1 : n ≤ i ∧ i < n + (l.length + 1)
      · rw [if_pos (by omega), if_pos (by simpa using h1)]
        rw [show i - n = (i - Nat.succ n) + 1 by omega]
        simp
      · rw [if_neg (by omega), if_neg (by simpa using h1), Slots.get_set_ne (by omega) hi (Ne.symm e)]

theorem TR_args {l : List AV} {us : List Value} (h : VRL φ l us) (hl : l.length ≤ nt) (hn : nt ≤ 512) : TR φ W nt (argT l 0 slots0) (us.toArray ++ Array.replicate (nt - us.toArray.size) undef) := by
  have hlen := h.length
  refine ⟨by simp; omega, hn, fun i hi _ => ?_⟩
  rw [argT_get l 0 slots0 i (by omega) (by omega)]
  by_cases e : i < l.length
  · rw [if_pos (by omega)]
    obtain ⟨v, h1, h2⟩ := h.get (i := i) (a := l[i]) (by simp [e])
    have : (us.toArray ++ Array.replicate (nt - us.toArray.size) undef).getD i Go.undef = v := by
      have hi' : i < us.length := by omega
      simp [Array.getElem?_append, hi'] at h1 ⊢
      exact h1
    rw [this]
    simpa [e] using h2
  · rw [if_neg (by omega), slots0_get]
    have : (us.toArray ++ Array.replicate (nt - us.toArray.size) undef).getD i Go.undef = Go.undef := by
      have hi' : ¬ i < us.length := by omega
      simp only [Array.getD_eq_getD_getElem?, Array.getElem?_append, List.size_toArray, if_neg hi', Array.getElem?_replicate]
      split <;> rfl
    rw [this]
    exact VR_undef _

theorem run_asAddr_of {P : Program} {w : World} {a : Addr} : (asAddr (.pointer (some a))).run P w = .ok a w := rfl

variable {E : Env} {P : Program} {B : Base} {h : Heap} {nx : Pos} {w : World}

theorem resB_sound (hE : EOK E P) (H : HR φ B h nx w) (G : GR E w) {tm : Slots} {tmps : Array Value} (T : TR φ W nt tm tmps) : ∀ {rs : List ResultVar} {g : Slots → Heap → Option (List AV)} {vs : List AV}, resB E W nt rs = some ⟨g⟩ → g tm h = some vs →
    ∃ us, (rs.mapM (m := Sem) fun
      | .tmp t => pure (tmps.getD t undef)
      | .cell a t => do loadVar t (← asAddr (tmps.getD a undef))).run P w = .ok us w ∧ VRL φ vs us
  | [], g, vs, hb, hg => by
    simp only [resB] at hb
    injection hb with hb
    injection hb with hb
    subst hb
    injection hg with hg
    subst hg
    exact ⟨[], by simp, by simp [VRL]⟩
  | .tmp t :: rs, g, vs, hb, hg => by
    simp only [resB] at hb
    split at hb
    · rename_i f g' hf hg'
      injection hb with hb
      injection hb with hb
      subst hb
      obtain ⟨r, h1, h2⟩ := ob_some hg
      injection h2 with h2
      subst h2
      obtain ⟨us, h3, h4⟩ := resB_sound hE H G T hg' h1
      have hv : VR φ (f [] tm) (ev tmps (.tmp t)) := (EI.of_tr (W := W) (nt := nt) T).read hf (fun _ _ h => h)
      refine ⟨tmps.getD t undef :: us, ?_, ?_⟩
      · simp only [List.mapM_cons, Sem.run_bind, Sem.run_pure, Result.andThen_ok]
        rw [h3]
        rfl
      · simp only [VRL]
        exact ⟨_, _, rfl, hv, h4⟩
    · cases hb
  | .cell a t :: rs, g, vs, hb, hg => by
    simp only [resB] at hb
    split at hb
    · rename_i f g' hf hg'
      injection hb with hb
      injection hb with hb
      subst hb
      obtain ⟨v, h0, hg⟩ := ob_some hg
      obtain ⟨r, h1, h2⟩ := ob_some hg
      injection h2 with h2
      subst h2
      obtain ⟨us, h3, h4⟩ := resB_sound hE H G T hg' h1
      have hv : VR φ (f [] tm) (ev tmps (.tmp a)) := (EI.of_tr (W := W) (nt := nt) T).read hf (fun _ _ h => h)
      unfold loadA at h0
      split at h0
      · rename_i i hi
        split at h0
        · rename_i l hc
          obtain ⟨k, o, e, hcells⟩ := cellsAt_sound H G hc hv
          obtain ⟨u, g1, g2⟩ := loadVar_run (hE.ty _ _ hi) (l := l) (r := v) (a := ⟨k, o, none⟩) hcells h0
          have e' : tmps.getD a undef = .pointer (some ⟨k, o, none⟩) := e
          refine ⟨u :: us, ?_, ?_⟩
          · simp only [List.mapM_cons, Sem.run_bind, e', run_asAddr_of, Result.andThen_ok, g1]
            rw [h3]
            rfl
          · simp only [VRL]
            exact ⟨_, _, rfl, g2, h4⟩
        · cases h0
      · cases h0
    · cases hb

theorem results_sound (hE : EOK E P) (H : HR φ B h nx w) (G : GR E w) {tm : Slots} {tmps : Array Value} (T : TR φ W nt tm tmps) {fn : Func} {g : Slots → Heap → Option (List AV)} {vs : List AV} (hb : resB E W nt fn.results.toList = some ⟨g⟩) (hg : g tm h = some vs) :
    ∃ u, (results fn tmps).run P w = .ok u w ∧ VR φ (oneOf vs) u := by
  obtain ⟨us, h1, h2⟩ := resB_sound hE H G T hb hg
  have hl := h2.length
  have hrun : (results fn tmps).run P w = .ok (if h : us.toArray.size = 1 then us.toArray[0] else .tuple us.toArray) w := by
    unfold results
    rw [Array.mapM_eq_mapM_toList]
    simp only [Sem.run_bind, Sem.run_map, Sem.run_pure]
    exact (congrArg (fun r : Result (List Value) => (r.andThen fun a w' => Result.ok a.toArray w').andThen fun a w' => Result.ok (if h : a.size = 1 then a[0] else Value.tuple a) w') h1)
  refine ⟨_, hrun, ?_⟩
  unfold oneOf
  split
  · rename_i v
    obtain ⟨u, r, rfl, h3, h4⟩ := VRL_cons.1 h2
    rw [VRL_nil] at h4
    subst h4
    simpa using h3
  · rename_i hne
    have : ¬ us.toArray.size = 1 := by
      intro e
      simp at e
      rw [hl] at e
      obtain ⟨v, rfl⟩ := List.length_eq_one_iff.1 e
      exact hne v rfl
    rw [dif_neg this]
    simp only [VR]
    exact ⟨us, rfl, h2⟩
end
end Go.AM
namespace Go.AM
section
variable {cx : Cx} {c : FC} {x : Fx}

theorem wpSIn_mono {F : Fence} {n : Nat} {P : Program} {cd : Code} {Q Q' : Exit → Act → List Frame → World → Prop} {a : Act} {cs : List Frame} {w : World} (h : cd.wpSIn F n P Q a cs w) (hq : ∀ e a cs w, Q e a cs w → Q' e a cs w) : cd.wpSIn F n P Q' a cs w :=
  fun b k hk hro hF hr => let ⟨e, a', cs', w', h1, h2, h3⟩ := h b k hk hro hF hr; ⟨e, a', cs', w', h1, hq _ _ _ _ h2, h3⟩

/-- What recover hands out, and the stack behind it. -/
def Rec (cs₀ : List Frame) (u : Value) (cs₁ : List Frame) : Prop := recoverD cs₀ = some (u, cs₁) ∨ recoverD cs₀ = none ∧ u = .nilIface ∧ cs₁ = cs₀
theorem Rec.length {cs₀ cs₁ : List Frame} {u : Value} (h : Rec cs₀ u cs₁) : cs₁.length = cs₀.length := by
  rcases h with h | ⟨_, _, rfl⟩
  · exact recoverD_length h
  · rfl

theorem headRec_sound (hW : cx.W = x.W) (hnt : cx.nt = x.nt) (hE : EOK cx.E x.P) (hG : GB cx.E x.B) (hX : ExtOK cx.E x.P) (hc : FcOK cx.E x.P c) (hdr : DrawnOK x cx c none) (hrg : RangeOK x cx c none) (cd : Code) :
    ∀ (d : Option Tmp) (r all : List Oper) (c' : Code) (f : Rg) (fc : VC) (g : Cd) (kn : K) (kx : KX) (tm : Slots) (h : Heap) (nx : Pos) (φ : Ph) (a : Act) (w : World) (rs : List CR) (v : AV) (u : Value) (cs₀ cs₁ : List Frame),
      headRec cd = some (d, r, all, c') → opsB cx all r (namesOf [] d) = some ⟨f⟩ → contB cx d f = some ⟨fc⟩ → codeB cx c' = some ⟨g⟩ → fc c v [] tm [] h nx (fun tm df h nx => g c tm df h nx kn kx) = some rs → (∀ r ∈ rs, r ∈ x.T) →
      TR φ x.W x.nt tm a.tmps → a.defers = [] → HR φ x.B h nx w → Kept x.φ x.h x.nx φ h nx → Rec cs₀ u cs₁ → VR φ v u →
      cd.wpSIn Fence.wide 0 x.P (fun e a cs w => cs = cs₁ ∧ Post x kn kx (cx.pe c) e a w) a cs₀ w := by
  induction cd with
  | seq y b ihy ihb =>
    intro d r all c' f fc g kn kx tm h nx φ a w rs v u cs₀ cs₁ hh hf hfc hg hrun hT T D H Kp hrec hv
    simp only [headRec] at hh
    split at hh
    · rename_i d' r' all' c1 hy
      injection hh with hh
      simp only [Prod.mk.injEq] at hh
      obtain ⟨rfl, rfl, rfl, rfl⟩ := hh
      simp only [codeB] at hg
      split at hg
      · rename_i g1 gb hg1 hgb
        injection hg with hg
        injection hg with hg
        subst hg
        refine wpSIn_seq (wpSIn_mono (ihy _ _ _ _ _ _ _ (fun tm df h nx => gb c tm df h nx kn kx) kx _ _ _ _ _ _ _ _ _ _ _ hy hf hfc hg1 hrun hT T D H Kp hrec hv) fun e a' cs' w' q => ?_)
        obtain ⟨rfl, q⟩ := q
        cases e with
        | normal =>
          obtain ⟨φ', tm', df', h', nx', rs', g1, g2, g3, g4, g5, g6⟩ := q
          exact wpSIn_of_wpIn rfl (wpIn_mono (codeB_sound (ro := none) hW hnt hE hG hX hc (fun h => absurd rfl h) hdr hrg b gb tm' df' h' nx' kn kx φ' a' w' rs' hgb g1 g2 g3 g4 g5 g6) fun e a w q => ⟨rfl, q⟩)
        | _ => exact ⟨rfl, q⟩
      · cases hg
    · cases hh
  | region id ops draws =>
    intro d r all c' f fc g kn kx tm h nx φ a w rs v u cs₀ cs₁ hh hf hfc hg hrun hT T D H Kp hrec hv
    cases draws with
    | true => cases hh
    | false =>
    simp only [headRec] at hh
    split at hh
    · rename_i o r' hops
      split at hh
      · rename_i c0 as0 ts0 hop hgd
        injection hh with hh
        simp only [Prod.mk.injEq] at hh
        obtain ⟨rfl, rfl, rfl, rfl⟩ := hh
        simp only [codeB] at hg
        injection hg with hg
        injection hg with hg
        subst hg
        obtain ⟨he, hd⟩ := contB_eq hfc
        rw [he] at hrun
        have ho : ops[0]? = some o := by rw [← Array.getElem?_toList, hops]; rfl
        have hI : EI φ (fun _ => False) cx.W cx.nt (namesOf [] o.dst) (lP o.dst v []) (tP cx.W o.dst v tm) (a.put o.dst u).tmps := by
          rw [put_tmps]
          exact ((EI.of_tr (W := cx.W) (nt := cx.nt) (by rw [hW, hnt]; exact T)).putL hd hv).weaken (by intro t ht; exact ht.1)
        have hwp := opsB_sound (ops := ops) (ro := none) hW hnt hE hG hX hc (fun h => absurd rfl h) (kx := kx) r' [o] (namesOf [] o.dst) (lP o.dst v []) f (tP cx.W o.dst v tm) [] h nx φ (a.put o.dst u) w rs (by rw [hops]; rfl) (by rw [hops]; exact hf) hrun hT H hI (by rw [put_defers, D]; rfl) Kp
        intro b k hk hro hF hroom
        obtain ⟨e, a', w', q, harr⟩ := wp_opsIn _ _ _ hwp b k cs₁ hro hF (by rw [hrec.length]; exact hroom)
        refine ⟨e, a', cs₁, w', hrec.length, ⟨rfl, q⟩, ?_⟩
        have hlist : List.range ops.size = 0 :: List.range' [o].length r'.length := by
          rw [List.range_eq_range', ← Array.length_toList, hops]
          rfl
        generalize List.range' [o].length r'.length = L at harr hlist
        have s1 := stepR_region (P := x.P) (b := b) (a := a) (k := k) (cs := cs₀) (w := w) (ops := ops) (id := id)
        rw [hlist] at s1
        have hw : Region.wanted o (yielded ops a.tmps) = true := by
          unfold Region.wanted
          rw [hgd]
        have hg := stepGR_op (P := x.P) (b := b) (k := k) (cs := cs₀) (w := w) (rest := L) ho hw
        rw [hro, Oper.semAt_none] at hg
        have hex : (execOp a.eval o).run x.P w = .ok .recover w := by
          unfold execOp
          rw [hop]
          simp [resolve, invoke, builtin]
        have hfin : ∀ v, (b.atR a (.inRegion ops (0 :: L) :: k)).finish v = b.atR (a.put o.dst v) (.inRegion ops (L) :: k) := by
          intro v; rw [Frame.finish_atR, ho]; rfl
        have hkd : (b.atR a (.inRegion ops (0 :: L) :: k)).kind = .deferred := hk
        have htr := tryRecover_deferred hkd cs₀
        have s2 : step x.P (lone (b.atR a (.inRegion ops (0 :: L) :: k)) cs₀ w) = .next (lone (b.atR (a.put o.dst u) (.inRegion ops (L) :: k)) cs₁ w) := by
          refine step_lone_go ?_
          rw [hg, ← hfin]
          rcases hrec with hrec | ⟨hrec, rfl, rfl⟩
          · simp only [Frame.atR, hro] at htr ⊢
            simp [stepG.apply, hex, htr, hrec]
          · simp only [Frame.atR, hro] at htr ⊢
            simp [stepG.apply, hex, htr, hrec]
        exact .of_steps (.head (fenced_calm hF hroom rfl) s1 (.one (fenced_oper hF hroom ho fun _ _ => trivial) s2)) harr
      · cases hh
    · cases hh
  | _ =>
    intro d r all c' f fc g kn kx tm h nx φ a w rs v u cs₀ cs₁ hh
    cases hh
end
end Go.AM
namespace Go.AM

def MdR (φ : Ph) : Md → FrameMode → Prop
  | .returning, m => m = .returning
  | .panicking v r, m => ∃ u, m = .panicking [{ v := u, recovered := r }] ∧ VR φ v u
theorem MdR.mono {φ ψ : Ph} (h : φ.le ψ) : ∀ {md : Md} {m : FrameMode}, MdR φ md m → MdR ψ md m
  | .returning, _, e => e
  | .panicking _ _, _, ⟨u, h1, h2⟩ => ⟨u, h1, h2.mono h⟩
theorem MdR.run {φ : Ph} : ∀ {md : Md} {m : FrameMode}, MdR φ md m → m ≠ .run
  | .returning, _, e => by rw [e]; simp
  | .panicking _ _, _, ⟨u, h1, _⟩ => by rw [h1]; simp
theorem MdR.settle {φ : Ph} : ∀ {md : Md} {m : FrameMode}, MdR φ md m → MdR φ (settleM md) (Go.settle m)
  | .returning, _, e => by rw [e]; rfl
  | .panicking _ true, _, ⟨u, h1, h2⟩ => by rw [h1]; rfl
  | .panicking _ false, _, ⟨u, h1, h2⟩ => by rw [h1]; exact ⟨u, rfl, h2⟩

/-- No function bears this name. -/
def NamesOK (E : Env) : Prop := ∀ f fn, E.fn f = some fn → fn.name ≠ "runtime.NumGoroutine"

theorem dfC_nil {β : Type} {l : List Df} {z : Option β} {r : β} (h : dfC l z (fun _ _ _ => none) (fun _ _ => none) = some r) : l = [] ∧ z = some r := by
  cases l with
  | nil => exact ⟨rfl, h⟩
  | cons d l => cases d <;> cases h

/-- What all that is below is told. -/
structure Wd (P : Program) (E : Env) (fc : FC) : Prop where
  mixed : P.follows .mixedOrders = true
  e : EOK E P
  X : ExtOK E P
  N : NamesOK E
  c : FcOK E P fc
  n : FcFn P fc

section
variable {P : Program} {E : Env} {fc : FC} {B : Base} {φ : Ph} {h : Heap} {nx : Pos} {w : World}

theorem recB_some {cx : Cx} {d : Option Tmp} {r all : List Oper} {c : Code} {b : Box (FC → AV → Slots → Heap → Pos → K → KX → R)} (h : recB cx d r all c = some b) :
    ∃ f g fc, opsB cx all r (namesOf [] d) = some ⟨f⟩ ∧ codeB cx c = some ⟨g⟩ ∧ contB cx d f = some ⟨fc⟩ ∧ ∀ c' v tm h nx kn kx, b.f c' v tm h nx kn kx = fc c' v [] tm [] h nx (fun tm df h nx => g c' tm df h nx kn kx) := by
  unfold recB at h
  split at h
  · rename_i f g hf hg
    split at h
    · rename_i fc hfc
      injection h with h
      subst h
      exact ⟨f, g, fc, hf, hg, hfc, fun _ _ _ _ _ _ _ => rfl⟩
    · cases h
  · cases h

/-- A deferred function. -/
theorem defB_sound (O : Wd P E fc) (G : GB E B) {f : FuncId} {D : Sd} (hd : defB E f = some ⟨D⟩) {md : Md} {u : FrameMode} {l : List AV} {us : List Value} {k : Md → Heap → Pos → R} {rs T : List CR}
    (hg : D fc md h nx l k = some rs) (hT : ∀ r ∈ rs, r ∈ T) (H : HR φ B h nx w) (hl : VRL φ l us) (hm : MdR φ md u) :
    (∀ args w, (callFunc f args).run P w = .ok (.enter f args) w) ∧
    CallsDIn Fence.wide 0 P f us.toArray u w fun e u' w' => match e with
      | .returned _ => ∃ φ' md' h' nx' rs', k md' h' nx' = some rs' ∧ (∀ r ∈ rs', r ∈ T) ∧ HR φ' B h' nx' w' ∧ MdR φ' md' u' ∧ Kept φ h nx φ' h' nx'
      | _ => False := by
  unfold defB at hd
  split at hd
  · cases hd
  · rename_i fn hfn
    have hf := O.e.fn _ _ hfn
    split at hd
    · cases hd
    · rename_i c hc
      refine ⟨fun args w => callFunc_body hf hc (O.N _ _ hfn) args w, ?_⟩
      split at hd
      · cases hd
      · rename_i hnt
        have hnt : fn.ntmps ≤ 512 := by
          cases e : Nat.ble fn.ntmps 512 with
          | true => exact Nat.le_of_ble_eq_true e
          | false => rw [e] at hnt; exact absurd rfl hnt
        split at hd
        · cases hd
        · rename_i hres
          have hres : fn.results = #[] := by
            apply Array.toList_inj.1
            rw [hres]
          split at hd
          · rename_i d r all c' hh
            split at hd
            · rename_i gf hrec
              injection hd with hd
              injection hd with hd
              subst hd
              obtain ⟨hle, hg⟩ := bb_some_none hg
              have hle : l.length ≤ fn.ntmps := by
                have := Nat.le_of_ble_eq_true hle
                rwa [lenL_eq, Nat.zero_add] at this
              obtain ⟨f1, g1, fc1, h1, h2, h3, h4⟩ := recB_some hrec
              simp only at h4
              let x : Fx := { P := P, E := E, B := B, W := wOf fn c, nt := fn.ntmps, φ := φ, h := h, nx := nx, T := T }
              let cx : Cx := { E := E, W := wOf fn c, nt := fn.ntmps, pe := fun _ _ _ _ _ _ => none, rd := false }
              have hdr : DrawnOK x cx fc none := drawn_ok O.mixed rfl rfl O.e G O.X O.c (fun h => absurd rfl h)
              have hrg : RangeOK x cx fc none := range_ok rfl rfl G O.c O.n (fun h => absurd rfl h)
              -- the walk, once what recover hands out is known
              have key : ∀ (v : AV) (md1 : Md) (c₀ : Frame) (cs : List Frame) (uv : Value) (cs₁ : List Frame) (u1 : FrameMode), gf fc v (argT l 0 slots0) h nx (endD md1 k) (fun e => bb (Nat.beq e 0) (endD md1 k) (fun _ _ _ _ => none)) = some rs →
                  VR φ v uv → Rec (c₀ :: cs) uv cs₁ → cs₁ = { c₀ with mode := u1 } :: cs → MdR φ md1 u1 →
                  c.wpSIn Fence.wide 0 P (bodyPostS P fn c₀ cs fun e u' w' => match e with
                    | .returned _ => ∃ φ' md' h' nx' rs', k md' h' nx' = some rs' ∧ (∀ r ∈ rs', r ∈ T) ∧ HR φ' B h' nx' w' ∧ MdR φ' md' u' ∧ Kept φ h nx φ' h' nx'
                    | _ => False) { tmps := us.toArray ++ Array.replicate (fn.ntmps - us.toArray.size) undef, defers := [] } (c₀ :: cs) w := by
                intro v md1 c₀ cs uv cs₁ u1 hrun hv hr hcs hm1
                rw [h4] at hrun
                have := headRec_sound (x := x) (cx := cx) rfl rfl O.e G O.X O.c hdr hrg c d r all c' f1 fc1 g1 _ _ _ h nx φ
                  { tmps := us.toArray ++ Array.replicate (fn.ntmps - us.toArray.size) undef, defers := [] } w rs v uv (c₀ :: cs) cs₁ hh h1 h3 h2 hrun hT (TR_args hl hle hnt) rfl H (Kept.refl _ _ _) hr hv
                refine wpSIn_mono this fun e a' cs' w' q => ?_
                obtain ⟨rfl, q⟩ := q
                have fin : Fits x (endD md1 k) a' w' → a'.defers = [] ∧ ∃ u', cs' = { c₀ with mode := u' } :: cs ∧ ∃ v, (results fn a'.tmps).run P w' = .ok v w' ∧
                    ∃ φ' md' h' nx' rs', k md' h' nx' = some rs' ∧ (∀ r ∈ rs', r ∈ T) ∧ HR φ' B h' nx' w' ∧ MdR φ' md' u' ∧ Kept φ h nx φ' h' nx' := by
                  rintro ⟨φ', tm', df', h', nx', rs', q1, q2, q3, q4, q5, q6⟩
                  obtain ⟨rfl, q1⟩ := dfC_nil q1
                  exact ⟨q4, u1, hcs, _, results_none hres _ _ _, φ', md1, h', nx', rs', q1, q2, q5, hm1.mono q6.le, q6⟩
                cases e with
                | normal => exact fin q
                | ret => exact fin q
                | exit id =>
                  obtain ⟨φ', tm', df', h', nx', rs', q1, _⟩ := q
                  cases q1
                | panic ch =>
                  obtain ⟨φ', v', u', tm', df', h', nx', rs', _, _, q1, _⟩ := q
                  cases q1
                | goto t => exact q.elim
                | outgrown => exact q.elim
              refine callsDIn_of_wpSIn hf hc trivial fun c₀ cs hmode => ?_
              cases md with
              | returning =>
                have hu : u = .returning := hm
                exact key .nilIface .returning c₀ cs .nilIface (c₀ :: cs) u hg (by simp [VR]) (.inr ⟨by simp [recoverD, hmode, hu], rfl, rfl⟩) (by rw [← hmode]) hm
              | panicking v rec =>
                obtain ⟨uv, hu, hv⟩ := hm
                cases rec with
                | true => exact key .nilIface (.panicking v true) c₀ cs .nilIface (c₀ :: cs) u hg (by simp [VR]) (.inr ⟨by simp [recoverD, hmode, hu], rfl, rfl⟩) (by rw [← hmode]) ⟨uv, hu, hv⟩
                | false => exact key v (.panicking v true) c₀ cs uv ({ c₀ with mode := .panicking [{ v := uv, recovered := true }] } :: cs) _ hg hv (.inl (by simp [recoverD, hmode, hu])) rfl ⟨uv, rfl, hv⟩
            · cases hd
          · cases hd

theorem leaveB_succ (E : Env) (res : Slots → Heap → Option (List AV)) (fc : FC) (n : Nat) (md : Md) (tm : Slots) (df : List Df) (h : Heap) (nx : Pos) : leaveB E res fc (n + 1) md tm df h nx = dfC df
      (match md with
      | .returning => ob (res tm h) fun vs => some [.ret (oneOf vs) h nx]
      | .panicking v false => some [.pan v h nx]
      | .panicking _ true => none)
      (fun f as ds => match defB E f with
        | some ⟨g⟩ => g fc md h nx as (fun md h nx => leaveB E res fc n (settleM md) tm ds h nx)
        | none => none)
      (fun b ds => match Tr.get b h with
        | some (.deferred false) => leaveB E res fc n md tm ds (Tr.set (some (.deferred true)) b h) nx
        | _ => none) := rfl

theorem leaveB_sound (O : Wd P E fc) (G : GB E B) {fn : Func} {W nt : Nat} {res : Slots → Heap → Option (List AV)} (hres : resB E W nt fn.results.toList = some ⟨res⟩) {tmps : Array Value} {T : List CR} {φ₀ : Ph} {h₀ : Heap} {nx₀ : Pos} :
    ∀ (n : Nat) (md : Md) (tm : Slots) (df : List Df) (h : Heap) (nx : Pos) (rs : List CR) (φ : Ph) (w : World) (ds : List Deferred) (u : FrameMode), leaveB E res fc n md tm df h nx = some rs → (∀ r ∈ rs, r ∈ T) →
      (TR φ W nt tm tmps ∨ df = [] ∧ ∃ v, md = .panicking v false) → DfR φ df ds → HR φ B h nx w → MdR φ md u → Kept φ₀ h₀ nx₀ φ h nx → LeavesInM Fence.wide 0 P fn tmps (RetR B φ₀ h₀ nx₀ T) ds u w
  | 0, md, tm, df, h, nx, rs, φ, w, ds, u, hr, _, _, _, _, _, _ => by cases hr
  | n + 1, md, tm, df, h, nx, rs, φ, w, ds, u, hr, hT, hTR, D, H, hm, Kp => by
    rw [leaveB_succ] at hr
    have hr' := hr
    clear hr
    cases df with
    | nil =>
      simp only [DfR] at D
      subst D
      cases md with
      | returning =>
        have hu : u = .returning := hm
        subst hu
        obtain ⟨vs, h1, h2⟩ := ob_some hr'
        injection h2 with h2
        subst h2
        have TRr : TR φ W nt tm tmps := hTR.resolve_right fun h => by obtain ⟨_, _, h⟩ := h; cases h
        obtain ⟨v, h3, h4⟩ := results_sound O.e H (H.globals G) TRr hres h1
        exact ⟨v, h3, φ, _, h, nx, hT _ (List.mem_singleton.2 rfl), H, h4, Kp⟩
      | panicking v rec =>
        cases rec with
        | true => cases hr'
        | false =>
          have hr'' : some [CR.pan v h nx] = some rs := hr'
          injection hr'' with hr''
          subst hr''
          obtain ⟨uv, rfl, hv⟩ := hm
          exact ⟨φ, v, uv, h, nx, hT _ (List.mem_singleton.2 rfl), rfl, H, hv, Kp⟩
    | cons d df =>
      have TRr : TR φ W nt tm tmps := hTR.resolve_right fun h => by cases h.1
      cases d with
      | call f as =>
        obtain ⟨d, r, vs, cap, rfl, ht, ha, hv, Dr⟩ := D
        have hr'' : (match defB E f with
          | some ⟨g⟩ => g fc md h nx as (fun md h nx => leaveB E res fc n (settleM md) tm df h nx)
          | none => none) = some rs := hr'
        split at hr''
        · rename_i g hg
          obtain ⟨hen, hcd⟩ := defB_sound O G hg hr'' hT H hv hm
          refine ⟨hm.run, .inr ⟨fun h => (nomatch h), .func f, cap, f, vs.toArray, ht, ?_, fun _ _ => trivial, ?_⟩⟩
          · rw [ht]
            simp only [invoke, ha]
            exact hen _ _
          · refine hcd.mono fun e u' w' q => ?_
            cases e with
            | returned v =>
              obtain ⟨φ', md', h', nx', rs', q1, q2, q3, q4, q5⟩ := q
              exact leaveB_sound O G hres n (settleM md') tm df h' nx' rs' φ' w' r (Go.settle u') q1 q2 (.inl (TRr.mono q5.le)) (Dr.mono q5.le) q3 q4.settle (Kp.trans q5)
            | panicked ch => exact q.elim
            | outgrown => exact q.elim
        · cases hr''
      | collected b =>
        obtain ⟨d, r, k, b', s', rfl, ht, hφ, Dr⟩ := D
        have hr'' : (match Tr.get b h with
          | some (.deferred false) => leaveB E res fc n md tm df (Tr.set (some (.deferred true)) b h) nx
          | _ => none) = some rs := hr'
        split at hr''
        · rename_i hget
          obtain ⟨y, hy, ho⟩ := H.obj _ _ _ _ _ hget hφ
          have hy' : w.heap[k]? = some (.deferred (some [])) := by rw [hy, show y = .deferred (some []) from ho]
          have H' := H.write (o' := .deferred true) hget hφ rfl rfl (x' := .deferred none) rfl
          refine ⟨hm.run, .inl ⟨k, _, ht, run_takeDeferred hy', ?_⟩⟩
          exact leaveB_sound O G hres n md tm df _ nx rs φ _ r u hr'' hT (.inl TRr) Dr H' hm (Kp.trans (Kept.write hφ _))
        · cases hr''

/-- A function's call. -/
theorem funB_sound (O : Wd P E fc) (G : GB E B) {f : FuncId} {F : FC → List AV → Heap → Pos → R} (hf : funB E f = some ⟨F⟩) {l : List AV} {us : List Value} {rs : List CR} (hg : F fc l h nx = some rs) (H : HR φ B h nx w) (hl : VRL φ l us) :
    (∀ args w, (callFunc f args).run P w = .ok (.enter f args) w) ∧ CallsIn Fence.wide 0 P f us.toArray w (RetR B φ h nx rs) := by
  unfold funB at hf
  split at hf
  · cases hf
  · rename_i fn hfn
    have hfP := O.e.fn _ _ hfn
    split at hf
    · cases hf
    · rename_i c hc
      refine ⟨fun args w => callFunc_body hfP hc (O.N _ _ hfn) args w, ?_⟩
      split at hf
      · cases hf
      · rename_i hnt
        have hnt : fn.ntmps ≤ 512 := by
          cases e : Nat.ble fn.ntmps 512 with
          | true => exact Nat.le_of_ble_eq_true e
          | false => rw [e] at hnt; exact absurd rfl hnt
        split at hf
        · cases hf
        · rename_i res hres
          split at hf
          · rename_i b hb
            injection hf with hf
            injection hf with hf
            subst hf
            obtain ⟨hle, hg⟩ := bb_some_none hg
            have hle : l.length ≤ fn.ntmps := by
              have := Nat.le_of_ble_eq_true hle
              rwa [lenL_eq, Nat.zero_add] at this
            let x : Fx := { P := P, E := E, B := B, W := wOf fn c, nt := fn.ntmps, φ := φ, h := h, nx := nx, T := rs }
            let cx : Cx := { E := E, W := wOf fn c, nt := fn.ntmps, pe := fun fc v => leaveB E res fc 100 (.panicking v false), rd := false }
            have hdr : DrawnOK x cx fc none := drawn_ok O.mixed rfl rfl O.e G O.X O.c (fun h => absurd rfl h)
            have hrg : RangeOK x cx fc none := range_ok rfl rfl G O.c O.n (fun h => absurd rfl h)
            refine callsIn_of_wp_marks hfP hc trivial ?_
            refine wpIn_mono (codeB_sound (x := x) (cx := cx) (ro := none) rfl rfl O.e G O.X O.c (fun h => absurd rfl h) hdr hrg c b _ [] h nx _ _ φ
              { tmps := us.toArray ++ Array.replicate (fn.ntmps - us.toArray.size) undef, defers := [] } w rs hb hg (fun _ h => h) (TR_args hl hle hnt) rfl H (Kept.refl _ _ _)) fun e a' w' q => ?_
            have fin : Fits x (leaveB E res fc 100 .returning) a' w' → LeavesInM Fence.wide 0 P fn a'.tmps (RetR B φ h nx rs) a'.defers .returning w' := by
              rintro ⟨φ', tm', df', h', nx', rs', q1, q2, q3, q4, q5, q6⟩
              exact leaveB_sound O G hres 100 .returning tm' df' h' nx' rs' φ' w' a'.defers .returning q1 q2 (.inl q3) q4 q5 rfl q6
            cases e with
            | normal => exact fin q
            | ret => exact fin q
            | exit id =>
              obtain ⟨φ', tm', df', h', nx', rs', q1, _⟩ := q
              cases q1
            | panic ch =>
              obtain ⟨φ', v', u', tm', df', h', nx', rs', rfl, hv, q1, q2, q3, q4, q5, q6⟩ := q
              exact leaveB_sound O G hres 100 (.panicking v' false) tm' df' h' nx' rs' φ' w' a'.defers _ q1 q2 (q3.imp id fun e => ⟨e, v', rfl⟩) q4 q5 ⟨u', rfl, hv⟩ q6
            | goto t => exact q.elim
            | outgrown => exact q.elim
          · cases hf
end
end Go.AM
namespace Go.AM
section
variable {P : Program} {E : Env} {fc : FC} {B : Base} {φ : Ph} {h : Heap} {nx : Pos} {w : World}

theorem setPs_sound {W nt : Nat} : ∀ {ps : List Tmp} {l : List AV} {us : List Value} {t t' : Slots} {tmps : Array Value}, setPs nt ps l t = some t' → VRL φ l us → TR φ W nt t tmps →
    us.length = ps.length ∧ TR φ W nt t' ((ps.zip us).foldl (fun tmps (x : Tmp × Value) => tmps.setIfInBounds x.1 x.2) tmps)
  | [], [], us, t, t', tmps, h, hv, T => by
    simp only [setPs] at h
    injection h with h
    subst h
    rw [VRL_nil] at hv
    subst hv
    exact ⟨rfl, T⟩
  | p :: ps, v :: l, us, t, t', tmps, h, hv, T => by
    simp only [setPs] at h
    obtain ⟨hp, h⟩ := bb_some_none h
    have hp : p < nt := by simpa [Nat.blt_eq] using hp
    rw [VRL_cons] at hv
    obtain ⟨u, us', rfl, hv, hvs⟩ := hv
    have T' : TR φ W nt (Slots.set p v t) (tmps.setIfInBounds p u) := by
      refine ⟨by simpa using T.1, T.2.1, fun i hi hk => ?_⟩
      have := T.2.1
      by_cases e : i = p
      · subst e
        rw [Slots.get_set_same, getD_set_same (by rw [T.1]; exact hi)]
        exact hv
      · rw [Slots.get_set_ne (Nat.lt_of_lt_of_le hp this) (by omega) (Ne.symm e), getD_set_other (Ne.symm e)]
        exact T.2.2 i hi hk
    obtain ⟨h1, h2⟩ := setPs_sound h hvs T'
    exact ⟨by simp [h1], by simpa using h2⟩
  | [], _ :: _, _, _, _, _, h, _, _ => by simp [setPs] at h
  | _ :: _, [], _, _, _, _, h, _, _ => by simp [setPs] at h

theorem endRound_sound {k : Nat} {b' s' : Nat} {b : Pos} (_hφ : φ b = some (k, b', s')) {j : Option Code} {x : Fx} (hx : x.φ b = some (k, b', s')) {a : Act} {w : World} (hf : Fits x (endRound b j) a w) :
    ∃ v w', (Instr.endRound k j).run P w = .ok v w' ∧ RetR x.B x.φ x.h x.nx x.T (.returned v) w' := by
  obtain ⟨φ1, tm1, df1, h1, nx1, rs1, q1, q2, q3, q4, q5, q6⟩ := hf
  obtain ⟨rfl, q1'⟩ := dfC_nil q1
  clear q1
  have q1 := q1'
  clear q1'
  have hφ1 := q6.le _ _ hx
  split at q1
  · rename_i st p W nt tm ps a' bd hget
    injection q1 with q1
    subst q1
    obtain ⟨y, hy, f, tms, d, rfl, T⟩ := q5.obj _ _ _ _ _ hget hφ1
    refine ⟨_, _, run_endRound j hy, ?_⟩
    have hm := q2 _ (List.mem_singleton.2 rfl)
    clear q2
    cases j with
    | none =>
      have H' := q5.write (o' := .loop .ready none W nt tm ps a' bd) hget hφ1 rfl rfl (x' := .loop { state := .ready, pending := none, fn := f, tmps := tms, params := ps.toArray, assign := a', body := bd, defers := d }) ⟨_, _, _, rfl, T⟩
      exact ⟨φ1, _, _, _, hm, H', by simp [VR], q6.trans (Kept.write hφ1 _)⟩
    | some j =>
      have H' := q5.write (o' := .loop .done (some j) W nt tm ps a' bd) hget hφ1 rfl rfl (x' := .loop { state := .done, pending := some j, fn := f, tmps := tms, params := ps.toArray, assign := a', body := bd, defers := d }) ⟨_, _, _, rfl, T⟩
      exact ⟨φ1, _, _, _, hm, H', by simp [VR], q6.trans (Kept.write hφ1 _)⟩
  · cases q1

theorem roundB_sound (O : Wd P E fc) (G : GB E B) {W nt : Nat} {a bd : Code} {g : FC → Pos → Slots → Heap → Pos → R} (hr : roundB E W nt a bd = some ⟨g⟩) {b : Pos} {k b' s' : Nat} (hφ : φ b = some (k, b', s')) {tm : Slots} {tmps : Array Value} (T : TR φ W nt tm tmps)
    {rs : List CR} (hg : g fc b tm h nx = some rs) (H : HR φ B h nx w) {f : FuncId} : RoundIn Fence.wide 0 P k f tmps a bd w (RetR B φ h nx rs) := by
  unfold roundB at hr
  split at hr
  · rename_i fa fb ha hb
    injection hr with hr
    injection hr with hr
    subst hr
    let x : Fx := { P := P, E := E, B := B, W := W, nt := nt, φ := φ, h := h, nx := nx, T := rs }
    let cx : Cx := { E := E, W := W, nt := nt, pe := fun _ _ _ _ _ _ => none, rd := true }
    have hdr : DrawnOK x cx fc (some k) := drawn_ok O.mixed rfl rfl O.e G O.X O.c (fun _ => rfl)
    have hrg : RangeOK x cx fc (some k) := range_ok rfl rfl G O.c O.n (fun _ => rfl)
    refine roundIn_of_wpIn trivial ?_
    refine wpIn_mono (codeB_sound (x := x) (cx := cx) (ro := some k) rfl rfl O.e G O.X O.c (fun _ => rfl) hdr hrg a fa tm [] h nx _ _ φ { tmps := tmps, defers := [] } w rs ha hg (fun _ h => h) T rfl H (Kept.refl _ _ _)) fun e a' w' q => ?_
    cases e with
    | normal =>
      obtain ⟨φ1, tm1, df1, h1, nx1, rs1, q1, q2, q3, q4, q5, q6⟩ := q
      dsimp only at q1
      split at q1
      · rename_i p W' nt' tm0 ps a0 bd0 hget
        have hφ1 := q6.le _ _ hφ
        obtain ⟨y, hy, f, tms, d, rfl, T1⟩ := q5.obj _ _ _ _ _ hget hφ1
        refine ⟨_, run_beginRound hy rfl, ?_⟩
        have H' := q5.write (o' := .loop .busy p W' nt' tm0 ps a0 bd0) hget hφ1 rfl rfl (x' := .loop { state := .busy, pending := p, fn := f, tmps := tms, params := ps.toArray, assign := a0, body := bd0, defers := d }) ⟨_, _, _, rfl, T1⟩
        refine wpIn_mono (codeB_sound (x := x) (cx := cx) (ro := some k) rfl rfl O.e G O.X O.c (fun _ => rfl) hdr hrg bd fb tm1 df1 _ nx1 _ _ φ1 a' _ rs1 hb q1 q2 q3 q4 H' (q6.trans (Kept.write hφ1 _))) fun e a' w' q => ?_
        cases e with
        | normal => exact endRound_sound (x := x) hφ1 hφ q
        | ret => exact endRound_sound (x := x) hφ1 hφ q
        | exit id => exact endRound_sound (x := x) hφ1 hφ q
        | panic ch =>
          obtain ⟨φ', v', u', tm', df', h', nx', rs', _, _, q1, _⟩ := q
          cases q1
        | goto t => exact q.elim
        | outgrown => exact q.elim
      · cases q1
    | ret =>
      obtain ⟨φ', tm', df', h', nx', rs', q1, _⟩ := q
      cases q1
    | exit id =>
      obtain ⟨φ', tm', df', h', nx', rs', q1, _⟩ := q
      cases q1
    | panic ch =>
      obtain ⟨φ', v', u', tm', df', h', nx', rs', _, _, q1, _⟩ := q
      cases q1
    | goto t => exact q.elim
    | outgrown => exact q.elim
  · cases hr

/-- A call of yield. -/
theorem yield_sound (O : Wd P E fc) (G : GB E B) {b : Pos} {st : LoopState} {p : Option Code} {W nt : Nat} {tm tm' : Slots} {ps : List Tmp} {a bd : Code} (hget : Tr.get b h = some (.loop st p W nt tm ps a bd)) {g : FC → Pos → Slots → Heap → Pos → R}
    (hr : roundB E W nt a bd = some ⟨g⟩) {l : List AV} (hs : setPs nt ps l tm = some tm') {rs : List CR} (hg : g fc b tm' h nx = some rs) (H : HR φ B h nx w) {u : Value} {us : List Value} (hv : VR φ (.yield b) u) (hl : VRL φ l us) :
    CallR P (RetR B φ h nx rs) ((callV u us.toArray).run P w) := by
  simp only [VR] at hv
  obtain ⟨k, b', s', hφ, rfl⟩ := hv
  obtain ⟨y, hy, f, tms, d, rfl, T⟩ := H.obj _ _ _ _ _ hget hφ
  obtain ⟨hsz, T'⟩ := setPs_sound hs hl T
  have hrun := run_yield (P := P) (args := us.toArray) hy (by simpa using hsz)
  have : (callV (.func (.yield k) #[] #[]) us.toArray).run P w = .ok (.round k f ((ps.zip us).foldl (fun tmps (x : Tmp × Value) => tmps.setIfInBounds x.1 x.2) tms) a bd) w := by
    unfold callV
    simp only [Deferred.ofValue, Sem.run_bind, Sem.run_pure, Result.andThen_ok, invoke, Array.empty_append]
    rw [hrun]
    simp
  rw [this]
  exact roundB_sound O G hr hφ T' hg H
end
end Go.AM
