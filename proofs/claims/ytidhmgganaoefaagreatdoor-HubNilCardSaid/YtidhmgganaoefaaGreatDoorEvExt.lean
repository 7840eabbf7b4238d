/-
  Tables, functions without a body, listed variables. Tables of the evaluator against the program's: one entry, all of a tree. Functions without a body do as their tags say. What a row's condition says of a listed variable: its cells. From a run of the evaluator to a contract of a function without parameters that gives true.
-/
import Derived.Test.YtidhmgganaoefaaGreatDoorEvIso
import Derived.Lib.MakeNoZero
import Derived.Lib.Bytealg
import Derived.Laws.Externs
import GoSem.ClaimJoined
import Derived.OpenShut
import Derived.ChangeArms
import Derived.FnData
namespace Go.AM

/-- All that is in a tree: the numbers of the names are told along the way. -/
def TrAll {α : Type} (Q : Nat → α → Prop) : Nat → Nat → Tr α → Prop
  | _, _, .leaf => True
  | b, m, .node l v r => (match v with | some x => Q (b + m) x | none => True) ∧ TrAll Q b (2 * m) l ∧ TrAll Q (b + m) (2 * m) r
theorem TrAll.get0 {α : Type} {Q : Nat → α → Prop} : ∀ {t : Tr α} {b m : Nat} {p : Pos} {x : α}, TrAll Q b m t → Tr.get0 p t = some x → Q (b + m * p.val) x
  | .leaf, _, _, p, x, _, h => by cases p <;> cases h
  | .node l v r, b, m, .h, x, h, e => by
    simp only [Tr.get0] at e
    subst e
    have := h.1
    simpa [Pos.val] using this
  | .node l v r, b, m, .o p, x, h, e => by
    simp only [Tr.get0] at e
    have := TrAll.get0 h.2.1 e
    simp only [Pos.val]
    rwa [Nat.mul_assoc, Nat.mul_left_comm] at this
  | .node l v r, b, m, .i p, x, h, e => by
    simp only [Tr.get0] at e
    have := TrAll.get0 h.2.2 e
    simp only [Pos.val]
    rw [Nat.mul_add, Nat.mul_one]
    rw [Nat.mul_assoc, Nat.mul_left_comm] at this
    rwa [show b + (m * (2 * p.val) + m) = b + m + m * (2 * p.val) by omega]
theorem TrAll.get {α : Type} {Q : Nat → α → Prop} {t : Tr α} (h : TrAll Q 0 1 t) {n : Nat} {x : α} (e : Tr.get (Pos.ofNat n) t = some x) : Q (n + 1) x := by
  rw [Tr.get_eq] at e
  have := TrAll.get0 h e
  rwa [Pos.val_ofNat, Nat.one_mul, Nat.zero_add] at this

/-- The value of the model's that such a one stands for, wherever things lie. -/
def ofZ : AV → Option Value
  | .bool b => some (.bool b)
  | .int k n => some (.int k n)
  | .str [] => some (.string ⟨#[]⟩)
  | .nilptr => some (.pointer none)
  | .nilslice => some (.slice none 0 0)
  | .nilmap => some (.map none)
  | .nilfunc => some .nilFunc
  | .nilIface => some .nilIface
  | _ => none
theorem ofZ_sound {φ : Ph} {a : AV} {v : Value} (h : ofZ a = some v) : VR φ a v := by
  unfold ofZ at h
  split at h <;> first | (injection h with h; subst h; simp [VR, bytesVal]; done) | cases h
theorem ofZ_list {φ : Ph} : ∀ {l : List AV} {vs : List Value}, l.map ofZ = vs.map some → VRL φ l vs
  | [], vs, h => by
    cases vs with
    | nil => simp [VRL]
    | cons v vs => cases h
  | a :: l, vs, h => by
    cases vs with
    | nil => cases h
    | cons v vs =>
      simp only [List.map_cons, List.cons.injEq] at h
      rw [VRL_cons]
      exact ⟨v, vs, rfl, ofZ_sound h.1, ofZ_list h.2⟩

theorem tyr_of {P : Program} {t : TypeId} {x : TypeInfo} {d : TypeDesc} {i : TI} {z : Value} (h1 : P.types[t]? = some x) (h2 : P.underlying t = some d) (hs : x.size = i.size) (hb : x.bytes = i.bytes) (hz : x.zero = some z)
    (hzs : z.cells.size = i.size) (hzl : i.zero.length = i.size) (hzz : i.zero.map ofZ = z.cells.toList.map some) (ha : i.agg = true → ∃ cs, z = .agg cs) (hna : i.agg = false → z.cells = #[z] ∧ i.size = 1)
    (he : i.eqf = true → P.stoodInHeld t = false ∧ P.eqGuardType P.depth t = false ∧ (match d with | .struct F => F.toList.all (fun f => f.name != "_") | _ => true) = true) (hd : DR i.desc d) (hda : i.agg = aggD d) : TYR P t i := by
  have hi : P.info? t = some x := by
    unfold Tables.info?
    rw [if_pos, h1]
    exact (Array.getElem?_eq_some_iff.1 h1).1
  refine ⟨⟨x, z, hi, hs, hb, hz, hzs, hzl, fun φ => ofZ_list hzz, ha, hna⟩, fun e => ?_, ⟨d, h2, hd, hda⟩⟩
  obtain ⟨h3, h4, h5⟩ := he e
  refine ⟨h3, h4, fun F hF f hf => ?_⟩
  rw [h2] at hF
  injection hF with hF
  subst hF
  have := List.all_eq_true.1 h5 f hf
  simpa using this
end Go.AM
namespace Go.AM

/-- What is asked of the listed functions without a body. -/
def ExtNames (E : Env) : Prop := ∀ f fn tag, E.fn f = some fn → Tr.get (Pos.ofNat f) E.exts = some tag →
  fn.body.isNone = true ∧ Extern.findNext fn = none ∧ (tag = 0 → Extern.find fn = some Extern.BytealgIndexByte.indexByte) ∧ (tag = 1 → Extern.find fn = some Extern.AbiNoEscape.same) ∧ (tag = 2 → Extern.find fn = some (Extern.BytealgMakeNoZero.makeNoZero fn.params fn.resultTypes))

theorem indexByte_ge : ∀ (l : List UInt8) (c : UInt8), Lib.indexByte l c = -1 ∨ 0 ≤ Lib.indexByte l c
  | [], _ => .inl rfl
  | b :: l, c => by
    unfold Lib.indexByte
    split
    · exact .inr (Int.le_refl 0)
    · split
      · exact .inl rfl
      · rename_i h
        rcases indexByte_ge l c with e | e
        · rw [e] at h; exact absurd rfl h
        · exact .inr (by omega)
theorem idxByte_eq {c : Nat} (hc : c < 256) : ∀ (l : List Nat) (n : Nat), (∀ x ∈ l, x < 256) → idxByte l c n = if Lib.indexByte (l.map UInt8.ofNat) (UInt8.ofNat c) = -1 then -1 else (n : Int) + Lib.indexByte (l.map UInt8.ofNat) (UInt8.ofNat c)
  | [], n, _ => by simp [idxByte, Lib.indexByte]
  | x :: l, n, h => by
    have hx := h x (List.mem_cons_self ..)
    have ih := idxByte_eq hc l (n + 1) fun y hy => h y (List.mem_cons_of_mem _ hy)
    have hg := indexByte_ge (l.map UInt8.ofNat) (UInt8.ofNat c)
    simp only [idxByte, List.map_cons, Lib.indexByte]
    by_cases e : x = c
    · subst e
      simp
    · have h1 : Nat.beq x c = false := by rw [Bool.eq_false_iff]; exact fun h => e (Nat.eq_of_beq_eq_true h)
      have h2 : (UInt8.ofNat x == UInt8.ofNat c) = false := by
        rw [beq_eq_false_iff_ne]
        intro h
        have := congrArg UInt8.toNat h
        simp at this
        omega
      rw [h1, h2]
      simp only [Bool.false_eq_true, if_false]
      rw [ih]
      rcases hg with g | g
      · rw [g]; simp
      · have g1 : Lib.indexByte (l.map UInt8.ofNat) (UInt8.ofNat c) ≠ -1 := by omega
        have g2 : (Lib.indexByte (l.map UInt8.ofNat) (UInt8.ofNat c) == -1) = false := by rw [beq_eq_false_iff_ne]; exact g1
        rw [if_neg g1, g2]
        simp only [Bool.false_eq_true, if_false]
        rw [if_neg (by omega)]
        omega

theorem ext_ok {E : Env} {P : Program} (hE : EOK E P) (hN : NamesOK E) (hX : ExtNames E) : ExtOK E P := by
  intro f fn tag as h nx outs hf ht hx φ B w us H hl
  obtain ⟨hb, hn, h0, h1, h2⟩ := hX f fn tag hf ht
  have hfP := hE.fn _ _ hf
  have hname : (fn.name == "runtime.NumGoroutine") = false := by simpa using hN _ _ hf
  have run : ∀ {e : Array Value → Sem Value}, Extern.find fn = some e → (callV (.func (.func f) #[] #[]) us.toArray).run P w = ((e us.toArray).run P w).andThen fun v w' => .ok (.value v) w' := by
    intro e he
    unfold callV
    simp only [Deferred.ofValue, Sem.run_bind, Sem.run_pure, Result.andThen_ok, invoke, Array.empty_append, Array.append_empty]
    exact run_callFunc_extern hfP hname hb hn he _ _
  unfold extA at hx
  split at hx
  · rename_i s c
    split at hx
    · rename_i hc
      injection hx with hx
      subst hx
      have hc : c < 256 := by simpa [Nat.blt_eq] using hc
      rw [VRL_cons] at hl
      obtain ⟨u, r, rfl, hv, hl⟩ := hl
      rw [VRL_cons] at hl
      obtain ⟨u2, r2, rfl, hv2, hl⟩ := hl
      rw [VRL_nil] at hl
      subst hl
      simp only [VR] at hv hv2
      obtain ⟨rfl, hs⟩ := hv
      subst hv2
      have hr := run (h0 rfl)
      have he := Lib.run_indexByteString (P := P) ⟨(s.map UInt8.ofNat).toArray⟩ (Int.ofNat c) w
      have he' : (Extern.BytealgIndexByte.indexByte [bytesVal s, Value.int .u8 (Int.ofNat c)].toArray).run P w = .ok (.int .i64 (Lib.indexByte (s.map UInt8.ofNat) (Int.ofNat c).toNat.toUInt8)) w := by
        simpa [bytesVal] using he
      rw [he'] at hr
      refine ⟨w, _, _, φ, _, h, nx, List.mem_singleton.2 rfl, hr, .inl rfl, H, ?_, Kept.refl _ _ _⟩
      simp only [VR]
      rw [idxByte_eq hc s 0 hs]
      have e1 : (Int.ofNat c).toNat.toUInt8 = UInt8.ofNat c := rfl
      rw [e1]
      split
      · rename_i h; rw [h]
      · simp
    · cases hx
  · rename_i x
    injection hx with hx
    subst hx
    rw [VRL_cons] at hl
    obtain ⟨u, r, rfl, hv, hl⟩ := hl
    rw [VRL_nil] at hl
    subst hl
    refine ⟨w, _, u, φ, x, h, nx, List.mem_singleton.2 rfl, run (h1 rfl), .inl rfl, H, hv, Kept.refl _ _ _⟩
  · rename_i n
    split at hx
    · rename_i hlt
      split at hx
      · rename_i t ts hts
        split at hx
        · rename_i e z q hty
          injection hx with hx
          subst hx
          have hlt : n < 1000000 := by simpa [Nat.blt_eq] using hlt
          rw [VRL_cons] at hl
          obtain ⟨u, r, rfl, hv, hl⟩ := hl
          rw [VRL_nil] at hl
          subst hl
          simp only [VR] at hv
          subst hv
          obtain ⟨d, hd1, hd2, _⟩ := (hE.ty _ _ hty).desc
          have hd : d = .slice e := hd2
          subst hd
          have hres : fn.resultTypes.toList = t :: ts := hts
          obtain ⟨cs, hr1, hr2, _⟩ := Lib.run_makeNoZero (P := P) w fn.params t e hd1 n (by omega)
          have hsame : Extern.BytealgMakeNoZero.makeNoZero fn.params fn.resultTypes [Value.int .i64 (Int.ofNat n)].toArray = Extern.BytealgMakeNoZero.makeNoZero fn.params #[t] #[.int .i64 n] := by
            have h0 : fn.resultTypes[0]? = some t := by rw [← Array.getElem?_toList, hres]; rfl
            have key : ∀ rt : Array TypeId, Extern.BytealgMakeNoZero.makeNoZero fn.params rt #[Value.int .i64 (Int.ofNat n)] = (do
                let some t := rt[0]? | stuck "bytealg.MakeNoZero: no result type"
                let .slice elem ← underlying t | stuck "bytealg.MakeNoZero: slice type expected"
                if Int.ofNat n < 0 || Int.ofNat n > 2 ^ 48 then runtimePanic (.error "makeslice: len out of range")
                let cap ← choose (.appendCap (Int.ofNat n).toNat 0 elem)
                askRoom cap
                let bytes ← choose (.extern "internal/bytealg.MakeNoZero.bytes" 0)
                let a ← newRow elem (Extern.BytealgMakeNoZero.digits cap bytes #[])
                pure (.slice (some a) (Int.ofNat n).toNat cap)) := fun _ => rfl
            have h1 : (#[t] : Array TypeId)[0]? = some t := rfl
            show Extern.BytealgMakeNoZero.makeNoZero fn.params fn.resultTypes #[Value.int .i64 (Int.ofNat n)] = Extern.BytealgMakeNoZero.makeNoZero fn.params #[t] #[Value.int .i64 (Int.ofNat n)]
            rw [key, key, h0, h1]
          have hr := run (h2 rfl)
          rw [hsame, hr1] at hr
          have hm := (H.drew.drew).make (o := .cells [] false false false e) rfl (x := .cells cs e) (b := 0) (s := cs.size) ⟨cs, 0, 0, rfl, fun h => (nomatch h), rfl, by simp, fun i v hv => by simp at hv, ⟨fun j _ _ _ => by omega, fun _ => .inl rfl⟩⟩
          refine ⟨_, _, _, _, _, _, _, List.mem_singleton.2 rfl, hr, .inl rfl, hm.1, ?_, hm.2⟩
          simp only [VR]
          exact ⟨w.heap.size, 0, cs.size, cs.size, Ph.upd_same _ _ _, rfl, Nat.le_refl _, hr2, fun h => (nomatch h), by omega⟩
        · cases hx
      · cases hx
    · cases hx
  · cases hx
end Go.AM
namespace Go.AM

/-- A plain datum as an abstract value. -/
def litAV : Lit → AV
  | .int k n => .int k n
  | .string s => .str (s.map UInt8.toNat)
  | .bool b => .bool b
  | _ => .undef

theorem laid_entry {P : Program} {w : World} {n : String} {D : DataW Unit} : ∀ {laid : List (String × DataW Unit)} {ps : List MemPlace}, DataW.LaidVars P w laid ps → (n, D) ∈ laid →
    ∃ g t cs fuel p, P.globalNamed n = some g ∧ (P.globals[g]?).map (·.type) = some t ∧ w.var? P n = some cs ∧ DataW.trod (fun _ => ()) P w 0 (fun _ => true) false fuel t cs.toList = some (D, p) := by
  intro laid
  induction laid with
  | nil => intro ps h hm; cases hm
  | cons x l ih =>
    intro ps h hm
    obtain ⟨n', D'⟩ := x
    obtain ⟨g, t, cs, fuel, p, q, h1, h2, h3, h4, h5, _⟩ := h
    rcases List.mem_cons.1 hm with e | hm
    · injection e with e1 e2
      subst e1 e2
      exact ⟨g, t, cs, fuel, p, h1, h2, h3, h4⟩
    · exact ih h5 hm

theorem litAV_string {φ : Ph} (s : ByteArray) : VR φ (litAV (.string s.data.toList)) (.string s) := by
  simp only [litAV, VR, bytesVal]
  refine ⟨?_, fun x hx => ?_⟩
  · have : (s.data.toList.map UInt8.toNat).map UInt8.ofNat = s.data.toList := by
      rw [List.map_map]
      conv => rhs; rw [← List.map_id s.data.toList]
      refine List.map_congr_left fun b _ => ?_
      simp
    rw [this]
  · obtain ⟨b, _, rfl⟩ := List.mem_map.1 hx
    exact b.toNat_lt

/-- An array of numbers or of texts that is listed: its cells. -/
theorem laid_lits {P : Program} {w : World} {name : String} {lits : List Lit} {laid : List (String × DataW Unit)} {g : Nat} {t e : TypeId} {n : Nat} (h : laidMet P laid w) (hm : (name, .agg (lits.map .lit)) ∈ laid)
    (hg : P.globalNamed name = some g) (hty : (P.globals[g]?).map (·.type) = some t) (ht : P.underlying t = some (.array n e)) (he : (∃ k, P.underlying e = some (.int k)) ∨ P.underlying e = some .string) (hce : P.cellsOf e = 1) (hn : lits.length = n) :
    ∃ c ty fz, w.heap[g]? = some (.cells c ty fz) ∧ ∀ (i : Nat) (v : AV), (lits.map litAV)[i]? = some v → ∃ u, c[i]? = some u ∧ ∀ φ, VR φ v u := by
  obtain ⟨ps, hL, _⟩ := h
  obtain ⟨g', t', cs, fuel, p, hg', ht', hvar, hd⟩ := laid_entry hL hm
  obtain rfl := Option.some.inj (hg.symm.trans hg')
  obtain rfl := Option.some.inj (hty.symm.trans ht')
  have hv := hvar
  simp only [World.var?, hg, Option.bind_some] at hv
  split at hv
  · rename_i c ty fz hw
    injection hv with hv
    subst hv
    refine ⟨c, ty, fz, hw, fun i v hi => ?_⟩
    rw [List.getElem?_map, Option.map_eq_some_iff] at hi
    obtain ⟨q, hq, rfl⟩ := hi
    have hin : i < n := by
      have := (List.getElem?_eq_some_iff.1 hq).1
      omega
    obtain ⟨xs, m, rfl, hx, _, hxl, hel⟩ := DataW.trod_array ht hd
    simp only [Prod.mk.injEq, DataW.agg.injEq] at hx
    have hi := hel i hin
    rw [hce, Nat.mul_one] at hi
    have hxi : xs[i]? = some xs[i] := by simp [hxl, hin]
    rw [hxi] at hi
    have hfst : (xs[i]).1 = .lit q := by
      have h1 : (xs.map (·.1))[i]? = some (xs[i]).1 := by rw [List.getElem?_map, hxi]; rfl
      rw [← hx.1, List.getElem?_map, hq] at h1
      injection h1 with h1
      exact h1.symm
    have hcell : ∀ u, ((c.toList.drop i).take 1) = [u] → c[i]? = some u := by
      intro u hu
      have := congrArg (·[0]?) hu
      simpa using this
    rcases he with ⟨k, he⟩ | he
    · obtain ⟨z, h1, h2, _⟩ := DataW.trod_int he hi
      rw [h2] at hfst
      simp only [DataW.lit.injEq] at hfst
      subst hfst
      exact ⟨_, hcell _ h1, fun φ => by simp [litAV, VR]⟩
    · obtain ⟨s, h1, h2, _⟩ := DataW.trod_string he hi
      rw [h2] at hfst
      simp only [DataW.lit.injEq] at hfst
      subst hfst
      exact ⟨_, hcell _ h1, fun φ => litAV_string s⟩
  · cases hv
end Go.AM
namespace Go.AM

/-- It comes to 'true', in one way. -/
def okR (r : R) : Bool := match r with | some [.ret (.bool true) _ _] => true | _ => false
theorem okR_spec {r : R} (h : okR r = true) : ∃ h nx, r = some [.ret (.bool true) h nx] := by
  unfold okR at h
  split at h
  · exact ⟨_, _, rfl⟩
  · cases h

theorem walk_of {P : Program} {E : Env} {F : List Fact} (O : Bd P E) (hF : FactsOK E P F) {f : FuncId} {n : Nat} (hr : okR (exec E F n (.func f []) [] .leaf .h) = true) {W : World}
    (G : ∀ g l, E.gl g = some l → ∃ c ty fz, W.heap[g]? = some (.cells c ty fz) ∧ ∀ (i : Nat) (v : AV), l[i]? = some v → ∃ u, c[i]? = some u ∧ ∀ φ, VR φ v u) :
    Calls P f #[] W fun e w' => e = .returned (.bool true) ∧ w'.os = W.os ∧ w'.tape = W.tape ∧ w'.output = W.output ∧ ∀ i, i < W.heap.size → w'.heap[i]? = W.heap[i]? := by
  obtain ⟨h, nx, hr⟩ := okR_spec hr
  let B : Base := { keep := fun k => W.heap[k]?, w := W }
  have H : HR (fun _ => none) B .leaf .h W := by
    refine ⟨fun _ _ => rfl, fun p _ => Tr.get_leaf p, fun _ _ _ _ h => (nomatch h), fun _ _ _ _ _ _ _ h => (nomatch h), fun _ _ _ _ _ _ h => (nomatch h), fun _ _ _ _ _ _ h => (nomatch h), fun _ _ h => h, rfl, rfl, rfl⟩
  have GBB : GB E B := fun g l hl => G g l hl
  have hc := (exec_ok O hF n).1 _ _ _ _ _ hr B (fun _ => none) W (.func (.func f) #[] #[]) [] GBB H (by simp only [VR]; exact ⟨[], rfl, by simp [VRL]⟩) (by simp [VRL])
  have hent := (exec_ok O hF n).2 _ _ _ _ _ _ hr
  have hrun : (callV (.func (.func f) #[] #[]) ([] : List Value).toArray).run P W = .ok (.enter f #[]) W := by
    unfold callV
    simp only [Deferred.ofValue, Sem.run_bind, Sem.run_pure, Result.andThen_ok, invoke, Array.append_empty]
    exact hent _ _
  rw [hrun] at hc
  refine callsIn_wide.1 (CallsIn.mono (F := Fence.wide) hc fun e w' q => ?_)
  cases e with
  | returned u =>
    obtain ⟨φ', v, h', nx', hm, H', hv, _⟩ := q
    have := List.mem_singleton.1 hm
    injection this with e1 _ _
    subst e1
    simp only [VR] at hv
    subst hv
    refine ⟨rfl, H'.os, H'.tape, H'.output, fun i hi => ?_⟩
    rw [Array.getElem?_eq_getElem hi]
    exact H'.old i _ (by show W.heap[i]? = _; rw [Array.getElem?_eq_getElem hi])
  | panicked ch =>
    obtain ⟨φ', v, u, h', nx', hm, _⟩ := q
    have := List.mem_singleton.1 hm
    cases this
  | outgrown => exact q.elim
end Go.AM
