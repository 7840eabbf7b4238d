/-
  Quiet operations, one by one. Operands, types, numbers: what the abstract machine makes of them is what the model makes of them. The operations that change nothing: what they give on both sides. The operations that change nothing, continued: addresses, parts, slices. The operations that change nothing, continued: conversions, look-ups, tuples, aggregates, builtins. The operations that change nothing, continued: look-ups. The operations that change nothing, the rest: aggregates, tuples, builtins.
-/
import Derived.Test.YtidhmgganaoefaaGreatDoorEvCore
import Derived.Laws.Sem
import Derived.Laws.World
import Derived.Laws.Cells
import Derived.Laws.Strings
import Derived.Laws.Concat
import Derived.Laws.StructEq
import Derived.Laws.BytesArg
import Derived.Lib.Builder
import Derived.MapKept
import Derived.Laws.Tables
import Derived.Great.FillDense
namespace Go.AM

/-- An operand's value, by a frame's temporaries. -/
def ev (vs : Array Value) : Operand → Value
  | .tmp t => vs.getD t Go.undef
  | .const v => v
  | .global g => .pointer (some ⟨g, 0, none⟩)
  | .func f => .func (.func f) #[] #[]
theorem eval_frame (fr : Frame) : fr.eval = ev fr.tmps := by funext x; cases x <;> rfl

theorem VR_undef (φ : Ph) : VR φ AV.undef Go.undef := by
  simp only [AV.undef, VR, Go.undef]
  exact ⟨[], rfl, by simp [VRL]⟩

theorem map_toNat_ofNat (l : List UInt8) : (l.map UInt8.toNat).map UInt8.ofNat = l := by
  induction l with
  | nil => rfl
  | cons x l ih => simp only [List.map_cons, ih]; congr 1; simp

theorem bytesVal_of (s : ByteArray) : bytesVal (s.data.toList.map UInt8.toNat) = .string s := by
  unfold bytesVal
  rw [map_toNat_ofNat]

theorem constA_sound {φ : Ph} {v : Value} {a : AV} (h : constA v = some a) : VR φ a v := by
  unfold constA at h
  split at h <;> first
    | (injection h with h; subst h; simp only [VR]; done)
    | skip
  all_goals first
    | (injection h with h; subst h; simp [VR]; done)
    | skip
  · injection h with h
    subst h
    simp only [VR]
    refine ⟨(bytesVal_of _).symm, fun x hx => ?_⟩
    obtain ⟨y, _, rfl⟩ := List.mem_map.1 hx
    exact y.toNat_lt
  · injection h with h
    subst h
    simp only [VR]
    exact ⟨[], rfl, by simp [VRL]⟩
  · cases h

/-- What is needed of an operation's operands. -/
def OpsR (φ : Ph) (ρ : Rho) (vs : Array Value) (xs : List Operand) : Prop := ∀ x ∈ xs, ∀ a, ρ x = some a → VR φ a (ev vs x)

theorem evalL_sound {φ : Ph} {ρ : Rho} {vs : Array Value} : ∀ {xs : List Operand} {l : List AV}, OpsR φ ρ vs xs → evalL ρ xs = some l → VRL φ l (xs.map (ev vs))
  | [], l, _, h => by rw [evalL_nil] at h; injection h with h; subst h; simp [VRL]
  | x :: xs, l, O, h => by
    rw [evalL_cons] at h
    split at h
    · rename_i v hv
      split at h
      · rename_i r hr
        injection h with h
        subst h
        rw [List.map_cons, VRL_cons]
        exact ⟨_, _, rfl, O x (by simp) v hv, evalL_sound (fun y hy => O y (by simp [hy])) hr⟩
      · cases h
    · cases h

theorem evalP_sound {φ : Ph} {ρ : Rho} {vs : Array Value} : ∀ {ps : List (Nat × Operand)} {l : List (Nat × AV)}, OpsR φ ρ vs (ps.map (·.2)) → evalP ρ ps = some l →
    l.map (·.1) = ps.map (·.1) ∧ VRL φ (l.map (·.2)) (ps.map fun p => ev vs p.2)
  | [], l, _, h => by simp [evalP] at h; subst h; simp [VRL]
  | (i, x) :: ps, l, O, h => by
    simp only [evalP] at h
    split at h
    · rename_i v r hv hr
      injection h with h
      subst h
      obtain ⟨h1, h2⟩ := evalP_sound (fun y hy => O y (by simp at hy ⊢; exact .inr hy)) hr
      refine ⟨by simp [h1], ?_⟩
      simp only [List.map_cons, VRL_cons]
      exact ⟨_, _, rfl, O x (by simp) v hv, h2⟩
    · cases h

/-! ### Types -/
def DR : TD → TypeDesc → Prop
  | .basic, d => d = .bool
  | .str, d => d = .string
  | .int k, d => d = .int k
  | .ptr e, d => d = .pointer e
  | .slice e, d => d = .slice e
  | .array n e, d => d = .array n e
  | .map k e, d => d = .map k e
  | .struct fs, d => ∃ F, d = .struct F ∧ F.toList.map (fun f => (f.offset, f.type)) = fs
  | .iface, d => ∃ ms, d = .interface ms
  | .func, d => ∃ a b c, d = .func a b c
  | .unsafePtr, d => d = .unsafePointer
  | .other, _ => True

def aggD : TypeDesc → Bool
  | .struct _ | .array _ _ => true
  | _ => false

structure TYR (P : Program) (t : TypeId) (i : TI) : Prop where
  info : ∃ x z, P.info? t = some x ∧ x.size = i.size ∧ x.bytes = i.bytes ∧ x.zero = some z ∧ z.cells.size = i.size ∧ i.zero.length = i.size ∧ (∀ φ, VRL φ i.zero z.cells.toList) ∧
    (i.agg = true → ∃ cs, z = .agg cs) ∧ (i.agg = false → z.cells = #[z] ∧ i.size = 1)
  eqf : i.eqf = true → P.stoodInHeld t = false ∧ P.eqGuardType P.depth t = false ∧ ∀ F, P.underlying t = some (.struct F) → ∀ f ∈ F.toList, f.name ≠ "_"
  desc : ∃ d, P.underlying t = some d ∧ DR i.desc d ∧ i.agg = aggD d

structure EOK (E : Env) (P : Program) : Prop where
  fn : ∀ f fn, E.fn f = some fn → P.funcs[f]? = some fn
  ty : ∀ t i, E.ty t = some i → TYR P t i
  lies : ∀ x ∈ E.lies, liesAt P P.depth x.1 1 x.2.1 x.2.2 1 = true ∧ ∃ y, P.info? x.2.2 = some y

theorem run_underlying_of {P : Program} {t : TypeId} {d : TypeDesc} (h : P.underlying t = some d) (w : World) : (underlying t).run P w = .ok d w := by
  simp [underlying, h]
theorem run_typeInfo_of {P : Program} {t : TypeId} {x : TypeInfo} (h : P.info? t = some x) (w : World) : (typeInfo t).run P w = .ok x w := by
  simp [typeInfo, h]
theorem TYR.run_size {P : Program} {t : TypeId} {i : TI} (h : TYR P t i) (w : World) : (sizeOf t).run P w = .ok i.size w := by
  obtain ⟨x, z, h1, h2, _⟩ := h.info
  simp [sizeOf, run_typeInfo_of h1, h2]
theorem TYR.run_agg {P : Program} {t : TypeId} {i : TI} (h : TYR P t i) (w : World) : (isAgg t).run P w = .ok i.agg w := by
  obtain ⟨d, h1, _, h3⟩ := h.desc
  rw [h3]
  simp only [isAgg, Sem.run_bind, run_underlying_of h1, Result.andThen_ok]
  cases d <;> rfl
theorem TYR.run_zero {P : Program} {t : TypeId} {i : TI} (h : TYR P t i) (w : World) : ∃ z, (zeroValue t).run P w = .ok z w ∧ z.cells.size = i.size ∧ (∀ φ, VRL φ i.zero z.cells.toList) ∧ (∀ φ a, zeroA i = some a → VR φ a z) := by
  obtain ⟨x, z, h1, h2, h2', h3, h4, h5, h6, h7, h8⟩ := h.info
  refine ⟨z, by simp [zeroValue, run_typeInfo_of h1, h3], h4, h6, fun φ a ha => ?_⟩
  unfold zeroA at ha
  cases hg : i.agg with
  | true =>
    obtain ⟨cs, rfl⟩ := h7 hg
    rw [hg] at ha
    simp at ha
    subst ha
    simp only [VR]
    exact ⟨cs.toList, by simp, by simpa [Value.cells] using h6 φ⟩
  | false =>
    obtain ⟨h9, _⟩ := h8 hg
    rw [hg] at ha
    have h10 := h6 φ
    rw [h9] at h10
    simp at ha
    cases hz : i.zero with
    | nil => rw [hz] at ha; simp at ha
    | cons y l =>
      rw [hz] at ha h10
      simp at ha
      subst ha
      simp only [VRL_cons] at h10
      obtain ⟨v, r, e1, e2, _⟩ := h10
      simp at e1
      rw [e1.1]
      exact e2

/-! ### Numbers -/
theorem limA_bits (k : IntKind) : limA k ≤ 2 ^ k.bits := by cases k <;> decide
theorem bitsN_eq (k : IntKind) : bitsN k = k.bits := by cases k <;> rfl
theorem limA_pow (k : IntKind) : ∃ n, limA k = 2 ^ n ∧ n ≤ k.bits := by
  cases k
  · exact ⟨7, rfl, by decide⟩
  · exact ⟨15, rfl, by decide⟩
  · exact ⟨31, rfl, by decide⟩
  · exact ⟨63, rfl, by decide⟩
  · exact ⟨8, rfl, by decide⟩
  · exact ⟨16, rfl, by decide⟩
  · exact ⟨32, rfl, by decide⟩
  · exact ⟨64, rfl, by decide⟩
theorem ofInt_small (k : IntKind) (a : Nat) (h : a < limA k) : (BitVec.ofInt k.bits (Int.ofNat a)).toNat = a := by
  have := Nat.lt_of_lt_of_le h (limA_bits k)
  simp only [Int.ofNat_eq_natCast, BitVec.ofInt_natCast, BitVec.toNat_ofNat]
  exact Nat.mod_eq_of_lt this

theorem bitsA_run {P : Program} {w : World} {op : BinOp} {k : IntKind} {x y n : Int} (h : bitsA op k x y = some n) (hop : op = .and ∨ op = .or ∨ op = .xor) : (Op.intBits op k x y).run P w = .ok (.int k n) w := by
  unfold bitsA at h
  split at h
  · rename_i a b
    split at h
    · rename_i ha
      split at h
      · rename_i hb
        have ha' : a < limA k := by simpa [Nat.blt_eq] using ha
        have hb' : b < limA k := by simpa [Nat.blt_eq] using hb
        obtain ⟨m, hm, _⟩ := limA_pow k
        rcases hop with rfl | rfl | rfl <;> simp only [Option.some.injEq] at h <;> subst h
        · have hl : a &&& b < limA k := Nat.lt_of_le_of_lt Nat.and_le_left ha'
          simp only [Op.intBits, Sem.run_pure, BitVec.toNat_and, ofInt_small k a ha', ofInt_small k b hb']
          rw [show ((a &&& b : Nat) : Int) = Int.ofNat (a &&& b) from rfl, limA_wrap k _ hl]; rfl
        · have hl : a ||| b < limA k := by rw [hm] at ha' hb' ⊢; exact Nat.or_lt_two_pow ha' hb'
          simp only [Op.intBits, Sem.run_pure, BitVec.toNat_or, ofInt_small k a ha', ofInt_small k b hb']
          rw [show ((a ||| b : Nat) : Int) = Int.ofNat (a ||| b) from rfl, limA_wrap k _ hl]; rfl
        · have hl : a ^^^ b < limA k := by rw [hm] at ha' hb' ⊢; exact Nat.xor_lt_two_pow ha' hb'
          simp only [Op.intBits, Sem.run_pure, BitVec.toNat_xor, ofInt_small k a ha', ofInt_small k b hb']
          rw [show ((a ^^^ b : Nat) : Int) = Int.ofNat (a ^^^ b) from rfl, limA_wrap k _ hl]; rfl
      · cases h
    · cases h
  · cases h

theorem kindEq_eq {j k : IntKind} (h : kindEq j k = true) : j = k := by cases j <;> cases k <;> first | rfl | (simp [kindEq] at h)

/-- A number or a truth, the same on both sides. -/
def AV.plain : AV → Option Value
  | .int k n => some (.int k n)
  | .bool b => some (.bool b)
  | _ => none
theorem VR_plain {φ : Ph} {a : AV} {v : Value} (h : a.plain = some v) : VR φ a v := by
  cases a <;> simp [AV.plain] at h <;> subst h <;> simp [VR]

theorem binInt_run {P : Program} {w : World} {op : BinOp} {k k' : IntKind} {x y : Int} {a : AV} (t : TypeId) (h : binInt op k x y = some a) (hk : k = k' ∨ op = .shl ∨ op = .shr) :
    ∃ v, (binOp op t (.int k x) (.int k' y)).run P w = .ok v w ∧ a.plain = some v := by
  cases op with
  | shl =>
    simp only [binInt] at h
    split at h
    · rename_i m b
      split at h
      · rename_i hb
        injection h with h
        subst h
        have hb' : b ≤ k.bits := by rw [← bitsN_eq]; exact Nat.le_of_ble_eq_true hb
        refine ⟨_, ?_, rfl⟩
        simp only [binOp, Op.shift, wrapA_eq]
        rw [if_neg (by simp)]
        simp only [Sem.run_pure, Int.ofNat_eq_natCast, Int.toNat_natCast, Nat.min_eq_left hb']
        congr 2
        rw [show m.shiftLeft b = m * 2 ^ b from Nat.shiftLeft_eq m b]
        push_cast
        rfl
      · cases h
    · cases h
  | shr =>
    simp only [binInt] at h
    split at h
    · rename_i m b
      split at h
      · rename_i hb
        injection h with h
        subst h
        have hb' : b ≤ k.bits := by rw [← bitsN_eq]; exact Nat.le_of_ble_eq_true hb
        refine ⟨_, ?_, rfl⟩
        simp only [binOp, Op.shift]
        rw [if_neg (by simp)]
        simp only [Sem.run_pure, Int.ofNat_eq_natCast, Int.toNat_natCast, Nat.min_eq_left hb']
        congr 2
        rw [show ((2 : Int) ^ b) = ((2 ^ b : Nat) : Int) by push_cast; rfl]
        rw [show m.shiftRight b = m / 2 ^ b from Nat.shiftRight_eq_div_pow m b, Int.fdiv_eq_ediv_of_nonneg _ (Int.natCast_nonneg _)]
        rfl
      · cases h
    · cases h
  | _ =>
    obtain rfl : k = k' := by simpa using hk
    simp only [binInt] at h
    simp only [binOp, ne_eq, not_true_eq_false, if_false]
    all_goals first
      | (injection h with h; subst h; refine ⟨_, ?_, rfl⟩; simp only [Op.intArith, Sem.run_pure, wrapA_eq, addA_eq, subA_eq, mulA_eq]; done)
      | (injection h with h; subst h; refine ⟨_, ?_, rfl⟩; simp only [Op.intCmp, Sem.run_pure, intEq_eq, intLt_eq]; done)
      | (split at h
         · rename_i n hn
           injection h with h
           subst h
           exact ⟨_, bitsA_run hn (by simp), rfl⟩
         · cases h)
      | (cases h; done)
      | (injection h with h; subst h; refine ⟨_, ?_, rfl⟩; simp only [Op.intCmp, Sem.run_pure, intEq_eq, intLt_eq]; first | rfl | (congr 2; rw [Bool.eq_iff_iff]; simp; done))
      | (split at h
         · rename_i m b
           split at h
           · cases h
           · rename_i hb
             injection h with h
             subst h
             have hb' : ¬ ((Int.ofNat b : Int) = 0) := by
               intro e
               exact hb (by cases b with | zero => rfl | succ b => simp at e; omega)
             refine ⟨_, ?_, rfl⟩
             simp only [Op.intDiv, if_neg hb', Sem.run_pure, wrapA_eq]
             rfl
         · cases h)

end Go.AM
namespace Go.AM

/-- A part of an operation that changes nothing and gives this. -/
def QS (P : Program) (φ : Ph) (w : World) (s : Sem Value) (r : AV) : Prop := ∃ v, s.run P w = .ok v w ∧ VR φ r v

section
variable {E : Env} {P : Program} {φ : Ph} {w₀ : Base} {w : World} {h : Heap} {nx : Pos}

theorem cells_exist {φ : Ph} : ∀ {l : List AV} {f : Nat → Option Value}, (∀ (i : Nat) (a : AV), l[i]? = some a → ∃ u, f i = some u ∧ VR φ a u) →
    ∃ cs : List Value, VRL φ l cs ∧ ∀ (j : Nat) (v : Value), cs[j]? = some v → f j = some v
  | [], f, _ => ⟨[], by simp [VRL], fun j v h => by simp at h⟩
  | a :: l, f, hf => by
    obtain ⟨u, h1, h2⟩ := hf 0 a rfl
    obtain ⟨cs, h3, h4⟩ := cells_exist (l := l) (f := fun i => f (i + 1)) fun i b hb => hf (i + 1) b (by simpa using hb)
    refine ⟨u :: cs, by rw [VRL_cons]; exact ⟨u, cs, rfl, h2, h3⟩, fun j v hj => ?_⟩
    cases j with
    | zero => simp at hj; subst hj; exact h1
    | succ j => exact h4 j v (by simpa using hj)

theorem cell_at {w : World} {k o : Nat} {c : Array Value} {e : TypeId} {fz : Nat × Nat} (h : w.heap[k]? = some (.cells c e fz)) : w.cell? ⟨k, o, none⟩ = c[o]? := by
  simp [World.cell?, h]
theorem add_at (k o i : Nat) : (⟨k, o, none⟩ : Addr).add i = ⟨k, o + i, none⟩ := by unfold Addr.add; split <;> simp_all

/-- Where an abstract pointer leads. -/
theorem cellsAt_sound (H : HR φ w₀ h nx w) (G : GR E w) {p : AV} {l : List AV} {v : Value} (hc : cellsAt E h p = some l) (hv : VR φ p v) :
    ∃ k o, v = .pointer (some ⟨k, o, none⟩) ∧ ∀ (i : Nat) (a : AV), l[i]? = some a → ∃ u, w.cell? ((⟨k, o, none⟩ : Addr).add i) = some u ∧ VR φ a u := by
  unfold cellsAt at hc
  split at hc
  · rename_i b o
    split at hc
    · rename_i l' ro sx one e hg
      injection hc with hc
      subst hc
      simp only [VR] at hv
      obtain ⟨k, bs, s, h1, rfl⟩ := hv
      obtain ⟨x, hx, c, lo, hi, rfl, _, h2, h3, h4, _⟩ := H.obj _ _ _ _ _ hg h1
      refine ⟨k, bs + o, rfl, fun i a ha => ?_⟩
      rw [dropL_eq, List.getElem?_drop] at ha
      obtain ⟨u, hu, hr⟩ := h4 _ _ ha
      refine ⟨u, ?_, hr⟩
      rw [add_at, cell_at hx, ← hu]
      congr 1; omega
    · cases hc
  · rename_i g o
    split at hc
    · rename_i l' hg
      injection hc with hc
      subst hc
      simp only [VR] at hv
      subst hv
      refine ⟨g, o, rfl, fun i a ha => ?_⟩
      rw [dropL_eq, List.getElem?_drop] at ha
      obtain ⟨u, hu, hr⟩ := G _ _ hg _ _ ha
      exact ⟨u, by rw [add_at]; exact hu, hr φ⟩
    · cases hc
  · cases hc

theorem takeL_get {α : Type} {n : Nat} {l r : List α} (h : takeL n l = some r) : ∀ (i : Nat) (a : α), r[i]? = some a → l[i]? = some a := by
  obtain ⟨_, rfl⟩ := takeL_eq _ _ _ h
  intro i a hi
  rw [List.getElem?_take] at hi
  split at hi
  · exact hi
  · cases hi
theorem takeL_len {α : Type} {n : Nat} {l r : List α} (h : takeL n l = some r) : r.length = n := by
  obtain ⟨h1, rfl⟩ := takeL_eq _ _ _ h
  simp; omega

theorem loadVar_run {t : TypeId} {i : TI} (ht : TYR P t i) {l : List AV} {r : AV} {a : Addr}
    (hl : ∀ (i : Nat) (x : AV), l[i]? = some x → ∃ u, w.cell? (a.add i) = some u ∧ VR φ x u) (hr : ofCells i.agg i.size l = some r) : QS P φ w (loadVar t a) r := by
  unfold ofCells at hr
  cases hg : i.agg with
  | true =>
    rw [hg] at hr
    simp only [if_true] at hr
    split at hr
    · rename_i r' h'
      injection hr with hr
      subst hr
      obtain ⟨cs, h1, h2⟩ := cells_exist (φ := φ) (l := r') (f := fun i => w.cell? (a.add i)) fun i x hx => hl i x (takeL_get h' _ _ hx)
      have hlen : cs.length = i.size := by rw [h1.length, takeL_len h']
      refine ⟨.agg cs.toArray, ?_, by simp only [VR]; exact ⟨cs, rfl, h1⟩⟩
      simp only [loadVar, Sem.run_bind, ht.run_agg, hg, Result.andThen_ok, if_true, ht.run_size, Sem.run_ite, Sem.run_pure]
      rw [← hlen, run_loadCells_list w a cs h2]
      rfl
    · cases hr
  | false =>
    rw [hg] at hr
    simp only [Bool.false_eq_true, if_false] at hr
    cases l with
    | nil => cases hr
    | cons x l =>
      injection hr with hr
      subst hr
      obtain ⟨u, h1, h2⟩ := hl 0 x rfl
      refine ⟨u, ?_, h2⟩
      have h1' : w.cell? a = some u := by simpa [Addr.add] using h1
      simp only [loadVar, Sem.run_bind, ht.run_agg, hg, Result.andThen_ok, Bool.false_eq_true, if_false, run_load, h1']

theorem load_sound (hE : EOK E P) (H : HR φ w₀ h nx w) (G : GR E w) {t : TypeId} {p r : AV} {v : Value} (hl : loadA E h t p = some r) (hv : VR φ p v) :
    QS P φ w (Instr.loadAt t v) r := by
  unfold loadA at hl
  split at hl
  · rename_i i hi
    split at hl
    · rename_i l hc
      obtain ⟨k, o, rfl, hcells⟩ := cellsAt_sound H G hc hv
      have := loadVar_run (hE.ty _ _ hi) (l := l) (r := r) (a := ⟨k, o, none⟩) hcells hl
      obtain ⟨u, h1, h2⟩ := this
      exact ⟨u, by simp [Instr.loadAt, Instr.sureAddr, h1], h2⟩
    · cases hl
  · cases hl

/-- A part of a composite value. -/
theorem part_sound {t : TypeId} {i : TI} (ht : TYR P t i) {l : List AV} {vs : List Value} (hl : VRL φ l vs) {off : Nat} {r : AV} (hr : ofCells i.agg i.size (dropL off l) = some r) :
    QS P φ w (part t vs.toArray off) r := by
  rw [dropL_eq] at hr
  unfold ofCells at hr
  cases hg : i.agg with
  | true =>
    rw [hg] at hr
    simp only [if_true] at hr
    split at hr
    · rename_i r' h'
      injection hr with hr
      subst hr
      obtain ⟨h1, rfl⟩ := takeL_eq _ _ _ h'
      refine ⟨.agg (vs.toArray.extract off (off + i.size)), by simp [part, ht.run_agg, hg, ht.run_size], ?_⟩
      simp only [VR]
      refine ⟨(vs.drop off).take i.size, ?_, (hl.drop off).take _⟩
      simp
    · cases hr
  | false =>
    rw [hg] at hr
    simp only [Bool.false_eq_true, if_false] at hr
    cases hd : l.drop off with
    | nil => rw [hd] at hr; cases hr
    | cons x l' =>
      rw [hd] at hr
      injection hr with hr
      subst hr
      have hx : l[off]? = some x := by
        have : (l.drop off)[0]? = some x := by rw [hd]; rfl
        simpa using this
      obtain ⟨u, h1, h2⟩ := hl.get hx
      refine ⟨u, ?_, h2⟩
      simp [part, ht.run_agg, hg, h1]

theorem asInt_nat {a : AV} {v : Value} {n : Nat} (h : natOf a = some n) (hv : VR φ a v) : ∃ k, v = .int k (Int.ofNat n) := by
  unfold natOf at h
  split at h
  · injection h with h
    subst h
    simp only [VR] at hv
    exact ⟨_, hv⟩
  · cases h

/-! ### Numbers, truths, equality -/
theorem unOp_sound {op : UnOp} {a r : AV} {v : Value} (h : unOpA op a = some r) (hv : VR φ a v) : QS P φ w (Op.unary op v) r := by
  unfold unOpA at h
  split at h
  · injection h with h
    subst h
    simp only [VR] at hv
    subst hv
    exact ⟨_, by simp only [Op.unary, Sem.run_pure]; rfl, by simp [VR]⟩
  · injection h with h
    subst h
    simp only [VR] at hv
    subst hv
    exact ⟨_, by simp only [Op.unary, Op.intArith, Sem.run_pure]; rfl, by simp [VR, wrapA_eq, subA_eq]⟩
  · split at h
    · rename_i n hn
      injection h with h
      subst h
      simp only [VR] at hv
      subst hv
      have hb : bitsA .xor .u32 (Int.ofNat 4294967295) (Int.ofNat n) = some (Int.ofNat (Nat.xor 4294967295 n)) := by
        simp [bitsA, limA, hn]
      exact ⟨_, by simp only [Op.unary]; exact bitsA_run hb (by simp), by simp [VR]⟩
    · cases h
  · cases h

def bts (s : List Nat) : ByteArray := ⟨(s.map UInt8.ofNat).toArray⟩
theorem bytesVal_eq (s : List Nat) : bytesVal s = .string (bts s) := rfl
theorem bts_append (a b : List Nat) : bts a ++ bts b = bts (a ++ b) := by
  unfold bts
  rw [ByteArray.mk_append_mk, List.map_append]
theorem bts_size (s : List Nat) : (bts s).size = s.length := by simp [bts, ByteArray.size]
theorem bts_list (s : List Nat) : (bts s).toList = s.map UInt8.ofNat := by simp [bts]
theorem ofNat_inj {a b : Nat} (ha : a < 256) (hb : b < 256) (h : UInt8.ofNat a = UInt8.ofNat b) : a = b := by
  have := congrArg UInt8.toNat h
  simpa [UInt8.toNat_ofNat', Nat.mod_eq_of_lt ha, Nat.mod_eq_of_lt hb] using this
theorem map_ofNat_inj : ∀ {a b : List Nat}, (∀ x ∈ a, x < 256) → (∀ x ∈ b, x < 256) → a.map UInt8.ofNat = b.map UInt8.ofNat → a = b
  | [], [], _, _, _ => rfl
  | [], _ :: _, _, _, h => by simp at h
  | _ :: _, [], _, _, h => by simp at h
  | x :: a, y :: b, ha, hb, h => by
    simp only [List.map_cons, List.cons.injEq] at h
    rw [ofNat_inj (ha x (by simp)) (hb y (by simp)) h.1, map_ofNat_inj (fun z hz => ha z (by simp [hz])) (fun z hz => hb z (by simp [hz])) h.2]
theorem bts_beq {a b : List Nat} (ha : ∀ x ∈ a, x < 256) (hb : ∀ x ∈ b, x < 256) : ((bts a).toList == (bts b).toList) = eqN a b := by
  rw [bts_list, bts_list, eqN_eq, Bool.eq_iff_iff]
  simp only [beq_iff_eq]
  exact ⟨map_ofNat_inj ha hb, fun h => by rw [h]⟩
theorem bts_beq' {a b : List Nat} (ha : ∀ x ∈ a, x < 256) (hb : ∀ x ∈ b, x < 256) : (bts a == bts b) = eqN a b := by
  rw [beq_toListBytes, bts_beq ha hb]
theorem ltN_eq : ∀ {a b : List Nat}, (∀ x ∈ a, x < 256) → (∀ x ∈ b, x < 256) → Op.bytesLess (a.map UInt8.ofNat) (b.map UInt8.ofNat) = ltN a b
  | [], [], _, _ => rfl
  | [], _ :: _, _, _ => rfl
  | _ :: _, [], _, _ => rfl
  | x :: a, y :: b, ha, hb => by
    have hx := ha x (by simp)
    have hy := hb y (by simp)
    have ih := ltN_eq (a := a) (b := b) (fun z hz => ha z (by simp [hz])) (fun z hz => hb z (by simp [hz]))
    simp only [List.map_cons, Op.bytesLess, ltN, ih]
    have e1 : (decide (UInt8.ofNat x < UInt8.ofNat y)) = Nat.blt x y := by
      rw [Bool.eq_iff_iff]
      simp [UInt8.lt_iff_toNat_lt, UInt8.toNat_ofNat', Nat.mod_eq_of_lt hx, Nat.mod_eq_of_lt hy, Nat.blt_eq]
    have e2 : (UInt8.ofNat x == UInt8.ofNat y) = Nat.beq x y := by
      rw [Bool.eq_iff_iff]
      simp only [beq_iff_eq, Nat.beq_eq]
      exact ⟨ofNat_inj hx hy, fun h => by rw [h]⟩
    rw [e1, e2]
    cases Nat.blt x y <;> cases Nat.beq x y <;> simp

theorem beq_match (a b : Bool) : (a == b) = (match a, b with | true, true | false, false => true | _, _ => false) := by cases a <;> cases b <;> rfl

theorem eqT_sound {d : Nat} {t : TypeId} {i : TI} (ht : TYR P t i) {x y : AV} {u v : Value} {b : Bool} (h : eqT i.desc x y = some b)
    (hx : VR φ x u) (hy : VR φ y v) : (Op.equalIn (d + 1) t u v).run P w = .ok b w := by
  obtain ⟨dd, h1, h2, _⟩ := ht.desc
  generalize i.desc = D at h h2
  unfold eqT at h
  split at h
  · split at h
    · rename_i hk
      obtain rfl := kindEq_eq hk
      injection h with h
      subst h
      simp only [VR] at hx hy
      subst hx hy
      simp only [DR] at h2
      subst h2
      rw [run_equalIn_int w d t _ _ _ _ h1, intEq_eq]
    · cases h
  · injection h with h
    subst h
    simp only [VR] at hx hy
    obtain ⟨rfl, ha⟩ := hx
    obtain ⟨rfl, hb⟩ := hy
    simp only [DR] at h2
    subst h2
    rw [bytesVal_eq, bytesVal_eq, run_equalIn_string w d t _ _ h1, bts_beq ha hb]
  · injection h with h
    subst h
    simp only [VR] at hx hy
    subst hx hy
    simp only [DR] at h2
    subst h2
    rw [run_equalIn_bool' w d t _ _ h1]
    exact congrArg (Result.ok · w) (beq_match _ _)
  · cases h

theorem eqT_basic {i : TI} {t : TypeId} {x y : AV} {b : Bool} (ht : TYR P t i) (h : eqT i.desc x y = some b) : i.agg = false := by
  obtain ⟨dd, h1, h2, h3⟩ := ht.desc
  rw [h3]
  have key : ∀ D, DR D dd → eqT D x y = some b → aggD dd = false := by
    intro D hD hT
    unfold eqT at hT
    split at hT <;> first | contradiction | (simp only [DR] at hD; subst hD; rfl)
  exact key _ h2 h

/-- A part that is one cell. -/
theorem part_one {t : TypeId} {i : TI} (ht : TYR P t i) (hg : i.agg = false) {vs : Array Value} {n : Nat} {v : Value} (h : vs[n]? = some v) : (part t vs n).run P w = .ok v w := by
  simp [part, ht.run_agg, hg, h]

theorem eqFs_sound (hE : EOK E P) {d : Nat} {L M : List AV} {xs ys : List Value} (hL : VRL φ L xs) (hM : VRL φ M ys) : ∀ {F : List Field} {n : Nat} {b : Bool},
    (∀ f ∈ F, f.name ≠ "_") → eqFs E (F.map fun f => (f.offset, f.type)) n (L.drop n) (M.drop n) = some b → (Op.eqFields (d + 1) xs.toArray ys.toArray F).run P w = .ok b w
  | [], n, b, _, h => by
    simp only [List.map_nil] at h
    generalize L.drop n = l0 at h
    generalize M.drop n = m0 at h
    cases l0 <;> cases m0 <;> simp [eqFs] at h
    subst h; rfl
  | f :: F, n, b, hn, h => by
    simp only [List.map_cons] at h
    generalize hl : L.drop n = l0 at h
    generalize hm : M.drop n = m0 at h
    cases l0 with
    | nil => simp [eqFs] at h
    | cons x l =>
    cases m0 with
    | nil => simp [eqFs] at h
    | cons y m =>
      simp only [eqFs] at h
      split at h
      · rename_i hoff
        have hoff' : f.offset = n := Nat.eq_of_beq_eq_true hoff
        split at h
        · rename_i i hi
          have ht := hE.ty _ _ hi
          have hxl : L[n]? = some x := by
            have : (L.drop n)[0]? = some x := by rw [hl]; rfl
            simpa using this
          have hym : M[n]? = some y := by
            have : (M.drop n)[0]? = some y := by rw [hm]; rfl
            simpa using this
          have hl' : l = L.drop (n + 1) := by
            have : (L.drop n).drop 1 = l := by rw [hl]; rfl
            rw [← this, List.drop_drop]
          have hm' : m = M.drop (n + 1) := by
            have : (M.drop n).drop 1 = m := by rw [hm]; rfl
            rw [← this, List.drop_drop]
          obtain ⟨u, hu1, hu2⟩ := hL.get hxl
          obtain ⟨v, hv1, hv2⟩ := hM.get hym
          have key : ∀ b', eqT i.desc x y = some b' → (Op.eqFields (d + 1) xs.toArray ys.toArray (f :: F)).run P w = (if (!b') = true then Result.ok false w else (Op.eqFields (d + 1) xs.toArray ys.toArray F).run P w) := by
            intro b' hb'
            have hg := eqT_basic ht hb'
            simp only [Op.eqFields]
            rw [if_pos (hn f (by simp))]
            simp only [Sem.run_bind, hoff', part_one ht hg (vs := xs.toArray) (n := n) (v := u) (by simpa using hu1), part_one ht hg (vs := ys.toArray) (n := n) (v := v) (by simpa using hv1), Result.andThen_ok, eqT_sound ht hb' hu2 hv2, Sem.run_ite, Sem.run_pure]
          split at h
          · rename_i hb'
            rw [key _ hb']
            simp only [Bool.not_true, Bool.false_eq_true, if_false]
            exact eqFs_sound hE hL hM (fun g hg => hn g (by simp [hg])) (by rw [← hl', ← hm']; exact h)
          · rename_i hb'
            rw [key _ hb']
            injection h with h
            subst h
            simp
          · cases h
        · cases h
      · cases h

theorem eqKey_sound (hE : EOK E P) {d : Nat} {t : TypeId} {x y : AV} {u v : Value} {b : Bool} (h : eqKey E t x y = some b) (hx : VR φ x u) (hy : VR φ y v) : (Op.equalIn (d + 2) t u v).run P w = .ok b w := by
  unfold eqKey at h
  split at h
  · cases h
  · rename_i i hi
    have ht := hE.ty _ _ hi
    split at h
    · rename_i fs l m hdesc
      split at h
      · rename_i hq
        simp only [VR] at hx hy
        obtain ⟨xs, rfl, hL⟩ := hx
        obtain ⟨ys, rfl, hM⟩ := hy
        obtain ⟨h1, h2, h3⟩ := ht.eqf hq
        obtain ⟨dd, h4, h5, _⟩ := ht.desc
        rw [hdesc] at h5
        simp only [DR] at h5
        obtain ⟨F, rfl, hF⟩ := h5
        have hf : P.fieldsOf t = F := by simp [Program.fieldsOf, h4]
        rw [run_equalIn_struct w (d + 1) t _ _ (by rw [hf]; exact h4) h1, hf]
        refine eqFs_sound hE (d := d) hL hM (h3 F h4) (n := 0) ?_
        rw [hF]
        simpa using h
      · cases h
    · exact eqT_sound ht h hx hy
/-! ### Two operands -/
theorem eqGuard_other {op : BinOp} {t : TypeId} {x y : Operand} {u v : Value} (h1 : ∀ cs ds, u = .agg cs → v = .agg ds → False) (h2 : u = .nilIface → v = .nilIface → False) : (eqGuard op t x y u v).run P w = .ok () w := by
  unfold eqGuard
  split <;> simp only [Bool.not_true, Bool.not_false, Bool.false_eq_true, if_false, if_true] <;> first | rfl | (split <;> first | rfl | (exact absurd rfl fun _ => h2 rfl rfl) | (exact absurd rfl fun _ => h1 _ _ rfl rfl))

theorem nilEq_sound {d : Nat} {t : TypeId} {i : TI} (ht : TYR P t i) {x y : AV} {u v : Value} {b : Bool} (h : nilEqA i.desc x y = some b)
    (hx : VR φ x u) (hy : VR φ y v) : (Op.equalIn (d + 1) t u v).run P w = .ok b w := by
  obtain ⟨dd, h1, h2, _⟩ := ht.desc
  generalize i.desc = D at h h2
  unfold nilEqA at h
  split at h <;> first | contradiction | skip
  all_goals
    injection h with h
    subst h
    simp only [VR] at hx hy
    simp only [DR] at h2
    first
      | subst h2
      | (obtain ⟨a', b', c', rfl⟩ := h2)
      | (obtain ⟨ms, rfl⟩ := h2)
  all_goals first
    | (subst hx hy; simp [Op.equalIn, run_underlying_of h1]; done)
    | (subst hx; obtain ⟨k, b, s, _, rfl⟩ := hy; simp [Op.equalIn, run_underlying_of h1]; done)
    | (subst hy; obtain ⟨k, b, s, _, rfl⟩ := hx; simp [Op.equalIn, run_underlying_of h1]; done)
    | (subst hx; obtain ⟨k, b, s, c, _, rfl, _⟩ := hy; simp [Op.equalIn, run_underlying_of h1]; done)
    | (subst hy; obtain ⟨k, b, s, c, _, rfl, _⟩ := hx; simp [Op.equalIn, run_underlying_of h1]; done)
    | (subst hx; obtain ⟨vs, rfl, _⟩ := hy; simp [Op.equalIn, run_underlying_of h1]; done)
    | (subst hy; obtain ⟨vs, rfl, _⟩ := hx; simp [Op.equalIn, run_underlying_of h1]; done)
    | skip
/-- Two pointers to things of the abstract heap. -/
theorem eqPtr_sound (_hE : EOK E P) {d : Nat} {t e : TypeId} {i ei : TI} (ht : TYR P t i) (hd : i.desc = .ptr e) (he : TYR P e ei) (hs : ei.size ≠ 0) {p : Pos} {o o' : Nat} {u v : Value}
    (hx : VR φ (.ptr p o) u) (hy : VR φ (.ptr p o') v) : (Op.equalIn (d + 1) t u v).run P w = .ok (Nat.beq o o') w := by
  obtain ⟨dd, h1, h2, _⟩ := ht.desc
  rw [hd] at h2
  simp only [DR] at h2
  subst h2
  simp only [VR] at hx hy
  obtain ⟨k, b, s, e1, rfl⟩ := hx
  obtain ⟨k', b', s', e2, rfl⟩ := hy
  rw [e1] at e2
  injection e2 with e2
  injection e2 with e3 e4
  injection e4 with e4 e5
  subst e3 e4 e5
  simp only [Op.equalIn, Sem.run_bind, run_underlying_of h1, Result.andThen_ok, he.run_size, ne_eq, hs, not_false_eq_true, if_true, sameAddr, beq_self_eq_true]
  simp only [Sem.run_pure]
  congr 1
  rw [Bool.eq_iff_iff]
  simp

theorem eqA_sound (hE : EOK E P) {d : Nat} {t : TypeId} {x y : AV} {u v : Value} {b : Bool} (h : eqA E t x y = some b)
    (hx : VR φ x u) (hy : VR φ y v) : (Op.equalIn (d + 2) t u v).run P w = .ok b w ∧ ((∃ cs ds, u = .agg cs ∧ v = .agg ds) → P.eqGuardType P.depth t = false) := by
  unfold eqA at h
  split at h
  · cases h
  · rename_i i hi
    have ht := hE.ty _ _ hi
    split at h
    · refine ⟨eqT_sound ht h hx hy, ?_⟩
      simp only [VR] at hx
      subst hx
      rintro ⟨_, _, h, _⟩; cases h
    · rename_i l m
      split at h
      · rename_i fs hdesc
        split at h
        · rename_i hq
          refine ⟨eqKey_sound hE (by unfold eqKey; rw [hi]; simp only; rw [hdesc]; simp only [hq, if_true]; exact h) hx hy, fun _ => (ht.eqf hq).2.1⟩
        · cases h
      · cases h
    · rename_i p o q o'
      split at h
      · rename_i e hdesc
        split at h
        · rename_i ei hei
          split at h
          · cases h
          · rename_i hz
            split at h
            · rename_i hpq
              obtain rfl := Pos.beq_eq hpq
              injection h with h
              subst h
              refine ⟨eqPtr_sound hE ht hdesc (hE.ty _ _ hei) (fun e => hz (by rw [e]; rfl)) hx hy, ?_⟩
              simp only [VR] at hx
              obtain ⟨k, b, s, _, rfl⟩ := hx
              rintro ⟨_, _, h, _⟩; cases h
            · cases h
        · cases h
      · cases h
    · refine ⟨nilEq_sound ht h hx hy, ?_⟩
      rintro ⟨cs, ds, rfl, rfl⟩
      unfold nilEqA at h
      split at h <;> first | contradiction | (simp only [VR] at hx hy; first | (cases hx; done) | (cases hy; done))
/-- A value whose '==' goes by its type. -/
def Value.byType : Value → Bool
  | .int .. | .float .. | .complex .. | .string _ => false
  | _ => true
theorem binOp_eql {t : TypeId} {u v : Value} (h : Value.byType u = true) : binOp .eql t u v = (do pure (.bool (← Op.equal t u v))) := by
  cases u <;> first | (simp [Value.byType] at h; done) | (cases v <;> rfl)
theorem binOp_neq {t : TypeId} {u v : Value} (h : Value.byType u = true) : binOp .neq t u v = (do pure (.bool (!(← Op.equal t u v)))) := by
  cases u <;> first | (simp [Value.byType] at h; done) | (cases v <;> rfl)
theorem eqA_byType {t : TypeId} {x y : AV} {u : Value} {b : Bool} (h : eqA E t x y = some b) (hx : VR φ x u) (h1 : ∀ k n, x ≠ .int k n) (h2 : ∀ s, x ≠ .str s) : Value.byType u = true := by
  cases x <;> simp only [VR] at hx <;> first
    | (exact absurd rfl (h1 _ _))
    | (exact absurd rfl (h2 _))
    | (subst hx; rfl)
    | (obtain ⟨_, _, _, _, rfl⟩ := hx; rfl)
    | (obtain ⟨_, _, _, _, _, rfl, _⟩ := hx; rfl)
    | (obtain ⟨_, rfl, _⟩ := hx; rfl)
theorem eqGuard_sound {op : BinOp} {t : TypeId} {x y : Operand} {a b : AV} {u v : Value} (hx : VR φ a u) (hy : VR φ b v) (hn : a = .nilIface → b = .nilIface → ∃ c, y = .const c)
    (hg : (∃ cs ds, u = .agg cs ∧ v = .agg ds) → P.eqGuardType P.depth t = false) : (eqGuard op t x y u v).run P w = .ok () w := by
  by_cases hagg : ∃ cs ds, u = .agg cs ∧ v = .agg ds
  · have := hg hagg
    obtain ⟨cs, ds, rfl, rfl⟩ := hagg
    exact run_eqGuard_agg w op t x y cs ds this
  · by_cases hnil : u = .nilIface ∧ v = .nilIface
    · obtain ⟨rfl, rfl⟩ := hnil
      have ha : a = .nilIface := by
        cases a <;> simp only [VR] at hx <;> first | rfl | (cases hx; done) | (simp at hx; done) | (obtain ⟨_, _, _, _, h⟩ := hx; cases h; done) | (obtain ⟨_, _, _, _, _, h, _⟩ := hx; cases h; done) | (obtain ⟨_, h, _⟩ := hx; cases h; done) | (obtain ⟨h, _⟩ := hx; cases h; done)
      have hb : b = .nilIface := by
        cases b <;> simp only [VR] at hy <;> first | rfl | (cases hy; done) | (simp at hy; done) | (obtain ⟨_, _, _, _, h⟩ := hy; cases h; done) | (obtain ⟨_, _, _, _, _, h, _⟩ := hy; cases h; done) | (obtain ⟨_, h, _⟩ := hy; cases h; done) | (obtain ⟨h, _⟩ := hy; cases h; done)
      obtain ⟨c, rfl⟩ := hn ha hb
      cases op <;> simp [eqGuard]
    · exact eqGuard_other (fun cs ds e1 e2 => hagg ⟨cs, ds, e1, e2⟩) fun e1 e2 => hnil ⟨e1, e2⟩

theorem binOp_sound (hE : EOK E P) {op : BinOp} {t : TypeId} {a b r : AV} {u v : Value} {x y : Operand} (h : binOpA E op t a b = some r) (hx : VR φ a u) (hy : VR φ b v)
    (hn : a = .nilIface → b = .nilIface → ∃ c, y = .const c) : QS P φ w (do eqGuard op t x y u v; binOp op t u v) r := by
  unfold binOpA at h
  split at h
  · simp only [VR] at hx hy
    subst hx hy
    have hg : ∀ {u v : Value}, (∀ cs, u ≠ .agg cs) → u ≠ .nilIface → (eqGuard op t x y u v).run P w = .ok () w := fun h1 h2 => eqGuard_other (fun cs _ e _ => h1 cs e) (fun e _ => h2 e)
    rename_i k a k' b
    have key : ∃ q, (binOp op t (.int k a) (.int k' b)).run P w = .ok q w ∧ r.plain = some q := by
      split at h
      · exact binInt_run t h (.inr (.inl rfl))
      · exact binInt_run t h (.inr (.inr rfl))
      · split at h
        · rename_i hk
          exact binInt_run t h (.inl (kindEq_eq hk))
        · cases h
    obtain ⟨q, h1, h2⟩ := key
    exact ⟨q, by simp [hg, h1], VR_plain h2⟩
  · simp only [VR] at hx hy
    obtain ⟨rfl, ha⟩ := hx
    obtain ⟨rfl, hb⟩ := hy
    have hg : (eqGuard op t x y (bytesVal ‹_›) (bytesVal ‹_›)).run P w = .ok () w := eqGuard_other (fun _ _ e _ => by cases e) (fun e _ => by cases e)
    rename_i a b
    simp only [bytesVal_eq]
    split at h
    · split at h
      · rename_i hlt
        injection h with h
        subst h
        refine ⟨bytesVal (a ++ b), ?_, ?_⟩
        · have hlen : a.length + b.length < 1000000000 := by
            have := Nat.lt_of_lt_of_le (by simpa [Nat.blt_eq, lenL_eq] using hlt : b.length + a.length < 1000000000) (Nat.le_refl _)
            omega
          have hs : ¬ (((bts a).size + (bts b).size : Nat) : Int) > IntKind.i64.max := by
            rw [bts_size, bts_size]
            simp [IntKind.max, IntKind.signed, IntKind.bits]
            omega
          simp only [Sem.run_bind]
          rw [show (eqGuard BinOp.add t x y (Value.string (bts a)) (Value.string (bts b))).run P w = .ok () w from rfl]
          simp only [Result.andThen_ok, binOp, Op.stringOp, if_neg hs, Sem.run_pure, bts_append, bytesVal_eq]
        · simp only [VR, appL_eq]
          exact ⟨trivial, fun z hz => by rcases List.mem_append.1 hz with hz | hz; exact ha z hz; exact hb z hz⟩
      · cases h
    · injection h with h
      subst h
      refine ⟨_, ?_, VR_plain rfl⟩
      simp only [Sem.run_bind]
      rw [show (eqGuard BinOp.eql t x y (Value.string (bts a)) (Value.string (bts b))).run P w = .ok () w from rfl]
      simp only [Result.andThen_ok, binOp, Op.stringOp, Sem.run_pure, bts_beq ha hb]
    · injection h with h
      subst h
      refine ⟨_, ?_, VR_plain rfl⟩
      simp only [Sem.run_bind]
      rw [show (eqGuard BinOp.neq t x y (Value.string (bts a)) (Value.string (bts b))).run P w = .ok () w from rfl]
      simp only [Result.andThen_ok, binOp, Op.stringOp, Sem.run_pure, bts_beq ha hb]
    · injection h with h
      subst h
      refine ⟨_, ?_, VR_plain rfl⟩
      simp only [Sem.run_bind]
      rw [show (eqGuard BinOp.lss t x y (Value.string (bts a)) (Value.string (bts b))).run P w = .ok () w from rfl]
      simp only [Result.andThen_ok, binOp, Op.stringOp, Sem.run_pure, bts_list, ltN_eq ha hb]
    · cases h
  · rename_i hni hns
    split at h <;> first | contradiction | skip
    all_goals
      rename_i b' hb'
      injection h with h
      subst h
      obtain ⟨h1, h2⟩ := eqA_sound hE (d := 9998) (w := w) hb' hx hy
      have hbt : Value.byType u = true := eqA_byType hb' hx (fun k n e => by subst e; unfold eqA at hb'; split at hb' <;> simp [nilEqA] at hb') (fun k e => by subst e; unfold eqA at hb'; split at hb' <;> simp [nilEqA] at hb')
      have hgd : ∀ op : BinOp, (eqGuard op t x y u v).run P w = .ok () w := fun op => eqGuard_sound hx hy hn h2
      have h1' : (Op.equalIn 10000 t u v).run P w = .ok b' w := h1
    · exact ⟨.bool b', by simp only [Sem.run_bind, hgd, Result.andThen_ok, binOp_eql hbt, Op.equal, Op.maxDepth, h1', Sem.run_pure], VR_plain rfl⟩
    · exact ⟨.bool (!b'), by simp only [Sem.run_bind, hgd, Result.andThen_ok, binOp_neq hbt, Op.equal, Op.maxDepth, h1', Sem.run_pure], VR_plain rfl⟩
end
end Go.AM
namespace Go.AM
section
variable {E : Env} {P : Program} {φ : Ph} {w₀ : Base} {w : World} {h : Heap} {nx : Pos}

theorem EOK.desc (hE : EOK E P) {t : TypeId} {i : TI} (hi : E.ty t = some i) : ∃ d, P.underlying t = some d ∧ DR i.desc d :=
  let ⟨d, h1, h2, _⟩ := (hE.ty _ _ hi).desc
  ⟨d, h1, h2⟩

theorem fieldAddr_sound (hE : EOK E P) {s : TypeId} {f : Nat} {i : TI} {fs : List (Nat × TypeId)} (hi : E.ty s = some i) (hd : i.desc = .struct fs) {off : Nat} {t : TypeId} (hf : nth? fs f = some (off, t)) {_a : AV} {v : Value} {k o : Nat}
    (hv : v = .pointer (some ⟨k, o, none⟩)) (hz : ∃ j, E.ty t = some j ∧ j.size ≠ 0) : (Instr.fieldAt s v f).run P w = .ok (.pointer (some ⟨k, o + off, none⟩)) w := by
  obtain ⟨d, h1, h2⟩ := hE.desc hi
  rw [hd] at h2
  simp only [DR] at h2
  obtain ⟨F, rfl, hF⟩ := h2
  obtain ⟨j, hj, hjz⟩ := hz
  subst hv
  rw [nth?_eq, ← hF, List.getElem?_map] at hf
  cases hx : F.toList[f]? with
  | none => rw [hx] at hf; simp at hf
  | some x =>
    rw [hx] at hf
    simp at hf
    obtain ⟨rfl, rfl⟩ := hf
    have hx' : F[f]? = some x := by simpa using hx
    simp only [Instr.fieldAt, Sem.run_bind, run_underlying_of h1, Result.andThen_ok, hx', Instr.sureAddr, Sem.run_pure, fieldPlace, (hE.ty _ _ hj).run_size, hjz, if_false, Sem.run_ite, add_at]

theorem field_sound (hE : EOK E P) {s : TypeId} {f : Nat} {i : TI} {fs : List (Nat × TypeId)} (hi : E.ty s = some i) (hd : i.desc = .struct fs) {off : Nat} {t : TypeId} (hf : nth? fs f = some (off, t)) {j : TI} (hj : E.ty t = some j)
    {l : List AV} {r : AV} {v : Value} (hv : VR φ (.agg l) v) (hr : ofCells j.agg j.size (dropL off l) = some r) : QS P φ w (Instr.field s v f) r := by
  obtain ⟨d, h1, h2⟩ := hE.desc hi
  rw [hd] at h2
  simp only [DR] at h2
  obtain ⟨F, rfl, hF⟩ := h2
  simp only [VR] at hv
  obtain ⟨vs, rfl, hl⟩ := hv
  rw [nth?_eq, ← hF, List.getElem?_map] at hf
  cases hx : F.toList[f]? with
  | none => rw [hx] at hf; simp at hf
  | some x =>
    rw [hx] at hf
    simp at hf
    obtain ⟨rfl, rfl⟩ := hf
    have hx' : F[f]? = some x := by simpa using hx
    obtain ⟨u, h3, h4⟩ := part_sound (P := P) (w := w) (hE.ty _ _ hj) hl hr
    refine ⟨u, ?_, h4⟩
    simp only [Instr.field, Sem.run_bind, run_underlying_of h1, Result.andThen_ok, hx', asAgg, Sem.run_pure, h3]

theorem asIntOf_run {k : IntKind} {n : Int} : (asIntOf (.int k n)).run P w = .ok (k, n) w := rfl

theorem indexAddr_array_sound (hE : EOK E P) {t e : TypeId} {n : Nat} {i ei : TI} (hi : E.ty t = some i) (hd : i.desc = .array n e) (he : E.ty e = some ei) {kd : IntKind} {m k o : Nat} (hm : m < n) :
    (Instr.indexAt t (.pointer (some ⟨k, o, none⟩)) (.int kd (Int.ofNat m))).run P w = .ok (.pointer (some ⟨k, o + m * ei.size, none⟩)) w := by
  obtain ⟨d, h1, h2⟩ := hE.desc hi
  rw [hd] at h2
  simp only [DR] at h2
  subst h2
  simp only [Instr.indexAt, Sem.run_bind, asIntOf_run, Result.andThen_ok, run_underlying_of h1, Instr.sureAddr, Sem.run_pure]
  have hc : (0 : Int) ≤ Int.ofNat m ∧ Int.ofNat m < (n : Int) := ⟨by simp, by simp; omega⟩
  by_cases h1' : n ≤ 1
  · simp [hm, (hE.ty _ _ he).run_size, add_at]
  · simp [hm, (hE.ty _ _ he).run_size, add_at]

theorem indexAddr_slice_sound (hE : EOK E P) {t e : TypeId} {i ei : TI} (hi : E.ty t = some i) (hd : i.desc = .slice e) (he : E.ty e = some ei) {kd : IntKind} {n m k o cap : Nat} (hm : m < n) :
    (Instr.indexAt t (.slice (some ⟨k, o, none⟩) n cap) (.int kd (Int.ofNat m))).run P w = .ok (.pointer (some ⟨k, o + m * ei.size, none⟩)) w := by
  obtain ⟨d, h1, h2⟩ := hE.desc hi
  rw [hd] at h2
  simp only [DR] at h2
  subst h2
  simp only [Instr.indexAt, Sem.run_bind, asIntOf_run, Result.andThen_ok, run_underlying_of h1, Sem.run_pure]
  by_cases h1' : n ≤ 1
  · simp [hm, (hE.ty _ _ he).run_size, add_at]
  · simp [hm, (hE.ty _ _ he).run_size, add_at]

theorem index_array_sound (hE : EOK E P) {t e : TypeId} {n : Nat} {i ei : TI} (hi : E.ty t = some i) (hd : i.desc = .array n e) (he : E.ty e = some ei) {kd : IntKind} {m : Nat} (hm : m < n)
    {l : List AV} {r : AV} {v : Value} (hv : VR φ (.agg l) v) (hr : ofCells ei.agg ei.size (dropL (m * ei.size) l) = some r) : QS P φ w (Instr.index t v (.int kd (Int.ofNat m))) r := by
  obtain ⟨d, h1, h2⟩ := hE.desc hi
  rw [hd] at h2
  simp only [DR] at h2
  subst h2
  simp only [VR] at hv
  obtain ⟨vs, rfl, hl⟩ := hv
  obtain ⟨u, h3, h4⟩ := part_sound (P := P) (w := w) (hE.ty _ _ he) hl hr
  refine ⟨u, ?_, h4⟩
  simp [Instr.index, asIntOf_run, run_underlying_of h1, hm, (hE.ty _ _ he).run_size, h3]

theorem index_string_sound (hE : EOK E P) {t : TypeId} {i : TI} (hi : E.ty t = some i) (hd : i.desc = .str) {kd : IntKind} {m c : Nat} {s : List Nat} (hm : nth? s m = some c) (hs : ∀ x ∈ s, x < 256) :
    (Instr.index t (bytesVal s) (.int kd (Int.ofNat m))).run P w = .ok (.int .u8 (Int.ofNat c)) w := by
  obtain ⟨d, h1, h2⟩ := hE.desc hi
  rw [hd] at h2
  simp only [DR] at h2
  subst h2
  rw [nth?_eq] at hm
  have hlt : m < s.length := by
    rcases Nat.lt_or_ge m s.length with h | h
    · exact h
    · rw [List.getElem?_eq_none h] at hm; cases hm
  have hc : s[m] = c := by rw [List.getElem?_eq_getElem hlt] at hm; simpa using hm
  have hlt' : m < (bts s).size := by rw [bts_size]; exact hlt
  have hb : (bts s)[m]? = some (UInt8.ofNat c) := by
    rw [getElem?_pos (bts s) m hlt']
    congr 1
    simp [bts, ByteArray.getElem_eq_getElem_data, hc]
  have hc256 : c < 256 := hs c (by rw [← hc]; exact List.getElem_mem hlt)
  simp [Instr.index, asIntOf_run, run_underlying_of h1, bytesVal_eq, hb, UInt8.toNat_ofNat', Nat.mod_eq_of_lt hc256]
/-! ### Slices -/
theorem sliceBound_run {kd : IntKind} {n y : Nat} {c : BoundsCode} (h : n ≤ y) : (Instr.sliceBound (.int kd (Int.ofNat n)) y c).run P w = .ok n w := by
  simp [Instr.sliceBound, asIntOf_run, h]

theorem bound_one {ρ : Rho} {vs : Array Value} {x : Operand} {y n : Nat} (h : (match ρ x with | some v => (match natOf v with | some n => if Nat.ble n y then some n else none | none => none) | none => none) = some n) (O : ∀ v, ρ x = some v → VR φ v (ev vs x)) :
    n ≤ y ∧ ∃ kd, ev vs x = .int kd (Int.ofNat n) := by
  split at h
  · rename_i v hv
    split at h
    · rename_i m hm
      split at h
      · rename_i hle
        injection h with h
        subst h
        exact ⟨Nat.le_of_ble_eq_true hle, asInt_nat hm (O v hv)⟩
      · cases h
    · cases h
  · cases h

theorem bounds_sound {ρ : Rho} {vs : Array Value} {isSlice : Bool} {len most cap l m : Nat} {lo hi : Option Operand} (h : boundsA ρ len most lo hi = some (l, m)) (O : OpsR φ ρ vs (lo.toList ++ hi.toList)) (hc : most ≤ cap) (hlc : len ≤ cap) :
    (Instr.sliceBounds isSlice len cap (lo.map (ev vs)) (hi.map (ev vs)) none).run P w = .ok (l, m, cap) w ∧ l ≤ m ∧ m ≤ cap := by
  unfold boundsA at h
  split at h
  · cases h
  rename_i m' hm'
  split at h
  · cases h
  rename_i l' hl'
  injection h with h
  injection h with e1 e2
  subst e1 e2
  cases hi with
  | none =>
    injection hm' with hm'
    subst hm'
    cases lo with
    | none =>
      injection hl' with hl'
      subst hl'
      exact ⟨rfl, Nat.zero_le _, hlc⟩
    | some x =>
      obtain ⟨h1, kd, h2⟩ := bound_one hl' (O x (by simp))
      refine ⟨?_, h1, hlc⟩
      simp only [Instr.sliceBounds, Option.map_none, Option.map_some, Sem.run_bind, Sem.run_pure, Result.andThen_ok, h2, sliceBound_run h1]
  | some y =>
    obtain ⟨h3, kd', h4⟩ := bound_one hm' (O y (by simp))
    have h5 := Nat.le_trans h3 hc
    cases lo with
    | none =>
      injection hl' with hl'
      subst hl'
      refine ⟨?_, Nat.zero_le _, h5⟩
      simp only [Instr.sliceBounds, Option.map_none, Option.map_some, Sem.run_bind, Sem.run_pure, Result.andThen_ok, h4, sliceBound_run h5]
    | some x =>
      obtain ⟨h1, kd, h2⟩ := bound_one hl' (O x (by simp))
      refine ⟨?_, h1, h5⟩
      simp only [Instr.sliceBounds, Option.map_some, Sem.run_bind, Sem.run_pure, Result.andThen_ok, h2, h4, sliceBound_run h1, sliceBound_run h5]

theorem sliceAt_other {t : TypeId} {d : TypeDesc} (h1 : P.underlying t = some d) (hn : ∀ n e, d ≠ .array n e) {x : Value} {lo hi mx : Option Value} :
    (Instr.sliceAt t x lo hi mx).run P w = (Instr.slice t x lo hi mx).run P w := by
  unfold Instr.sliceAt
  simp only [Sem.run_bind, run_underlying_of h1, Result.andThen_ok]

theorem bts_extract {s r : List Nat} {l m : Nat} (h : takeL (m - l) (dropL l s) = some r) (_hlm : l ≤ m) : (bts s).extract l m = bts r := by
  rw [dropL_eq] at h
  obtain ⟨h1, rfl⟩ := takeL_eq _ _ _ h
  have h2 : ((bts s).extract l m).data.toList = (bts ((s.drop l).take (m - l))).data.toList := by
    simp [bts, ByteArray.data_extract, List.map_take, List.map_drop]
  exact ByteArray.ext (Array.ext' h2)

theorem slice_string_sound (hE : EOK E P) {t : TypeId} {i : TI} (hi : E.ty t = some i) (hd : i.desc = .str) {ρ : Rho} {vs : Array Value} {lo hi' : Option Operand} {s r : List Nat} {l m : Nat}
    (hb : boundsA ρ (lenL s 0) (lenL s 0) lo hi' = some (l, m)) (O : OpsR φ ρ vs (lo.toList ++ hi'.toList)) (hr : takeL (m - l) (dropL l s) = some r) :
    (Instr.sliceAt t (bytesVal s) (lo.map (ev vs)) (hi'.map (ev vs)) none).run P w = .ok (bytesVal r) w := by
  obtain ⟨d, h1, h2⟩ := hE.desc hi
  rw [hd] at h2
  simp only [DR] at h2
  subst h2
  rw [sliceAt_other h1 (by simp)]
  have hlen : lenL s 0 = (bts s).size := by rw [lenL_eq, bts_size]; omega
  rw [hlen] at hb
  obtain ⟨h3, h4, h5⟩ := bounds_sound (P := P) (w := w) (isSlice := false) (cap := (bts s).size) hb O (Nat.le_refl _) (Nat.le_refl _)
  unfold Instr.slice
  simp only [Sem.run_bind, run_underlying_of h1, Result.andThen_ok, bytesVal_eq, Option.isSome_none, Bool.false_eq_true, if_false, Sem.run_pure, h3, bts_extract hr h4]

theorem slice_slice_sound (hE : EOK E P) {t e : TypeId} {i ei : TI} (hi : E.ty t = some i) (hd : i.desc = .slice e) (he : E.ty e = some ei) {ρ : Rho} {vs : Array Value} {lo hi' : Option Operand} {p : Pos} {o n c sz l m : Nat} {ex : Bool}
    (hb : boundsA ρ n c lo hi' = some (l, m)) (O : OpsR φ ρ vs (lo.toList ++ hi'.toList)) (hlc : l < c) (hsz : sz = ei.size) {v : Value} (hv : VR φ (.slice p o n c sz ex) v) :
    QS P φ w (Instr.sliceAt t v (lo.map (ev vs)) (hi'.map (ev vs)) none) (.slice p (o + l * sz) (m - l) (c - l) sz ex) := by
  obtain ⟨d, h1, h2⟩ := hE.desc hi
  rw [hd] at h2
  simp only [DR] at h2
  subst h2
  simp only [VR] at hv
  obtain ⟨k, b, s, cap, e1, rfl, e2, e3, e4, e5⟩ := hv
  obtain ⟨h3, h4, h5⟩ := bounds_sound (P := P) (w := w) (isSlice := true) (cap := cap) hb O e3 (Nat.le_trans e2 e3)
  have hm : m ≤ c := by
    unfold boundsA at hb
    split at hb
    · cases hb
    · rename_i m' hm'
      have : m' ≤ c := by
        cases hi' with
        | none => simp at hm'; subst hm'; exact e2
        | some x =>
          simp only at hm'
          split at hm'
          · split at hm'
            · split at hm'
              · rename_i hle
                injection hm' with hm'
                subst hm'
                exact Nat.le_of_ble_eq_true hle
              · cases hm'
            · cases hm'
          · cases hm'
      split at hb
      · cases hb
      · injection hb with hb
        injection hb with _ hb
        omega
  refine ⟨.slice (some ⟨k, b + (o + l * sz), none⟩) (m - l) (cap - l), ?_, ?_⟩
  · rw [sliceAt_other h1 (by simp)]
    unfold Instr.slice
    simp only [Sem.run_bind, run_underlying_of h1, Result.andThen_ok, h3, (hE.ty _ _ he).run_size, Sem.run_pure]
    rw [if_neg (by omega), Option.map_some, add_at, ← hsz]
    congr 4
    omega
  · simp only [VR]
    refine ⟨k, b, s, cap - l, e1, rfl, by omega, by omega, fun h => by rw [e4 h], ?_⟩
    have : b + (o + l * sz) + (cap - l) * sz = b + o + (l + (cap - l)) * sz := by rw [Nat.add_mul]; omega
    rw [this, show l + (cap - l) = cap by omega]
    exact e5

theorem slice_nil_sound (hE : EOK E P) {t e : TypeId} {i ei : TI} (hi : E.ty t = some i) (hd : i.desc = .slice e) (he : E.ty e = some ei) {ρ : Rho} {vs : Array Value} {lo hi' : Option Operand} {l m : Nat}
    (hb : boundsA ρ 0 0 lo hi' = some (l, m)) (O : OpsR φ ρ vs (lo.toList ++ hi'.toList)) :
    (Instr.sliceAt t (.slice none 0 0) (lo.map (ev vs)) (hi'.map (ev vs)) none).run P w = .ok (.slice none 0 0) w := by
  obtain ⟨d, h1, h2⟩ := hE.desc hi
  rw [hd] at h2
  simp only [DR] at h2
  subst h2
  obtain ⟨h3, h4, h5⟩ := bounds_sound (P := P) (w := w) (isSlice := true) (cap := 0) hb O (Nat.le_refl _) (Nat.le_refl _)
  obtain rfl : m = 0 := by omega
  obtain rfl : l = 0 := by omega
  rw [sliceAt_other h1 (by simp)]
  unfold Instr.slice
  simp only [Sem.run_bind, run_underlying_of h1, Result.andThen_ok, h3, (hE.ty _ _ he).run_size, Sem.run_pure, if_true]
end
end Go.AM
namespace Go.AM
open Go.Lib
section
variable {E : Env} {P : Program} {φ : Ph} {w₀ : Base} {w : World} {h : Heap} {nx : Pos}

/-! ### Conversions -/
theorem convert_int_sound (hE : EOK E P) {src dst : TypeId} {i j : TI} (hi : E.ty src = some i) (hj : E.ty dst = some j) {k k' : IntKind} (hd : j.desc = .int k) {n : Int} :
    (convert src dst (.int k' n)).run P w = .ok (.int k (wrapA k n)) w := by
  obtain ⟨d, h1, _⟩ := hE.desc hi
  obtain ⟨d', h1', h2'⟩ := hE.desc hj
  rw [hd] at h2'
  simp only [DR] at h2'
  subst h2'
  simp [convert, run_underlying_of h1, run_underlying_of h1', Conv.intToInt, wrapA_eq]

theorem bytesOfL_eq : ∀ {l : List AV} {s : List Nat}, bytesOfL l = some s → l = s.map (fun n => AV.int .u8 (.ofNat n)) ∧ ∀ x ∈ s, x < 256
  | [], s, h => by simp [bytesOfL] at h; subst h; simp
  | a :: l, s, h => by
    unfold bytesOfL at h
    split at h
    · rename_i h'; cases h'
    · rename_i n l' heq
      injection heq with e1 e2
      subst e1 e2
      split at h
      · rename_i hb
        split at h
        · rename_i r hr
          injection h with h
          subst h
          obtain ⟨h1, h2⟩ := bytesOfL_eq hr
          refine ⟨by rw [List.map_cons, ← h1], ?_⟩
          intro x hx
          simp at hx
          rcases hx with rfl | hx
          · simpa [Nat.blt_eq] using hb
          · exact h2 x hx
        · cases h
      · cases h
    · cases h

theorem isU8_desc (hE : EOK E P) {e : TypeId} (h : isU8 E e = true) : P.underlying e = some (.int .u8) := by
  unfold isU8 at h
  split at h
  · rename_i i heq
    obtain ⟨d, h1, h2⟩ := hE.desc heq
    simp only [DR] at h2
    subst h2
    exact h1
  · cases h

theorem strOfNums_bytes (s : List Nat) : Value.string (strOfNums (s.map Int.ofNat)) = bytesVal s := by
  simp [strOfNums, bytesVal, Function.comp_def]

theorem convert_bytes_sound (hE : EOK E P) (H : HR φ w₀ h nx w) (G : GR E w) {src dst e : TypeId} {i j : TI} (hi : E.ty src = some i) (hj : E.ty dst = some j) (hd : i.desc = .slice e) (hd' : j.desc = .str) (hu : isU8 E e = true)
    {p : Pos} {o n c sz : Nat} {ex : Bool} {l r : List AV} {s : List Nat} {v : Value} (hv : VR φ (.slice p o n c sz ex) v) (hc : cellsAt E h (.ptr p o) = some l) (ht : takeL n l = some r) (hs : bytesOfL r = some s) :
    QS P φ w (convert src dst v) (.str s) := by
  obtain ⟨d, h1, h2⟩ := hE.desc hi
  obtain ⟨d', h1', h2'⟩ := hE.desc hj
  rw [hd] at h2
  rw [hd'] at h2'
  simp only [DR] at h2 h2'
  subst h2 h2'
  simp only [VR] at hv
  obtain ⟨k, b, S, cap, e1, rfl, e2, e3, e4, e5⟩ := hv
  obtain ⟨k', o', e6, e7⟩ := cellsAt_sound (φ := φ) H G (v := .pointer (some ⟨k, b + o, none⟩)) hc (by simp only [VR]; exact ⟨k, b, S, e1, rfl⟩)
  injection e6 with e6
  injection e6 with e6
  injection e6 with e8 e9
  subst e8 e9
  obtain ⟨e10, e11⟩ := bytesOfL_eq hs
  have hlen : s.length = n := by have := takeL_len ht; rw [e10] at this; simpa using this
  refine ⟨_, run_convert_bytes_arg w src e h1 (isU8_desc hE hu) k (b + o) n cap (s.map Int.ofNat) (by simpa using hlen) (fun m hm => ?_) dst h1', ?_⟩
  · have hm' : m < s.length := by omega
    have hr : r[m]? = some (.int .u8 (.ofNat s[m])) := by rw [e10]; simp [hm']
    obtain ⟨u, hu1, hu2⟩ := e7 m _ (takeL_get ht m _ hr)
    rw [add_at] at hu1
    simp only [VR] at hu2
    subst hu2
    rw [hu1]
    simp [List.getD, List.getElem?_eq_getElem hm']
  · rw [strOfNums_bytes]
    simp only [VR]
    exact ⟨trivial, e11⟩

theorem convert_bytes_nil_sound (hE : EOK E P) {src dst e : TypeId} {i j : TI} (hi : E.ty src = some i) (hj : E.ty dst = some j) (hd : i.desc = .slice e) (hd' : j.desc = .str) (hu : isU8 E e = true) :
    QS P φ w (convert src dst (.slice none 0 0)) (.str []) := by
  obtain ⟨d, h1, h2⟩ := hE.desc hi
  obtain ⟨d', h1', h2'⟩ := hE.desc hj
  rw [hd] at h2
  rw [hd'] at h2'
  simp only [DR] at h2 h2'
  subst h2 h2'
  refine ⟨_, run_convert_bytes_nil w src e h1 (isU8_desc hE hu) 0 0 dst h1', ?_⟩
  simp only [VR]
  exact ⟨rfl, by simp⟩

theorem shape_at {w : World} {k : Nat} {c : Array Value} {e : TypeId} {fz : Nat × Nat} (h : w.heap[k]? = some (.cells c e fz)) : w.shape? k = some (e, c.size) := by
  simp [World.shape?, h]

theorem to_unsafe_sound (hE : EOK E P) (H : HR φ w₀ h nx w) {src dst t : TypeId} {i j ti : TI} (hi : E.ty src = some i) (hj : E.ty dst = some j) (hd : i.desc = .ptr t) (hd' : j.desc = .unsafePtr) (ht : E.ty t = some ti) (hz : ti.size ≠ 0)
    {p : Pos} {o : Nat} {l : List AV} {ro sx one : Bool} {e : TypeId} (hg : Tr.get p h = some (.cells l ro sx one e)) (ho : o < l.length) {v : Value} (hv : VR φ (.ptr p o) v) : QS P φ w (convert src dst v) (.ptr p o) := by
  obtain ⟨d, h1, h2⟩ := hE.desc hi
  obtain ⟨d', h1', h2'⟩ := hE.desc hj
  rw [hd] at h2
  rw [hd'] at h2'
  simp only [DR] at h2 h2'
  subst h2 h2'
  obtain ⟨x, z, h3, h4, _⟩ := (hE.ty _ _ ht).info
  have hv' := hv
  simp only [VR] at hv
  obtain ⟨k, b, s, e1, rfl⟩ := hv
  obtain ⟨x', e2, e3⟩ := H.obj _ _ _ _ _ hg e1
  simp only [OR_] at e3
  obtain ⟨c, lo, hi', rfl, e4, e5, e6, _⟩ := e3
  exact ⟨_, run_to_unsafe w _ h1 h1' h3 (by rw [h4]; exact hz) (shape_at e2) (by simp; omega), hv'⟩

theorem from_unsafe_sound (hE : EOK E P) (H : HR φ w₀ h nx w) {src dst u : TypeId} {i j ei : TI} (hi : E.ty src = some i) (hj : E.ty dst = some j) (hd : i.desc = .unsafePtr) (hd' : j.desc = .ptr u) {p : Pos} {o : Nat} {l : List AV} {ro sx : Bool} {e : TypeId}
    (hg : Tr.get p h = some (.cells l ro sx true e)) (he : E.ty e = some ei) (hl : l.length = ei.size) (hz : 0 < ei.size) (hu : ∃ x, P.info? u = some x) (hlie : liesAt P P.depth e 1 o u 1 = true) {v : Value} (hv : VR φ (.ptr p o) v) :
    QS P φ w (convert src dst v) (.ptr p o) := by
  obtain ⟨d, h1, h2⟩ := hE.desc hi
  obtain ⟨d', h1', h2'⟩ := hE.desc hj
  rw [hd] at h2
  rw [hd'] at h2'
  simp only [DR] at h2 h2'
  subst h2 h2'
  obtain ⟨x, z, h3, h4, _⟩ := (hE.ty _ _ he).info
  obtain ⟨y, hy⟩ := hu
  have hv' := hv
  simp only [VR] at hv
  obtain ⟨k, b, s, e1, rfl⟩ := hv
  obtain ⟨x', e2, e3⟩ := H.obj _ _ _ _ _ hg e1
  simp only [OR_] at e3
  obtain ⟨c, lo, hi', rfl, e4, e5, e6, _⟩ := e3
  obtain ⟨rfl, e7⟩ := e4 trivial
  have hcells : P.cellsOf e = ei.size := by simp [Program.cellsOf, h3, h4]
  refine ⟨_, run_from_unsafe w _ h1 h1' hy (shape_at e2) ?_, hv'⟩
  have : c.size / P.cellsOf e = 1 := by rw [hcells, e5, e7, hl, Nat.div_self hz]
  rw [this]
  simpa using hlie

/-! ### Keys -/
theorem checkKey_T {t : TypeId} {i : TI} (ht : TYR P t i) {x y : AV} {u : Value} {b : Bool} (h : eqT i.desc x y = some b) (hx : VR φ x u) (em : Bool) (n : Nat) : (Instr.checkKey em (n + 1) t u).run P w = .ok () w := by
  obtain ⟨dd, h1, h2, _⟩ := ht.desc
  generalize i.desc = D at h h2
  unfold eqT at h
  split at h <;> first | contradiction | (simp only [DR] at h2; subst h2; simp only [VR] at hx; (first | subst hx | (obtain ⟨rfl, _⟩ := hx)); simp [Instr.checkKey, run_underlying_of h1, bytesVal])

theorem checkKey_fs (hE : EOK E P) {em : Bool} {n : Nat} {L : List AV} {xs : List Value} (hL : VRL φ L xs) : ∀ {F : List Field} {m : Nat} {_b : Bool}, eqFs E (F.map fun f => (f.offset, f.type)) m (L.drop m) (L.drop m) = some true →
    (forIn F PUnit.unit (fun (f : Field) (_ : PUnit) => (if f.name ≠ "_" then (do
      let u ← part f.type xs.toArray f.offset
      Instr.checkKey em (n + 1) f.type u
      pure (ForInStep.yield PUnit.unit)) else pure (ForInStep.yield PUnit.unit) : Sem (ForInStep PUnit)))).run P w = .ok PUnit.unit w
  | [], _, _, _ => by simp
  | f :: F, m, b, h => by
    simp only [List.map_cons] at h
    generalize hl : L.drop m = l0 at h
    cases l0 with
    | nil => simp [eqFs] at h
    | cons x l =>
      simp only [eqFs] at h
      split at h
      · rename_i hoff
        have hoff' : f.offset = m := Nat.eq_of_beq_eq_true hoff
        split at h
        · rename_i i hi
          have ht := hE.ty _ _ hi
          have hxl : L[m]? = some x := by
            have : (L.drop m)[0]? = some x := by rw [hl]; rfl
            simpa using this
          have hl' : l = L.drop (m + 1) := by
            have : (L.drop m).drop 1 = l := by rw [hl]; rfl
            rw [← this, List.drop_drop]
          obtain ⟨u, hu1, hu2⟩ := hL.get hxl
          split at h
          · rename_i hb'
            have hg := eqT_basic ht hb'
            have ih := checkKey_fs hE (em := em) (n := n) hL (F := F) (m := m + 1) (_b := b) (by rw [← hl']; exact h)
            rw [List.forIn_cons]
            by_cases hn : f.name ≠ "_"
            · simp only [Sem.run_bind, if_pos hn, hoff', part_one ht hg (vs := xs.toArray) (n := m) (v := u) (by simpa using hu1), Result.andThen_ok, checkKey_T ht hb' hu2, Sem.run_pure]
              exact ih
            · simp only [Sem.run_bind, if_neg hn, Sem.run_pure, Result.andThen_ok]
              exact ih
          · cases h
          · cases h
        · cases h
      · cases h

theorem checkKey_any (hE : EOK E P) {t : TypeId} {x : AV} {u : Value} (h : keyA E t x = true) (hx : VR φ x u) (em : Bool) (n : Nat) : (Instr.checkKey em (n + 2) t u).run P w = .ok () w := by
  unfold keyA at h
  split at h
  · rename_i hk
    unfold eqKey at hk
    split at hk
    · cases hk
    · rename_i i hi
      split at hk
      · rename_i fs l m hdesc heq
        injection heq with heq
        subst heq
        split at hk
        · obtain ⟨d, h1, h2⟩ := hE.desc hi
          rw [hdesc] at h2
          simp only [DR] at h2
          obtain ⟨F, rfl, hF⟩ := h2
          simp only [VR] at hx
          obtain ⟨vs, rfl, hl⟩ := hx
          rw [← hF] at hk
          have key := checkKey_fs (w := w) hE (em := em) (n := n) hl (F := F.toList) (m := 0) (_b := true) (by simpa using hk)
          unfold Instr.checkKey
          simp only [Sem.run_bind, run_underlying_of h1, Result.andThen_ok]
          rw [← Array.forIn_toList, key]
          rfl
        · cases hk
      · exact checkKey_T (hE.ty _ _ hi) hk hx em (n + 1)
  · cases h
theorem checkKey_sound (hE : EOK E P) {t : TypeId} {x : AV} {u : Value} (h : keyA E t x = true) (hx : VR φ x u) (em : Bool) : (Instr.checkKey em 10000 t u).run P w = .ok () w :=
  checkKey_any hE h hx em 9998
end
end Go.AM
namespace Go.AM
section
variable {E : Env} {P : Program} {φ : Ph} {w₀ : Base} {w : World} {h : Heap} {nx : Pos}

theorem sameNow_equal {t : TypeId} {d : TypeDesc} {u v : Value} {b : Bool} (hd : P.underlying t = some d) (h : Instr.sameNow d u v = some b) : (Op.equal t u v).run P w = .ok b w := by
  have key : ∀ n : Nat, (Op.equalIn (n + 1) t u v).run P w = .ok b w := by
    intro n
    unfold Instr.sameNow at h
    split at h
    · rename_i k a k' c
      split at h
      · rename_i hk
        injection h with h
        subst hk h
        simp [Op.equalIn, run_underlying_of hd]
      · cases h
    · injection h with h
      subst h
      simp [Op.equalIn, run_underlying_of hd]
    · injection h with h
      subst h
      simp [Op.equalIn, run_underlying_of hd]
    · cases h
  exact key _

theorem findNow_asking {t : TypeId} {d : TypeDesc} {u : Value} (hd : P.underlying t = some d) : ∀ {en : List MapEntry} {i : Nat} {r : Option (Nat × Value)}, Instr.findNow d u en i = some r → (Instr.findAsking t u en i).run P w = .ok r w
  | [], i, r, h => by simp [Instr.findNow] at h; subst h; simp [Instr.findAsking]
  | e :: en, i, r, h => by
    unfold Instr.findNow at h
    split at h
    · rename_i hs
      injection h with h
      subst h
      simp only [Instr.findAsking, Sem.run_bind, sameNow_equal hd hs, Result.andThen_ok, if_true, Sem.run_pure]
    · rename_i hs
      simp only [Instr.findAsking, Sem.run_bind, sameNow_equal hd hs, Result.andThen_ok, Bool.false_eq_true, if_false]
      exact findNow_asking hd h
    · cases h

theorem findKey_asking {t : TypeId} {d : TypeDesc} {u : Value} (hd : P.underlying t = some d) {en : List MapEntry} {r : Option (Nat × Value)} (h : (Instr.findAsking t u en 0).run P w = .ok r w) : (Instr.findKey t u en).run P w = .ok r w := by
  unfold Instr.findKey
  simp only [Sem.run_bind, run_underlying_of hd, Result.andThen_ok]
  split
  · rename_i r' hr
    have := findNow_asking (P := P) (w := w) hd hr
    rw [this] at h
    simpa using h
  · exact h

/-- What a look-up answers, of both sides. -/
def FR (φ : Ph) (es : List (AV × AV)) (i : Nat) (a : Option AV) (r : Option (Nat × Value)) : Prop :=
  match a, r with
  | none, none => True
  | some x, some (j, u) => ∃ k, es[j - i]? = some (k, x) ∧ i ≤ j ∧ VR φ x u
  | _, _ => False

theorem ER.tail {e : AV × AV} {es : List (AV × AV)} {m : MapEntry} {en : List MapEntry} {n : Nat} (h : (m :: en).length = (e :: es).length ∧ ∀ (i : Nat) (k v : AV), (e :: es)[i]? = some (k, v) → ∃ x : MapEntry, (m :: en)[i]? = some x ∧ VR φ k x.key ∧ VR φ v x.val ∧ x.born = n + i) :
    en.length = es.length ∧ ∀ (i : Nat) (k v : AV), es[i]? = some (k, v) → ∃ x : MapEntry, en[i]? = some x ∧ VR φ k x.key ∧ VR φ v x.val ∧ x.born = n + 1 + i := by
  refine ⟨by simpa using h.1, fun i k v hi => ?_⟩
  obtain ⟨x, h1, h2, h3, h4⟩ := h.2 (i + 1) k v (by simpa using hi)
  exact ⟨x, by simpa using h1, h2, h3, by omega⟩

theorem findE_sound (hE : EOK E P) {t : TypeId} {kv : AV} {u : Value} (hk : VR φ kv u) : ∀ {es : List (AV × AV)} {en : List MapEntry} {i n : Nat} {a : Option AV},
    (en.length = es.length ∧ ∀ (i : Nat) (k v : AV), es[i]? = some (k, v) → ∃ x : MapEntry, en[i]? = some x ∧ VR φ k x.key ∧ VR φ v x.val ∧ x.born = n + i) →
    findE (eqKey E t) kv es = some a → ∃ r, (Instr.findAsking t u en i).run P w = .ok r w ∧ FR φ es i a r
  | [], en, i, n, a, he, h => by
    simp [findE] at h
    subst h
    have : en = [] := List.eq_nil_of_length_eq_zero (by simpa using he.1)
    subst this
    exact ⟨none, by simp [Instr.findAsking], trivial⟩
  | (k, v) :: es, [], i, n, a, he, h => by simp at he
  | (k, v) :: es, m :: en, i, n, a, he, h => by
    obtain ⟨x, h1, h2, h3, _⟩ := he.2 0 k v rfl
    simp at h1
    subst h1
    unfold findE at h
    split at h
    · rename_i hb
      injection h with h
      subst h
      have := eqKey_sound (w := w) (d := 9998) hE hb hk h2
      refine ⟨some (i, m.val), ?_, k, by simp, Nat.le_refl _, h3⟩
      simp only [Instr.findAsking, Sem.run_bind, Op.equal, Op.maxDepth, this, Result.andThen_ok, if_true, Sem.run_pure]
    · rename_i hb
      have := eqKey_sound (w := w) (d := 9998) hE hb hk h2
      obtain ⟨r, hr, hf⟩ := findE_sound hE hk (i := i + 1) (ER.tail he) h
      refine ⟨r, ?_, ?_⟩
      · simp only [Instr.findAsking, Sem.run_bind, Op.equal, Op.maxDepth, this, Result.andThen_ok, Bool.false_eq_true, if_false]
        exact hr
      · cases a with
        | none => cases r <;> simp [FR] at hf ⊢
        | some y =>
          cases r with
          | none => simp [FR] at hf
          | some p =>
            obtain ⟨j, q⟩ := p
            simp only [FR] at hf ⊢
            obtain ⟨k', e1, e2, e3⟩ := hf
            refine ⟨k', ?_, by omega, e3⟩
            rw [show j - i = (j - (i + 1)) + 1 by omega]
            simpa using e1
    · cases h

theorem findKey_sound (hE : EOK E P) {t : TypeId} {d : TypeDesc} (hd : P.underlying t = some d) {kv : AV} {u : Value} (hk : VR φ kv u) {es : List (AV × AV)} {en : List MapEntry} (he : ER φ es en) {a : Option AV} (h : findE (eqKey E t) kv es = some a) :
    ∃ r, (Instr.findKey t u en).run P w = .ok r w ∧ FR φ es 0 a r := by
  obtain ⟨r, h1, h2⟩ := findE_sound (w := w) hE (t := t) hk (i := 0) (n := 0) ⟨he.1, fun i k v hi => by simpa using he.2 i k v hi⟩ h
  exact ⟨r, findKey_asking hd h1, h2⟩

/-- A map's entries on both sides. -/
theorem map_at (H : HR φ w₀ h nx w) {b : Pos} {es : List (AV × AV)} (hb : Tr.get b h = some (.map es)) {v : Value} (hv : VR φ (.map b) v) :
    ∃ k en, v = .map (some k) ∧ w.heap[k]? = some (.map en es.length) ∧ ER φ es en.toList := by
  simp only [VR] at hv
  obtain ⟨k, b', s, e1, rfl⟩ := hv
  obtain ⟨x, e2, e3⟩ := H.obj _ _ _ _ _ hb e1
  simp only [OR_] at e3
  obtain ⟨en, rfl, e4⟩ := e3
  exact ⟨k, en, rfl, e2, e4⟩

theorem keyA_type {t : TypeId} {k : AV} (h : keyA E t k = true) : ∃ i, E.ty t = some i := by
  unfold keyA eqKey at h
  cases hi : E.ty t with
  | none => rw [hi] at h; simp at h
  | some i => exact ⟨i, rfl⟩

theorem getMap {k c : Nat} {en : Array MapEntry} (h : w.heap[k]? = some (.map en c)) : (getObj k).run P w = .ok (.map en c) w := by
  simp [getObj, Sem.run, h]

theorem lookup_sound (hE : EOK E P) {t kt e : TypeId} {i : TI} (hi : E.ty t = some i) (hd : i.desc = .map kt e) {kv : AV} {u m : Value} (hk : keyA E kt kv = true) (hu : VR φ kv u) {es : List (AV × AV)} {en : Array MapEntry}
    (hm : (m = .map none ∧ en = #[]) ∨ ∃ k c, m = .map (some k) ∧ w.heap[k]? = some (.map en c)) (he : ER φ es en.toList) {ok : Bool} {r : AV}
    (h : (match findE (eqKey E kt) kv es with
        | some (some v) => some (if ok then .tuple [v, .bool true] else v)
        | some none => (match E.ty e with
          | some i => (match zeroA i with | some z => some (if ok then .tuple [z, .bool false] else z) | none => none)
          | none => none)
        | none => none) = some r) : QS P φ w (Instr.lookup t m u ok) r := by
  obtain ⟨d, h1, h2⟩ := hE.desc hi
  rw [hd] at h2
  simp only [DR] at h2
  subst h2
  obtain ⟨ki, hki⟩ := keyA_type hk
  obtain ⟨dk, hdk, _⟩ := hE.desc hki
  have hck := checkKey_sound (w := w) hE hk hu en.isEmpty
  split at h
  · rename_i v hf
    injection h with h
    obtain ⟨x, hx1, hx2⟩ := findKey_sound (w := w) hE hdk hu he hf
    cases x with
    | none => simp [FR] at hx2
    | some p =>
      obtain ⟨j, q⟩ := p
      simp only [FR] at hx2
      obtain ⟨_, _, _, hq⟩ := hx2
      refine ⟨if ok then .tuple #[q, .bool true] else q, ?_, ?_⟩
      · unfold Instr.lookup
        simp only [Sem.run_bind, run_underlying_of h1, Result.andThen_ok]
        rcases hm with ⟨rfl, rfl⟩ | ⟨k, c, rfl, hh⟩
        · simp at hck hx1
          simp [hck, hx1]
        · simp [getMap hh, hck, hx1]
      · subst h
        cases ok
        · exact hq
        · simp only [if_true, VR]
          exact ⟨[q, .bool true], rfl, by simp [VRL, VR, hq]⟩
  · rename_i hf
    obtain ⟨x, hx1, hx2⟩ := findKey_sound (w := w) hE hdk hu he hf
    cases x with
    | some p => simp [FR] at hx2
    | none =>
      split at h
      · rename_i ei hei
        split at h
        · rename_i z hz
          injection h with h
          obtain ⟨zv, hz1, _, _, hz2⟩ := (hE.ty _ _ hei).run_zero w
          have hq := hz2 φ z hz
          refine ⟨if ok then .tuple #[zv, .bool false] else zv, ?_, ?_⟩
          · unfold Instr.lookup
            simp only [Sem.run_bind, run_underlying_of h1, Result.andThen_ok]
            rcases hm with ⟨rfl, rfl⟩ | ⟨k, c, rfl, hh⟩
            · simp at hck hx1
              simp [hck, hx1, hz1]
            · simp [getMap hh, hck, hx1, hz1]
          · subst h
            cases ok
            · exact hq
            · simp only [if_true, VR]
              exact ⟨[zv, .bool false], rfl, by simp [VRL, VR, hq]⟩
        · cases h
      · cases h
  · cases h

/-! ### Maps whose entries come in some order -/
theorem findE_mem {eq : AV → AV → Option Bool} {a : List Nat} (heq : ∀ b, eq (.str a) (.str b) = some (eqN a b)) {v : AV} : ∀ {es : List (AV × AV)}, UK es → (.str a, v) ∈ es → findE eq (.str a) es = some (some v)
  | [], _, h => by cases h
  | (k, v') :: es, U, h => by
    obtain ⟨b, hb, _⟩ := U.1 (k, v') (by simp)
    simp only at hb
    subst hb
    have U' : UK es := ⟨fun e he => U.1 e (by simp [he]), by have := U.2; simp at this; exact this.2⟩
    unfold findE
    rw [heq]
    cases hab : eqN a b with
    | true =>
      rw [eqN_eq] at hab
      have := eq_of_beq hab
      subst this
      simp only
      rcases List.mem_cons.1 h with h | h
      · injection h with h1 h2; rw [h2]
      · have := U.2
        simp at this
        exact absurd h (this.1 v)
    | false =>
      simp only
      rcases List.mem_cons.1 h with h | h
      · injection h with h1 h2
        injection h1 with h1
        subst h1
        rw [eqN_eq] at hab
        simp at hab
      · exact findE_mem heq U' h

theorem findE_not {eq : AV → AV → Option Bool} {a : List Nat} (heq : ∀ b, eq (.str a) (.str b) = some (eqN a b)) : ∀ {es : List (AV × AV)}, UK es → (∀ v, (.str a, v) ∉ es) → findE eq (.str a) es = some none
  | [], _, _ => rfl
  | (k, v') :: es, U, h => by
    obtain ⟨b, hb, _⟩ := U.1 (k, v') (by simp)
    simp only at hb
    subst hb
    have U' : UK es := ⟨fun e he => U.1 e (by simp [he]), by have := U.2; simp at this; exact this.2⟩
    unfold findE
    rw [heq]
    cases hab : eqN a b with
    | true =>
      rw [eqN_eq] at hab
      have := eq_of_beq hab
      subst this
      exact absurd (by simp) (h v')
    | false =>
      simp only
      exact findE_not heq U' fun v hv => h v (by simp [hv])

theorem eqKey_str {t : TypeId} {kv : AV} {b : List Nat} {r : Bool} (h : eqKey E t kv (.str b) = some r) : ∃ a, kv = .str a ∧ ∀ c, eqKey E t (.str a) (.str c) = some (eqN a c) := by
  cases hi : E.ty t with
  | none => simp [eqKey, hi] at h
  | some i =>
    cases kv <;> cases hd : i.desc <;> simp [eqKey, hi, hd, eqT] at h
    rename_i a
    exact ⟨a, rfl, fun c => by simp [eqKey, hi, hd, eqT]⟩

theorem findE_perm {t : TypeId} {kv : AV} {es es' : List (AV × AV)} {a : Option AV} (U : UK es) (p : es'.Perm es) (h : findE (eqKey E t) kv es = some a) : findE (eqKey E t) kv es' = some a := by
  cases es with
  | nil => rw [List.perm_nil.1 p]; exact h
  | cons e es =>
    obtain ⟨k, v⟩ := e
    obtain ⟨b, hb, _⟩ := U.1 (k, v) (by simp)
    simp only at hb
    subst hb
    have hk : ∃ r, eqKey E t kv (.str b) = some r := by
      unfold findE at h
      cases hr : eqKey E t kv (.str b) with
      | none => rw [hr] at h; simp at h
      | some r => exact ⟨r, rfl⟩
    obtain ⟨r, hr⟩ := hk
    obtain ⟨s, rfl, heq⟩ := eqKey_str hr
    have U' := U.perm p
    by_cases hm : ∃ u, (AV.str s, u) ∈ (AV.str b, v) :: es
    · obtain ⟨u, hu⟩ := hm
      rw [findE_mem heq U hu] at h
      rw [findE_mem heq U' (p.mem_iff.2 hu)]
      exact h
    · have hn : ∀ u, (AV.str s, u) ∉ (AV.str b, v) :: es := fun u hu => hm ⟨u, hu⟩
      rw [findE_not heq U hn] at h
      rw [findE_not heq U' fun u hu => hn u (p.mem_iff.1 hu)]
      exact h

/-- A map's entries on both sides, in the model's order. -/
theorem ents_at (H : HR φ w₀ h nx w) {b : Pos} {es : List (AV × AV)} (hb : entsOf (Tr.get b h) = some es) {v : Value} (hv : VR φ (.map b) v) :
    ∃ k en es', v = .map (some k) ∧ w.heap[k]? = some (.map en es.length) ∧ ER φ es' en.toList ∧ (es' = es ∨ es'.Perm es ∧ UK es) := by
  unfold entsOf at hb
  split at hb
  · rename_i es' hg
    injection hb with hb
    subst hb
    obtain ⟨k, en, e1, e2, e3⟩ := map_at H hg hv
    exact ⟨k, en, _, e1, e2, e3, .inl rfl⟩
  · rename_i es' hg
    injection hb with hb
    subst hb
    simp only [VR] at hv
    obtain ⟨k, b', s, e1, rfl⟩ := hv
    obtain ⟨x, e2, e3⟩ := H.obj _ _ _ _ _ hg e1
    simp only [OR_] at e3
    obtain ⟨en, rfl, es', e4, e5, e6⟩ := e3
    exact ⟨k, en, es', rfl, e2, e5, .inr ⟨e4, e6⟩⟩
  · rename_i es' hg
    injection hb with hb
    subst hb
    simp only [VR] at hv
    obtain ⟨k, b', s, e1, rfl⟩ := hv
    obtain ⟨x, e2, e3⟩ := H.obj _ _ _ _ _ hg e1
    simp only [OR_] at e3
    obtain ⟨en, rfl, es', e4, e5, e6⟩ := e3
    exact ⟨k, en, es', rfl, e2, e5, .inr ⟨e4, e6⟩⟩
  · cases hb
theorem ents_find {t : TypeId} {kv : AV} {es es' : List (AV × AV)} {a : Option AV} (p : es' = es ∨ es'.Perm es ∧ UK es) (h : findE (eqKey E t) kv es = some a) : findE (eqKey E t) kv es' = some a := by
  rcases p with rfl | ⟨p, U⟩
  · exact h
  · exact findE_perm U p h
end
end Go.AM
namespace Go.AM
section
variable {E : Env} {P : Program} {φ : Ph} {w₀ : Base} {w : World} {h : Heap} {nx : Pos}

theorem VR_cells {a : AV} {v : Value} (hv : VR φ a v) : VRL φ (cellsOf a) v.cells.toList := by
  cases a <;> simp only [VR] at hv
  case agg l =>
    obtain ⟨vs, rfl, hl⟩ := hv
    simpa [cellsOf, Value.cells] using hl
  all_goals
    have hone : v.cells.toList = [v] := by
      first
        | (subst hv; rfl)
        | (obtain ⟨rfl, _⟩ := hv; rfl)
        | (obtain ⟨_, rfl, _⟩ := hv; rfl)
        | (obtain ⟨_, _, _, _, rfl, _⟩ := hv; rfl)
        | (obtain ⟨_, _, _, _, rfl⟩ := hv; rfl)
        | (obtain ⟨_, _, _, _, _, rfl, _⟩ := hv; rfl)
    rw [hone]
    simp only [cellsOf, VRL_cons, VRL_nil]
    refine ⟨v, [], rfl, ?_, rfl⟩
    simp only [VR]
    exact hv

theorem putL_VRL {xs cs r : List AV} {us vs : List Value} (hx : VRL φ xs us) (hc : VRL φ cs vs) {off : Nat} (h : putL xs off cs = some r) : off + us.length ≤ vs.length ∧ VRL φ r (vs.take off ++ us ++ vs.drop (off + us.length)) := by
  obtain ⟨h1, rfl⟩ := putL_eq _ _ _ _ h
  have e1 := hx.length
  have e2 := hc.length
  refine ⟨by omega, ?_⟩
  rw [e1]
  exact ((hc.take off).append hx).append (hc.drop _)

theorem fold_set (off : Nat) (us vs : List Value) (h : off + us.length ≤ vs.length) :
    ((us.toArray).zipIdx.foldl (fun cs (x : Value × Nat) => cs.setIfInBounds (off + x.2) x.1) vs.toArray) = (vs.take off ++ us ++ vs.drop (off + us.length)).toArray := by
  obtain ⟨h1, h2⟩ := Go.Great.foldl_set off us 0 vs.toArray
  have e : ((us.toArray).zipIdx.foldl (fun cs (x : Value × Nat) => cs.setIfInBounds (off + x.2) x.1) vs.toArray) = ((us.zipIdx 0).foldl (fun cs (x : Value × Nat) => cs.setIfInBounds (off + x.2) x.1) vs.toArray) := by
    rw [← Array.foldl_toList]
    simp
  rw [e]
  apply Array.ext_getElem?
  intro k
  rw [h2 k]
  simp only [List.size_toArray, List.getElem?_toArray, Nat.add_zero]
  by_cases hk : k < off
  · rw [if_neg (by omega), List.append_assoc, List.getElem?_append_left (by simp; omega)]
    simp [hk]
  · by_cases hk2 : k < off + us.length
    · rw [if_pos (by omega), List.append_assoc, List.getElem?_append_right (by simp; omega), List.getElem?_append_left (by simp; omega)]
      simp only [List.length_take]
      congr 1
      omega
    · rw [if_neg (by omega), List.getElem?_append_right (by simp; omega), List.getElem?_drop]
      simp only [List.length_append, List.length_take]
      congr 1
      omega

theorem fill_sound {place : Nat → Option (Nat × Nat)} : ∀ {ps : List (Nat × AV)} {qs : List (Nat × Value)} {cs r : List AV} {vs : List Value}, ps.map (·.1) = qs.map (·.1) → VRL φ (ps.map (·.2)) (qs.map (·.2)) → VRL φ cs vs → fillA place ps cs = some r →
    ∃ us : List Value, Instr.fill place vs.toArray qs = some us.toArray ∧ VRL φ r us
  | [], [], cs, r, vs, _, _, hc, h => by
    simp [fillA] at h
    subst h
    exact ⟨vs, rfl, hc⟩
  | [], _ :: _, _, _, _, h1, _, _, _ => by simp at h1
  | _ :: _, [], _, _, _, h1, _, _, _ => by simp at h1
  | (i, a) :: ps, (j, v) :: qs, cs, r, vs, h1, h2, hc, h => by
    simp only [List.map_cons, List.cons.injEq] at h1
    obtain ⟨rfl, h1⟩ := h1
    simp only [List.map_cons, VRL_cons] at h2
    obtain ⟨v', r', e, hv, h2⟩ := h2
    injection e with e1 e2
    subst e1 e2
    unfold fillA at h
    split at h
    · cases h
    · rename_i off size hp
      split at h
      · rename_i hsz
        split at h
        · rename_i cs' hput
          have hcell := VR_cells hv
          obtain ⟨g1, g2⟩ := putL_VRL hcell hc hput
          obtain ⟨us, e3, e4⟩ := fill_sound h1 h2 g2 h
          refine ⟨us, ?_, e4⟩
          have hlen := hcell.length
          have hsz' := Nat.eq_of_beq_eq_true hsz
          rw [lenL_eq] at hsz'
          simp only [Array.length_toList] at hlen g1
          simp only [Instr.fill, hp]
          rw [if_neg (by simp only [ne_eq, List.size_toArray, gt_iff_lt, Bool.or_eq_true, decide_eq_true_eq, not_or, Decidable.not_not, Nat.not_lt]; omega)]
          have := fold_set off v.cells.toList vs (by simpa using g1)
          rw [Array.toArray_toList] at this
          rw [← this] at e3
          exact e3
        · cases h
      · cases h

theorem places_sound (hE : EOK E P) : ∀ {F : List Field} {l : List (Nat × Nat)}, sizesA E (F.map fun f => (f.offset, f.type)) = some l → F.mapM (fun f => (P.info? f.type).map fun i => (f.offset, i.size)) = some l
  | [], l, h => by simp [sizesA] at h; subst h; rfl
  | f :: F, l, h => by
    simp only [List.map_cons, sizesA] at h
    split at h
    · rename_i i r hi hr
      injection h with h
      subst h
      obtain ⟨x, z, h1, h2, _⟩ := (hE.ty _ _ hi).info
      simp [List.mapM_cons, places_sound hE hr, h1, h2]
    · cases h

theorem zero_info (hE : EOK E P) {t : TypeId} {i : TI} (hi : E.ty t = some i) : ∃ x z, P.info? t = some x ∧ x.size = i.size ∧ x.zero = some z ∧ ∀ φ, VRL φ i.zero z.cells.toList := by
  obtain ⟨x, z, h1, h2, _, h3, _, _, h6, _⟩ := (hE.ty _ _ hi).info
  exact ⟨x, z, h1, h2, h3, h6⟩

theorem build_struct_sound (hE : EOK E P) {t : TypeId} {i : TI} (hi : E.ty t = some i) {fs : List (Nat × TypeId)} (hd : i.desc = .struct fs) {ρ : Rho} {vs : Array Value} {parts : Array (Nat × Operand)} {ps : List (Nat × AV)} (hps : evalP ρ parts.toList = some ps)
    (O : OpsR φ ρ vs (parts.toList.map (·.2))) {places : List (Nat × Nat)} (hpl : sizesA E fs = some places) {cs : List AV} (hf : fillA (nth? places) ps i.zero = some cs) :
    QS P φ w (Instr.build t (parts.map fun (i, x) => (i, ev vs x))) (.agg cs) := by
  obtain ⟨d, h1, h2⟩ := hE.desc hi
  rw [hd] at h2
  simp only [DR] at h2
  obtain ⟨F, rfl, hF⟩ := h2
  obtain ⟨x, z, h3, h4, h5, h6⟩ := zero_info hE hi
  obtain ⟨h7, h8⟩ := evalP_sound O hps
  have hq : (parts.map fun (i, x) => (i, ev vs x)).toList = parts.toList.map (fun (i, x) => (i, ev vs x)) := by simp
  have hplace : (nth? places) = (fun i => (places.toArray)[i]?) := by funext i; rw [nth?_eq]; simp
  rw [hplace] at hf
  obtain ⟨us, h9, h10⟩ := fill_sound (φ := φ) (qs := parts.toList.map (fun (i, x) => (i, ev vs x))) (by rw [h7]; simp [Function.comp_def]) (by simpa [Function.comp_def] using h8) (h6 φ) hf
  refine ⟨_, run_build w t _ us.toArray ?_, ?_⟩
  · unfold Program.built
    rw [← hF] at hpl
    rw [h3, h1, hq]
    simp only [h5, places_sound hE hpl]
    rw [Array.toArray_toList] at h9
    exact h9
  · simp only [VR]
    exact ⟨us, rfl, h10⟩

theorem build_array_sound (hE : EOK E P) {t e : TypeId} {n : Nat} {i ei : TI} (hi : E.ty t = some i) (hd : i.desc = .array n e) (he : E.ty e = some ei) {ρ : Rho} {vs : Array Value} {parts : Array (Nat × Operand)} {ps : List (Nat × AV)} (hps : evalP ρ parts.toList = some ps)
    (O : OpsR φ ρ vs (parts.toList.map (·.2))) {cs : List AV} (hf : fillA (fun k => some (Nat.mul k ei.size, ei.size)) ps i.zero = some cs) :
    QS P φ w (Instr.build t (parts.map fun (i, x) => (i, ev vs x))) (.agg cs) := by
  obtain ⟨d, h1, h2⟩ := hE.desc hi
  rw [hd] at h2
  simp only [DR] at h2
  subst h2
  obtain ⟨x, z, h3, h4, h5, h6⟩ := zero_info hE hi
  obtain ⟨ex, ez, g3, g4, _⟩ := zero_info hE he
  obtain ⟨h7, h8⟩ := evalP_sound O hps
  have hq : (parts.map fun (i, x) => (i, ev vs x)).toList = parts.toList.map (fun (i, x) => (i, ev vs x)) := by simp
  obtain ⟨us, h9, h10⟩ := fill_sound (φ := φ) (qs := parts.toList.map (fun (i, x) => (i, ev vs x))) (by rw [h7]; simp [Function.comp_def]) (by simpa [Function.comp_def] using h8) (h6 φ) hf
  refine ⟨_, run_build w t _ us.toArray ?_, ?_⟩
  · unfold Program.built
    rw [h3, h1, hq]
    simp only [h5, g3, g4]
    rw [Array.toArray_toList] at h9
    exact h9
  · simp only [VR]
    exact ⟨us, rfl, h10⟩

theorem extract_sound {l : List AV} {n : Nat} {r : AV} {v : Value} (hv : VR φ (.tuple l) v) (h : nth? l n = some r) : QS P φ w (Instr.extract v n) r := by
  simp only [VR] at hv
  obtain ⟨vs, rfl, hl⟩ := hv
  rw [nth?_eq] at h
  obtain ⟨u, h1, h2⟩ := hl.get h
  refine ⟨u, ?_, h2⟩
  have : vs.toArray[n]? = some u := by simpa using h1
  simp only [Instr.extract, this, Sem.run_pure]

theorem assert_sound (hE : EOK E P) {t u x : TypeId} {i : TI} {fs : List (Nat × TypeId)} (hi : E.ty u = some i) (hd : i.desc = .struct fs) {a : AV} {v : Value} (hv : VR φ (.iface t a) v) (ht : t = u) : QS P φ w (Instr.typeAssert v x u true) (.tuple [a, .bool true]) := by
  obtain ⟨d, h1, h2⟩ := hE.desc hi
  rw [hd] at h2
  simp only [DR] at h2
  obtain ⟨F, rfl, hF⟩ := h2
  simp only [VR] at hv
  obtain ⟨b, rfl, hb⟩ := hv
  subst ht
  refine ⟨.tuple #[b, .bool true], ?_, ?_⟩
  · simp [Instr.typeAssert, run_underlying_of h1]
  · simp only [VR]
    exact ⟨[b, .bool true], rfl, by simp [VRL, VR, hb]⟩
end
end Go.AM
