/-
  The witness of HubNil's row: its shape, what it lists.
-/
import Derived.Test.YtidhmgganaoefaaGreatDoorWita
namespace Go.Proofs.YtidhmgganaoefaaGreatDoor
open Go Go.ChangeShapes Go.WideShapes Go.ChangeAt Go.RowKit Go.Clock

theorem plainL : (Rows.hubNilRow.laid.all fun x => x.2.handleName?.isNone) = true := by kernel_rfl
def synS : List UInt8 := [105, 110, 118, 97, 108, 105, 100, 32, 115, 121, 110, 116, 97, 120]
def ranS : List UInt8 := [118, 97, 108, 117, 101, 32, 111, 117, 116, 32, 111, 102, 32, 114, 97, 110, 103, 101]
theorem ptrSyn (n : Nat) : (DataW.ptr (.agg [.lit (.string synS)])).lay Tryz.prog 736 n = some ([.pointer (some ⟨n, 0, none⟩)], [.cells #[.string ⟨synS.toArray⟩] 738]) := by kernel_rfl
theorem ptrRan (n : Nat) : (DataW.ptr (.agg [.lit (.string ranS)])).lay Tryz.prog 736 n = some ([.pointer (some ⟨n, 0, none⟩)], [.cells #[.string ⟨ranS.toArray⟩] 738]) := by kernel_rfl
theorem lay_iface {P : Program} {n t u : Nat} {name : String} {d : DataW Unit} {ms : Array (String × TypeId)} {cs : List Value} {bs : List Obj} {v : Value} (ht : P.underlying t = some (.interface ms))
    (hf : ((List.range P.types.size).find? fun u => P.typeName? 3 u == some name) = some u) (hd : d.lay P u n = some (cs, bs)) (hp : Lay.pack P u cs = some v) : (DataW.iface name d).lay P t n = some ([.iface u v], bs) := by
  unfold DataW.lay
  rw [ht, hf]
  simp only [hd, hp]
theorem pack736 (a : Option Addr) : Lay.pack Tryz.prog 736 [.pointer a] = some (.pointer a) := by simp only [Lay.pack, Tryz.underlying736]
theorem lay_err {n : Nat} {d : DataW Unit} {bs : List Obj} (h : d.lay Tryz.prog 736 n = some ([.pointer (some ⟨n, 0, none⟩)], bs)) : (DataW.iface "*errors.errorString" d).lay Tryz.prog 269 n = some ([.iface 736 (.pointer (some ⟨n, 0, none⟩))], bs) :=
  lay_iface Tryz.underlying269 findErr h (pack736 _)
theorem layList_cons {P : Program} {n m : Nat} {name : String} {d : DataW Unit} {r : List (String × DataW Unit)} {g t : Nat} {gl : Global} {cs : List Value} {bs bl bb : List Obj} {rows : List (Nat × List Value)}
    (hg : P.globalNamed name = some g) (ht : P.globals[g]? = some gl) (hty : gl.type = t) (hy : d.lay P t n = some (cs, bs)) (hm : n + bs.length = m) (hz : Lay.layList P m r = some (rows, bl)) (hb : bs ++ bl = bb) : Lay.layList P n ((name, d) :: r) = some ((g, cs) :: rows, bb) := by
  subst hty hm hb
  simp only [Lay.layList, hg, ht, hy, hz]

theorem g0 : Tryz.prog.globalNamed "switchyard/dead.words" = some 0 := by kernel_rfl
theorem g1 : Tryz.prog.globalNamed "switchyard/lex.signs" = some 1 := by kernel_rfl
theorem g2 : Tryz.prog.globalNamed "switchyard/defn.kinds" = some 2 := by kernel_rfl
theorem g3 : Tryz.prog.globalNamed "switchyard/defn.numbers" = some 3 := by kernel_rfl
theorem g6 : Tryz.prog.globalNamed "strconv.ErrSyntax" = some 6 := by kernel_rfl
theorem g7 : Tryz.prog.globalNamed "strconv.ErrRange" = some 7 := by kernel_rfl
theorem g8 : Tryz.prog.globalNamed "internal/strconv.uint64pow10" = some 8 := by kernel_rfl
theorem g9 : Tryz.prog.globalNamed "unicode/utf8.first" = some 9 := by kernel_rfl
theorem g10 : Tryz.prog.globalNamed "unicode/utf8.acceptRanges" = some 10 := by kernel_rfl
theorem g11 : Tryz.prog.globalNamed "math/bits.deBruijn32tab" = some 11 := by kernel_rfl
theorem g12 : Tryz.prog.globalNamed "math/bits.deBruijn64tab" = some 12 := by kernel_rfl

/-- The rows, the blocks behind. -/
def rowsL : List (Nat × List Value) := [(9, flat Rows.laid_unicode_utf8_first), (10, flat Rows.laid_unicode_utf8_acceptRanges), (1, flat Rows.laid_switchyard_lex_signs), (6, [.iface 736 (.pointer (some ⟨18, 0, none⟩))]), (7, [.iface 736 (.pointer (some ⟨19, 0, none⟩))]),
  (8, flat Rows.laid_internal_strconv_uint64pow10), (11, flat Rows.laid_math_bits_deBruijn32tab), (12, flat Rows.laid_math_bits_deBruijn64tab), (2, flat Rows.laid_switchyard_defn_kinds), (3, flat Rows.laid_switchyard_defn_numbers), (0, flat Rows.laid_switchyard_dead_words)]
def blocksL : List Obj := [.cells #[.string ⟨synS.toArray⟩] 738, .cells #[.string ⟨ranS.toArray⟩] 738]
theorem t11 : Lay.layList Tryz.prog 20 [] = some (rowsL.drop 11, []) := rfl
theorem t10 : Lay.layList Tryz.prog 20 (Rows.hubNilRow.laid.drop 10) = some (rowsL.drop 10, []) := layList_cons g0 rfl rfl (layWords 20) rfl t11 rfl
theorem t9 : Lay.layList Tryz.prog 20 (Rows.hubNilRow.laid.drop 9) = some (rowsL.drop 9, []) := layList_cons g3 rfl rfl (layNumbers 20) rfl t10 rfl
theorem t8 : Lay.layList Tryz.prog 20 (Rows.hubNilRow.laid.drop 8) = some (rowsL.drop 8, []) := layList_cons g2 rfl rfl (layKinds 20) rfl t9 rfl
theorem t7 : Lay.layList Tryz.prog 20 (Rows.hubNilRow.laid.drop 7) = some (rowsL.drop 7, []) := layList_cons g12 rfl rfl (layTab64 20) rfl t8 rfl
theorem t6 : Lay.layList Tryz.prog 20 (Rows.hubNilRow.laid.drop 6) = some (rowsL.drop 6, []) := layList_cons g11 rfl rfl (layTab32 20) rfl t7 rfl
theorem t5 : Lay.layList Tryz.prog 20 (Rows.hubNilRow.laid.drop 5) = some (rowsL.drop 5, []) := layList_cons g8 rfl rfl (layPow 20) rfl t6 rfl
theorem t4 : Lay.layList Tryz.prog 19 (Rows.hubNilRow.laid.drop 4) = some (rowsL.drop 4, [.cells #[.string ⟨ranS.toArray⟩] 738]) := layList_cons g7 rfl rfl (lay_err (ptrRan 19)) rfl t5 rfl
theorem t3 : Lay.layList Tryz.prog 18 (Rows.hubNilRow.laid.drop 3) = some (rowsL.drop 3, blocksL) := layList_cons g6 rfl rfl (lay_err (ptrSyn 18)) rfl t4 rfl
theorem t2 : Lay.layList Tryz.prog 18 (Rows.hubNilRow.laid.drop 2) = some (rowsL.drop 2, blocksL) := layList_cons g1 rfl rfl (laySigns 18) rfl t3 rfl
theorem t1 : Lay.layList Tryz.prog 18 (Rows.hubNilRow.laid.drop 1) = some (rowsL.drop 1, blocksL) := layList_cons g10 rfl rfl (layAccept 18) rfl t2 rfl
theorem t0 : Lay.layList Tryz.prog 18 (Rows.hubNilRow.laid.drop 0) = some (rowsL.drop 0, blocksL) := layList_cons g9 rfl rfl (layFirst 18) rfl t1 rfl
theorem layAllRows : Lay.layList Tryz.prog 18 Rows.hubNilRow.laid = some (rowsL, blocksL) := t0

theorem size18 (os : Os) : (World.holding Tryz.prog os ⟨#[], #[], []⟩).heap.size = 18 := by kernel_rfl
def withRows (w : World) (rows : List (Nat × List Value)) (bs : List Obj) : World := { w with heap := ⟨Lay.setRows w.heap.toList rows ++ bs⟩ }
theorem layVars_of {P : Program} {w : World} {l : List (String × DataW Unit)} {rows : List (Nat × List Value)} {bs : List Obj} (h : Lay.layList P w.heap.size l = some (rows, bs)) : w.layVars P l = withRows w rows bs := by
  unfold World.layVars withRows
  rw [h]
theorem layFits_of {P : Program} {w : World} {l : List (String × DataW Unit)} {y : List (Nat × List Value) × List Obj} (h : Lay.layList P w.heap.size l = some y) (hn : (y.1.map (·.1)).Nodup) (hr : ∀ g ∈ y.1.map (·.1), Lay.isRow w.heap.toList[g]? = true) : w.layFits P l [] = true := by
  unfold World.layFits
  rw [h]
  simp only [Bool.and_eq_true, List.all_eq_true, decide_eq_true_eq]
  exact ⟨⟨hn, fun r hm => ⟨hr _ (List.mem_map.2 ⟨r, hm, rfl⟩), rfl⟩⟩, fun x hx => by cases hx⟩
theorem layIfaces_of {P : Program} {w w' : World} {l : List (String × DataW Unit)} {y : List (Nat × List Value) × List Obj} (h : Lay.layList P w.heap.size l = some y) (h1 : (y.1.all fun r => r.2.all (Lay.okV P w')) = true) (h2 : y.2.all (Lay.okO P w') = true) : w.layIfaces P l w' = true := by
  unfold World.layIfaces
  rw [h]
  simp only [h1, h2, Bool.and_self]
noncomputable abbrev Hx (os : Os) : World := World.holding Tryz.prog os ⟨#[], #[], []⟩
theorem layHx (os : Os) : Lay.layList Tryz.prog (Hx os).heap.size Rows.hubNilRow.laid = some (rowsL, blocksL) := by
  rw [size18]
  exact layAllRows
noncomputable def Wx (os : Os) : World := withRows (Hx os) rowsL blocksL
theorem laidAll_eq (os : Os) : World.laidAll Tryz.prog os Rows.hubNilRow.laid = Wx os := by
  unfold World.laidAll Wx
  exact layVars_of (layHx os)
theorem isRows (os : Os) : ((List.range 13).all fun g => Lay.isRow (World.holding Tryz.prog os ⟨#[], #[], []⟩).heap.toList[g]?) = true := by kernel_rfl
theorem rowsN : rowsL.map (·.1) = [9, 10, 1, 6, 7, 8, 11, 12, 2, 3, 0] := rfl
theorem fits (os : Os) : (Hx os).layFits Tryz.prog Rows.hubNilRow.laid [] = true := by
  refine layFits_of (layHx os) (by show (rowsL.map (·.1)).Nodup; rw [rowsN]; decide +kernel) fun g hg => ?_
  have hg : g ∈ rowsL.map (·.1) := hg
  rw [rowsN] at hg
  have hlt : g < 13 := by
    simp only [List.mem_cons, List.not_mem_nil, or_false] at hg
    omega
  exact List.all_eq_true.1 (isRows os) g (List.mem_range.2 hlt)
theorem ifaceSyn (os : Os) : Value.okWideB Tryz.prog (Wx os) 736 (.pointer (some ⟨18, 0, none⟩)) = true := by kernel_rfl
theorem ifaceRan (os : Os) : Value.okWideB Tryz.prog (Wx os) 736 (.pointer (some ⟨19, 0, none⟩)) = true := by kernel_rfl
theorem plainRow9 (w : World) : (flat Rows.laid_unicode_utf8_first).all (Lay.okV Tryz.prog w) = true := by kernel_rfl
theorem plainRow10 (w : World) : (flat Rows.laid_unicode_utf8_acceptRanges).all (Lay.okV Tryz.prog w) = true := by kernel_rfl
theorem plainRow1 (w : World) : (flat Rows.laid_switchyard_lex_signs).all (Lay.okV Tryz.prog w) = true := by kernel_rfl
theorem plainRow8 (w : World) : (flat Rows.laid_internal_strconv_uint64pow10).all (Lay.okV Tryz.prog w) = true := by kernel_rfl
theorem plainRow11 (w : World) : (flat Rows.laid_math_bits_deBruijn32tab).all (Lay.okV Tryz.prog w) = true := by kernel_rfl
theorem plainRow12 (w : World) : (flat Rows.laid_math_bits_deBruijn64tab).all (Lay.okV Tryz.prog w) = true := by kernel_rfl
theorem plainRow2 (w : World) : (flat Rows.laid_switchyard_defn_kinds).all (Lay.okV Tryz.prog w) = true := by kernel_rfl
theorem plainRow3 (w : World) : (flat Rows.laid_switchyard_defn_numbers).all (Lay.okV Tryz.prog w) = true := by kernel_rfl
theorem plainRow0 (w : World) : (flat Rows.laid_switchyard_dead_words).all (Lay.okV Tryz.prog w) = true := by kernel_rfl
theorem allCons {α : Type} {f : α → Bool} {a : α} {l : List α} (h1 : f a = true) (h2 : l.all f = true) : (a :: l).all f = true := by rw [List.all_cons, h1, h2]; rfl
theorem okIface {P : Program} {w : World} {u : TypeId} {v : Value} (h : Value.okWideB P w u v = true) : [Value.iface u v].all (Lay.okV P w) = true := allCons h rfl
theorem ifaces (os : Os) : (Hx os).layIfaces Tryz.prog Rows.hubNilRow.laid (Wx os) = true :=
  layIfaces_of (layHx os)
    (allCons (plainRow9 _) (allCons (plainRow10 _) (allCons (plainRow1 _) (allCons (okIface (ifaceSyn os)) (allCons (okIface (ifaceRan os)) (allCons (plainRow8 _) (allCons (plainRow11 _) (allCons (plainRow12 _) (allCons (plainRow2 _) (allCons (plainRow3 _) (allCons (plainRow0 _) rfl)))))))))))
    (allCons (f := Lay.okO Tryz.prog (Wx os)) rfl (allCons (f := Lay.okO Tryz.prog (Wx os)) rfl rfl))
theorem met (os : Os) : laidMetH Tryz.prog Rows.hubNilRow.laid ((Wx os).forCall (fun _ _ => 0) ⟨#[], #[], []⟩).memory := by
  rw [MakeChecks.laidMetH_plain _ _ _ plainL, ← laidAll_eq]
  exact laidMet_laidAll _ (fits os) (by rw [laidAll_eq]; exact ifaces os)
end Go.Proofs.YtidhmgganaoefaaGreatDoor
