/-
  HubNil's row holds.
-/
import Derived.Test.YtidhmgganaoefaaGreatDoorRowx
import Derived.Test.YtidhmgganaoefaaGreatDoorWitb
namespace Go.Proofs.YtidhmgganaoefaaGreatDoor
open Go Go.ChangeShapes Go.WideShapes Go.ChangeAt Go.RowKit Go.Clock

theorem z1 (os : Os) : ((Wx os).forCall (fun _ _ => 0) ⟨#[], #[], []⟩).variablesZipB Tryz.prog = true := by kernel_rfl
theorem z2 (os : Os) : (((Wx os).forCall (fun _ _ => 0) ⟨#[], #[], []⟩).heap.toList.drop Tryz.prog.globals.size).take ((begin Tryz.prog (fun _ _ => 0) default).world.heap.size - Tryz.prog.globals.size) =
    (begin Tryz.prog (fun _ _ => 0) default).world.heap.toList.drop Tryz.prog.globals.size := by kernel_rfl
theorem z3 (os : Os) : Input.okWideB Tryz.prog ((Wx os).forCall (fun _ _ => 0) ⟨#[], #[], []⟩) 3 ⟨#[], #[], []⟩ = true := by kernel_rfl
theorem z4 (os : Os) {H : Type} (enc : TypeId × Value → H) : Rows.hubNilSpec.preB enc Tryz.prog Tryz.f3 [] false ((Wx os).forCall (fun _ _ => 0) ⟨#[], #[], []⟩).memory #[] 8 = true := by kernel_rfl
theorem z5 (os : Os) {H : Type} (enc : TypeId × Value → H) : Rows.hubNilSpec.sizedB enc Tryz.prog Tryz.f3 false ((Wx os).forCall (fun _ _ => 0) ⟨#[], #[], []⟩).memory #[] 8 = true := by kernel_rfl

theorem lifted (os : Os) (started : os.Started) (H : Type) (enc : TypeId × Value → H) (F : Stop.Interp) :
    ReturnsInHanded { calm := true } Tryz.checked os 3 .any (fun w args => (Rows.hubNilSpec.pre enc Tryz.prog Tryz.f3 [] false w args ∧ laidMetH Tryz.prog Rows.hubNilRow.laid w) ∧ sizedMet enc Tryz.prog Tryz.f3 (OpenSpec.ofChange Rows.hubNilSpec) false w args)
      ((OpenSpec.ofChange Rows.hubNilSpec).postWith enc Tryz.prog Tryz.f3 F (outsideKept [.timePasses]) false true false) := by
  refine returns_of_change (C := Tryz.checked) (X := fun w _ => laidMetH Tryz.prog Rows.hubNilRow.laid w) (fun _ _ _ hh h => h.of_heap hh) own started notInit Tryz.func3
    (witness_at (enc := enc) (C := Tryz.checked) (X := fun w _ => laidMetH Tryz.prog Rows.hubNilRow.laid w) (Wx os) #[] 8 rfl (World.shaped_of_ZipB (z1 os) (z2 os)) (z3 os) (z4 os enc) (z5 os enc) (met os)) ?_
  intro W base args ds gs before hval0 hW _ _ hL _
  have hW' := hW
  obtain ⟨p, q, hA0, hV, rfl, hfz, hnd⟩ := hW
  have hA : DataW.TrodAll enc Tryz.prog W 0 (fun _ => true) true Tryz.f3.params.toList args.toList ds p := hA0
  rw [Tryz.params3] at hA
  obtain ⟨rfl, rfl, rfl⟩ := trodAll_none hA
  obtain ⟨rfl, rfl⟩ := trodVars_none hV
  refine (body hL).mono fun e W' ⟨he, hos, htape, hout, hheap⟩ => ?_
  subst he
  refine ⟨_, rfl, ?_, hos ▸ Later.refl _⟩
  have hsize : W.heap.size ≤ W'.heap.size := by
    rcases Nat.eq_zero_or_pos W.heap.size with e | e
    · omega
    · have h1 := hheap (W.heap.size - 1) (by omega)
      rw [Array.getElem?_eq_getElem (by omega : W.heap.size - 1 < W.heap.size)] at h1
      have := (Array.getElem?_eq_some_iff.1 h1).1
      omega
  have hb : Below W.heap.size W { W' with os := W.os } := ⟨rfl, htape, hout, hsize, fun k hk => hheap k hk⟩
  exact ⟨_, _, _, [], [], [], hW', trodAll_mk1 (shut_bool Tryz.underlying4 _), trodAll_mk0, rfl, hb.frame _, fun h => by cases h⟩
end Go.Proofs.YtidhmgganaoefaaGreatDoor
