/-
  HubNil's body comes to true. HubNil's body comes to true, whatever the tape says.
-/
import Derived.Test.YtidhmgganaoefaaGreatDoorEvRun
import Derived.Test.YtidhmgganaoefaaGreatDoorEvFacts
namespace Go.AM
open Go.Proofs
theorem facts_ok : FactsOK env Tryz.prog [fact0, fact1, fact2, fact3, fact4, fact5] :=
  factsOK_cons (factOk_sound env_bd factsOK_nil k0) (factsOK_cons (factOk_sound env_bd factsOK_nil k1) (factsOK_cons (factOk_sound env_bd factsOK_nil k2)
    (factsOK_cons (factOk_sound env_bd factsOK_nil k3) (factsOK_cons (factOk_sound env_bd factsOK_nil k4) (factsOK_cons (factOk_sound env_bd factsOK_nil k5) factsOK_nil)))))
theorem body3 {W : World} (G : ∀ g l, env.gl g = some l → ∃ c ty fz, W.heap[g]? = some (.cells c ty fz) ∧ ∀ (i : Nat) (v : AV), l[i]? = some v → ∃ u, c[i]? = some u ∧ ∀ φ, VR φ v u) :
    Calls Tryz.prog 3 #[] W fun e w' => e = .returned (.bool true) ∧ w'.os = W.os ∧ w'.tape = W.tape ∧ w'.output = W.output ∧ ∀ i, i < W.heap.size → w'.heap[i]? = W.heap[i]? :=
  walk_of env_bd facts_ok run3 G
end Go.AM
