import Derived.Test.YtkpfjolcmkikeaaFx25
/-
  Pointers are not frozen.
-/
namespace Go.Fx
theorem frA_ptr (σ : St) (s : Key) (i j : Nat) : frA σ (.ptr s i j) = none := rfl
theorem frA_cptr (σ : St) (r : List PV) (j : Nat) : frA σ (.cptr r j) = none := rfl
end Go.Fx
