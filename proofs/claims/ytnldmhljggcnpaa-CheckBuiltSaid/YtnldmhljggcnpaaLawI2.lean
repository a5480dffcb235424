import Derived.Test.YtnldmhljggcnpaaLawI
namespace Go.Proofs.Ytnldmhljggcnpaa
set_option linter.unusedSimpArgs false
set_option linter.unusedVariables false
open Go.RowKit Cantle
theorem CheckBuiltR_walk {w : World} {F G : Nat → Prop} {A B : Option Addr} {c d : Nat} {xs : List Int} {us : List Bool} (ha : Rd w F (.slice A xs.length c) xs.length (iv xs)) (hb : Rd w G (.slice B us.length d) us.length (us.map Value.bool))
    (hx : ∀ x ∈ xs, -9223372036854775808 ≤ x ∧ x ≤ 9223372036854775807) (z : Int) (hz : -9223372036854775808 ≤ z ∧ z ≤ 9223372036854775807) (y : Int) (hy : 0 ≤ y ∧ y < 256) :
    Calls Try.prog 8 #[.slice A xs.length c, .slice B us.length d, .int .i64 z, .int .u8 y] w fun e w' => e = .returned (.bool true) ∧ Keep No w w' := by
  obtain ⟨m, rfl⟩ := Int.eq_ofNat_of_zero_le hy.1
  exact CheckBuilt_walk ha hb hx z hz.1 hz.2 m (by omega)
end Go.Proofs.Ytnldmhljggcnpaa
