import Derived.Test.YtnldmhljggcnpaaLawA
namespace Go.Proofs.Ytnldmhljggcnpaa
set_option linter.unusedSimpArgs false
set_option linter.unusedVariables false
open Go.RowKit Cantle
theorem ImageBackR_walk {w : World} {F : Nat → Prop} {vb vd v : Value} {l : List Blk} {d : List (List UInt8)} {b : List UInt8} (hb : Rd w F vb l.length (bks l)) (hd : RdD w F vd d) (hv : Rd w F v b.length (bv b))
    (n at_ by_ cut : Int) (hat : -9223372036854775808 ≤ at_ ∧ at_ ≤ 9223372036854775807) (hct : -9223372036854775808 ≤ cut ∧ cut ≤ 9223372036854775807) (hby : 0 ≤ by_ ∧ by_ ≤ 4294967295) :
    Calls Try.prog 3 #[.int .i64 n, vb, vd, v, .int .i64 at_, .int .u32 by_, .int .i64 cut] w fun e w' => e = .returned (.bool true) ∧ Keep No w w' := by
  obtain ⟨m, rfl⟩ := Int.eq_ofNat_of_zero_le hby.1
  exact ImageBack_walk hb hd hv n at_ cut m hat.1 hat.2 hct.1 hct.2 (by omega)
end Go.Proofs.Ytnldmhljggcnpaa
