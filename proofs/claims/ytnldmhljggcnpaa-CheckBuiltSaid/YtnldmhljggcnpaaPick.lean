import Derived.Test.YtnldmhljggcnpaaBase
namespace Go.Proofs.Ytnldmhljggcnpaa
set_option linter.unusedSimpArgs false
set_option linter.unusedVariables false
open Go.RowKit
set_option maxRecDepth 100000
set_option maxHeartbeats 4000000

/-- what the laws pick with -/
theorem pick_law00 {w : World} (n b : Int) (hn1 : -9223372036854775808 ≤ n) (hn2 : n ≤ 9223372036854775807) (hb1 : 0 < b) (hb2 : b ≤ 4611686018427387904) :
    Calls Try.prog 24 #[.int .i64 n, .int .i64 b] w fun e w' => e = .returned (.int .i64 (n % b)) ∧ w = w' := by
  have h0 : ¬ (b = 0) := by omega
  have hlt : n.tmod b < b ∧ -b < n.tmod b := ⟨Int.tmod_lt_of_pos n hb1, by have := Int.lt_tmod_of_pos n hb1; omega⟩
  have hd1 := Int.emod_nonneg n h0
  have hd2 := Int.emod_lt_of_pos n hb1
  have hem : n % b = if n.tmod b < 0 then n.tmod b + b else n.tmod b := by
    rcases Int.lt_or_le n 0 with h | h
    · have hn := Int.tmod_eq_emod (a := n) (b := b)
      rw [hn]
      split
      · rw [if_neg (by omega)]; omega
      · have : (b.natAbs : Int) = b := by omega
        rw [this, if_pos (by omega)]; omega
    · rw [Int.tmod_eq_emod_of_nonneg h, if_neg (by omega)]
  clear hd1 hd2
  rw [hem]
  clear hem
  have hw1 : IntKind.i64.wrap (n.tmod b) = n.tmod b := by rw [IntKind.wrap_i64]; omega
  by_cases hneg : n.tmod b < 0
  · rw [if_pos hneg]
    have hw2 : IntKind.i64.wrap (n.tmod b + b) = n.tmod b + b := by rw [IntKind.wrap_i64]; omega
    generalize hr : n.tmod b = r at *
    go_enter Try.func24, Try.ntmps24
    go_wp2
    go_ret
    exact ⟨rfl, rfl⟩
  · rw [if_neg hneg]
    generalize hr : n.tmod b = r at *
    go_enter Try.func24, Try.ntmps24
    go_wp2
    go_ret
    exact ⟨rfl, rfl⟩

end Go.Proofs.Ytnldmhljggcnpaa
