import Derived.Test.YtnldmhljggcnpaaBase
import Derived.Test.YtnldmhljggcnpaaPlain0
namespace Go.Proofs.Ytnldmhljggcnpaa
set_option linter.unusedSimpArgs false
set_option linter.unusedVariables false
open Go.RowKit Cantle

/-! ### word -/
theorem or_step {v x k : Nat} (hk : k < 8) (hv : v < 256 ^ k) (hx : x < 256) :
    bits .or .u64 (v : Int) (IntKind.u64.wrap (IntKind.u64.wrap (x : Int) * 2 ^ (8 * k))) = ((v + 256 ^ k * x : Nat) : Int) := by
  have e : (256 : Nat) ^ k = 2 ^ (8 * k) := by rw [Nat.pow_mul]
  have hb : x * 2 ^ (8 * k) < 2 ^ (8 * k + 8) := by rw [Nat.pow_add, Nat.mul_comm]; exact Nat.mul_lt_mul_of_pos_left hx (Nat.two_pow_pos _)
  have h64 : (2 : Nat) ^ (8 * k + 8) ≤ 18446744073709551616 := Nat.le_trans (Nat.pow_le_pow_right (by decide) (show 8 * k + 8 ≤ 64 by omega)) (by decide)
  have e1 : IntKind.u64.wrap (x : Int) = x := by rw [IntKind.wrap_u64]; omega
  have e2 : IntKind.u64.wrap ((x : Int) * 2 ^ (8 * k)) = ((x * 2 ^ (8 * k) : Nat) : Int) := by
    rw [IntKind.wrap_u64]
    have : ((x : Int) * 2 ^ (8 * k)) = ((x * 2 ^ (8 * k) : Nat) : Int) := by rw [Int.natCast_mul]; simp
    rw [this]; omega
  rw [e1, e2, u64_or_nat _ _ (by rw [e] at hv; exact Nat.lt_of_lt_of_le hv (Nat.le_trans (Nat.pow_le_pow_right (by decide) (show 8 * k ≤ 64 by omega)) (by decide))) (by omega)]
  congr 1
  rw [Nat.or_comm, nat_join (8 * k) _ _ (by simp) (by rw [← e]; exact hv), e]
  rw [Nat.add_comm, Nat.mul_comm]

set_option maxHeartbeats 400000 in
/-- 'word.get': the number of n bytes (8 at most), where they are there -/
theorem word_get {w : World} {F : Nat → Prop} {v : Value} {l : List UInt8} (hr : Rd w F v l.length (bv l)) (at_ n : Nat) (hn : n ≤ 8) :
    Calls Try.prog 154 #[v, .int .u64 at_, .int .u64 n] w fun e w' =>
      e = .returned (if at_ + n ≤ l.length then .tuple #[.int .u64 (le ((l.drop at_).take n) : Nat), .bool true] else .tuple #[.int .u64 0, .bool false]) ∧ w = w' := by
  by_cases hlt : at_ + n ≤ l.length
  · rw [if_pos hlt]
    by_cases h0 : l.length = 0
    · obtain ⟨A, cap, rfl, h1, h2, h3⟩ := hr
      obtain rfl : l = [] := List.eq_nil_of_length_eq_zero h0
      obtain rfl : at_ = 0 := by simp at hlt; omega
      obtain rfl : n = 0 := by simp at hlt; omega
      clear h3 h0 hlt hn
      simp only [List.length_nil]
      go_enter Try.func154, Try.ntmps154
      go_wp2
      go_loop [9, 25] (fun v i => v = .int .u64 0 ∧ i = .int .u64 0) (fun _ i => 0)
      case atStart => exact ⟨rfl, rfl⟩
      case round =>
        obtain ⟨rfl, rfl⟩ := hrel
        go_wp2
        go_ret2
        exact ⟨rfl, rfl⟩
    obtain ⟨b, o, cap, rfl, h1, h2, hF, hb, hc⟩ := hr.cells (by simp [bv]; omega)
    have hlen : l.length ≤ 9223372036854775807 := by omega
    have hc2 : ¬ ((l.length : Int) < at_) := by omega
    have hc3 : ¬ ((l.length : Int) - at_ < n) := by omega
    generalize hL : l.length = len at *
    have HL := hid hL
    clear hL h0 h1 h2
    go_enter Try.func154, Try.ntmps154
    go_wp2
    go_loop [9, 25] (fun v i => ∃ k : Nat, k ≤ n ∧ i = .int .u64 k ∧ v = .int .u64 (le ((l.drop at_).take k) : Nat)) (fun _ i => n - (intOf i).toNat)
    case atStart => exact ⟨0, by omega, rfl, rfl⟩
    case round =>
      obtain ⟨k, hk, rfl, rfl⟩ := hrel
      by_cases hlt2 : k < n
      · have hj : at_ + k < l.length := by rw [HL.out]; omega
        have hcc : w.cell? ⟨b, o + (at_ + k), none⟩ = some (.int .u8 ((l[at_ + k]'hj).toNat : Int)) := hc _ _ (bv_get? l _ hj)
        have hst := or_step (v := le ((l.drop at_).take k)) (x := (l[at_ + k]'hj).toNat) (k := k) (by omega) (by have := le_lt ((l.drop at_).take k); rwa [List.length_take, Nat.min_eq_left (by rw [List.length_drop]; omega)] at this) (l[at_ + k]'hj).toNat_lt
        have hst2 : le ((l.drop at_).take (k + 1)) = le ((l.drop at_).take k) + 256 ^ k * (l[at_ + k]'hj).toNat := by
          rw [le_take_succ _ k (by rw [List.length_drop]; omega), List.getElem_drop]
        rw [← hst2] at hst
        clear hst2
        generalize le ((l.drop at_).take k) = X at *
        generalize (l[at_ + k]'hj).toNat = Y at *
        have HST := hid hst
        clear hst
        go_wp2
        refine ⟨⟨k + 1, by omega, rfl, ?_⟩, ?_⟩
        · rw [HST.out]
        · simp [intOf]; omega
      · obtain rfl : k = n := by omega
        go_wp2
        go_ret2
        exact ⟨rfl, rfl⟩
  · rw [if_neg hlt]
    obtain ⟨A, cap, rfl, h1, h2, h3⟩ := hr
    clear h3
    generalize l.length = len at *
    by_cases hlt1 : len < at_
    · go_enter Try.func154, Try.ntmps154
      go_wp2
      go_ret2
      exact ⟨rfl, rfl⟩
    · go_enter Try.func154, Try.ntmps154
      go_wp2
      go_ret2
      exact ⟨rfl, rfl⟩
end Go.Proofs.Ytnldmhljggcnpaa
