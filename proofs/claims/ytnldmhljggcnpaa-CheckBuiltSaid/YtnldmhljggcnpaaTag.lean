import Derived.Test.YtnldmhljggcnpaaWord2
namespace Go.Proofs.Ytnldmhljggcnpaa
set_option linter.unusedSimpArgs false
set_option linter.unusedVariables false
open Go.RowKit Cantle

theorem pack_some {s : Int} {u : Bool} (h1 : 32 ≤ s) (h2 : s ≤ 16384) (h3 : s % 16 = 0) : pack s u = s.toNat + b2n u := by
  unfold pack; rw [if_pos ((isSize_iff s).2 ⟨h1, h2, h3⟩)]
theorem pack_none {s : Int} {u : Bool} (h : ¬ (32 ≤ s ∧ s ≤ 16384 ∧ s % 16 = 0)) : pack s u = 0 := by
  unfold pack; rw [if_neg (fun e => h ((isSize_iff s).1 e))]
set_option maxHeartbeats 400000 in
set_option maxRecDepth 100000 in
theorem tag_Pack (s : Int) (u : Bool) (w : World) :
    Calls Try.prog 94 #[.int .i64 s, .bool u] w fun e w' => e = .returned (.int .u64 (pack s u : Nat)) ∧ w = w' := by
  by_cases h1 : s < 32
  · rw [pack_none (by omega)]
    go_enter Try.func94, Try.ntmps94
    go_wp2
    go_ret
    exact ⟨rfl, rfl⟩
  by_cases h2 : 16384 < s
  · rw [pack_none (by omega)]
    go_enter Try.func94, Try.ntmps94
    go_wp2
    go_ret
    exact ⟨rfl, rfl⟩
  by_cases h3 : s % 16 = 0
  · rw [pack_some (by omega) (by omega) h3]
    have hor : bits .or .u64 s 1 = s + 1 := by
      obtain ⟨n, rfl⟩ := Int.eq_ofNat_of_zero_le (show 0 ≤ s by omega)
      have := u64_or_nat n 1 (by omega) (by decide)
      rw [nat_join 1 n 1 (by omega) (by decide)] at this
      exact this
    cases u with
    | true =>
      go_enter Try.func94, Try.ntmps94
      go_wp2
      go_ret
      exact ⟨by simp [b2n]; omega, rfl⟩
    | false =>
      go_enter Try.func94, Try.ntmps94
      go_wp2
      go_ret
      exact ⟨by simp [b2n]; omega, rfl⟩
  · rw [pack_none (by omega)]
    go_enter Try.func94, Try.ntmps94
    go_wp2
    go_ret
    exact ⟨rfl, rfl⟩
def unpackV : Option (Nat × Bool) → Value
  | some (s, u) => .tuple #[.int .i64 (s : Int), .bool u, .bool true]
  | none => .tuple #[.int .i64 0, .bool false, .bool false]
set_option maxHeartbeats 400000 in
set_option maxRecDepth 100000 in
theorem tag_Unpack (x : Nat) (hx : x < 18446744073709551616) (w : World) :
    Calls Try.prog 90 #[.int .u64 x] w fun e w' => e = .returned (unpackV (unpack x)) ∧ w = w' := by
  have ha1 : bits .and .u64 (x : Int) 1 = ((x % 2 : Nat) : Int) := by
    have := u64_and_nat x 1 hx (by decide)
    rw [nat_mask1] at this
    exact this
  have han1 : bits .andNot .u64 (x : Int) 1 = ((x / 2 * 2 : Nat) : Int) := by
    have h := u64_andNot_nat x 1 hx (by decide)
    rw [show (1 : Int) = ((1 : Nat) : Int) from rfl, h]
    congr 1
    have h2 : (x &&& (18446744073709551615 - 1)) / 2 = x / 2 := by
      have := Nat.shiftRight_and_distrib (a := x) (b := 18446744073709551615 - 1) (i := 1)
      simp only [Nat.shiftRight_eq_div_pow, Nat.pow_one] at this
      rw [this, show (18446744073709551615 - 1) / 2 = 2 ^ 63 - 1 from by decide, Nat.and_two_pow_sub_one_eq_mod]
      omega
    have h3 : (x &&& (18446744073709551615 - 1)) % 2 = 0 := by
      have := Nat.and_mod_two_pow (a := x) (b := 18446744073709551615 - 1) (n := 1)
      rw [Nat.pow_one] at this
      rw [this, show (18446744073709551615 - 1) % 2 = 0 from by decide, Nat.and_zero]
    omega
  have han : bits .and .u64 ((x / 2 * 2 : Nat) : Int) 65535 = ((x / 2 * 2 % 65536 : Nat) : Int) := by
    have h := u64_and_nat (x / 2 * 2) 65535 (by omega) (by decide)
    rw [show (65535 : Nat) = 2 ^ 16 - 1 from by decide, Nat.and_two_pow_sub_one_eq_mod] at h
    exact h
  have hu : (((x % 2 : Nat) : Int) == 1) = (x % 2 == 1) := by
    rw [Bool.eq_iff_iff]; simp; omega
  have hp := tag_Pack ((x / 2 * 2 % 65536 : Nat) : Int) (x % 2 == 1) w
  have hps : x ≠ 0 → unpack x = none → (((pack ((x / 2 * 2 % 65536 : Nat) : Int) (x % 2 == 1) : Nat) : Int) == (x : Int)) = false := by
    intro h0 h1
    rcases unpack_none_of_ne (s := x / 2 * 2 % 65536) (u := x % 2 == 1) h1 with h | h
    · exact absurd h h0
    · exact beq_eq_false_iff_ne.2 (fun e => h (Int.ofNat.inj e))
  have hpt : ∀ s u, unpack x = some (s, u) → s = x / 2 * 2 % 65536 ∧ u = (x % 2 == 1) ∧ (((pack ((x / 2 * 2 % 65536 : Nat) : Int) (x % 2 == 1) : Nat) : Int) == (x : Int)) = true := by
    intro s u h
    obtain ⟨h1, h2, h3⟩ := unpack_some h
    have h4 := (isSize_iff _).1 h1
    have h5 : s = x / 2 * 2 ∧ u = (x % 2 == 1) := by
      unfold unpack at h
      split at h
      · simp only [Option.some.injEq, Prod.mk.injEq] at h; exact ⟨h.1.symm, h.2.symm⟩
      · cases h
    have h6 : x / 2 * 2 % 65536 = s := by omega
    refine ⟨h6.symm, h5.2, ?_⟩
    rw [h6, ← h5.2, h3]; simp
  generalize hX : (x / 2 * 2 : Nat) = X at *
  generalize hY : (X % 65536 : Nat) = Y at *
  generalize hU : (x % 2 == 1) = U at *
  generalize hP : pack (Y : Int) U = P at *
  generalize hM : x % 2 = M at *
  have HU := hid hU
  have HP := hid hp
  have HPS := hid hps
  have HPT := hid hpt
  have hYl : Y < 65536 := by omega
  clear hp hps hpt hU
  by_cases h0 : x = 0
  · subst h0
    have hn : unpack 0 = none := by decide
    rw [hn]
    clear HPS HPT HP HU
    go_enter Try.func90, Try.ntmps90
    go_wp2
    go_ret3
    exact ⟨rfl, rfl⟩
  · have hx0 : ((x : Int) == 0) = false := by simp; exact h0
    cases h : unpack x with
    | none =>
      have h1 := HPS.out h0 h
      clear HPS HPT h
      have h1' : ((P : Int) != (x : Int)) = true := by simp only [bne, h1, Bool.not_false]
      go_enter Try.func90, Try.ntmps90
      go_wp2_with fail
      refine HP.out.mono ?_; rintro e w' ⟨rfl, rfl⟩
      go_wp2
      go_ret3
      exact ⟨rfl, rfl⟩
    | some r =>
      obtain ⟨s, u⟩ := r
      obtain ⟨hs1, hs2, h1⟩ := HPT.out s u h
      subst hs1
      subst hs2
      clear HPS HPT h
      have h1' : ((P : Int) != (x : Int)) = false := by simp only [bne, h1, Bool.not_true]
      go_enter Try.func90, Try.ntmps90
      go_wp2_with fail
      refine HP.out.mono ?_; rintro e w' ⟨rfl, rfl⟩
      go_wp2
      go_ret3
      exact ⟨rfl, rfl⟩
end Go.Proofs.Ytnldmhljggcnpaa
