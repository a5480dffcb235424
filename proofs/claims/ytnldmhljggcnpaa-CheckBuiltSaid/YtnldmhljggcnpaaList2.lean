import Derived.Test.YtnldmhljggcnpaaList1
import Derived.Laws.BitsLemmas
namespace Go.Proofs.Ytnldmhljggcnpaa
set_option linter.unusedSimpArgs false
set_option linter.unusedVariables false
open Go.RowKit Cantle
set_option maxRecDepth 100000
set_option maxHeartbeats 2000000

theorem list_member {w : World} {p : Nat} {V : Value} {s : ArS} (h : Ar w p V s) (at_ : Nat) (c : Int) (ha : at_ < 18446744073709551616) :
    Calls Try.prog 118 #[.pointer (some ⟨p, 0, none⟩), .int .u64 at_, .int .i64 c] w fun e w' => e = .returned (.bool (member s.b at_ c)) ∧ Keep No w w' := by
  by_cases g0 : 16384 < at_
  · have hm : member s.b at_ c = false := by unfold member; rw [decide_eq_false (by omega)]; rfl
    rw [hm]
    clear hm h
    go_enter Try.func118, Try.ntmps118
    go_wp2
    go_ret
    exact ⟨rfl, Keep.refl _ _⟩
  · have hm : member s.b at_ c = (match bget s.b at_ with | none => false | some x => !x.used && cls x.size == c) := by unfold member; rw [decide_eq_true (by omega), Bool.true_and] <;> rfl
    have hG := block_Get h (at_ : Int)
    have hi : IntKind.i64.wrap (at_ : Int) = at_ := IntWalk.i64_in _ (by omega)
    have hC := fun s wx => class_Class s wx
    rw [hm]
    clear hm h
    cases hg : bget s.b (at_ : Int) with
    | none =>
      rw [hg] at hG
      simp only [blkR, errV] at hG ⊢
      clear hg
      go_enter Try.func118, Try.ntmps118
      go_wp2_with fail
      refine hG.mono ?_; rintro e w1 ⟨rfl, k1⟩
      go_wp2
      go_ret
      exact ⟨rfl, k1.thenNo (keep_alloc _ _)⟩
    | some x =>
      obtain ⟨xo, xs, xu⟩ := x
      rw [hg] at hG
      simp only [blkR, blkV] at hG ⊢
      clear hg
      cases xu with
      | true =>
        go_enter Try.func118, Try.ntmps118
        go_wp2_with fail
        refine hG.mono ?_; rintro e w1 ⟨rfl, k1⟩
        go_wp2
        go_ret
        exact ⟨rfl, k1.thenNo (keep_alloc _ _)⟩
      | false =>
        have hC := fun wx => hC xs wx
        generalize cls xs = C at *
        go_enter Try.func118, Try.ntmps118
        go_wp2_with fail
        refine hG.mono ?_; rintro e w1 ⟨rfl, k1⟩
        go_wp2_with fail
        refine (hC _).mono ?_; rintro e w2 ⟨rfl, rfl⟩
        go_wp2
        go_ret
        refine ⟨?_, k1.thenNo (keep_alloc _ _)⟩
        simp
def freeR : Option Nat → Value
  | none => .tuple #[.int .i64 0, errV 3]
  | some c => .tuple #[.int .i64 (c : Int), .nilIface]
theorem list_free {w : World} {p : Nat} {V : Value} {s : ArS} (h : Ar w p V s) (o : Int) :
    Calls Try.prog 115 #[.pointer (some ⟨p, 0, none⟩), .int .i64 o] w fun e w' => e = .returned (freeR (freeC s.b o)) ∧ Keep No w w' := by
  have hG := block_Get h o
  clear h
  cases hg : bget s.b o with
  | none =>
    have hf : freeC s.b o = none := by unfold freeC; rw [hg]
    rw [hg] at hG
    rw [hf]
    simp only [blkR, errV] at hG ⊢
    clear hg hf
    go_enter Try.func115, Try.ntmps115
    go_wp2_with fail
    refine hG.mono ?_; rintro e w1 ⟨rfl, k1⟩
    go_wp2
    go_ret2
    exact ⟨rfl, k1.thenNo (keep_alloc _ _)⟩
  | some x =>
    have hr := cls_range (bget_some hg).2.2.2.2.1
    have hf : freeC s.b o = if x.used then none else some (cls x.size).toNat := by unfold freeC; rw [hg]
    obtain ⟨xo, xs, xu⟩ := x
    rw [hg] at hG
    rw [hf]
    simp only [blkR, blkV] at hG hr ⊢
    clear hg hf
    cases xu with
    | true =>
      simp only [if_true]
      go_enter Try.func115, Try.ntmps115
      go_wp2_with fail
      refine hG.mono ?_; rintro e w1 ⟨rfl, k1⟩
      go_wp2
      go_ret2
      exact ⟨rfl, k1.thenNo (keep_alloc _ _)⟩
    | false =>
      have hC := fun wx => class_Class xs wx
      obtain ⟨C, hCe⟩ := Int.eq_ofNat_of_zero_le hr.1
      rw [hCe] at hC ⊢
      clear hr hCe
      simp only [Bool.false_eq_true, if_false, Int.toNat_natCast, freeR]
      go_enter Try.func115, Try.ntmps115
      go_wp2_with fail
      refine hG.mono ?_; rintro e w1 ⟨rfl, k1⟩
      go_wp2_with fail
      refine (hC _).mono ?_; rintro e w2 ⟨rfl, rfl⟩
      go_wp2
      go_ret2
      exact ⟨rfl, k1.thenNo (keep_alloc _ _)⟩
theorem or_bit {w c : Nat} (hw : w < 18446744073709551616) (hc : c < 64) : bits .or .u64 (w : Int) ((2 ^ c : Nat) : Int) = ((setBit w c : Nat) : Int) := by
  rw [u64_or_nat _ _ hw (Nat.lt_of_lt_of_le (Nat.pow_lt_pow_right (by decide) hc) (by decide))]
  rfl
theorem andNot_bit {w c : Nat} (hw : w < 18446744073709551616) (hc : c < 64) : bits .andNot .u64 (w : Int) ((2 ^ c : Nat) : Int) = ((clearBit w c : Nat) : Int) := by
  rw [u64_andNot_nat _ _ hw (Nat.lt_of_lt_of_le (Nat.pow_lt_pow_right (by decide) hc) (by decide))]
  congr 1
  apply Nat.eq_of_testBit_eq
  intro i
  have hp : 2 ^ c < 2 ^ 64 := Nat.pow_lt_pow_right (by decide) hc
  rw [Nat.testBit_and, clearBit_test, show 18446744073709551615 - 2 ^ c = 2 ^ 64 - (2 ^ c + 1) from by omega, Nat.testBit_two_pow_sub_succ hp, Nat.testBit_two_pow]
  by_cases hi : i < 64
  · simp [hi]
  · have : w.testBit i = false := Nat.testBit_lt_two_pow (Nat.lt_of_lt_of_le hw (by
      have : 2 ^ 64 ≤ 2 ^ i := Nat.pow_le_pow_right (by decide) (by omega)
      simpa using this))
    simp [this]
theorem list_mark {w : World} {p : Nat} {V : Value} {s : ArS} (h : Ar w p V s) (c : Nat) (hc : c < 22) :
    Calls Try.prog 120 #[.pointer (some ⟨p, 0, none⟩), .int .i64 c] w fun e w' => e = .returned (.tuple #[]) ∧ Wrote w w' p V { s with b := Cantle.mark s.b c } := by
  have hH := fun wx => list_head c (by omega) wx
  have hd2 : hd c ≤ 1000000 := by unfold hd; omega
  have hW := list_word h (hd c : Nat) (by omega) (by omega)
  have hW0 := list_word h 0 (by omega) (by omega)
  rw [Int.toNat_natCast] at hW
  have HS := hid (fun v hv => list_set h 0 v (by omega) (by omega) hv)
  have h1 := andNot_bit (num_lt s.b 0) (show c < 64 by omega)
  have h2 := or_bit (num_lt s.b 0) (show c < 64 by omega)
  have hcl : clearBit (num s.b 0) c < 18446744073709551616 := clearBit_lt (n := 64) (num_lt s.b 0) (by omega)
  have hsl : setBit (num s.b 0) c < 18446744073709551616 := setBit_lt (n := 64) (num_lt s.b 0) (by omega)
  have hsh : IntKind.u64.wrap (2 ^ c) = ((2 ^ c : Nat) : Int) := by
    have hp : (2 : Nat) ^ c < 2 ^ 64 := Nat.pow_lt_pow_right (by decide) (by omega)
    rw [show ((2 : Int) ^ c) = ((2 ^ c : Nat) : Int) from by simp]
    generalize (2 : Nat) ^ c = P at *
    rw [IntKind.wrap_u64]; omega
  have e2c : ((2 ^ c : Nat) : Int) = (2 : Int) ^ c := by simp
  rw [e2c] at h1 h2 hsh
  clear e2c
  have hm : Cantle.mark s.b c = lay s.b 0 (if num s.b (hd c) = 0 then clearBit (num s.b 0) c else setBit (num s.b 0) c) := rfl
  clear h
  simp only [Int.toNat_zero] at hW0 HS
  generalize hd c = H at *
  rw [hm]
  clear hm
  by_cases g : num s.b H = 0
  · rw [if_pos g]
    rw [g] at hW
    have hS := HS.out _ hcl
    generalize num s.b 0 = N at *
    generalize clearBit N c = C at *
    clear g
    go_enter Try.func120, Try.ntmps120
    go_wp2_with fail
    refine (hH _).mono ?_; rintro e w2 ⟨rfl, rfl⟩
    go_wp2_with fail
    refine hW.mono ?_; rintro e w2 ⟨rfl, rfl⟩
    go_wp2_with fail
    refine hW0.mono ?_; rintro e w2 ⟨rfl, rfl⟩
    go_wp2_with fail
    refine hS.mono ?_; rintro e w2 ⟨rfl, hW⟩
    go_wp2
    go_end0
    exact ⟨rfl, hW⟩
  · rw [if_neg g]
    have hS := HS.out _ hsl
    have g' : (((num s.b H : Nat) : Int) == 0) = false := by rw [beq_eq_false_iff_ne]; omega
    generalize num s.b H = M at *
    generalize num s.b 0 = N at *
    generalize setBit N c = C at *
    clear g
    go_enter Try.func120, Try.ntmps120
    go_wp2_with fail
    refine (hH _).mono ?_; rintro e w2 ⟨rfl, rfl⟩
    go_wp2_with fail
    refine hW.mono ?_; rintro e w2 ⟨rfl, rfl⟩
    go_wp2_with fail
    refine hW0.mono ?_; rintro e w2 ⟨rfl, rfl⟩
    go_wp2_with fail
    refine hS.mono ?_; rintro e w2 ⟨rfl, hW⟩
    go_wp2
    go_end0
    exact ⟨rfl, hW⟩
end Go.Proofs.Ytnldmhljggcnpaa
