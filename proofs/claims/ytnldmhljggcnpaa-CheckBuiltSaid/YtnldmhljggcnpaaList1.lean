import Derived.Test.YtnldmhljggcnpaaBlock3
import Derived.Test.YtnldmhljggcnpaaShelf
namespace Go.Proofs.Ytnldmhljggcnpaa
set_option linter.unusedSimpArgs false
set_option linter.unusedVariables false
open Go.RowKit Cantle
set_option maxRecDepth 100000
set_option maxHeartbeats 2000000

theorem bitLenAux_pow : ∀ (k f x : Nat), 2 ^ k ≤ x → x < 2 ^ (k + 1) → k < f → Lib.bitLenAux f x = k + 1 := by
  intro k
  induction k with
  | zero =>
    intro f x h1 h2 hf
    obtain rfl : x = 1 := by simp at h1 h2; omega
    obtain ⟨f, rfl⟩ : ∃ g, f = g + 1 := ⟨f - 1, by omega⟩
    cases f with
    | zero => rfl
    | succ f => rfl
  | succ k ih =>
    intro f x h1 h2 hf
    obtain ⟨f, rfl⟩ : ∃ g, f = g + 1 := ⟨f - 1, by omega⟩
    have hx : x ≠ 0 := by have := Nat.two_pow_pos (k + 1); omega
    unfold Lib.bitLenAux
    rw [if_neg hx, ih f (x / 2) (by rw [Nat.pow_succ] at h1; omega) (by rw [Nat.pow_succ] at h2; omega) (by omega)]
    omega
theorem bitLen_pow {k x : Nat} (h1 : 2 ^ k ≤ x) (h2 : x < 2 ^ (k + 1)) (hk : k < 64) : Lib.bitLen x = k + 1 := bitLenAux_pow k 64 x h1 h2 hk
theorem cls_big {s : Int} (h : isSize s = true) (hb : 256 < s) : cls s = 6 + (Lib.bitLen s.toNat : Int) := by
  have h1 := (isSize_iff _).1 h
  obtain ⟨n, rfl⟩ := Int.eq_ofNat_of_zero_le (show 0 ≤ s by omega)
  rw [Int.toNat_natCast]
  unfold cls
  rw [if_pos h, if_neg (by omega)]
  by_cases a1 : (n : Int) < 512
  · rw [if_pos a1, bitLen_pow (k := 8) (by simp; omega) (by simp; omega) (by decide)]; rfl
  rw [if_neg a1]
  by_cases a2 : (n : Int) < 1024
  · rw [if_pos a2, bitLen_pow (k := 9) (by simp; omega) (by simp; omega) (by decide)]; rfl
  rw [if_neg a2]
  by_cases a3 : (n : Int) < 2048
  · rw [if_pos a3, bitLen_pow (k := 10) (by simp; omega) (by simp; omega) (by decide)]; rfl
  rw [if_neg a3]
  by_cases a4 : (n : Int) < 4096
  · rw [if_pos a4, bitLen_pow (k := 11) (by simp; omega) (by simp; omega) (by decide)]; rfl
  rw [if_neg a4]
  by_cases a5 : (n : Int) < 8192
  · rw [if_pos a5, bitLen_pow (k := 12) (by simp; omega) (by simp; omega) (by decide)]; rfl
  rw [if_neg a5]
  by_cases a6 : (n : Int) < 16384
  · rw [if_pos a6, bitLen_pow (k := 13) (by simp; omega) (by simp; omega) (by decide)]; rfl
  · rw [if_neg a6, bitLen_pow (k := 14) (by simp; omega) (by simp; omega) (by decide)]; rfl
theorem class_Class (s : Int) (w : World) : Calls Try.prog 122 #[.int .i64 s] w fun e w' => e = .returned (.int .i64 (cls s)) ∧ w = w' := by
  by_cases g1 : s < 32
  · have hc : cls s = -1 := cls_none (by rw [← Bool.not_eq_true, isSize_iff]; omega)
    rw [hc]
    clear hc
    go_enter Try.func122, Try.ntmps122
    go_wp2
    go_ret
    exact ⟨rfl, rfl⟩
  by_cases g2 : 16384 < s
  · have hc : cls s = -1 := cls_none (by rw [← Bool.not_eq_true, isSize_iff]; omega)
    rw [hc]
    clear hc
    go_enter Try.func122, Try.ntmps122
    go_wp2
    go_ret
    exact ⟨rfl, rfl⟩
  by_cases g3 : s % 16 = 0
  · have hs : isSize s = true := (isSize_iff _).2 (by omega)
    have b3 : ((s % 16) != 0) = false := by rw [bne_eq_false_iff_eq]; exact g3
    by_cases g4 : s ≤ 256
    · have hc : cls s = s / 16 - 2 := by unfold cls; rw [if_pos hs, if_pos g4]
      rw [hc]
      clear hc hs g3
      go_enter Try.func122, Try.ntmps122
      go_wp2
      go_ret
      exact ⟨rfl, rfl⟩
    · have hc := cls_big hs (by omega)
      have hB := fun wx => Try.bits_Len s wx (by omega) (by omega)
      have hbl : Lib.bitLen s.toNat ≤ 64 := Any.bitLen_leU s (by omega) (by omega)
      have hw : IntKind.u64.wrap s = s := by rw [IntKind.wrap_u64]; omega
      rw [hc]
      clear hc hs g3
      generalize Lib.bitLen s.toNat = B at *
      go_enter Try.func122, Try.ntmps122
      go_wp2_with fail
      refine (hB _).mono ?_; rintro e w1 ⟨rfl, rfl⟩
      go_wp2
      go_ret
      exact ⟨rfl, rfl⟩
  · have hc : cls s = -1 := cls_none (by rw [← Bool.not_eq_true, isSize_iff]; omega)
    have b3 : ((s % 16) != 0) = true := by rw [bne_iff_ne]; exact g3
    rw [hc]
    clear hc g3
    go_enter Try.func122, Try.ntmps122
    go_wp2
    go_ret
    exact ⟨rfl, rfl⟩
theorem list_head (c : Nat) (hc : c ≤ 10000) (w : World) : Calls Try.prog 117 #[.int .i64 c] w fun e w' => e = .returned (.int .i64 (hd c : Nat)) ∧ w = w' := by
  unfold hd
  go_enter Try.func117, Try.ntmps117
  go_wp2
  go_ret
  refine ⟨?_, rfl⟩
  rfl
theorem list_word {w : World} {p : Nat} {V : Value} {s : ArS} (h : Ar w p V s) (o : Int) (h0 : 0 ≤ o) (h1 : o ≤ 1000000) :
    Calls Try.prog 116 #[.pointer (some ⟨p, 0, none⟩), .int .i64 o] w fun e w' => e = .returned (.int .u64 (num s.b o.toNat : Nat)) ∧ w = w' := by
  obtain ⟨k, rfl⟩ := Int.eq_ofNat_of_zero_le h0
  rw [Int.toNat_natCast]
  have hb := h.base_le
  have hB := arena_Base h
  have hW := arena_Word h k (by omega)
  rw [cast_add] at hW
  have HN := hid (fun hn => num_none (b := s.b) (o := k) hn)
  clear h
  generalize s.base = base at *
  generalize s.b = b at *
  by_cases hin : k + 8 ≤ b.length
  · rw [if_pos hin] at hW
    simp only [errV] at hW
    generalize num b k = N at *
    clear hin HN
    go_enter Try.func116, Try.ntmps116
    go_wp2_with fail
    refine hB.mono ?_; rintro e w1 ⟨rfl, rfl⟩
    go_wp2_with fail
    refine hW.mono ?_; rintro e w1 ⟨rfl, rfl⟩
    go_wp2
    go_ret
    exact ⟨rfl, rfl⟩
  · rw [if_neg hin] at hW
    rw [HN.out (by omega)] at hW ⊢
    simp only [errV] at hW
    clear hin HN
    go_enter Try.func116, Try.ntmps116
    go_wp2_with fail
    refine hB.mono ?_; rintro e w1 ⟨rfl, rfl⟩
    go_wp2_with fail
    refine hW.mono ?_; rintro e w1 ⟨rfl, rfl⟩
    go_wp2
    go_ret
    exact ⟨rfl, rfl⟩
theorem list_set {w : World} {p : Nat} {V : Value} {s : ArS} (h : Ar w p V s) (o : Int) (v : Nat) (h0 : 0 ≤ o) (h1 : o ≤ 1000000) (hv : v < 18446744073709551616) :
    Calls Try.prog 119 #[.pointer (some ⟨p, 0, none⟩), .int .i64 o, .int .u64 v] w fun e w' => e = .returned (.tuple #[]) ∧ Wrote w w' p V { s with b := lay s.b o.toNat v } := by
  obtain ⟨k, rfl⟩ := Int.eq_ofNat_of_zero_le h0
  rw [Int.toNat_natCast]
  have hb := h.base_le
  have hB := arena_Base h
  have hS := arena_SetWord h k v (by omega) hv
  rw [cast_add] at hS
  clear h
  generalize hbs : s.base = base at *
  by_cases hin : k + 8 ≤ s.b.length
  · rw [if_pos hin] at hS
    simp only [errV] at hS
    clear hin hbs
    go_enter Try.func119, Try.ntmps119
    go_wp2_with fail
    refine hB.mono ?_; rintro e w1 ⟨rfl, rfl⟩
    go_wp2_with fail
    refine hS.mono ?_; rintro e w1 ⟨rfl, hW⟩
    go_wp2
    go_end0
    exact ⟨rfl, hW⟩
  · rw [if_neg hin] at hS
    simp only [errV] at hS
    clear hin hbs
    go_enter Try.func119, Try.ntmps119
    go_wp2_with fail
    refine hB.mono ?_; rintro e w1 ⟨rfl, rfl⟩
    go_wp2_with fail
    refine hS.mono ?_; rintro e w1 ⟨rfl, hW⟩
    go_wp2
    exact bodyPost_ret (results_none rfl _ _ _) rfl ⟨rfl, hW⟩
end Go.Proofs.Ytnldmhljggcnpaa
