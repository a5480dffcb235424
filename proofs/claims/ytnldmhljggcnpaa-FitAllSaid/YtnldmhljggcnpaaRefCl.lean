import Derived.Test.YtnldmhljggcnpaaBase
import Derived.Test.YtnldmhljggcnpaaPlainA
namespace Go.Proofs.Ytnldmhljggcnpaa
set_option linter.unusedSimpArgs false
set_option linter.unusedVariables false
open Go.RowKit Cantle
set_option maxRecDepth 100000
set_option maxHeartbeats 4000000

theorem isSize_ref01 (s : Int) (w : World) : Calls Try.prog 114 #[.int .i64 s] w fun e w' => e = .returned (.bool (isSize s)) ∧ w = w' := by
  by_cases g1 : 32 ≤ s
  · by_cases g2 : s ≤ 16384
    · have hm : s.tmod 16 = s % 16 := Int.tmod_eq_emod_of_nonneg (by omega)
      by_cases g3 : s % 16 = 0
      · rw [show isSize s = true from (isSize_iff _).2 ⟨g1, g2, g3⟩]
        rw [g3] at hm
        clear g3
        go_enter Try.func114, Try.ntmps114
        go_wp2
        go_ret
        exact ⟨rfl, rfl⟩
      · rw [show isSize s = false from by rw [← Bool.not_eq_true, isSize_iff]; omega]
        have g4 : ¬ s.tmod 16 = 0 := by omega
        have g5 : (s.tmod 16 == 0) = false := by rw [beq_eq_false_iff_ne]; exact g4
        clear g3 hm
        generalize hr : s.tmod 16 = r at *
        go_enter Try.func114, Try.ntmps114
        go_wp2
        go_ret
        exact ⟨rfl, rfl⟩
    · rw [show isSize s = false from by rw [← Bool.not_eq_true, isSize_iff]; omega]
      go_enter Try.func114, Try.ntmps114
      go_wp2
      go_ret
      exact ⟨rfl, rfl⟩
  · rw [show isSize s = false from by rw [← Bool.not_eq_true, isSize_iff]; omega]
    go_enter Try.func114, Try.ntmps114
    go_wp2
    go_ret
    exact ⟨rfl, rfl⟩
/-- the class of a great size, as it is sought -/
def clsRel (s k n : Int) : Prop := (k = 15 ∧ n = 512) ∨ (k = 16 ∧ n = 1024 ∧ 512 ≤ s) ∨ (k = 17 ∧ n = 2048 ∧ 1024 ≤ s) ∨ (k = 18 ∧ n = 4096 ∧ 2048 ≤ s) ∨ (k = 19 ∧ n = 8192 ∧ 4096 ≤ s) ∨ (k = 20 ∧ n = 16384 ∧ 8192 ≤ s) ∨ (k = 21 ∧ n = 32768 ∧ 16384 ≤ s)
theorem cls_end {s k n : Int} (hs : isSize s = true) (h256 : ¬ s ≤ 256) (h : clsRel s k n) (hn : s < n) : cls s = k := by
  have := (isSize_iff _).1 hs
  unfold cls
  rw [if_pos hs, if_neg h256]
  unfold clsRel at h
  repeat' split
  all_goals omega
theorem cls_more {s k n : Int} (hs : s ≤ 16384) (h : clsRel s k n) (hn : n ≤ s) : clsRel s (k + 1) (2 * n) := by
  unfold clsRel at h ⊢
  omega
theorem class_ref01 (s : Int) (w : World) : Calls Try.prog 36 #[.int .i64 s] w fun e w' => e = .returned (.int .i64 (cls s)) ∧ w = w' := by
  have hI := isSize_ref01 s w
  cases hs : isSize s with
  | false =>
    rw [hs] at hI
    rw [cls_none hs]
    clear hs
    go_enter Try.func36, Try.ntmps36
    go_wp2_with fail
    refine hI.mono ?_; rintro e w1 ⟨rfl, rfl⟩
    go_wp2
    go_ret
    exact ⟨rfl, rfl⟩
  | true =>
    rw [hs] at hI
    have hb := (isSize_iff _).1 hs
    have hb1 := hb.1
    have hb2 := hb.2.1
    by_cases g : s ≤ 256
    · have hd : s.tdiv 16 = s / 16 := Int.tdiv_eq_ediv_of_nonneg (by omega)
      rw [show cls s = s / 16 - 2 from by unfold cls; rw [if_pos hs, if_pos g]]
      have hq1 : 0 ≤ s / 16 := by omega
      have hq2 : s / 16 ≤ 1024 := by omega
      clear hs hb
      rw [← hd] at hq1 hq2 ⊢
      clear hd
      generalize hr : s.tdiv 16 = r at *
      go_enter Try.func36, Try.ntmps36
      go_wp2_with fail
      refine hI.mono ?_; rintro e w1 ⟨rfl, rfl⟩
      go_wp2
      go_ret
      exact ⟨rfl, rfl⟩
    · have HE := hid (fun k n h hn => cls_end (k := k) (n := n) hs g h hn)
      clear hs hb
      generalize cls s = C at *
      go_enter Try.func36, Try.ntmps36
      go_wp2_with fail
      refine hI.mono ?_; rintro e w1 ⟨rfl, rfl⟩
      go_wp2_with fail
      go_loopw [4, 5] (fun a b wr => ∃ k n : Int, a = .int .i64 k ∧ b = .int .i64 n ∧ clsRel s k n ∧ 15 ≤ k ∧ k ≤ 21 ∧ 512 ≤ n ∧ n ≤ 32768 ∧ w = wr) (fun a _ _ => (21 - intOf a).toNat)
      case atStart => exact ⟨15, 512, rfl, rfl, .inl ⟨rfl, rfl⟩, by omega, by omega, by omega, by omega, rfl⟩
      case round =>
        obtain ⟨k, n, rfl, rfl, q1, q2, q3, q4, q5, rfl⟩ := hrel
        have Q1 := hid q1
        by_cases gn : n ≤ s
        · have hk : k < 21 ∧ n ≤ 16384 := by unfold clsRel at q1; omega
          obtain ⟨hk1, hk2⟩ := hk
          clear q1
          go_wp2
          refine ⟨⟨k + 1, 2 * n, rfl, rfl, cls_more hb2 Q1.out gn, by omega, by omega, by omega, by omega, trivial⟩, ?_⟩
          simp [intOf]; omega
        · obtain rfl := HE.out k n Q1.out (by omega)
          clear q1
          go_wp2
          go_ret
          exact ⟨rfl, rfl⟩
end Go.Proofs.Ytnldmhljggcnpaa
