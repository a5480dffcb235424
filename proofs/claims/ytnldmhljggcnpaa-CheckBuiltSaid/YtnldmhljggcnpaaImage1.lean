import Derived.Test.YtnldmhljggcnpaaTag
import Derived.Test.YtnldmhljggcnpaaCrc
namespace Go.Proofs.Ytnldmhljggcnpaa
set_option linter.unusedSimpArgs false
set_option linter.unusedVariables false
open Go.RowKit Cantle

set_option maxHeartbeats 400000 in
set_option maxRecDepth 100000 in
/-- 'image.closed': bytes, and their sum -/
theorem image_closed {w : World} {v : Value} {l : List UInt8} (ho : OwnB w v l) (hm : l.length + 4 ≤ 140737488355328) :
    Calls Try.prog 95 #[v] w fun e w' => ∃ v', e = .returned v' ∧ OwnB w' v' (l ++ low 4 (crcSum l)) ∧ Keep (fun i => v.ownBlock = some i) w w' ∧ (∀ k, v'.ownBlock = some k → v.ownBlock = some k ∨ w.heap.size ≤ k) := by
  have H := crc_Sum ho.rd
  go_enter Try.func95, Try.ntmps95
  go_wp2_with fail
  refine H.mono ?_; rintro e w1 ⟨rfl, hk1⟩
  go_wp2_with fail
  refine (word_Put4 _ (crcSum_lt l) w1).mono ?_; rintro e w2 ⟨x, rfl, hk2, hr2⟩
  have ho2 := (ho.keepNo hk1).keepNo hk2
  obtain ⟨v', w3, hrun, h1, h2, h3⟩ := append_bytes (x := x) (l2 := low 4 (crcSum l)) ho2 (by rw [low_length]; exact hr2) (by rw [low_length]; exact hm) 24
  go_wp2_with (at_builtin; refine Lib.wpList_append_run _ rfl (.tmp 3) (.tmp 6) 24 24 rfl _ _ rfl rfl _ _ hrun ?_)
  go_ret
  refine ⟨_, rfl, h1, ((hk1.thenNo hk2).no).trans h2, fun k hk => ?_⟩
  rcases h3 k hk with h | h
  · exact .inl h
  · exact .inr (Nat.le_trans (hk1.thenNo hk2).size h)
set_option maxHeartbeats 400000 in
set_option maxRecDepth 100000 in
/-- 'image.sound' -/
theorem image_sound {w : World} {F G : Nat → Prop} {v u : Value} {l a : List UInt8} (hl : Rd w F v l.length (bv l)) (ha : Rd w G u a.length (bv a)) :
    Calls Try.prog 87 #[v, u] w fun e w' => e = .returned (.bool (decide (getN a l.length 4 = some (crcSum l)))) ∧ Keep No w w' := by
  have H := word_Get4 ha l.length
  have H2 := crc_Sum hl
  obtain ⟨A, cap, rfl, hc1, hc2, _⟩ := hl
  generalize l.length = n at *
  have hw : IntKind.u64.wrap (n : Int) = n := by rw [IntKind.wrap_u64]; omega
  cases h : getN a n 4 with
  | none =>
    rw [h] at H; clear h; simp only [get4V] at H
    have hd : decide ((none : Option Nat) = some (crcSum l)) = false := by simp
    rw [hd]
    go_enter Try.func87, Try.ntmps87
    go_wp2_with fail
    refine H.mono ?_; rintro e w1 ⟨rfl, rfl⟩
    go_wp2
    go_ret
    exact ⟨rfl, Keep.refl _ _⟩
  | some x =>
    rw [h] at H; clear h; simp only [get4V] at H
    have hd : decide (some x = some (crcSum l)) = ((x : Int) == ((crcSum l : Nat) : Int)) := by
      rw [Bool.eq_iff_iff]; simp; omega
    rw [hd]
    generalize crcSum l = S at *
    go_enter Try.func87, Try.ntmps87
    go_wp2_with fail
    refine H.mono ?_; rintro e w1 ⟨rfl, rfl⟩
    go_wp2_with fail
    refine H2.mono ?_; rintro e w1 ⟨rfl, hk⟩
    go_wp2
    go_ret
    exact ⟨rfl, hk⟩

set_option maxHeartbeats 400000 in
set_option maxRecDepth 100000 in
theorem image_long (n : Int) (w : World) :
    Calls Try.prog 89 #[.int .i64 n] w fun e w' => e = .returned (.bool (longB n)) ∧ w = w' := by
  by_cases h1 : n < 184
  · rw [show longB n = false from by simp only [longB, Bool.and_eq_false_iff, decide_eq_false_iff_not]; omega]
    have h1' : ¬ (184 ≤ n) := by omega
    go_enter Try.func89, Try.ntmps89
    go_wp2
    go_ret
    exact ⟨rfl, rfl⟩
  by_cases h2 : 16384 < n
  · rw [show longB n = false from by simp only [longB, Bool.and_eq_false_iff, decide_eq_false_iff_not]; omega]
    have h2' : ¬ (n ≤ 16384) := by omega
    go_enter Try.func89, Try.ntmps89
    go_wp2
    go_ret
    exact ⟨rfl, rfl⟩
  · rw [show longB n = (n % 16 == 8) from by simp only [longB]; simp; omega]
    have h1' : 184 ≤ n := by omega
    have h2' : n ≤ 16384 := by omega
    go_enter Try.func89, Try.ntmps89
    go_wp2
    go_ret
    exact ⟨rfl, rfl⟩

theorem image_begin (w : World) :
    Calls Try.prog 86 #[] w fun e w' => ∃ v, e = .returned v ∧ NewB w w' v [67, 78, 84, 76, 1, 0, 0, 0] := by
  go_enter Try.func86, Try.ntmps86
  go_wp2
  go_ret
  exact ⟨_, rfl, newB_alloc w _ [67, 78, 84, 76, 1, 0, 0, 0] rfl (by decide)⟩
end Go.Proofs.Ytnldmhljggcnpaa
