import Derived.Test.YtnldmhljggcnpaaUp10
namespace Go.Proofs.Ytnldmhljggcnpaa
set_option linter.unusedSimpArgs false
set_option linter.unusedVariables false
open Go.RowKit Cantle
set_option maxRecDepth 100000
set_option maxHeartbeats 4000000

theorem law00_Ints {w : World} {F G : Nat → Prop} {A B : Option Addr} {c d : Nat} {l : List Int} (ha : Rd w F (.slice A l.length c) l.length (iv l)) (hb : Rd w G (.slice B l.length d) l.length (iv l)) :
    Calls Try.prog 40 #[.slice A l.length c, .slice B l.length d] w fun e w' => e = .returned (.int .i64 1) ∧ Keep No w w' := by
  have hf := ha.form'
  obtain ⟨A', c', he, hl1, hl2⟩ := hf
  have hlm : l.length ≤ 9223372036854775807 := by omega
  have HA := hid (fun j (hj : j < l.length) => ha.cells (by rw [iv_length]; omega))
  have HB := hid (fun j (hj : j < l.length) => hb.cells (by rw [iv_length]; omega))
  clear ha hb he hl1 hl2
  go_enter Try.func40, Try.ntmps40
  go_wp2_with fail
  go_loopw [5] (fun t wr => ∃ j : Nat, t = .int .i64 j ∧ j ≤ l.length ∧ Keep No w wr) (fun t _ => l.length - (intOf t).toNat)
  case atStart => exact ⟨0, rfl, by omega, Keep.refl _ _⟩
  case round =>
    obtain ⟨j, rfl, q1, q2⟩ := hrel
    have Q2 := hid q2
    by_cases hj : j < l.length
    · obtain ⟨g, o, cap, he, _, _, _, hgl, hcc⟩ := HA.out j hj
      cases he
      obtain ⟨g2, o2, cap2, he2, _, _, _, hgl2, hcc2⟩ := HB.out j hj
      cases he2
      have c1 := q2.cell (fun q => q) (hcc j _ (iv_get? l j hj))
      have c2 := q2.cell (fun q => q) (hcc2 j _ (iv_get? l j hj))
      have b1 : g < wr.heap.size := Nat.lt_of_lt_of_le hgl q2.size
      have b2 : g2 < wr.heap.size := Nat.lt_of_lt_of_le hgl2 q2.size
      generalize l[j] = x at *
      clear hcc hcc2 q2
      have hlt1 : ¬ ((j : Int) < 0) := by omega
      go_wp2_with fail
      go_quiet (fail)
      go_wp2
      refine ⟨⟨j + 1, rfl, by omega, Q2.out.thenNo (Keep.drewN No _ _)⟩, ?_⟩
      simp [intOf]; omega
    · clear q2
      go_wp2
      go_ret
      exact ⟨rfl, Q2.out⟩
end Go.Proofs.Ytnldmhljggcnpaa
