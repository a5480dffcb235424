import Derived.Test.YtnldmhljggcnpaaSame
namespace Go.Proofs.Ytnldmhljggcnpaa
set_option linter.unusedSimpArgs false
set_option linter.unusedVariables false
open Go.RowKit Cantle
set_option maxRecDepth 100000
set_option maxHeartbeats 1000000
theorem RdD.nil (w : World) (F : Nat → Prop) : RdD w F (.slice none 0 0) [] := ⟨[], Rd.nil w F, rfl, fun i x l h => by simp at h⟩
theorem Rd.form {w : World} {F : Nat → Prop} {v : Value} {n : Nat} {cs : List Value} (h : Rd w F v n cs) : ∃ A c, v = .slice A n c ∧ n ≤ c ∧ c ≤ 9223372036854775807 := by
  obtain ⟨A, c, e, h1, h2, _⟩ := h; exact ⟨A, c, e, h1, h2⟩
theorem RdD.form {w : World} {F : Nat → Prop} {v : Value} {d : List (List UInt8)} (h : RdD w F v d) : ∃ A c, v = .slice A d.length c ∧ d.length ≤ c ∧ c ≤ 9223372036854775807 := by
  obtain ⟨_, h, _⟩ := h; exact h.form
theorem law15_up {w : World} : Calls Try.prog 17 #[] w fun e w' => e = .returned (.bool true) ∧ Keep No w w' := by
  have hm : mayB 184 [] [] = true := by decide
  have hP := image_Put (w := w) (F := No) (G := No) (Rd.nil w No) (RdD.nil w No) 184 hm (by decide) (by decide) (by decide)
  have hl : (putL 184 [] []).length = 40 := by rw [putL_length]; rfl
  have hg := get_put hm
  have hg0 : getL [] = .err 3 := rfl
  generalize hb : putL 184 [] [] = b at *
  have HL := hid hl
  have HG := hid hg
  clear hb hl hg hm
  go_enter Try.func17, Try.ntmps17
  go_wp2_with fail
  refine hP.mono ?_; rintro e w1 ⟨v, rfl, hN⟩
  have hr := hN.rd
  have hG := image_Get hr (by rw [HL.out]; decide)
  rw [HG.out] at hG
  obtain ⟨A, c, rfl, hc1, hc2⟩ := hr.form
  have hl := HL.out
  generalize b.length = bl at *
  subst hl
  clear hP
  go_wp2_with fail
  refine hG.mono ?_; rintro e w2 ⟨vb, vd, rfl, hk2, hvb, hvd⟩
  obtain ⟨Ab, cb, rfl, _, _⟩ := hvb.form
  obtain ⟨Ad, cd, rfl, _, _⟩ := hvd.form
  have hG0 := fun wx => image_Get (w := wx) (F := No) (b := []) (Rd.nil wx No) (by decide)
  simp only [hg0] at hG0
  clear hG
  go_wp2_with fail
  refine (hG0 _).mono ?_; rintro e w3 ⟨rfl, hk3⟩
  have hbx := heap_alloc_new w2 (.cells #[.int .i64 ((184 : Int).toNat : Int), .slice Ab ([] : List Blk).length cb, .slice Ad ([] : List (List UInt8)).length cd] 29)
  obtain ⟨g0, g1, g2, _, _, _, gl⟩ := box3 (hk3.heap (fun q => q) hbx)
  simp only [List.length_nil] at *
  go_wp2_with fail
  refine (law00_Code 3 (by decide) _).mono ?_; rintro e w4 ⟨rfl, rfl⟩
  go_wp2
  go_ret
  exact ⟨rfl, (((hN.keep.thenNo hk2).thenNo (keep_alloc _ _)).thenNo hk3).thenNo (keep_alloc _ _)⟩
end Go.Proofs.Ytnldmhljggcnpaa
