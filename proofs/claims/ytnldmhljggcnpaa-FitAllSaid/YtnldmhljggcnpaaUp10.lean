import Derived.Test.YtnldmhljggcnpaaFit2
namespace Go.Proofs.Ytnldmhljggcnpaa
set_option linter.unusedSimpArgs false
set_option linter.unusedVariables false
open Go.RowKit Cantle
set_option maxRecDepth 100000
set_option maxHeartbeats 4000000

theorem new_zeros (n : Nat) (hn : n ≤ 281474976710656) (w : World) : Rd (w.alloc (.cells (zb n) 5)) (fun i => w.heap.size ≤ i) (.slice (some ⟨w.heap.size, 0, none⟩) n n) (List.replicate n 0).length (bv (List.replicate n 0)) := by
  have h := newB_alloc w (zb n) (List.replicate n 0) (by simp [zb]) (by rw [List.length_replicate]; unfold maxLen; omega)
  rw [List.length_replicate] at h
  have := h.rd
  rw [List.length_replicate] at this ⊢
  exact this
theorem facts10_up : ∃ b1 b2, bset (List.replicate 280 0) ⟨184, 96, false⟩ = some b1 ∧ rebuild b1 = some b2 ∧ findB (List.replicate 280 0) 32 = some 0 ∧ findB b2 48 = some 184 :=
  ⟨(bset (List.replicate 280 0) ⟨184, 96, false⟩).getD [], (rebuild ((bset (List.replicate 280 0) ⟨184, 96, false⟩).getD [])).getD [], by decide +kernel, by decide +kernel, by decide +kernel, by decide +kernel⟩
theorem up_law10 {w : World} : Calls Try.prog 41 #[] w fun e w' => e = .returned (.bool true) ∧ Keep No w w' := by
  have hmk := fun w => mk_bytes 280 (by decide) w
  simp only [Int.cast_ofNat_Int] at hmk
  obtain ⟨b1, b2, hb1, hb2, hf0, hf2⟩ := facts10_up
  have hA := law00_Arena (w := w.alloc (.cells (zb 280) 5)) (l := List.replicate 280 0) 16 1024 (by decide) (new_zeros 280 (by decide) w) (by rw [List.length_replicate]; decide)
  have HF1 := hid (fun wx p V (h : Ar wx p V ⟨16, (1024 : Int).toNat, List.replicate 280 0⟩) => fit_Find h 32 (by decide))
  have HS := hid (fun wx p V (h : Ar wx p V ⟨16, (1024 : Int).toNat, List.replicate 280 0⟩) => block_Set_ok h ⟨184, 96, false⟩ hb1)
  have HR := hid (fun wx p V (h : Ar wx p V ⟨16, (1024 : Int).toNat, b1⟩) => fit_Rebuild h)
  have HF2 := hid (fun wx p V (h : Ar wx p V ⟨16, (1024 : Int).toNat, b2⟩) => fit_Find h 48 (by decide))
  simp only [hf0, hb2, hf2, findR, rebuildR, blkV] at HF1 HS HR HF2
  clear hb1 hb2 hf0 hf2
  have e16 : ((16 : Nat) : Int) = 16 := rfl
  rw [e16] at hA
  clear e16
  generalize List.replicate 280 (0 : UInt8) = Z at *
  go_enter Try.func41, Try.ntmps41
  go_wp2_with fail
  refine hA.mono ?_; rintro e w1 ⟨p, V, rfl, hN⟩
  go_wp2_with fail
  refine (HF1.out _ _ _ hN.ar).mono ?_; rintro e w2 ⟨rfl, k2⟩
  go_wp2_with fail
  refine (HS.out _ _ _ (hN.keepNo k2).ar).mono ?_; rintro e w3 ⟨rfl, m3⟩
  have h3 := (hN.keepNo k2).mut m3
  go_wp2_with fail
  refine (HR.out _ _ _ h3.ar).mono ?_; rintro e w4 ⟨rfl, m4⟩
  have h4 := h3.mut m4
  go_wp2_with fail
  refine (HF2.out _ _ _ h4.ar).mono ?_; rintro e w5 ⟨rfl, k5⟩
  go_wp2
  go_ret
  exact ⟨rfl, ((keep_alloc _ _).thenNo h4.keep).thenNo k5⟩
end Go.Proofs.Ytnldmhljggcnpaa
