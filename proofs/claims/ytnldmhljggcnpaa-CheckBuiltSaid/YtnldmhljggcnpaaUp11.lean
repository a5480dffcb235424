import Derived.Test.YtnldmhljggcnpaaCode
import Derived.Test.YtnldmhljggcnpaaCheck
namespace Go.Proofs.Ytnldmhljggcnpaa
set_option linter.unusedSimpArgs false
set_option linter.unusedVariables false
open Go.RowKit Cantle
set_option maxRecDepth 100000
set_option maxHeartbeats 4000000

theorem zeros_new11 (n : Nat) (hn : n ≤ 281474976710656) (w : World) : Rd (w.alloc (.cells (zb n) 5)) (fun i => w.heap.size ≤ i) (.slice (some ⟨w.heap.size, 0, none⟩) n n) (List.replicate n (0 : UInt8)).length (bv (List.replicate n 0)) := by
  have h := newB_alloc w (zb n) (List.replicate n 0) (by simp [zb]) (by rw [List.length_replicate]; unfold maxLen; omega)
  rw [List.length_replicate] at h
  have := h.rd
  rw [List.length_replicate] at this ⊢
  exact this
theorem facts_up11 : checkB (List.replicate 184 0) = true ∧ checkB ([1] ++ List.replicate 183 0) = false := ⟨by decide +kernel, by decide +kernel⟩
theorem up_law11 {w : World} : Calls Try.prog 25 #[] w fun e w' => e = .returned (.bool true) ∧ Keep No w w' := by
  have hmk := fun w => mk_bytes 184 (by decide) w
  simp only [Int.cast_ofNat_Int] at hmk
  obtain ⟨hz1, hz2⟩ := facts_up11
  have hA := law00_Arena (w := w.alloc (.cells (zb 184) 5)) (l := List.replicate 184 0) 16 1024 (by decide) (zeros_new11 184 (by decide) w) (by rw [List.length_replicate]; decide)
  have HO := hid (fun w1 : World => (show ∃ A2 c2 w2, (Builtin.append_ #[24, 3] 24 #[.slice (some ⟨w1.heap.size, 0, none⟩) 1 1, .int .i64 183]).run Try.prog (w1.alloc (.cells #[.int .u8 1] 5)) = .ok (.slice A2 184 c2) w2 ∧ Rd w2 (fun _ => True) (.slice A2 184 c2) ([1] ++ List.replicate 183 (0 : UInt8)).length (bv ([1] ++ List.replicate 183 0)) ∧ Keep No w1 w2 from by
    have hO := (newB_alloc w1 #[.int .u8 1] [1] rfl (by decide)).ownB
    obtain ⟨v', w2, hrun, ho2, hk2, hl2⟩ := append_zeros hO 183 (by decide) 24
    obtain ⟨A2, c2, rfl, _⟩ := ho2.form
    refine ⟨A2, c2, w2, by simpa using hrun, by simpa using ho2.rd.mono (F' := fun _ => True) (fun _ _ _ => trivial), (keep_alloc w1 _).then hk2 (fun i hi e => ?_)⟩
    have : w1.heap.size = i := Option.some.inj e
    omega))
  have HA2 := hid (fun wx F x (hx : Rd wx F x ([1] ++ List.replicate 183 (0 : UInt8)).length (bv ([1] ++ List.replicate 183 0))) => law00_Arena (w := wx) 16 1024 (by decide) hx (by decide))
  have e16 : ((16 : Nat) : Int) = 16 := rfl
  rw [e16] at hA HA2
  clear e16
  generalize List.replicate 184 (0 : UInt8) = Z at *
  generalize [1] ++ List.replicate 183 (0 : UInt8) = Z2 at *
  have HC1 := hid (fun wx p V (h : Ar wx p V ⟨16, (1024 : Int).toNat, Z⟩) => check_Check h)
  have HC2 := hid (fun wx p V (h : Ar wx p V ⟨16, (1024 : Int).toNat, Z2⟩) => check_Check h)
  simp only [hz1, hz2, if_true, Bool.false_eq_true, if_false, errV] at HC1 HC2
  clear hz1 hz2
  go_enter Try.func25, Try.ntmps25
  go_wp2_with fail
  refine hA.mono ?_; rintro e w1 ⟨p, V, rfl, hN⟩
  obtain ⟨A2, c2, w2, hrun, hR2, hk2⟩ := HO.out w1
  clear hA
  go_wp2_with (at_builtin; refine Lib.wpList_append_run _ rfl (.tmp 5) (.const (.int .i64 183)) 24 3 rfl _ _ rfl rfl _ _ hrun ?_)
  refine (HA2.out _ _ _ hR2).mono ?_; rintro e w3 ⟨p2, V2, rfl, hN2⟩
  go_wp2_with fail
  refine (HC1.out _ _ _ (((hN.keepNo hk2).keepNo hN2.keep).ar)).mono ?_; rintro e w4 ⟨rfl, k4⟩
  go_wp2_with fail
  refine (HC2.out _ _ _ ((hN2.keepNo k4).ar)).mono ?_; rintro e w5 ⟨rfl, k5⟩
  go_wp2_with fail
  refine (law00_Code 3 (by decide) _).mono ?_; rintro e w6 ⟨rfl, rfl⟩
  go_wp2
  go_ret
  exact ⟨rfl, (((((keep_alloc _ _).thenNo hN.keep).thenNo hk2).thenNo hN2.keep).thenNo k4).thenNo k5⟩
end Go.Proofs.Ytnldmhljggcnpaa
