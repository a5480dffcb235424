import Derived.Test.YtnldmhljggcnpaaList2
namespace Go.Proofs.Ytnldmhljggcnpaa
set_option linter.unusedSimpArgs false
set_option linter.unusedVariables false
open Go.RowKit Cantle
set_option maxRecDepth 100000
set_option maxHeartbeats 2000000

theorem freeC_some {b : List UInt8} {o : Int} {c : Nat} (h : freeC b o = some c) : c < 22 ∧ 184 ≤ o ∧ o + 32 ≤ b.length ∧ o % 16 = 8 := by
  unfold freeC at h
  split at h
  · cases h
  · rename_i x hx
    split at h
    · cases h
    · have := bget_some hx
      have hr := cls_range this.2.2.2.2.1
      have hs := (isSize_iff _).1 this.2.2.2.2.1
      have := Option.some.inj h
      omega
theorem lput_some {b : List UInt8} {o : Int} {c : Nat} (h : freeC b o = some c) : lput b o = if (num b (hd c) : Int) = o ∨ (num b (hd c) ≠ 0 ∧ member b (num b (hd c)) c = false) then none else
    some (Cantle.mark (lay (if num b (hd c) = 0 then lay (lay b (o.toNat + 8) (num b (hd c))) (o.toNat + 16) 0 else lay (lay (lay b (o.toNat + 8) (num b (hd c))) (o.toNat + 16) 0) (num b (hd c) + 16) o.toNat) (hd c) o.toNat) c) := by
  unfold lput; rw [h]
theorem lput_none {b : List UInt8} {o : Int} (h : freeC b o = none) : lput b o = none := by unfold lput; rw [h]
/-- what putting, or taking, a block comes to -/
def TurnR (w w' : World) (p : Nat) (V : Value) (s : ArS) (e : Ending) : Option (List UInt8) → Prop
  | none => e = .returned (errV 3) ∧ Keep No w w'
  | some b' => e = .returned .nilIface ∧ Mut w w' p V V { s with b := b' }
theorem list_Put {w : World} {p : Nat} {V : Value} {s : ArS} (h : Ar w p V s) (o : Int) :
    Calls Try.prog 37 #[.pointer (some ⟨p, 0, none⟩), .int .i64 o] w fun e w' => TurnR w w' p V s e (lput s.b o) := by
  have hF := list_free h o
  cases hf : freeC s.b o with
  | none =>
    rw [hf] at hF
    rw [lput_none hf]
    simp only [freeR, errV, TurnR] at hF ⊢
    clear hf h
    go_enter Try.func37, Try.ntmps37
    go_wp2_with fail
    refine hF.mono ?_; rintro e w1 ⟨rfl, k1⟩
    go_wp2
    go_ret
    exact ⟨rfl, k1⟩
  | some c =>
    rw [hf] at hF
    obtain ⟨hc, ho1, ho2, ho3⟩ := freeC_some hf
    rw [lput_some hf]
    have hll := h.len_le
    have hcl := h.cap_le
    obtain ⟨k, rfl⟩ := Int.eq_ofNat_of_zero_le (show 0 ≤ o by omega)
    rw [Int.toNat_natCast]
    have hd2 : hd c ≤ 1000000 := by unfold hd; omega
    have hH := fun wx => list_head c (by omega) wx
    have HW := hid (fun wx (kk : Keep No w wx) => list_word (h.keepNo kk) (hd c : Nat) (by omega) (by omega))
    have HM := hid (fun wx (kk : Keep No w wx) => list_member (h.keepNo kk) (num s.b (hd c)) c (num_lt _ _))
    have HMK := hid (fun wx s' (hA : Ar wx p V s') => list_mark hA c hc)
    have HAR := hid h
    have hfl := num_lt s.b (hd c)
    have HFL := hid hfl
    have HMB := hid (fun hm : member s.b (num s.b (hd c)) c = true => (show num s.b (hd c) ≤ 16384 from by unfold member at hm; simp at hm; exact hm.1))
    obtain ⟨base, cap, b⟩ := s
    simp only [freeR, Int.toNat_natCast] at *
    clear hf h hfl
    generalize hHd : hd c = H at *
    clear hHd
    generalize num b H = first at *
    by_cases e1 : first = k
    · rw [if_pos (.inl (by omega))]
      simp only [TurnR]
      have e1b : (((first : Nat) : Int) == (k : Int)) = true := by rw [beq_iff_eq]; omega
      clear e1 HMB HFL
      go_enter Try.func37, Try.ntmps37
      go_wp2_with fail
      refine hF.mono ?_; rintro e w1 ⟨rfl, k1⟩
      go_wp2_with fail
      refine (hH _).mono ?_; rintro e w2 ⟨rfl, rfl⟩
      go_wp2_with fail
      refine (HW.out _ k1).mono ?_; rintro e w2 ⟨rfl, rfl⟩
      go_wp2
      go_ret
      exact ⟨rfl, k1⟩
    · have e1b : (((first : Nat) : Int) == (k : Int)) = false := by rw [beq_eq_false_iff_ne]; omega
      by_cases e2 : first = 0
      · subst e2
        rw [if_neg (by omega), if_pos rfl]
        simp only [TurnR]
        clear e1 HMB HFL HM
        have HS1 := hid (fun wx (hA : Ar wx p V ⟨base, cap, b⟩) => list_set hA ((k : Int) + 8) 0 (by omega) (by omega) (by decide))
        have HS2 := hid (fun wx b' (hA : Ar wx p V ⟨base, cap, b'⟩) => list_set hA ((k : Int) + 16) 0 (by omega) (by omega) (by decide))
        have HS3 := hid (fun wx b' (hA : Ar wx p V ⟨base, cap, b'⟩) => list_set hA (H : Nat) k (by omega) (by omega) (by omega))
        have t1 : ((k : Int) + 8).toNat = k + 8 := by omega
        have t2 : ((k : Int) + 16).toNat = k + 16 := by omega
        simp only [t1, t2, Int.toNat_natCast] at HS1 HS2 HS3
        clear t1 t2
        go_enter Try.func37, Try.ntmps37
        go_wp2_with fail
        refine hF.mono ?_; rintro e w1 ⟨rfl, k1⟩
        go_wp2_with fail
        refine (hH _).mono ?_; rintro e w2 ⟨rfl, rfl⟩
        go_wp2_with fail
        refine (HW.out _ k1).mono ?_; rintro e w2 ⟨rfl, rfl⟩
        go_wp2_with fail
        refine (HS1.out _ (HAR.out.keepNo k1)).mono ?_; rintro e w2 ⟨rfl, hA⟩
        go_wp2_with fail
        refine (HS2.out _ _ hA.ar).mono ?_; rintro e w3 ⟨rfl, hB⟩
        go_wp2_with fail
        refine (hH _).mono ?_; rintro e w4 ⟨rfl, rfl⟩
        go_wp2_with fail
        refine (HS3.out _ _ hB.ar).mono ?_; rintro e w4 ⟨rfl, hC⟩
        go_wp2_with fail
        refine (HMK.out _ _ hC.ar).mono ?_; rintro e w5 ⟨rfl, hD⟩
        go_wp2
        go_ret
        exact ⟨rfl, ((((Mut.ofNo HAR.out k1).trans hA.mut).trans hB.mut).trans hC.mut).trans hD.mut⟩
      · have e2b : (((first : Nat) : Int) != 0) = true := by rw [bne_iff_ne]; omega
        cases hm : member b first c with
        | false =>
          rw [hm] at HM
          rw [if_pos (.inr ⟨e2, rfl⟩)]
          simp only [TurnR]
          clear e1 e2 HMB HFL hm
          go_enter Try.func37, Try.ntmps37
          go_wp2_with fail
          refine hF.mono ?_; rintro e w1 ⟨rfl, k1⟩
          go_wp2_with fail
          refine (hH _).mono ?_; rintro e w2 ⟨rfl, rfl⟩
          go_wp2_with fail
          refine (HW.out _ k1).mono ?_; rintro e w2 ⟨rfl, rfl⟩
          go_wp2_with fail
          refine (HM.out _ k1).mono ?_; rintro e w2 ⟨rfl, k2⟩
          go_wp2
          go_ret
          exact ⟨rfl, k1.thenNo k2⟩
        | true =>
          rw [hm] at HM
          have hf1 := HMB.out hm
          have hfl := HFL.out
          rw [if_neg (by simp; omega), if_neg e2]
          simp only [TurnR]
          have HS1 := hid (fun wx (hA : Ar wx p V ⟨base, cap, b⟩) => list_set hA ((k : Int) + 8) first (by omega) (by omega) hfl)
          have HS2 := hid (fun wx b' (hA : Ar wx p V ⟨base, cap, b'⟩) => list_set hA ((k : Int) + 16) 0 (by omega) (by omega) (by decide))
          have HS4 := hid (fun wx b' (hA : Ar wx p V ⟨base, cap, b'⟩) => list_set hA ((first : Int) + 16) k (by omega) (by omega) (by omega))
          have HS3 := hid (fun wx b' (hA : Ar wx p V ⟨base, cap, b'⟩) => list_set hA (H : Nat) k (by omega) (by omega) (by omega))
          have t1 : ((k : Int) + 8).toNat = k + 8 := by omega
          have t2 : ((k : Int) + 16).toNat = k + 16 := by omega
          have t3 : ((first : Int) + 16).toNat = first + 16 := by omega
          simp only [t1, t2, t3, Int.toNat_natCast] at HS1 HS2 HS3 HS4
          clear t1 t2 t3 e1 e2 HMB HFL hm hfl
          go_enter Try.func37, Try.ntmps37
          go_wp2_with fail
          refine hF.mono ?_; rintro e w1 ⟨rfl, k1⟩
          go_wp2_with fail
          refine (hH _).mono ?_; rintro e w2 ⟨rfl, rfl⟩
          go_wp2_with fail
          refine (HW.out _ k1).mono ?_; rintro e w2 ⟨rfl, rfl⟩
          go_wp2_with fail
          refine (HM.out _ k1).mono ?_; rintro e w2 ⟨rfl, k2⟩
          have k2 := k1.thenNo k2
          go_wp2_with fail
          refine (HS1.out _ (HAR.out.keepNo k2)).mono ?_; rintro e w3 ⟨rfl, hA⟩
          go_wp2_with fail
          refine (HS2.out _ _ hA.ar).mono ?_; rintro e w4 ⟨rfl, hB⟩
          go_wp2_with fail
          refine (HS4.out _ _ hB.ar).mono ?_; rintro e w5 ⟨rfl, hB2⟩
          go_wp2_with fail
          refine (hH _).mono ?_; rintro e w6 ⟨rfl, rfl⟩
          go_wp2_with fail
          refine (HS3.out _ _ hB2.ar).mono ?_; rintro e w6 ⟨rfl, hC⟩
          go_wp2_with fail
          refine (HMK.out _ _ hC.ar).mono ?_; rintro e w7 ⟨rfl, hD⟩
          go_wp2
          go_ret
          exact ⟨rfl, (((((Mut.ofNo HAR.out k2).trans hA.mut).trans hB.mut).trans hB2.mut).trans hC.mut).trans hD.mut⟩
end Go.Proofs.Ytnldmhljggcnpaa
