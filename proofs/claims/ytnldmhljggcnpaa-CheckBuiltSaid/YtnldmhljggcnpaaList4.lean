import Derived.Test.YtnldmhljggcnpaaList3
namespace Go.Proofs.Ytnldmhljggcnpaa
set_option linter.unusedSimpArgs false
set_option linter.unusedVariables false
open Go.RowKit Cantle
set_option maxRecDepth 100000
set_option maxHeartbeats 4000000

theorem ltake_none {b : List UInt8} {o : Int} (h : freeC b o = none) : ltake b o = none := by unfold ltake; rw [h]
theorem ltake_some {b : List UInt8} {o : Int} {c : Nat} (h : freeC b o = some c) : ltake b o =
    if num b (o.toNat + 16) = 0 ∧ (num b (hd c) : Int) ≠ o then none else
    if num b (o.toNat + 16) ≠ 0 ∧ (member b (num b (o.toNat + 16)) c = false ∨ (num b (num b (o.toNat + 16) + 8) : Int) ≠ o) then none else
    if num b (o.toNat + 8) ≠ 0 ∧ (member b (num b (o.toNat + 8)) c = false ∨ (num b (num b (o.toNat + 8) + 16) : Int) ≠ o) then none else
    some (Cantle.mark (if num b (o.toNat + 8) = 0 then (if num b (o.toNat + 16) = 0 then lay b (hd c) (num b (o.toNat + 8)) else lay b (num b (o.toNat + 16) + 8) (num b (o.toNat + 8)))
      else lay (if num b (o.toNat + 16) = 0 then lay b (hd c) (num b (o.toNat + 8)) else lay b (num b (o.toNat + 16) + 8) (num b (o.toNat + 8))) (num b (o.toNat + 8) + 16) (num b (o.toNat + 16))) c) := by
  unfold ltake; rw [h]
theorem member_le {b : List UInt8} {a : Nat} {c : Int} (h : member b a c = true) : a ≤ 16384 := by
  unfold member at h; simp at h; exact h.1
theorem list_Take {w : World} {p : Nat} {V : Value} {s : ArS} (h : Ar w p V s) (o : Int) :
    Calls Try.prog 38 #[.pointer (some ⟨p, 0, none⟩), .int .i64 o] w fun e w' => TurnR w w' p V s e (ltake s.b o) := by
  have hF := list_free h o
  cases hf : freeC s.b o with
  | none =>
    rw [hf] at hF
    rw [ltake_none hf]
    simp only [freeR, errV, TurnR] at hF ⊢
    clear hf h
    go_enter Try.func38, Try.ntmps38
    go_wp2_with fail
    refine hF.mono ?_; rintro e w1 ⟨rfl, k1⟩
    go_wp2
    go_ret
    exact ⟨rfl, k1⟩
  | some c =>
    rw [hf] at hF
    obtain ⟨hc, ho1, ho2, ho3⟩ := freeC_some hf
    rw [ltake_some hf]
    have hll := h.len_le
    have hcl := h.cap_le
    obtain ⟨k, rfl⟩ := Int.eq_ofNat_of_zero_le (show 0 ≤ o by omega)
    rw [Int.toNat_natCast]
    have hd2 : hd c ≤ 1000000 := by unfold hd; omega
    have hH := fun wx => list_head c (by omega) wx
    have HW := hid (fun wx (kk : Keep No w wx) o h0 h1 => list_word (h.keepNo kk) o h0 h1)
    have HM := hid (fun wx (kk : Keep No w wx) a ha => list_member (h.keepNo kk) a c ha)
    have HMK := hid (fun wx s' (hA : Ar wx p V s') => list_mark hA c hc)
    have HST := hid (fun wx s' (hA : Ar wx p V s') o v h0 h1 hv => list_set hA o v h0 h1 hv)
    have HAR := hid h
    have HP := hid (fun wx (kk : Keep No w wx) => HW.out wx kk ((k : Int) + 16) (by omega) (by omega))
    have HN := hid (fun wx (kk : Keep No w wx) => HW.out wx kk ((k : Int) + 8) (by omega) (by omega))
    have HH := hid (fun wx (kk : Keep No w wx) => HW.out wx kk (hd c : Nat) (by omega) (by omega))
    rw [show ((k : Int) + 16).toNat = k + 16 from by omega] at HP
    rw [show ((k : Int) + 8).toNat = k + 8 from by omega] at HN
    rw [Int.toNat_natCast] at HH
    have hpl := num_lt s.b (k + 16)
    have hnl := num_lt s.b (k + 8)
    obtain ⟨base, cap, b⟩ := s
    simp only [freeR] at *
    clear hf h
    generalize hHd : hd c = H at *
    clear hHd
    generalize num b H = hv at *
    generalize num b (k + 16) = p' at *
    generalize num b (k + 8) = n at *
    have HPL := hid hpl
    have HNL := hid hnl
    clear hpl hnl
    by_cases ep : p' = 0
    · subst ep
      by_cases eh : (hv : Int) = k
      · have ehb : (((hv : Nat) : Int) != (k : Int)) = false := by rw [bne_eq_false_iff_eq]; exact eh
        rw [if_neg (by simp [eh]), if_neg (by simp)]
        clear eh
        by_cases en : n = 0
        · subst en
          rw [if_neg (by simp), if_pos rfl, if_pos rfl]
          simp only [TurnR]
          have S1 := hid (fun wx s' (hA : Ar wx p V s') => HST.out wx s' hA (H : Nat) 0 (by omega) (by omega) (by decide))
          rw [Int.toNat_natCast] at S1
          clear HW HM HST HPL HNL
          go_enter Try.func38, Try.ntmps38
          go_wp2_with fail
          refine hF.mono ?_; rintro e w1 ⟨rfl, k1⟩
          go_wp2_with fail
          refine (HP.out _ k1).mono ?_; rintro e wa ⟨rfl, rfl⟩
          go_wp2_with fail
          refine (HN.out _ k1).mono ?_; rintro e wa ⟨rfl, rfl⟩
          go_wp2_with fail
          refine (hH _).mono ?_; rintro e wa ⟨rfl, rfl⟩
          go_wp2_with fail
          refine (HH.out _ k1).mono ?_; rintro e wa ⟨rfl, rfl⟩
          go_wp2_with fail
          refine (hH _).mono ?_; rintro e wa ⟨rfl, rfl⟩
          go_wp2_with fail
          refine (S1.out _ _ (HAR.out.keepNo k1)).mono ?_; rintro e w2 ⟨rfl, m2⟩
          go_wp2_with fail
          refine (HMK.out _ _ m2.ar).mono ?_; rintro e w3 ⟨rfl, m3⟩
          go_wp2
          go_ret
          exact ⟨rfl, (((Mut.ofNo HAR.out k1).trans m2.mut).trans m3.mut)⟩
        · have enb : (((n : Nat) : Int) != 0) = true := by rw [bne_iff_ne]; omega
          have MN := hid (fun wx (kk : Keep No w wx) => HM.out wx kk n HNL.out)
          cases hmn : member b n c with
          | false =>
            rw [hmn] at MN
            rw [if_pos ⟨en, .inl rfl⟩]
            simp only [TurnR]
            clear HW HM HST HPL HNL hmn en
            go_enter Try.func38, Try.ntmps38
            go_wp2_with fail
            refine hF.mono ?_; rintro e w1 ⟨rfl, k1⟩
            go_wp2_with fail
            refine (HP.out _ k1).mono ?_; rintro e wa ⟨rfl, rfl⟩
            go_wp2_with fail
            refine (HN.out _ k1).mono ?_; rintro e wa ⟨rfl, rfl⟩
            go_wp2_with fail
            refine (hH _).mono ?_; rintro e wa ⟨rfl, rfl⟩
            go_wp2_with fail
            refine (HH.out _ k1).mono ?_; rintro e wa ⟨rfl, rfl⟩
            go_wp2_with fail
            refine (MN.out _ k1).mono ?_; rintro e w2 ⟨rfl, k2⟩
            have k2 := k1.thenNo k2
            go_wp2
            go_ret
            exact ⟨rfl, k2⟩
          | true =>
            rw [hmn] at MN
            have hn16 := member_le hmn
            have N16 := hid (fun wx (kk : Keep No w wx) => HW.out wx kk ((n : Int) + 16) (by omega) (by omega))
            rw [show ((n : Int) + 16).toNat = n + 16 from by omega] at N16
            clear hmn
            generalize num b (n + 16) = nv at *
            by_cases ev : (nv : Int) = k
            · have evb : (((nv : Nat) : Int) != (k : Int)) = false := by rw [bne_eq_false_iff_eq]; exact ev
              rw [if_neg (by simp [ev]), if_neg en, if_pos rfl]
              simp only [TurnR]
              have hnl := HNL.out
              have hpl := HPL.out
              have S1 := hid (fun wx s' (hA : Ar wx p V s') => HST.out wx s' hA (H : Nat) n (by omega) (by omega) hnl)
              rw [Int.toNat_natCast] at S1
              have S2 := hid (fun wx s' (hA : Ar wx p V s') => HST.out wx s' hA ((n : Int) + 16) 0 (by omega) (by omega) (by decide))
              rw [show ((n : Int) + 16).toNat = n + 16 from by omega] at S2
              clear HW HM HST HPL HNL ev en hnl hpl
              go_enter Try.func38, Try.ntmps38
              go_wp2_with fail
              refine hF.mono ?_; rintro e w1 ⟨rfl, k1⟩
              go_wp2_with fail
              refine (HP.out _ k1).mono ?_; rintro e wa ⟨rfl, rfl⟩
              go_wp2_with fail
              refine (HN.out _ k1).mono ?_; rintro e wa ⟨rfl, rfl⟩
              go_wp2_with fail
              refine (hH _).mono ?_; rintro e wa ⟨rfl, rfl⟩
              go_wp2_with fail
              refine (HH.out _ k1).mono ?_; rintro e wa ⟨rfl, rfl⟩
              go_wp2_with fail
              refine (MN.out _ k1).mono ?_; rintro e w2 ⟨rfl, k2⟩
              have k2 := k1.thenNo k2
              go_wp2_with fail
              refine (N16.out _ k2).mono ?_; rintro e wa ⟨rfl, rfl⟩
              go_wp2_with fail
              refine (hH _).mono ?_; rintro e wa ⟨rfl, rfl⟩
              go_wp2_with fail
              refine (S1.out _ _ (HAR.out.keepNo k2)).mono ?_; rintro e w3 ⟨rfl, m3⟩
              go_wp2_with fail
              refine (S2.out _ _ m3.ar).mono ?_; rintro e w4 ⟨rfl, m4⟩
              go_wp2_with fail
              refine (HMK.out _ _ m4.ar).mono ?_; rintro e w5 ⟨rfl, m5⟩
              go_wp2
              go_ret
              exact ⟨rfl, ((((Mut.ofNo HAR.out k2).trans m3.mut).trans m4.mut).trans m5.mut)⟩
            · have evb : (((nv : Nat) : Int) != (k : Int)) = true := by rw [bne_iff_ne]; exact ev
              rw [if_pos ⟨en, .inr ev⟩]
              simp only [TurnR]
              clear HW HM HST HPL HNL ev en
              go_enter Try.func38, Try.ntmps38
              go_wp2_with fail
              refine hF.mono ?_; rintro e w1 ⟨rfl, k1⟩
              go_wp2_with fail
              refine (HP.out _ k1).mono ?_; rintro e wa ⟨rfl, rfl⟩
              go_wp2_with fail
              refine (HN.out _ k1).mono ?_; rintro e wa ⟨rfl, rfl⟩
              go_wp2_with fail
              refine (hH _).mono ?_; rintro e wa ⟨rfl, rfl⟩
              go_wp2_with fail
              refine (HH.out _ k1).mono ?_; rintro e wa ⟨rfl, rfl⟩
              go_wp2_with fail
              refine (MN.out _ k1).mono ?_; rintro e w2 ⟨rfl, k2⟩
              have k2 := k1.thenNo k2
              go_wp2_with fail
              refine (N16.out _ k2).mono ?_; rintro e wa ⟨rfl, rfl⟩
              go_wp2
              go_ret
              exact ⟨rfl, k2⟩
      · have ehb : (((hv : Nat) : Int) != (k : Int)) = true := by rw [bne_iff_ne]; exact eh
        rw [if_pos ⟨rfl, eh⟩]
        simp only [TurnR]
        clear HW HM HST HPL HNL eh
        go_enter Try.func38, Try.ntmps38
        go_wp2_with fail
        refine hF.mono ?_; rintro e w1 ⟨rfl, k1⟩
        go_wp2_with fail
        refine (HP.out _ k1).mono ?_; rintro e wa ⟨rfl, rfl⟩
        go_wp2_with fail
        refine (HN.out _ k1).mono ?_; rintro e wa ⟨rfl, rfl⟩
        go_wp2_with fail
        refine (hH _).mono ?_; rintro e wa ⟨rfl, rfl⟩
        go_wp2_with fail
        refine (HH.out _ k1).mono ?_; rintro e wa ⟨rfl, rfl⟩
        go_wp2
        go_ret
        exact ⟨rfl, k1⟩
    · have epb : (((p' : Nat) : Int) == 0) = false := by rw [beq_eq_false_iff_ne]; omega
      have epc : (((p' : Nat) : Int) != 0) = true := by rw [bne_iff_ne]; omega
      rw [if_neg (by simp [ep])]
      have MP := hid (fun wx (kk : Keep No w wx) => HM.out wx kk p' HPL.out)
      cases hmp : member b p' c with
      | false =>
        rw [hmp] at MP
        rw [if_pos ⟨ep, .inl rfl⟩]
        simp only [TurnR]
        clear HW HM HST HPL HNL hmp ep
        go_enter Try.func38, Try.ntmps38
        go_wp2_with fail
        refine hF.mono ?_; rintro e w1 ⟨rfl, k1⟩
        go_wp2_with fail
        refine (HP.out _ k1).mono ?_; rintro e wa ⟨rfl, rfl⟩
        go_wp2_with fail
        refine (HN.out _ k1).mono ?_; rintro e wa ⟨rfl, rfl⟩
        go_wp2_with fail
        refine (MP.out _ k1).mono ?_; rintro e w2 ⟨rfl, k2⟩
        have k2 := k1.thenNo k2
        go_wp2
        go_ret
        exact ⟨rfl, k2⟩
      | true =>
        rw [hmp] at MP
        have hp16 := member_le hmp
        have P8 := hid (fun wx (kk : Keep No w wx) => HW.out wx kk ((p' : Int) + 8) (by omega) (by omega))
        rw [show ((p' : Int) + 8).toNat = p' + 8 from by omega] at P8
        clear hmp
        generalize num b (p' + 8) = pv at *
        by_cases eu : (pv : Int) = k
        · have eub : (((pv : Nat) : Int) != (k : Int)) = false := by rw [bne_eq_false_iff_eq]; exact eu
          rw [if_neg (by simp [eu])]
          clear eu
          by_cases en : n = 0
          · subst en
            rw [if_neg (by simp), if_pos rfl, if_neg ep]
            simp only [TurnR]
            have S1 := hid (fun wx s' (hA : Ar wx p V s') => HST.out wx s' hA ((p' : Int) + 8) 0 (by omega) (by omega) (by decide))
            rw [show ((p' : Int) + 8).toNat = p' + 8 from by omega] at S1
            clear HW HM HST HPL HNL
            clear ep
            go_enter Try.func38, Try.ntmps38
            go_wp2_with fail
            refine hF.mono ?_; rintro e w1 ⟨rfl, k1⟩
            go_wp2_with fail
            refine (HP.out _ k1).mono ?_; rintro e wa ⟨rfl, rfl⟩
            go_wp2_with fail
            refine (HN.out _ k1).mono ?_; rintro e wa ⟨rfl, rfl⟩
            go_wp2_with fail
            refine (MP.out _ k1).mono ?_; rintro e w2 ⟨rfl, k2⟩
            have k2 := k1.thenNo k2
            go_wp2_with fail
            refine (P8.out _ k2).mono ?_; rintro e wa ⟨rfl, rfl⟩
            go_wp2_with fail
            refine (S1.out _ _ (HAR.out.keepNo k2)).mono ?_; rintro e w3 ⟨rfl, m3⟩
            go_wp2_with fail
            refine (HMK.out _ _ m3.ar).mono ?_; rintro e w4 ⟨rfl, m4⟩
            go_wp2
            go_ret
            exact ⟨rfl, (((Mut.ofNo HAR.out k2).trans m3.mut).trans m4.mut)⟩
          · have enb : (((n : Nat) : Int) != 0) = true := by rw [bne_iff_ne]; omega
            have MN := hid (fun wx (kk : Keep No w wx) => HM.out wx kk n HNL.out)
            cases hmn : member b n c with
            | false =>
              rw [hmn] at MN
              rw [if_pos ⟨en, .inl rfl⟩]
              simp only [TurnR]
              clear HW HM HST HPL HNL hmn en ep
              go_enter Try.func38, Try.ntmps38
              go_wp2_with fail
              refine hF.mono ?_; rintro e w1 ⟨rfl, k1⟩
              go_wp2_with fail
              refine (HP.out _ k1).mono ?_; rintro e wa ⟨rfl, rfl⟩
              go_wp2_with fail
              refine (HN.out _ k1).mono ?_; rintro e wa ⟨rfl, rfl⟩
              go_wp2_with fail
              refine (MP.out _ k1).mono ?_; rintro e w2 ⟨rfl, k2⟩
              have k2 := k1.thenNo k2
              go_wp2_with fail
              refine (P8.out _ k2).mono ?_; rintro e wa ⟨rfl, rfl⟩
              go_wp2_with fail
              refine (MN.out _ k2).mono ?_; rintro e w3 ⟨rfl, k3⟩
              have k3 := k2.thenNo k3
              go_wp2
              go_ret
              exact ⟨rfl, k3⟩
            | true =>
              rw [hmn] at MN
              have hn16 := member_le hmn
              have N16 := hid (fun wx (kk : Keep No w wx) => HW.out wx kk ((n : Int) + 16) (by omega) (by omega))
              rw [show ((n : Int) + 16).toNat = n + 16 from by omega] at N16
              clear hmn
              generalize num b (n + 16) = nv at *
              by_cases ev : (nv : Int) = k
              · have evb : (((nv : Nat) : Int) != (k : Int)) = false := by rw [bne_eq_false_iff_eq]; exact ev
                rw [if_neg (by simp [ev]), if_neg en, if_neg ep]
                simp only [TurnR]
                have hnl := HNL.out
                have hpl := HPL.out
                have S1 := hid (fun wx s' (hA : Ar wx p V s') => HST.out wx s' hA ((p' : Int) + 8) n (by omega) (by omega) hnl)
                rw [show ((p' : Int) + 8).toNat = p' + 8 from by omega] at S1
                have S2 := hid (fun wx s' (hA : Ar wx p V s') => HST.out wx s' hA ((n : Int) + 16) p' (by omega) (by omega) hpl)
                rw [show ((n : Int) + 16).toNat = n + 16 from by omega] at S2
                clear HW HM HST HPL HNL ev en hnl hpl ep
                go_enter Try.func38, Try.ntmps38
                go_wp2_with fail
                refine hF.mono ?_; rintro e w1 ⟨rfl, k1⟩
                go_wp2_with fail
                refine (HP.out _ k1).mono ?_; rintro e wa ⟨rfl, rfl⟩
                go_wp2_with fail
                refine (HN.out _ k1).mono ?_; rintro e wa ⟨rfl, rfl⟩
                go_wp2_with fail
                refine (MP.out _ k1).mono ?_; rintro e w2 ⟨rfl, k2⟩
                have k2 := k1.thenNo k2
                go_wp2_with fail
                refine (P8.out _ k2).mono ?_; rintro e wa ⟨rfl, rfl⟩
                go_wp2_with fail
                refine (MN.out _ k2).mono ?_; rintro e w3 ⟨rfl, k3⟩
                have k3 := k2.thenNo k3
                go_wp2_with fail
                refine (N16.out _ k3).mono ?_; rintro e wa ⟨rfl, rfl⟩
                go_wp2_with fail
                refine (S1.out _ _ (HAR.out.keepNo k3)).mono ?_; rintro e w4 ⟨rfl, m4⟩
                go_wp2_with fail
                refine (S2.out _ _ m4.ar).mono ?_; rintro e w5 ⟨rfl, m5⟩
                go_wp2_with fail
                refine (HMK.out _ _ m5.ar).mono ?_; rintro e w6 ⟨rfl, m6⟩
                go_wp2
                go_ret
                exact ⟨rfl, ((((Mut.ofNo HAR.out k3).trans m4.mut).trans m5.mut).trans m6.mut)⟩
              · have evb : (((nv : Nat) : Int) != (k : Int)) = true := by rw [bne_iff_ne]; exact ev
                rw [if_pos ⟨en, .inr ev⟩]
                simp only [TurnR]
                clear HW HM HST HPL HNL ev en ep
                go_enter Try.func38, Try.ntmps38
                go_wp2_with fail
                refine hF.mono ?_; rintro e w1 ⟨rfl, k1⟩
                go_wp2_with fail
                refine (HP.out _ k1).mono ?_; rintro e wa ⟨rfl, rfl⟩
                go_wp2_with fail
                refine (HN.out _ k1).mono ?_; rintro e wa ⟨rfl, rfl⟩
                go_wp2_with fail
                refine (MP.out _ k1).mono ?_; rintro e w2 ⟨rfl, k2⟩
                have k2 := k1.thenNo k2
                go_wp2_with fail
                refine (P8.out _ k2).mono ?_; rintro e wa ⟨rfl, rfl⟩
                go_wp2_with fail
                refine (MN.out _ k2).mono ?_; rintro e w3 ⟨rfl, k3⟩
                have k3 := k2.thenNo k3
                go_wp2_with fail
                refine (N16.out _ k3).mono ?_; rintro e wa ⟨rfl, rfl⟩
                go_wp2
                go_ret
                exact ⟨rfl, k3⟩
        · have eub : (((pv : Nat) : Int) != (k : Int)) = true := by rw [bne_iff_ne]; exact eu
          rw [if_pos ⟨ep, .inr eu⟩]
          simp only [TurnR]
          clear HW HM HST HPL HNL eu ep
          go_enter Try.func38, Try.ntmps38
          go_wp2_with fail
          refine hF.mono ?_; rintro e w1 ⟨rfl, k1⟩
          go_wp2_with fail
          refine (HP.out _ k1).mono ?_; rintro e wa ⟨rfl, rfl⟩
          go_wp2_with fail
          refine (HN.out _ k1).mono ?_; rintro e wa ⟨rfl, rfl⟩
          go_wp2_with fail
          refine (MP.out _ k1).mono ?_; rintro e w2 ⟨rfl, k2⟩
          have k2 := k1.thenNo k2
          go_wp2_with fail
          refine (P8.out _ k2).mono ?_; rintro e wa ⟨rfl, rfl⟩
          go_wp2
          go_ret
          exact ⟨rfl, k2⟩
end Go.Proofs.Ytnldmhljggcnpaa
