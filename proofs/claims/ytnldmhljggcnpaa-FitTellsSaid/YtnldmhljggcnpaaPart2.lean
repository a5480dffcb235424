import Derived.Test.YtnldmhljggcnpaaPart1
import Derived.Lib.IfaceEq
import Derived.Lib.IfaceNeq
import Derived.Laws.StructEq
import Derived.Deep.RegionHeld3
/- Contracts and plain laws, joined out of this seat's own texts: List3, List4, List5, List6, Fit, Fit2, Code, Sched. -/
namespace Go.Proofs.Ytnldmhljggcnpaa
set_option linter.unusedSimpArgs false
set_option linter.unusedVariables false
open Go.RowKit Cantle
set_option maxRecDepth 100000
set_option maxHeartbeats 2000000

theorem freeC_some {b : List UInt8} {o : Int} {c : Nat} (h : freeC b o = some c) : c < 22 ∧ 184 ≤ o ∧ o + 32 ≤ b.length ∧ o % 16 = 8 := by
  unfold freeC at h
  split at h
  · cases h
  · rename_i x hx
    split at h
    · cases h
    · have := bget_some hx
      have hr := cls_range this.2.2.2.2.1
      have hs := (isSize_iff _).1 this.2.2.2.2.1
      have := Option.some.inj h
      omega
theorem lput_some {b : List UInt8} {o : Int} {c : Nat} (h : freeC b o = some c) : lput b o = if (num b (hd c) : Int) = o ∨ (num b (hd c) ≠ 0 ∧ member b (num b (hd c)) c = false) then none else
    some (Cantle.mark (lay (if num b (hd c) = 0 then lay (lay b (o.toNat + 8) (num b (hd c))) (o.toNat + 16) 0 else lay (lay (lay b (o.toNat + 8) (num b (hd c))) (o.toNat + 16) 0) (num b (hd c) + 16) o.toNat) (hd c) o.toNat) c) := by
  unfold lput; rw [h]
theorem lput_none {b : List UInt8} {o : Int} (h : freeC b o = none) : lput b o = none := by unfold lput; rw [h]
/-- what putting, or taking, a block comes to -/
def TurnR (w w' : World) (p : Nat) (V : Value) (s : ArS) (e : Ending) : Option (List UInt8) → Prop
  | none => e = .returned (errV 3) ∧ Keep No w w'
  | some b' => e = .returned .nilIface ∧ Mut w w' p V V { s with b := b' }
theorem list_Put {w : World} {p : Nat} {V : Value} {s : ArS} (h : Ar w p V s) (o : Int) :
    Calls Try.prog 37 #[.pointer (some ⟨p, 0, none⟩), .int .i64 o] w fun e w' => TurnR w w' p V s e (lput s.b o) := by
  have hF := list_free h o
  cases hf : freeC s.b o with
  | none =>
    rw [hf] at hF
    rw [lput_none hf]
    simp only [freeR, errV, TurnR] at hF ⊢
    clear hf h
    go_enter Try.func37, Try.ntmps37
    go_wp2_with fail
    refine hF.mono ?_; rintro e w1 ⟨rfl, k1⟩
    go_wp2
    go_ret
    exact ⟨rfl, k1⟩
  | some c =>
    rw [hf] at hF
    obtain ⟨hc, ho1, ho2, ho3⟩ := freeC_some hf
    rw [lput_some hf]
    have hll := h.len_le
    have hcl := h.cap_le
    obtain ⟨k, rfl⟩ := Int.eq_ofNat_of_zero_le (show 0 ≤ o by omega)
    rw [Int.toNat_natCast]
    have hd2 : hd c ≤ 1000000 := by unfold hd; omega
    have hH := fun wx => list_head c (by omega) wx
    have HW := hid (fun wx (kk : Keep No w wx) => list_word (h.keepNo kk) (hd c : Nat) (by omega) (by omega))
    have HM := hid (fun wx (kk : Keep No w wx) => list_member (h.keepNo kk) (num s.b (hd c)) c (num_lt _ _))
    have HMK := hid (fun wx s' (hA : Ar wx p V s') => list_mark hA c hc)
    have HAR := hid h
    have hfl := num_lt s.b (hd c)
    have HFL := hid hfl
    have HMB := hid (fun hm : member s.b (num s.b (hd c)) c = true => (show num s.b (hd c) ≤ 16384 from by unfold member at hm; simp at hm; exact hm.1))
    obtain ⟨base, cap, b⟩ := s
    simp only [freeR, Int.toNat_natCast] at *
    clear hf h hfl
    generalize hHd : hd c = H at *
    clear hHd
    generalize num b H = first at *
    by_cases e1 : first = k
    · rw [if_pos (.inl (by omega))]
      simp only [TurnR]
      have e1b : (((first : Nat) : Int) == (k : Int)) = true := by rw [beq_iff_eq]; omega
      clear e1 HMB HFL
      go_enter Try.func37, Try.ntmps37
      go_wp2_with fail
      refine hF.mono ?_; rintro e w1 ⟨rfl, k1⟩
      go_wp2_with fail
      refine (hH _).mono ?_; rintro e w2 ⟨rfl, rfl⟩
      go_wp2_with fail
      refine (HW.out _ k1).mono ?_; rintro e w2 ⟨rfl, rfl⟩
      go_wp2
      go_ret
      exact ⟨rfl, k1⟩
    · have e1b : (((first : Nat) : Int) == (k : Int)) = false := by rw [beq_eq_false_iff_ne]; omega
      by_cases e2 : first = 0
      · subst e2
        rw [if_neg (by omega), if_pos rfl]
        simp only [TurnR]
        clear e1 HMB HFL HM
        have HS1 := hid (fun wx (hA : Ar wx p V ⟨base, cap, b⟩) => list_set hA ((k : Int) + 8) 0 (by omega) (by omega) (by decide))
        have HS2 := hid (fun wx b' (hA : Ar wx p V ⟨base, cap, b'⟩) => list_set hA ((k : Int) + 16) 0 (by omega) (by omega) (by decide))
        have HS3 := hid (fun wx b' (hA : Ar wx p V ⟨base, cap, b'⟩) => list_set hA (H : Nat) k (by omega) (by omega) (by omega))
        have t1 : ((k : Int) + 8).toNat = k + 8 := by omega
        have t2 : ((k : Int) + 16).toNat = k + 16 := by omega
        simp only [t1, t2, Int.toNat_natCast] at HS1 HS2 HS3
        clear t1 t2
        go_enter Try.func37, Try.ntmps37
        go_wp2_with fail
        refine hF.mono ?_; rintro e w1 ⟨rfl, k1⟩
        go_wp2_with fail
        refine (hH _).mono ?_; rintro e w2 ⟨rfl, rfl⟩
        go_wp2_with fail
        refine (HW.out _ k1).mono ?_; rintro e w2 ⟨rfl, rfl⟩
        go_wp2_with fail
        refine (HS1.out _ (HAR.out.keepNo k1)).mono ?_; rintro e w2 ⟨rfl, hA⟩
        go_wp2_with fail
        refine (HS2.out _ _ hA.ar).mono ?_; rintro e w3 ⟨rfl, hB⟩
        go_wp2_with fail
        refine (hH _).mono ?_; rintro e w4 ⟨rfl, rfl⟩
        go_wp2_with fail
        refine (HS3.out _ _ hB.ar).mono ?_; rintro e w4 ⟨rfl, hC⟩
        go_wp2_with fail
        refine (HMK.out _ _ hC.ar).mono ?_; rintro e w5 ⟨rfl, hD⟩
        go_wp2
        go_ret
        exact ⟨rfl, ((((Mut.ofNo HAR.out k1).trans hA.mut).trans hB.mut).trans hC.mut).trans hD.mut⟩
      · have e2b : (((first : Nat) : Int) != 0) = true := by rw [bne_iff_ne]; omega
        cases hm : member b first c with
        | false =>
          rw [hm] at HM
          rw [if_pos (.inr ⟨e2, rfl⟩)]
          simp only [TurnR]
          clear e1 e2 HMB HFL hm
          go_enter Try.func37, Try.ntmps37
          go_wp2_with fail
          refine hF.mono ?_; rintro e w1 ⟨rfl, k1⟩
          go_wp2_with fail
          refine (hH _).mono ?_; rintro e w2 ⟨rfl, rfl⟩
          go_wp2_with fail
          refine (HW.out _ k1).mono ?_; rintro e w2 ⟨rfl, rfl⟩
          go_wp2_with fail
          refine (HM.out _ k1).mono ?_; rintro e w2 ⟨rfl, k2⟩
          go_wp2
          go_ret
          exact ⟨rfl, k1.thenNo k2⟩
        | true =>
          rw [hm] at HM
          have hf1 := HMB.out hm
          have hfl := HFL.out
          rw [if_neg (by simp; omega), if_neg e2]
          simp only [TurnR]
          have HS1 := hid (fun wx (hA : Ar wx p V ⟨base, cap, b⟩) => list_set hA ((k : Int) + 8) first (by omega) (by omega) hfl)
          have HS2 := hid (fun wx b' (hA : Ar wx p V ⟨base, cap, b'⟩) => list_set hA ((k : Int) + 16) 0 (by omega) (by omega) (by decide))
          have HS4 := hid (fun wx b' (hA : Ar wx p V ⟨base, cap, b'⟩) => list_set hA ((first : Int) + 16) k (by omega) (by omega) (by omega))
          have HS3 := hid (fun wx b' (hA : Ar wx p V ⟨base, cap, b'⟩) => list_set hA (H : Nat) k (by omega) (by omega) (by omega))
          have t1 : ((k : Int) + 8).toNat = k + 8 := by omega
          have t2 : ((k : Int) + 16).toNat = k + 16 := by omega
          have t3 : ((first : Int) + 16).toNat = first + 16 := by omega
          simp only [t1, t2, t3, Int.toNat_natCast] at HS1 HS2 HS3 HS4
          clear t1 t2 t3 e1 e2 HMB HFL hm hfl
          go_enter Try.func37, Try.ntmps37
          go_wp2_with fail
          refine hF.mono ?_; rintro e w1 ⟨rfl, k1⟩
          go_wp2_with fail
          refine (hH _).mono ?_; rintro e w2 ⟨rfl, rfl⟩
          go_wp2_with fail
          refine (HW.out _ k1).mono ?_; rintro e w2 ⟨rfl, rfl⟩
          go_wp2_with fail
          refine (HM.out _ k1).mono ?_; rintro e w2 ⟨rfl, k2⟩
          have k2 := k1.thenNo k2
          go_wp2_with fail
          refine (HS1.out _ (HAR.out.keepNo k2)).mono ?_; rintro e w3 ⟨rfl, hA⟩
          go_wp2_with fail
          refine (HS2.out _ _ hA.ar).mono ?_; rintro e w4 ⟨rfl, hB⟩
          go_wp2_with fail
          refine (HS4.out _ _ hB.ar).mono ?_; rintro e w5 ⟨rfl, hB2⟩
          go_wp2_with fail
          refine (hH _).mono ?_; rintro e w6 ⟨rfl, rfl⟩
          go_wp2_with fail
          refine (HS3.out _ _ hB2.ar).mono ?_; rintro e w6 ⟨rfl, hC⟩
          go_wp2_with fail
          refine (HMK.out _ _ hC.ar).mono ?_; rintro e w7 ⟨rfl, hD⟩
          go_wp2
          go_ret
          exact ⟨rfl, (((((Mut.ofNo HAR.out k2).trans hA.mut).trans hB.mut).trans hB2.mut).trans hC.mut).trans hD.mut⟩
end Go.Proofs.Ytnldmhljggcnpaa
namespace Go.Proofs.Ytnldmhljggcnpaa
set_option linter.unusedSimpArgs false
set_option linter.unusedVariables false
open Go.RowKit Cantle
set_option maxRecDepth 100000
set_option maxHeartbeats 4000000

theorem ltake_none {b : List UInt8} {o : Int} (h : freeC b o = none) : ltake b o = none := by unfold ltake; rw [h]
theorem ltake_some {b : List UInt8} {o : Int} {c : Nat} (h : freeC b o = some c) : ltake b o =
    if num b (o.toNat + 16) = 0 ∧ (num b (hd c) : Int) ≠ o then none else
    if num b (o.toNat + 16) ≠ 0 ∧ (member b (num b (o.toNat + 16)) c = false ∨ (num b (num b (o.toNat + 16) + 8) : Int) ≠ o) then none else
    if num b (o.toNat + 8) ≠ 0 ∧ (member b (num b (o.toNat + 8)) c = false ∨ (num b (num b (o.toNat + 8) + 16) : Int) ≠ o) then none else
    some (Cantle.mark (if num b (o.toNat + 8) = 0 then (if num b (o.toNat + 16) = 0 then lay b (hd c) (num b (o.toNat + 8)) else lay b (num b (o.toNat + 16) + 8) (num b (o.toNat + 8)))
      else lay (if num b (o.toNat + 16) = 0 then lay b (hd c) (num b (o.toNat + 8)) else lay b (num b (o.toNat + 16) + 8) (num b (o.toNat + 8))) (num b (o.toNat + 8) + 16) (num b (o.toNat + 16))) c) := by
  unfold ltake; rw [h]
theorem member_le {b : List UInt8} {a : Nat} {c : Int} (h : member b a c = true) : a ≤ 16384 := by
  unfold member at h; simp at h; exact h.1
theorem list_Take {w : World} {p : Nat} {V : Value} {s : ArS} (h : Ar w p V s) (o : Int) :
    Calls Try.prog 38 #[.pointer (some ⟨p, 0, none⟩), .int .i64 o] w fun e w' => TurnR w w' p V s e (ltake s.b o) := by
  have hF := list_free h o
  cases hf : freeC s.b o with
  | none =>
    rw [hf] at hF
    rw [ltake_none hf]
    simp only [freeR, errV, TurnR] at hF ⊢
    clear hf h
    go_enter Try.func38, Try.ntmps38
    go_wp2_with fail
    refine hF.mono ?_; rintro e w1 ⟨rfl, k1⟩
    go_wp2
    go_ret
    exact ⟨rfl, k1⟩
  | some c =>
    rw [hf] at hF
    obtain ⟨hc, ho1, ho2, ho3⟩ := freeC_some hf
    rw [ltake_some hf]
    have hll := h.len_le
    have hcl := h.cap_le
    obtain ⟨k, rfl⟩ := Int.eq_ofNat_of_zero_le (show 0 ≤ o by omega)
    rw [Int.toNat_natCast]
    have hd2 : hd c ≤ 1000000 := by unfold hd; omega
    have hH := fun wx => list_head c (by omega) wx
    have HW := hid (fun wx (kk : Keep No w wx) o h0 h1 => list_word (h.keepNo kk) o h0 h1)
    have HM := hid (fun wx (kk : Keep No w wx) a ha => list_member (h.keepNo kk) a c ha)
    have HMK := hid (fun wx s' (hA : Ar wx p V s') => list_mark hA c hc)
    have HST := hid (fun wx s' (hA : Ar wx p V s') o v h0 h1 hv => list_set hA o v h0 h1 hv)
    have HAR := hid h
    have HP := hid (fun wx (kk : Keep No w wx) => HW.out wx kk ((k : Int) + 16) (by omega) (by omega))
    have HN := hid (fun wx (kk : Keep No w wx) => HW.out wx kk ((k : Int) + 8) (by omega) (by omega))
    have HH := hid (fun wx (kk : Keep No w wx) => HW.out wx kk (hd c : Nat) (by omega) (by omega))
    rw [show ((k : Int) + 16).toNat = k + 16 from by omega] at HP
    rw [show ((k : Int) + 8).toNat = k + 8 from by omega] at HN
    rw [Int.toNat_natCast] at HH
    have hpl := num_lt s.b (k + 16)
    have hnl := num_lt s.b (k + 8)
    obtain ⟨base, cap, b⟩ := s
    simp only [freeR] at *
    clear hf h
    generalize hHd : hd c = H at *
    clear hHd
    generalize num b H = hv at *
    generalize num b (k + 16) = p' at *
    generalize num b (k + 8) = n at *
    have HPL := hid hpl
    have HNL := hid hnl
    clear hpl hnl
    by_cases ep : p' = 0
    · subst ep
      by_cases eh : (hv : Int) = k
      · have ehb : (((hv : Nat) : Int) != (k : Int)) = false := by rw [bne_eq_false_iff_eq]; exact eh
        rw [if_neg (by simp [eh]), if_neg (by simp)]
        clear eh
        by_cases en : n = 0
        · subst en
          rw [if_neg (by simp), if_pos rfl, if_pos rfl]
          simp only [TurnR]
          have S1 := hid (fun wx s' (hA : Ar wx p V s') => HST.out wx s' hA (H : Nat) 0 (by omega) (by omega) (by decide))
          rw [Int.toNat_natCast] at S1
          clear HW HM HST HPL HNL
          go_enter Try.func38, Try.ntmps38
          go_wp2_with fail
          refine hF.mono ?_; rintro e w1 ⟨rfl, k1⟩
          go_wp2_with fail
          refine (HP.out _ k1).mono ?_; rintro e wa ⟨rfl, rfl⟩
          go_wp2_with fail
          refine (HN.out _ k1).mono ?_; rintro e wa ⟨rfl, rfl⟩
          go_wp2_with fail
          refine (hH _).mono ?_; rintro e wa ⟨rfl, rfl⟩
          go_wp2_with fail
          refine (HH.out _ k1).mono ?_; rintro e wa ⟨rfl, rfl⟩
          go_wp2_with fail
          refine (hH _).mono ?_; rintro e wa ⟨rfl, rfl⟩
          go_wp2_with fail
          refine (S1.out _ _ (HAR.out.keepNo k1)).mono ?_; rintro e w2 ⟨rfl, m2⟩
          go_wp2_with fail
          refine (HMK.out _ _ m2.ar).mono ?_; rintro e w3 ⟨rfl, m3⟩
          go_wp2
          go_ret
          exact ⟨rfl, (((Mut.ofNo HAR.out k1).trans m2.mut).trans m3.mut)⟩
        · have enb : (((n : Nat) : Int) != 0) = true := by rw [bne_iff_ne]; omega
          have MN := hid (fun wx (kk : Keep No w wx) => HM.out wx kk n HNL.out)
          cases hmn : member b n c with
          | false =>
            rw [hmn] at MN
            rw [if_pos ⟨en, .inl rfl⟩]
            simp only [TurnR]
            clear HW HM HST HPL HNL hmn en
            go_enter Try.func38, Try.ntmps38
            go_wp2_with fail
            refine hF.mono ?_; rintro e w1 ⟨rfl, k1⟩
            go_wp2_with fail
            refine (HP.out _ k1).mono ?_; rintro e wa ⟨rfl, rfl⟩
            go_wp2_with fail
            refine (HN.out _ k1).mono ?_; rintro e wa ⟨rfl, rfl⟩
            go_wp2_with fail
            refine (hH _).mono ?_; rintro e wa ⟨rfl, rfl⟩
            go_wp2_with fail
            refine (HH.out _ k1).mono ?_; rintro e wa ⟨rfl, rfl⟩
            go_wp2_with fail
            refine (MN.out _ k1).mono ?_; rintro e w2 ⟨rfl, k2⟩
            have k2 := k1.thenNo k2
            go_wp2
            go_ret
            exact ⟨rfl, k2⟩
          | true =>
            rw [hmn] at MN
            have hn16 := member_le hmn
            have N16 := hid (fun wx (kk : Keep No w wx) => HW.out wx kk ((n : Int) + 16) (by omega) (by omega))
            rw [show ((n : Int) + 16).toNat = n + 16 from by omega] at N16
            clear hmn
            generalize num b (n + 16) = nv at *
            by_cases ev : (nv : Int) = k
            · have evb : (((nv : Nat) : Int) != (k : Int)) = false := by rw [bne_eq_false_iff_eq]; exact ev
              rw [if_neg (by simp [ev]), if_neg en, if_pos rfl]
              simp only [TurnR]
              have hnl := HNL.out
              have hpl := HPL.out
              have S1 := hid (fun wx s' (hA : Ar wx p V s') => HST.out wx s' hA (H : Nat) n (by omega) (by omega) hnl)
              rw [Int.toNat_natCast] at S1
              have S2 := hid (fun wx s' (hA : Ar wx p V s') => HST.out wx s' hA ((n : Int) + 16) 0 (by omega) (by omega) (by decide))
              rw [show ((n : Int) + 16).toNat = n + 16 from by omega] at S2
              clear HW HM HST HPL HNL ev en hnl hpl
              go_enter Try.func38, Try.ntmps38
              go_wp2_with fail
              refine hF.mono ?_; rintro e w1 ⟨rfl, k1⟩
              go_wp2_with fail
              refine (HP.out _ k1).mono ?_; rintro e wa ⟨rfl, rfl⟩
              go_wp2_with fail
              refine (HN.out _ k1).mono ?_; rintro e wa ⟨rfl, rfl⟩
              go_wp2_with fail
              refine (hH _).mono ?_; rintro e wa ⟨rfl, rfl⟩
              go_wp2_with fail
              refine (HH.out _ k1).mono ?_; rintro e wa ⟨rfl, rfl⟩
              go_wp2_with fail
              refine (MN.out _ k1).mono ?_; rintro e w2 ⟨rfl, k2⟩
              have k2 := k1.thenNo k2
              go_wp2_with fail
              refine (N16.out _ k2).mono ?_; rintro e wa ⟨rfl, rfl⟩
              go_wp2_with fail
              refine (hH _).mono ?_; rintro e wa ⟨rfl, rfl⟩
              go_wp2_with fail
              refine (S1.out _ _ (HAR.out.keepNo k2)).mono ?_; rintro e w3 ⟨rfl, m3⟩
              go_wp2_with fail
              refine (S2.out _ _ m3.ar).mono ?_; rintro e w4 ⟨rfl, m4⟩
              go_wp2_with fail
              refine (HMK.out _ _ m4.ar).mono ?_; rintro e w5 ⟨rfl, m5⟩
              go_wp2
              go_ret
              exact ⟨rfl, ((((Mut.ofNo HAR.out k2).trans m3.mut).trans m4.mut).trans m5.mut)⟩
            · have evb : (((nv : Nat) : Int) != (k : Int)) = true := by rw [bne_iff_ne]; exact ev
              rw [if_pos ⟨en, .inr ev⟩]
              simp only [TurnR]
              clear HW HM HST HPL HNL ev en
              go_enter Try.func38, Try.ntmps38
              go_wp2_with fail
              refine hF.mono ?_; rintro e w1 ⟨rfl, k1⟩
              go_wp2_with fail
              refine (HP.out _ k1).mono ?_; rintro e wa ⟨rfl, rfl⟩
              go_wp2_with fail
              refine (HN.out _ k1).mono ?_; rintro e wa ⟨rfl, rfl⟩
              go_wp2_with fail
              refine (hH _).mono ?_; rintro e wa ⟨rfl, rfl⟩
              go_wp2_with fail
              refine (HH.out _ k1).mono ?_; rintro e wa ⟨rfl, rfl⟩
              go_wp2_with fail
              refine (MN.out _ k1).mono ?_; rintro e w2 ⟨rfl, k2⟩
              have k2 := k1.thenNo k2
              go_wp2_with fail
              refine (N16.out _ k2).mono ?_; rintro e wa ⟨rfl, rfl⟩
              go_wp2
              go_ret
              exact ⟨rfl, k2⟩
      · have ehb : (((hv : Nat) : Int) != (k : Int)) = true := by rw [bne_iff_ne]; exact eh
        rw [if_pos ⟨rfl, eh⟩]
        simp only [TurnR]
        clear HW HM HST HPL HNL eh
        go_enter Try.func38, Try.ntmps38
        go_wp2_with fail
        refine hF.mono ?_; rintro e w1 ⟨rfl, k1⟩
        go_wp2_with fail
        refine (HP.out _ k1).mono ?_; rintro e wa ⟨rfl, rfl⟩
        go_wp2_with fail
        refine (HN.out _ k1).mono ?_; rintro e wa ⟨rfl, rfl⟩
        go_wp2_with fail
        refine (hH _).mono ?_; rintro e wa ⟨rfl, rfl⟩
        go_wp2_with fail
        refine (HH.out _ k1).mono ?_; rintro e wa ⟨rfl, rfl⟩
        go_wp2
        go_ret
        exact ⟨rfl, k1⟩
    · have epb : (((p' : Nat) : Int) == 0) = false := by rw [beq_eq_false_iff_ne]; omega
      have epc : (((p' : Nat) : Int) != 0) = true := by rw [bne_iff_ne]; omega
      rw [if_neg (by simp [ep])]
      have MP := hid (fun wx (kk : Keep No w wx) => HM.out wx kk p' HPL.out)
      cases hmp : member b p' c with
      | false =>
        rw [hmp] at MP
        rw [if_pos ⟨ep, .inl rfl⟩]
        simp only [TurnR]
        clear HW HM HST HPL HNL hmp ep
        go_enter Try.func38, Try.ntmps38
        go_wp2_with fail
        refine hF.mono ?_; rintro e w1 ⟨rfl, k1⟩
        go_wp2_with fail
        refine (HP.out _ k1).mono ?_; rintro e wa ⟨rfl, rfl⟩
        go_wp2_with fail
        refine (HN.out _ k1).mono ?_; rintro e wa ⟨rfl, rfl⟩
        go_wp2_with fail
        refine (MP.out _ k1).mono ?_; rintro e w2 ⟨rfl, k2⟩
        have k2 := k1.thenNo k2
        go_wp2
        go_ret
        exact ⟨rfl, k2⟩
      | true =>
        rw [hmp] at MP
        have hp16 := member_le hmp
        have P8 := hid (fun wx (kk : Keep No w wx) => HW.out wx kk ((p' : Int) + 8) (by omega) (by omega))
        rw [show ((p' : Int) + 8).toNat = p' + 8 from by omega] at P8
        clear hmp
        generalize num b (p' + 8) = pv at *
        by_cases eu : (pv : Int) = k
        · have eub : (((pv : Nat) : Int) != (k : Int)) = false := by rw [bne_eq_false_iff_eq]; exact eu
          rw [if_neg (by simp [eu])]
          clear eu
          by_cases en : n = 0
          · subst en
            rw [if_neg (by simp), if_pos rfl, if_neg ep]
            simp only [TurnR]
            have S1 := hid (fun wx s' (hA : Ar wx p V s') => HST.out wx s' hA ((p' : Int) + 8) 0 (by omega) (by omega) (by decide))
            rw [show ((p' : Int) + 8).toNat = p' + 8 from by omega] at S1
            clear HW HM HST HPL HNL
            clear ep
            go_enter Try.func38, Try.ntmps38
            go_wp2_with fail
            refine hF.mono ?_; rintro e w1 ⟨rfl, k1⟩
            go_wp2_with fail
            refine (HP.out _ k1).mono ?_; rintro e wa ⟨rfl, rfl⟩
            go_wp2_with fail
            refine (HN.out _ k1).mono ?_; rintro e wa ⟨rfl, rfl⟩
            go_wp2_with fail
            refine (MP.out _ k1).mono ?_; rintro e w2 ⟨rfl, k2⟩
            have k2 := k1.thenNo k2
            go_wp2_with fail
            refine (P8.out _ k2).mono ?_; rintro e wa ⟨rfl, rfl⟩
            go_wp2_with fail
            refine (S1.out _ _ (HAR.out.keepNo k2)).mono ?_; rintro e w3 ⟨rfl, m3⟩
            go_wp2_with fail
            refine (HMK.out _ _ m3.ar).mono ?_; rintro e w4 ⟨rfl, m4⟩
            go_wp2
            go_ret
            exact ⟨rfl, (((Mut.ofNo HAR.out k2).trans m3.mut).trans m4.mut)⟩
          · have enb : (((n : Nat) : Int) != 0) = true := by rw [bne_iff_ne]; omega
            have MN := hid (fun wx (kk : Keep No w wx) => HM.out wx kk n HNL.out)
            cases hmn : member b n c with
            | false =>
              rw [hmn] at MN
              rw [if_pos ⟨en, .inl rfl⟩]
              simp only [TurnR]
              clear HW HM HST HPL HNL hmn en ep
              go_enter Try.func38, Try.ntmps38
              go_wp2_with fail
              refine hF.mono ?_; rintro e w1 ⟨rfl, k1⟩
              go_wp2_with fail
              refine (HP.out _ k1).mono ?_; rintro e wa ⟨rfl, rfl⟩
              go_wp2_with fail
              refine (HN.out _ k1).mono ?_; rintro e wa ⟨rfl, rfl⟩
              go_wp2_with fail
              refine (MP.out _ k1).mono ?_; rintro e w2 ⟨rfl, k2⟩
              have k2 := k1.thenNo k2
              go_wp2_with fail
              refine (P8.out _ k2).mono ?_; rintro e wa ⟨rfl, rfl⟩
              go_wp2_with fail
              refine (MN.out _ k2).mono ?_; rintro e w3 ⟨rfl, k3⟩
              have k3 := k2.thenNo k3
              go_wp2
              go_ret
              exact ⟨rfl, k3⟩
            | true =>
              rw [hmn] at MN
              have hn16 := member_le hmn
              have N16 := hid (fun wx (kk : Keep No w wx) => HW.out wx kk ((n : Int) + 16) (by omega) (by omega))
              rw [show ((n : Int) + 16).toNat = n + 16 from by omega] at N16
              clear hmn
              generalize num b (n + 16) = nv at *
              by_cases ev : (nv : Int) = k
              · have evb : (((nv : Nat) : Int) != (k : Int)) = false := by rw [bne_eq_false_iff_eq]; exact ev
                rw [if_neg (by simp [ev]), if_neg en, if_neg ep]
                simp only [TurnR]
                have hnl := HNL.out
                have hpl := HPL.out
                have S1 := hid (fun wx s' (hA : Ar wx p V s') => HST.out wx s' hA ((p' : Int) + 8) n (by omega) (by omega) hnl)
                rw [show ((p' : Int) + 8).toNat = p' + 8 from by omega] at S1
                have S2 := hid (fun wx s' (hA : Ar wx p V s') => HST.out wx s' hA ((n : Int) + 16) p' (by omega) (by omega) hpl)
                rw [show ((n : Int) + 16).toNat = n + 16 from by omega] at S2
                clear HW HM HST HPL HNL ev en hnl hpl ep
                go_enter Try.func38, Try.ntmps38
                go_wp2_with fail
                refine hF.mono ?_; rintro e w1 ⟨rfl, k1⟩
                go_wp2_with fail
                refine (HP.out _ k1).mono ?_; rintro e wa ⟨rfl, rfl⟩
                go_wp2_with fail
                refine (HN.out _ k1).mono ?_; rintro e wa ⟨rfl, rfl⟩
                go_wp2_with fail
                refine (MP.out _ k1).mono ?_; rintro e w2 ⟨rfl, k2⟩
                have k2 := k1.thenNo k2
                go_wp2_with fail
                refine (P8.out _ k2).mono ?_; rintro e wa ⟨rfl, rfl⟩
                go_wp2_with fail
                refine (MN.out _ k2).mono ?_; rintro e w3 ⟨rfl, k3⟩
                have k3 := k2.thenNo k3
                go_wp2_with fail
                refine (N16.out _ k3).mono ?_; rintro e wa ⟨rfl, rfl⟩
                go_wp2_with fail
                refine (S1.out _ _ (HAR.out.keepNo k3)).mono ?_; rintro e w4 ⟨rfl, m4⟩
                go_wp2_with fail
                refine (S2.out _ _ m4.ar).mono ?_; rintro e w5 ⟨rfl, m5⟩
                go_wp2_with fail
                refine (HMK.out _ _ m5.ar).mono ?_; rintro e w6 ⟨rfl, m6⟩
                go_wp2
                go_ret
                exact ⟨rfl, ((((Mut.ofNo HAR.out k3).trans m4.mut).trans m5.mut).trans m6.mut)⟩
              · have evb : (((nv : Nat) : Int) != (k : Int)) = true := by rw [bne_iff_ne]; exact ev
                rw [if_pos ⟨en, .inr ev⟩]
                simp only [TurnR]
                clear HW HM HST HPL HNL ev en ep
                go_enter Try.func38, Try.ntmps38
                go_wp2_with fail
                refine hF.mono ?_; rintro e w1 ⟨rfl, k1⟩
                go_wp2_with fail
                refine (HP.out _ k1).mono ?_; rintro e wa ⟨rfl, rfl⟩
                go_wp2_with fail
                refine (HN.out _ k1).mono ?_; rintro e wa ⟨rfl, rfl⟩
                go_wp2_with fail
                refine (MP.out _ k1).mono ?_; rintro e w2 ⟨rfl, k2⟩
                have k2 := k1.thenNo k2
                go_wp2_with fail
                refine (P8.out _ k2).mono ?_; rintro e wa ⟨rfl, rfl⟩
                go_wp2_with fail
                refine (MN.out _ k2).mono ?_; rintro e w3 ⟨rfl, k3⟩
                have k3 := k2.thenNo k3
                go_wp2_with fail
                refine (N16.out _ k3).mono ?_; rintro e wa ⟨rfl, rfl⟩
                go_wp2
                go_ret
                exact ⟨rfl, k3⟩
        · have eub : (((pv : Nat) : Int) != (k : Int)) = true := by rw [bne_iff_ne]; exact eu
          rw [if_pos ⟨ep, .inr eu⟩]
          simp only [TurnR]
          clear HW HM HST HPL HNL eu ep
          go_enter Try.func38, Try.ntmps38
          go_wp2_with fail
          refine hF.mono ?_; rintro e w1 ⟨rfl, k1⟩
          go_wp2_with fail
          refine (HP.out _ k1).mono ?_; rintro e wa ⟨rfl, rfl⟩
          go_wp2_with fail
          refine (HN.out _ k1).mono ?_; rintro e wa ⟨rfl, rfl⟩
          go_wp2_with fail
          refine (MP.out _ k1).mono ?_; rintro e w2 ⟨rfl, k2⟩
          have k2 := k1.thenNo k2
          go_wp2_with fail
          refine (P8.out _ k2).mono ?_; rintro e wa ⟨rfl, rfl⟩
          go_wp2
          go_ret
          exact ⟨rfl, k2⟩
end Go.Proofs.Ytnldmhljggcnpaa
namespace Go.Proofs.Ytnldmhljggcnpaa
set_option linter.unusedSimpArgs false
set_option linter.unusedVariables false
open Go.RowKit Cantle
set_option maxRecDepth 100000
set_option maxHeartbeats 4000000

/-! ### rows of numbers -/
def intV (x : Int) : Value := .int .i64 x
def iv (l : List Int) : List Value := l.map intV
theorem iv_length (l : List Int) : (iv l).length = l.length := by simp [iv]
theorem iv_append (a b : List Int) : iv (a ++ b) = iv a ++ iv b := by simp [iv]
theorem iv_one (l : List Int) : ∀ u ∈ iv l, u.oneCell' = true := by
  intro u hu
  simp only [iv, List.mem_map] at hu
  obtain ⟨x, _, rfl⟩ := hu
  rfl
theorem iv_get? (l : List Int) (j : Nat) (h : j < l.length) : (iv l)[j]? = some (.int .i64 l[j]) := by
  rw [iv, List.getElem?_map, List.getElem?_eq_getElem h]; rfl
def OwnI (w : World) (v : Value) (l : List Int) : Prop := w.ownsRow 0 3 1 v l.length (iv l)
theorem OwnI.rd {w : World} {v : Value} {l : List Int} (h : OwnI w v l) : Rd w (fun i => v.ownBlock = some i) v l.length (iv l) := Rd.ofOwn h
theorem OwnI.keep {S : Nat → Prop} {w w' : World} {v : Value} {l : List Int} (h : OwnI w v l) (k : Keep S w w') (hs : ∀ i, v.ownBlock = some i → ¬ S i) : OwnI w' v l := k.owns hs h
theorem OwnI.keepNo {w w' : World} {v : Value} {l : List Int} (h : OwnI w v l) (k : Keep No w w') : OwnI w' v l := h.keep k (fun _ _ q => q)
theorem OwnI.lt {w : World} {v : Value} {l : List Int} (h : OwnI w v l) : ∀ k, v.ownBlock = some k → k < w.heap.size := fun k hk => (World.ownsRow.lt h k hk).2
theorem OwnI.nil (w : World) : OwnI w (.slice none 0 0) [] := World.ownsRow_nil w 0 _ 1
theorem OwnI.form {w : World} {v : Value} {l : List Int} (h : OwnI w v l) : ∃ A c, v = .slice A l.length c ∧ l.length ≤ c ∧ c ≤ 9223372036854775807 := h.rd.form'
structure NewI (w w' : World) (v : Value) (l : List Int) : Prop where
  keep : Keep No w w'
  own : OwnI w' v l
  ge : ∀ k, v.ownBlock = some k → w.heap.size ≤ k
theorem NewI.rd {w w' : World} {v : Value} {l : List Int} (h : NewI w w' v l) : Rd w' (fun i => w.heap.size ≤ i) v l.length (iv l) := h.own.rd.mono fun i _ hi => h.ge i hi
theorem append_int {w : World} {v : Value} {l : List Int} (ho : OwnI w v l) (x : Int) (hm : l.length ≤ 1000000) (ty : TypeId) :
    ∃ g cap w', (Builtin.append_ #[43, 43] ty #[v, .slice (some ⟨w.heap.size, 0, none⟩) 1 1]).run Try.prog (w.alloc (.cells #[.int .i64 x] 3)) = .ok (.slice (some ⟨g, 0, none⟩) (l.length + 1) cap) w' ∧
      OwnI w' (.slice (some ⟨g, 0, none⟩) (l.length + 1) cap) (l ++ [x]) ∧ Keep (fun i => v.ownBlock = some i) w w' ∧ (v.ownBlock = some g ∨ w.heap.size < g) ∧ g < w'.heap.size := by
  obtain ⟨i0, hi, hz0, hz1, hz2⟩ := info_parts info_int
  have ka := keep_alloc w (.cells #[.int .i64 x] 3)
  have hx : Rd (w.alloc (.cells #[.int .i64 x] 3)) (fun _ => True) (.slice (some ⟨w.heap.size, 0, none⟩) 1 1) 1 (iv [x]) :=
    ⟨_, 1, rfl, Nat.le_refl _, by omega, fun _ => ⟨w.heap.size, 0, rfl, trivial, by simp, fun j u hu => by
      rw [cell_blk (heap_alloc_new w _), Nat.zero_add]
      simpa [iv, intV] using hu⟩⟩
  obtain ⟨v', w', hr, h⟩ := append_own (P := Try.prog) _ 0 43 ty 3 i0 (.int .i64 0) 1 8 Try.underlying43 hi hz0 hz1 hz2 rfl (by decide) v _ _ (ho.keepNo ka) _ _ _ _ hx rfl
    (iv_one _) (by unfold maxLen; omega) (by omega) (Nat.zero_le _)
  obtain ⟨g, cap, rfl, _, hg⟩ := h.own.form (by omega)
  refine ⟨g, cap, w', hr, ?_, (ka.no).trans h.keep, ?_, hg⟩
  · have := h.own
    unfold OwnI
    rwa [iv_append, List.length_append]
  · rcases h.lies g rfl with h | h
    · exact .inl h
    · right; simp at h; omega
theorem NewI.snoc {w wr w1 : World} {v : Value} {l : List Int} (h : NewI w wr v l) (k : Keep No wr w1) (x : Int) (hm : l.length ≤ 1000000) (ty : TypeId) :
    ∃ g cap w', (Builtin.append_ #[43, 43] ty #[v, .slice (some ⟨w1.heap.size, 0, none⟩) 1 1]).run Try.prog (w1.alloc (.cells #[.int .i64 x] 3)) = .ok (.slice (some ⟨g, 0, none⟩) (l.length + 1) cap) w' ∧
      NewI w w' (.slice (some ⟨g, 0, none⟩) (l.length + 1) cap) (l ++ [x]) := by
  obtain ⟨g, cap, w', h1, h2, h3, h4, h5⟩ := append_int (h.own.keepNo k) x hm ty
  refine ⟨g, cap, w', h1, (h.keep.thenNo k).then h3 (fun i hi e => by have := h.ge i e; omega), h2, fun i hi => ?_⟩
  have hgi : g = i := Option.some.inj hi
  subst hgi
  have := h.keep.size
  have := k.size
  rcases h4 with q | q
  · exact h.ge _ q
  · omega
/-! ### list.All -/
def slLen : Value → Nat
  | .slice _ n _ => n
  | _ => 0
/-- what holds ahead of each round -/
def AllRel (w wr : World) (b : List UInt8) (c : Nat) (h0 : Nat) (vo : Value) (at_ last : Nat) : Prop :=
  ∃ (done : List Int) (f : Nat), chain b c 1024 h0 0 = (chain b c f at_ last).map (done ++ ·) ∧ f + done.length = 1024 ∧ at_ < 18446744073709551616 ∧ last < 18446744073709551616 ∧ NewI w wr vo done
def allR (w w' : World) (e : Ending) : Option (List Int) → Prop
  | none => e = .returned (.tuple #[.slice none 0 0, errV 3]) ∧ Keep No w w'
  | some l => ∃ v, e = .returned (.tuple #[v, .nilIface]) ∧ NewI w w' v l
theorem list_All_no {w : World} (p : Nat) (c : Int) (hc : ¬ (0 ≤ c ∧ c < 22)) :
    Calls Try.prog 39 #[.pointer (some ⟨p, 0, none⟩), .int .i64 c] w fun e w' => e = .returned (.tuple #[.slice none 0 0, errV 1]) ∧ w = w' := by
  by_cases g : c < 0
  · clear hc
    go_enter Try.func39, Try.ntmps39
    go_wp2
    go_ret2
    exact ⟨rfl, rfl⟩
  · have g2 : ¬ c < 22 := by omega
    clear hc
    go_enter Try.func39, Try.ntmps39
    go_wp2
    go_ret2
    exact ⟨rfl, rfl⟩
theorem shr_bit (N c : Nat) (hN : N < 18446744073709551616) : bits .and .u64 ((N : Int) / 2 ^ c) 1 = ((N / 2 ^ c % 2 : Nat) : Int) := by
  have e : ((N : Int) / 2 ^ c) = ((N / 2 ^ c : Nat) : Int) := by rw [Int.natCast_ediv]; simp
  have hl : N / 2 ^ c < 18446744073709551616 := Nat.lt_of_le_of_lt (Nat.div_le_self _ _) hN
  rw [e]
  have := u64_and_nat (N / 2 ^ c) 1 hl (by decide)
  rw [nat_mask1] at this
  exact this
theorem testBit_mod (N c : Nat) : N.testBit c = decide (N / 2 ^ c % 2 = 1) := by
  rw [Nat.testBit_eq_decide_div_mod_eq]
theorem list_All {w : World} {p : Nat} {V : Value} {s : ArS} (h : Ar w p V s) (c : Nat) (hc : c < 22) :
    Calls Try.prog 39 #[.pointer (some ⟨p, 0, none⟩), .int .i64 c] w fun e w' => allR w w' e (lall s.b c) := by
  have hL := arena_Len h
  have hll := h.len_le
  have hcl := h.cap_le
  have hH := fun wx => list_head c (by omega) wx
  have hd2 : hd c ≤ 1000000 := by unfold hd; omega
  have HW := hid (fun wx (kk : Keep No w wx) o h0 h1 => list_word (h.keepNo kk) o h0 h1)
  have HM := hid (fun wx (kk : Keep No w wx) a ha => list_member (h.keepNo kk) a c ha)
  clear h
  generalize s.b = b at *
  by_cases g0 : b.length < 184
  · have hn : lall b c = none := by unfold lall; rw [if_pos g0]
    rw [hn]
    simp only [allR]
    have g0' : ((b.length : Nat) : Int) < 184 := by omega
    clear hn HW HM g0
    generalize b.length = len at *
    go_enter Try.func39, Try.ntmps39
    go_wp2_with fail
    refine hL.mono ?_; rintro e w1 ⟨rfl, rfl⟩
    go_wp2
    go_ret2
    exact ⟨rfl, Keep.refl _ _⟩
  · have g0' : ¬ ((b.length : Nat) : Int) < 184 := by omega
    have hWH := HW.out w (Keep.refl _ _) (hd c : Nat) (by omega) (by omega)
    have hW0 := HW.out w (Keep.refl _ _) 0 (by omega) (by omega)
    rw [Int.toNat_natCast] at hWH
    rw [Int.toNat_zero] at hW0
    have hat := num_lt b (hd c)
    have hla : lall b c = if (num b 0).testBit c ≠ decide (num b (hd c) ≠ 0) then none else chain b c 1024 (num b (hd c)) 0 := by unfold lall; rw [if_neg g0]
    rw [testBit_mod] at hla
    have hsb := shr_bit (num b 0) c (num_lt b 0)
    have HAT := hid hat
    have HNA := hid (fun o => num_lt b o)
    rw [hla]
    clear hla g0 hat
    generalize hd c = H at *
    generalize b.length = len at *
    generalize hA0 : num b H = at0 at *
    clear hA0
    generalize num b 0 = N at *
    generalize hMM : N / 2 ^ c % 2 = M at *
    clear hMM
    by_cases e1 : M = 1
    · have e1b : (((M : Nat) : Int) == 1) = true := by rw [beq_iff_eq]; omega
      by_cases e2 : at0 = 0
      · have e2b : (((at0 : Nat) : Int) != 0) = false := by rw [bne_eq_false_iff_eq]; omega
        rw [if_pos (by simp [e1, e2])]
        simp only [allR]
        clear HW HM e1 e2
        go_enter Try.func39, Try.ntmps39
        go_wp2_with fail
        refine hL.mono ?_; rintro e w1 ⟨rfl, rfl⟩
        go_wp2_with fail
        refine (hH _).mono ?_; rintro e w1 ⟨rfl, rfl⟩
        go_wp2_with fail
        refine hWH.mono ?_; rintro e w1 ⟨rfl, rfl⟩
        go_wp2_with fail
        refine hW0.mono ?_; rintro e w1 ⟨rfl, rfl⟩
        go_wp2
        go_ret2
        exact ⟨rfl, Keep.refl _ _⟩
      · have e2b : (((at0 : Nat) : Int) != 0) = true := by rw [bne_iff_ne]; omega
        rw [if_neg (by simp [e1, e2])]
        have e1 := e1
        have HR0 : Hid (AllRel w w b c at0 (.slice none 0 0) at0 0) := hid ⟨[], 1024, by simp, by simp, HAT.out, by decide, Keep.refl _ _, OwnI.nil w, fun k hk => by simp [Value.ownBlock] at hk⟩
        generalize hCH : chain b c 1024 at0 0 = CH
        have HCH := hid hCH
        clear hCH e1 e2
        go_enter Try.func39, Try.ntmps39
        go_wp2_with fail
        refine hL.mono ?_; rintro e w1 ⟨rfl, rfl⟩
        go_wp2_with fail
        refine (hH _).mono ?_; rintro e w1 ⟨rfl, rfl⟩
        go_wp2_with fail
        refine hWH.mono ?_; rintro e w1 ⟨rfl, rfl⟩
        go_wp2_with fail
        refine hW0.mono ?_; rintro e w1 ⟨rfl, rfl⟩
        go_wp2_with fail
        clear hL hWH hW0 hsb e1b e2b
        go_loopw [6, 7, 8] (fun a l vo wr => ∃ at_ last : Nat, a = .int .u64 at_ ∧ l = .int .u64 last ∧ AllRel w wr b c at0 vo at_ last) (fun _ _ vo _ => 1025 - slLen vo)
        case atStart => exact ⟨at0, 0, rfl, rfl, HR0.out⟩
        case round =>
          obtain ⟨at_, last, rfl, rfl, done, f, r1, r2, r3, r4, r5⟩ := hrel
          obtain ⟨Ao, co, rfl, hco1, hco2⟩ := r5.own.form
          have R1 := hid r1
          have R2 := hid r2
          have R3 := hid r3
          have R5 := hid r5
          have hdl : done.length ≤ 1024 := by omega
          clear r1 r2 r5
          by_cases f0 : at_ = 0
          · subst f0
            have hCH : CH = some done := by
              rw [← HCH.out, R1.out]
              have : chain b c f 0 last = some [] := by cases f <;> simp [chain]
              rw [this]; simp
            subst hCH
            clear HW HM HNA
            go_wp2
            go_ret2
            exact ⟨_, rfl, R5.out⟩
          · have f0b : (((at_ : Nat) : Int) != 0) = true := by rw [bne_iff_ne]; omega
            cases f with
            | zero =>
              have hCH : CH = none := by
                rw [← HCH.out, R1.out]; simp [chain, f0]
              subst hCH
              have hfull : ((done.length : Int) == 1024) = true := by rw [beq_iff_eq]; have := R2.out; omega
              clear HW HM HNA f0
              go_wp2
              go_ret2
              exact ⟨rfl, R5.out.keep⟩
            | succ f =>
              have hfull : ((done.length : Int) == 1024) = false := by rw [beq_eq_false_iff_ne]; have := R2.out; omega
              have hM := HM.out wr R5.out.keep at_ R3.out
              cases hm : member b at_ c with
              | false =>
                rw [hm] at hM
                have hCH : CH = none := by
                  rw [← HCH.out, R1.out]; simp [chain, f0, hm]
                subst hCH
                clear HW HM HNA f0 hm
                go_wp2_with fail
                refine hM.mono ?_; rintro e w2 ⟨rfl, k2⟩
                go_wp2
                go_ret2
                exact ⟨rfl, R5.out.keep.thenNo k2⟩
              | true =>
                rw [hm] at hM
                have hle := member_le hm
                have HW16 := hid (fun wx (kk : Keep No w wx) => HW.out wx kk ((at_ : Int) + 16) (by omega) (by omega))
                rw [show ((at_ : Int) + 16).toNat = at_ + 16 from by omega] at HW16
                by_cases f1 : num b (at_ + 16) = last
                · have f1b : (((num b (at_ + 16) : Nat) : Int) != (last : Int)) = false := by rw [bne_eq_false_iff_eq]; omega
                  have HW8 := hid (fun wx (kk : Keep No w wx) => HW.out wx kk ((at_ : Int) + 8) (by omega) (by omega))
                  rw [show ((at_ : Int) + 8).toNat = at_ + 8 from by omega] at HW8
                  have HN : Hid (chain b c (f + 1) at_ last = (chain b c f (num b (at_ + 8)) at_).map ((at_ : Int) :: ·)) := hid (by simp [chain, f0, hm, f1])
                  have HNX := hid (HNA.out (at_ + 8))
                  clear HW HM HNA f0 hm f1
                  generalize num b (at_ + 8) = nx at *
                  generalize num b (at_ + 16) = pv at *
                  go_wp2_with fail
                  refine hM.mono ?_; rintro e w2 ⟨rfl, k2⟩
                  go_wp2_with fail
                  refine (HW16.out _ (R5.out.keep.thenNo k2)).mono ?_; rintro e w3 ⟨rfl, rfl⟩
                  obtain ⟨g, cap, w4, ha1, ha2⟩ := R5.out.snoc k2 (at_ : Int) (by omega) 43
                  have HA2 := hid ha2
                  clear ha2 hM
                  go_wp2_with (at_builtin; refine Lib.wpList_append_run _ rfl (.tmp 56) (.tmp 59) 43 43 rfl _ _ rfl rfl _ _ ha1 ?_)
                  refine (HW8.out _ HA2.out.keep).mono ?_; rintro e w5 ⟨rfl, rfl⟩
                  clear ha1
                  go_wp2
                  refine ⟨⟨nx, at_, rfl, rfl, done ++ [(at_ : Int)], f, ?_, ?_, HNX.out, R3.out, ?_⟩, ?_⟩
                  · rw [R1.out, HN.out, Option.map_map]
                    congr 1
                    funext r
                    simp
                  · have := R2.out; simp; omega
                  · exact HA2.out
                  · simp [slLen]; omega
                · have f1b : (((num b (at_ + 16) : Nat) : Int) != (last : Int)) = true := by rw [bne_iff_ne]; omega
                  have hCH : CH = none := by
                    rw [← HCH.out, R1.out]; simp [chain, f0, hm, f1]
                  subst hCH
                  clear HW HM HNA f0 hm f1
                  generalize num b (at_ + 16) = pv at *
                  go_wp2_with fail
                  refine hM.mono ?_; rintro e w2 ⟨rfl, k2⟩
                  go_wp2_with fail
                  refine (HW16.out _ (R5.out.keep.thenNo k2)).mono ?_; rintro e w3 ⟨rfl, rfl⟩
                  go_wp2
                  go_ret2
                  exact ⟨rfl, R5.out.keep.thenNo k2⟩
    · have e1b : (((M : Nat) : Int) == 1) = false := by rw [beq_eq_false_iff_ne]; omega
      by_cases e2 : at0 = 0
      · have e2b : (((at0 : Nat) : Int) != 0) = false := by rw [bne_eq_false_iff_eq]; omega
        rw [if_neg (by simp [e1, e2])]
        have e1 := e1
        have HR0 : Hid (AllRel w w b c at0 (.slice none 0 0) at0 0) := hid ⟨[], 1024, by simp, by simp, HAT.out, by decide, Keep.refl _ _, OwnI.nil w, fun k hk => by simp [Value.ownBlock] at hk⟩
        generalize hCH : chain b c 1024 at0 0 = CH
        have HCH := hid hCH
        clear hCH e1 e2
        go_enter Try.func39, Try.ntmps39
        go_wp2_with fail
        refine hL.mono ?_; rintro e w1 ⟨rfl, rfl⟩
        go_wp2_with fail
        refine (hH _).mono ?_; rintro e w1 ⟨rfl, rfl⟩
        go_wp2_with fail
        refine hWH.mono ?_; rintro e w1 ⟨rfl, rfl⟩
        go_wp2_with fail
        refine hW0.mono ?_; rintro e w1 ⟨rfl, rfl⟩
        go_wp2_with fail
        clear hL hWH hW0 hsb e1b e2b
        go_loopw [6, 7, 8] (fun a l vo wr => ∃ at_ last : Nat, a = .int .u64 at_ ∧ l = .int .u64 last ∧ AllRel w wr b c at0 vo at_ last) (fun _ _ vo _ => 1025 - slLen vo)
        case atStart => exact ⟨at0, 0, rfl, rfl, HR0.out⟩
        case round =>
          obtain ⟨at_, last, rfl, rfl, done, f, r1, r2, r3, r4, r5⟩ := hrel
          obtain ⟨Ao, co, rfl, hco1, hco2⟩ := r5.own.form
          have R1 := hid r1
          have R2 := hid r2
          have R3 := hid r3
          have R5 := hid r5
          have hdl : done.length ≤ 1024 := by omega
          clear r1 r2 r5
          by_cases f0 : at_ = 0
          · subst f0
            have hCH : CH = some done := by
              rw [← HCH.out, R1.out]
              have : chain b c f 0 last = some [] := by cases f <;> simp [chain]
              rw [this]; simp
            subst hCH
            clear HW HM HNA
            go_wp2
            go_ret2
            exact ⟨_, rfl, R5.out⟩
          · have f0b : (((at_ : Nat) : Int) != 0) = true := by rw [bne_iff_ne]; omega
            cases f with
            | zero =>
              have hCH : CH = none := by
                rw [← HCH.out, R1.out]; simp [chain, f0]
              subst hCH
              have hfull : ((done.length : Int) == 1024) = true := by rw [beq_iff_eq]; have := R2.out; omega
              clear HW HM HNA f0
              go_wp2
              go_ret2
              exact ⟨rfl, R5.out.keep⟩
            | succ f =>
              have hfull : ((done.length : Int) == 1024) = false := by rw [beq_eq_false_iff_ne]; have := R2.out; omega
              have hM := HM.out wr R5.out.keep at_ R3.out
              cases hm : member b at_ c with
              | false =>
                rw [hm] at hM
                have hCH : CH = none := by
                  rw [← HCH.out, R1.out]; simp [chain, f0, hm]
                subst hCH
                clear HW HM HNA f0 hm
                go_wp2_with fail
                refine hM.mono ?_; rintro e w2 ⟨rfl, k2⟩
                go_wp2
                go_ret2
                exact ⟨rfl, R5.out.keep.thenNo k2⟩
              | true =>
                rw [hm] at hM
                have hle := member_le hm
                have HW16 := hid (fun wx (kk : Keep No w wx) => HW.out wx kk ((at_ : Int) + 16) (by omega) (by omega))
                rw [show ((at_ : Int) + 16).toNat = at_ + 16 from by omega] at HW16
                by_cases f1 : num b (at_ + 16) = last
                · have f1b : (((num b (at_ + 16) : Nat) : Int) != (last : Int)) = false := by rw [bne_eq_false_iff_eq]; omega
                  have HW8 := hid (fun wx (kk : Keep No w wx) => HW.out wx kk ((at_ : Int) + 8) (by omega) (by omega))
                  rw [show ((at_ : Int) + 8).toNat = at_ + 8 from by omega] at HW8
                  have HN : Hid (chain b c (f + 1) at_ last = (chain b c f (num b (at_ + 8)) at_).map ((at_ : Int) :: ·)) := hid (by simp [chain, f0, hm, f1])
                  have HNX := hid (HNA.out (at_ + 8))
                  clear HW HM HNA f0 hm f1
                  generalize num b (at_ + 8) = nx at *
                  generalize num b (at_ + 16) = pv at *
                  go_wp2_with fail
                  refine hM.mono ?_; rintro e w2 ⟨rfl, k2⟩
                  go_wp2_with fail
                  refine (HW16.out _ (R5.out.keep.thenNo k2)).mono ?_; rintro e w3 ⟨rfl, rfl⟩
                  obtain ⟨g, cap, w4, ha1, ha2⟩ := R5.out.snoc k2 (at_ : Int) (by omega) 43
                  have HA2 := hid ha2
                  clear ha2 hM
                  go_wp2_with (at_builtin; refine Lib.wpList_append_run _ rfl (.tmp 56) (.tmp 59) 43 43 rfl _ _ rfl rfl _ _ ha1 ?_)
                  refine (HW8.out _ HA2.out.keep).mono ?_; rintro e w5 ⟨rfl, rfl⟩
                  clear ha1
                  go_wp2
                  refine ⟨⟨nx, at_, rfl, rfl, done ++ [(at_ : Int)], f, ?_, ?_, HNX.out, R3.out, ?_⟩, ?_⟩
                  · rw [R1.out, HN.out, Option.map_map]
                    congr 1
                    funext r
                    simp
                  · have := R2.out; simp; omega
                  · exact HA2.out
                  · simp [slLen]; omega
                · have f1b : (((num b (at_ + 16) : Nat) : Int) != (last : Int)) = true := by rw [bne_iff_ne]; omega
                  have hCH : CH = none := by
                    rw [← HCH.out, R1.out]; simp [chain, f0, hm, f1]
                  subst hCH
                  clear HW HM HNA f0 hm f1
                  generalize num b (at_ + 16) = pv at *
                  go_wp2_with fail
                  refine hM.mono ?_; rintro e w2 ⟨rfl, k2⟩
                  go_wp2_with fail
                  refine (HW16.out _ (R5.out.keep.thenNo k2)).mono ?_; rintro e w3 ⟨rfl, rfl⟩
                  go_wp2
                  go_ret2
                  exact ⟨rfl, R5.out.keep.thenNo k2⟩
      · have e2b : (((at0 : Nat) : Int) != 0) = true := by rw [bne_iff_ne]; omega
        rw [if_pos (by simp [e1, e2])]
        simp only [allR]
        clear HW HM e1 e2
        go_enter Try.func39, Try.ntmps39
        go_wp2_with fail
        refine hL.mono ?_; rintro e w1 ⟨rfl, rfl⟩
        go_wp2_with fail
        refine (hH _).mono ?_; rintro e w1 ⟨rfl, rfl⟩
        go_wp2_with fail
        refine hWH.mono ?_; rintro e w1 ⟨rfl, rfl⟩
        go_wp2_with fail
        refine hW0.mono ?_; rintro e w1 ⟨rfl, rfl⟩
        go_wp2
        go_ret2
        exact ⟨rfl, Keep.refl _ _⟩
end Go.Proofs.Ytnldmhljggcnpaa
namespace Go.Proofs.Ytnldmhljggcnpaa
set_option linter.unusedSimpArgs false
set_option linter.unusedVariables false
open Go.RowKit Cantle
set_option maxRecDepth 100000
set_option maxHeartbeats 4000000

theorem putAt_wiped {b : List UInt8} (h : 184 ≤ b.length) : putAt b 0 (List.replicate 184 0) = wiped b := by
  have hl : (List.replicate 184 (0 : UInt8)).length = 184 := List.length_replicate
  unfold putAt wiped
  rw [hl, List.take_zero, List.nil_append, Nat.zero_add]
theorem list_Clear {w : World} {p : Nat} {V : Value} {s : ArS} (h : Ar w p V s) (hl : 184 ≤ s.b.length) :
    Calls Try.prog 121 #[.pointer (some ⟨p, 0, none⟩)] w fun e w' => e = .returned .nilIface ∧ Wrote w w' p V { s with b := wiped s.b } := by
  have hL := arena_Len h
  have hB := arena_Base h
  have hF := arena_Fill_ok h s.base 184 0 (Nat.le_refl _) (by omega)
  rw [Nat.sub_self, putAt_wiped hl] at hF
  have hl2 : ¬ ((s.b.length : Nat) : Int) < 184 := by omega
  clear h hl
  generalize wiped s.b = wb at *
  generalize hlen : s.b.length = len at *
  have HLEN := hid hlen
  clear hlen
  have hz : ((0 : UInt8).toNat : Int) = 0 := rfl
  have hn : ((184 : Nat) : Int) = 184 := rfl
  rw [hz, hn] at hF
  clear hz hn
  generalize hbase : s.base = base at *
  have HBASE := hid hbase
  clear hbase
  go_enter Try.func121, Try.ntmps121
  go_wp2_with fail
  refine hL.mono ?_; rintro e w1 ⟨rfl, rfl⟩
  go_wp2_with fail
  refine hB.mono ?_; rintro e w1 ⟨rfl, rfl⟩
  go_wp2_with fail
  refine hF.mono ?_; rintro e w1 ⟨rfl, hW⟩
  go_wp2
  go_ret
  exact ⟨rfl, hW⟩
/-! ### arenas that the laws make -/
/-- a new arena with bytes b -/
structure NewA (w w' : World) (p : Nat) (V : Value) (s : ArS) : Prop where
  ar : Ar w' p V s
  keep : Keep No w w'
  ge : ∀ i, Fp p V i → w.heap.size ≤ i
theorem NewA.keepNo {w w' w2 : World} {p : Nat} {V : Value} {s : ArS} (h : NewA w w' p V s) (k : Keep No w' w2) : NewA w w2 p V s := ⟨h.ar.keepNo k, h.keep.thenNo k, h.ge⟩
theorem NewA.mut {w w' w2 : World} {p : Nat} {V V2 : Value} {s s2 : ArS} (h : NewA w w' p V s) (k : Mut w' w2 p V V2 s2) : NewA w w2 p V2 s2 :=
  ⟨k.ar, h.keep.then k.keep (fun i hi q => by have := h.ge i q; omega), fun i hi => by
    rcases k.lies i hi with q | q
    · exact h.ge i q
    · exact Nat.le_trans h.keep.size q⟩
theorem NewA.old {w0 w w' : World} {p : Nat} {V : Value} {s : ArS} (k : Keep No w0 w) (h : NewA w w' p V s) : NewA w0 w' p V s :=
  ⟨h.ar, k.thenNo h.keep, fun i hi => Nat.le_trans k.size (h.ge i hi)⟩
theorem putAt_all {l : List UInt8} : putAt (([] : List UInt8) ++ List.replicate l.length 0) 0 l = l := by
  unfold putAt; simp
theorem law00_Arena {w : World} (base : Nat) (cap : Int) {F : Nat → Prop} {x : Value} {l : List UInt8} (hm : mayA base cap = true) (hx : Rd w F x l.length (bv l)) (hl : (l.length : Int) ≤ cap) :
    Calls Try.prog 28 #[.int .u64 base, .int .i64 cap, x] w fun e w' => ∃ p V, e = .returned (.pointer (some ⟨p, 0, none⟩)) ∧ NewA w w' p V ⟨base, cap.toNat, l⟩ := by
  have hN := arena_New_ok base cap hm w
  have hcap := (mayA_iff.1 hm).2.2.2
  have hb0 := (mayA_iff.1 hm).2.1
  obtain ⟨A, c, rfl, hc1, hc2⟩ := hx.form'
  have HX := hid hx
  have hG := fun wx p (hA : Ar wx p (.slice none 0 0) ⟨base, cap.toNat, []⟩) => arena_Grow_ok hA l.length (by simp; omega)
  have HS := hid (fun wx p V (k : Keep No w wx) (hA : Ar wx p V ⟨base, cap.toNat, [] ++ List.replicate l.length 0⟩) => arena_Store_ok hA base (hx.keepNo k) (Nat.le_refl _) (by simp))
  have HALL := hid (putAt_all (l := l))
  simp only [Nat.sub_self] at HS
  rw [HALL.out] at HS
  clear hm hx
  have hlg : ¬ cap < (l.length : Int) := by omega
  generalize hlen : l.length = len at *
  clear hlen HALL HX
  go_enter Try.func28, Try.ntmps28
  go_wp2_with fail
  refine hN.mono ?_; rintro e w1 ⟨p, rfl, hA, k1, hge⟩
  have hG1 := hG w1 p hA
  go_wp2_with fail
  refine hG1.mono ?_; rintro e w2 ⟨rfl, V', hM⟩
  have k2 : Keep No w w2 := k1.then hM.keep (fun i hi q => by
    rcases q with q | q
    · omega
    · simp [Value.ownBlock] at q)
  have hS := HS.out w2 p V' k2 hM.ar
  go_wp2_with fail
  refine hS.mono ?_; rintro e w3 ⟨rfl, hW⟩
  go_wp2
  go_ret
  have hM2 := hM.trans hW.mut
  have h0 : NewA w w1 p (.slice none 0 0) ⟨base, cap.toNat, []⟩ := ⟨hA, k1, fun i hi => by
    rcases hi with q | q
    · omega
    · simp [Value.ownBlock] at q⟩
  exact ⟨p, V', rfl, h0.mut hM2⟩
theorem law00_Bytes {w : World} {p : Nat} {V : Value} {s : ArS} (h : Ar w p V s) :
    Calls Try.prog 32 #[.pointer (some ⟨p, 0, none⟩)] w fun e w' => ∃ v, e = .returned v ∧ NewO w w' v s.b := by
  have hB := arena_Base h
  have hL := arena_Len h
  have hO := arena_Load_ok h s.base s.b.length (Nat.le_refl _) (by omega)
  have hll := h.len_le
  have hcl := h.cap_le
  have ht : (s.b.drop (s.base - s.base)).take s.b.length = s.b := by rw [Nat.sub_self, List.drop_zero, List.take_length]
  rw [ht] at hO
  clear h ht
  generalize s.base = base at *
  generalize hb : s.b = b at *
  generalize b.length = len at *
  clear hb
  go_enter Try.func32, Try.ntmps32
  go_wp2_with fail
  refine hB.mono ?_; rintro e w1 ⟨rfl, rfl⟩
  go_wp2_with fail
  refine hL.mono ?_; rintro e w1 ⟨rfl, rfl⟩
  go_wp2_with fail
  have hmx : ((max (len : Int) 0 : Int)) = len := by omega
  first
    | (refine hO.mono ?_; rintro e w1 ⟨v, rfl, hN⟩)
    | (rw [hmx]; refine hO.mono ?_; rintro e w1 ⟨v, rfl, hN⟩)
  go_wp2
  go_ret
  exact ⟨_, rfl, hN⟩
end Go.Proofs.Ytnldmhljggcnpaa
namespace Go.Proofs.Ytnldmhljggcnpaa
set_option linter.unusedSimpArgs false
set_option linter.unusedVariables false
open Go.RowKit Cantle
set_option maxRecDepth 100000
set_option maxHeartbeats 4000000

theorem fit_Find_no {w : World} (p : Nat) (z : Int) (hz : isSize z = false) :
    Calls Try.prog 43 #[.pointer (some ⟨p, 0, none⟩), .int .i64 z] w fun e w' => e = .returned (.tuple #[.int .i64 0, errV 1]) ∧ w = w' := by
  have hC := class_Class z w
  rw [cls_none hz] at hC
  clear hz
  go_enter Try.func43, Try.ntmps43
  go_wp2_with fail
  refine hC.mono ?_; rintro e w1 ⟨rfl, rfl⟩
  go_wp2
  go_ret2
  exact ⟨rfl, rfl⟩
theorem lall_few {b : List UInt8} {c : Nat} {l : List Int} (h : lall b c = some l) : l.length ≤ 1024 := by
  unfold lall at h
  split at h
  · cases h
  · split at h
    · cases h
    · exact (chain_iff.1 h).2.1
def findR : Option Int → Value
  | none => .tuple #[.int .i64 0, errV 3]
  | some o => .tuple #[.int .i64 o, .nilIface]
theorem fit_Find {w : World} {p : Nat} {V : Value} {s : ArS} (h : Ar w p V s) (z : Int) (hz : isSize z = true) :
    Calls Try.prog 43 #[.pointer (some ⟨p, 0, none⟩), .int .i64 z] w fun e w' => e = .returned (findR (findB s.b z)) ∧ Keep No w w' := by
  have hr := cls_range hz
  have hs := (isSize_iff _).1 hz
  obtain ⟨c0, hc0⟩ := Int.eq_ofNat_of_zero_le hr.1
  have hC := class_Class z w
  rw [hc0] at hC hr
  have HA := hid (fun wx (k : Keep No w wx) c hc => list_All (h.keepNo k) c hc)
  have HG := hid (fun wx (k : Keep No w wx) o => block_Get (h.keepNo k) o)
  clear h
  generalize s.b = b at *
  generalize hF : findB b z = FF
  have HF := hid hF
  have HF0 : Hid (FF = findGo b z (22 - c0) c0) := hid (by rw [← hF]; unfold findB; rw [hc0, Int.toNat_natCast])
  clear hF hc0 hz
  go_enter Try.func43, Try.ntmps43
  go_wp2_with fail
  refine hC.mono ?_; rintro e w1 ⟨rfl, rfl⟩
  clear hC
  go_wp2_with fail
  go_loopw [6] (fun t wr => ∃ c k : Nat, t = .int .i64 c ∧ k + c = 22 ∧ FF = findGo b z k c ∧ Keep No w wr) (fun t _ => 22 - (intOf t).toNat)
  case atStart => exact ⟨c0, 22 - c0, rfl, by omega, HF0.out, Keep.refl _ _⟩
  case round =>
    obtain ⟨c, k, rfl, r1, r2, r3⟩ := hrel
    obtain ⟨wo, rfl⟩ : ∃ wo : World, wo = wr := ⟨_, rfl⟩
    have R2 := hid r2
    have R3 := hid r3
    clear r2 r3
    cases k with
    | zero =>
      obtain rfl : c = 22 := by omega
      have hFF : FF = some 0 := R2.out
      subst hFF
      go_wp2
      go_ret2
      exact ⟨rfl, R3.out⟩
    | succ k =>
      have hA := HA.out wo R3.out c (by omega)
      cases hl : lall b c with
      | none =>
        rw [hl] at hA
        have hFF : FF = none := by rw [R2.out]; simp [findGo, hl]
        subst hFF
        clear hl
        simp only [allR, errV] at hA
        go_wp2_with fail
        refine hA.mono ?_; rintro e w2 ⟨rfl, k2⟩
        go_wp2
        go_ret2
        exact ⟨rfl, R3.out.thenNo k2⟩
      | some l =>
        rw [hl] at hA
        have hFF : FF = match l.find? (bigAt b z) with | some o => some o | none => findGo b z k (c + 1) := by rw [R2.out]; simp only [findGo, hl]; rfl
        have HFF := hid hFF
        have hll : l.length ≤ 1024 := (lall_few hl)
        clear hl hFF
        simp only [allR] at hA
        go_wp2_with fail
        refine hA.mono ?_; rintro e w2 ⟨v, rfl, hN⟩
        obtain ⟨Av, cv, rfl, hv1, hv2⟩ := hN.own.form
        have HN := hid hN
        clear hA hN
        go_wp2_with fail
        go_loopw [33] (fun t wx => ∃ j : Nat, t = .int .i64 j ∧ j ≤ l.length ∧ l.find? (bigAt b z) = (l.drop j).find? (bigAt b z) ∧ Keep No w2 wx) (fun t _ => l.length - (intOf t).toNat)
        case atStart => exact ⟨0, rfl, by omega, by simp, Keep.refl _ _⟩
        case round =>
          obtain ⟨j, rfl, q1, q2, q3⟩ := hrel
          have Q2 := hid q2
          have Q3 := hid q3
          clear q2 q3
          by_cases hj : j < l.length
          · have hcell := (HN.out.rd.keepNo Q3.out).cells (by rw [iv_length]; omega)
            obtain ⟨g, o, cap, he, _, _, _, _, hcc⟩ := hcell
            cases he
            have hcj := hcc j _ (iv_get? l j hj)
            have hG := HG.out wr ((R3.out.thenNo HN.out.keep).thenNo Q3.out) l[j]
            have hdj : l.drop j = l[j] :: l.drop (j + 1) := List.drop_eq_getElem_cons hj
            have HDJ := hid hdj
            clear hcc hdj
            have hbg : bigAt b z l[j] = match bget b l[j] with | none => false | some x => decide (z ≤ x.size) := rfl
            cases hg : bget b l[j] with
            | none =>
              rw [hg] at hG hbg
              have HB := hid hbg
              simp only [blkR, errV] at hG
              clear hg hbg
              generalize hlj : l[j] = lj at *
              have HLJ := hid hlj
              clear hlj
              go_wp2_with fail
              refine hG.mono ?_; rintro e w3 ⟨rfl, k3⟩
              go_wp2
              refine ⟨⟨j + 1, rfl, by omega, ?_, ?_⟩, ?_⟩
              · rw [Q2.out, HDJ.out, List.find?_cons, HB.out]
              · exact (Q3.out.thenNo k3).thenNo (keep_alloc _ _)
              · simp [intOf]; omega
            | some x =>
              obtain ⟨xo, xs, xu⟩ := x
              rw [hg] at hG hbg
              have HB := hid hbg
              simp only [blkR, blkV] at hG
              clear hg hbg
              generalize hlj : l[j] = lj at *
              have HLJ := hid hlj
              clear hlj
              by_cases hge : z ≤ xs
              · have hFF : FF = some lj := by
                  rw [HFF.out, Q2.out, HDJ.out, List.find?_cons, HB.out]; simp [hge]
                subst hFF
                go_wp2_with fail
                refine hG.mono ?_; rintro e w3 ⟨rfl, k3⟩
                go_wp2
                go_ret2
                exact ⟨rfl, (((R3.out.thenNo HN.out.keep).thenNo Q3.out).thenNo k3).thenNo (keep_alloc _ _)⟩
              · have HNB : Hid (bigAt b z lj = false) := hid (by rw [HB.out]; simp [hge])
                go_wp2_with fail
                refine hG.mono ?_; rintro e w3 ⟨rfl, k3⟩
                go_wp2
                refine ⟨⟨j + 1, rfl, by omega, ?_, ?_⟩, ?_⟩
                · rw [Q2.out, HDJ.out, List.find?_cons, HNB.out]
                · exact (Q3.out.thenNo k3).thenNo (keep_alloc _ _)
                · simp [intOf]; omega
          · have hnf : l.find? (bigAt b z) = none := by rw [Q2.out, List.drop_of_length_le (by omega)]; rfl
            have HNF : Hid (FF = findGo b z k (c + 1)) := hid (by rw [HFF.out, hnf])
            clear hnf
            go_wp2
            refine ⟨⟨c + 1, k, rfl, by omega, HNF.out, (R3.out.thenNo HN.out.keep).thenNo Q3.out⟩, ?_⟩
            simp [intOf]; omega
end Go.Proofs.Ytnldmhljggcnpaa
namespace Go.Proofs.Ytnldmhljggcnpaa
set_option linter.unusedSimpArgs false
set_option linter.unusedVariables false
open Go.RowKit Cantle
set_option maxRecDepth 100000
set_option maxHeartbeats 4000000

theorem Rd.blkAt {w : World} {F : Nat → Prop} {v : Value} {l : List Blk} (h : Rd w F v l.length (bks l)) (hp : 0 < l.length) :
    ∃ b o cap, v = .slice (some ⟨b, o, none⟩) l.length cap ∧ F b ∧ b < w.heap.size ∧ ∀ k (hk : k < l.length), w.cell? ⟨b, o + k * 3, none⟩ = some (.int .i64 l[k].off) ∧ w.cell? ⟨b, o + k * 3 + 1, none⟩ = some (.int .i64 l[k].size) ∧ w.cell? ⟨b, o + k * 3 + 2, none⟩ = some (.bool l[k].used) := by
  obtain ⟨b, o, cap, rfl, _, _, hF, hb, hc⟩ := h.cells (by rw [bks_length]; omega)
  exact ⟨b, o, cap, rfl, hF, hb, fun k hk => Rd.blk hc k hk⟩
theorem putAll_take {l : List Blk} {b : List UInt8} {j : Nat} (hj : j < l.length) : putAll (l.take (j + 1)) b = if l[j].used then putAll (l.take j) b else (lput (putAll (l.take j) b) l[j].off).getD (putAll (l.take j) b) := by
  rw [List.take_succ_eq_append_getElem hj, putAll_append]
  simp only [putAll]
/-- what holds ahead of each round of 'fit.Rebuild' -/
def RbRel (w wr : World) (p : Nat) (V : Value) (s : ArS) (l : List Blk) (v : Value) (j : Nat) : Prop :=
  j ≤ l.length ∧ Mut w wr p V V { s with b := putAll (l.take j) (wiped s.b) } ∧ Rd wr (fun i => w.heap.size ≤ i) v l.length (bks l)
def rebuildR (w w' : World) (p : Nat) (V : Value) (s : ArS) (e : Ending) : Option (List UInt8) → Prop
  | none => e = .returned (errV 3) ∧ Keep No w w'
  | some b' => e = .returned .nilIface ∧ Mut w w' p V V { s with b := b' }
theorem fit_Rebuild {w : World} {p : Nat} {V : Value} {s : ArS} (h : Ar w p V s) :
    Calls Try.prog 42 #[.pointer (some ⟨p, 0, none⟩)] w fun e w' => rebuildR w w' p V s e (rebuild s.b) := by
  have hK := block_Walk h
  have hll := h.len_le
  have hcl := h.cap_le
  have hlt := h.lt
  have HAR := hid h
  cases hw : walk s.b with
  | none =>
    rw [hw] at hK
    have hr : rebuild s.b = none := by unfold rebuild; rw [hw]; rfl
    rw [hr]
    simp only [rebuildR, errV] at hK ⊢
    clear hw hr h
    go_enter Try.func42, Try.ntmps42
    go_wp2_with fail
    refine hK.mono ?_; rintro e w1 ⟨rfl, k1⟩
    go_wp2
    go_ret
    exact ⟨rfl, k1⟩
  | some l =>
    rw [hw] at hK
    have hr : rebuild s.b = some (putAll l (wiped s.b)) := by unfold rebuild; rw [hw]; rfl
    have h184 : 184 ≤ s.b.length := (walk_iff.1 hw).1
    rw [hr]
    have HCL := hid (fun wx (k : Keep No w wx) => list_Clear (h.keepNo k) h184)
    have HPI := hid (fun j (hj : j < l.length) (hu : (l[j]).used = false) => (putAll_inv (done := l.take j) (rest := l.drop j) hw (by omega) (List.take_append_drop _ _).symm).2.2.2 l[j] (l.drop (j + 1)) (List.drop_eq_getElem_cons hj) hu)
    have HPUT := hid (fun wx s' (hA : Ar wx p V s') o => list_Put hA o)
    simp only [rebuildR] at hK ⊢
    have HW := hid hw
    have hlen : l.length ≤ 1000000 := by
      have hp := tlp_pair (walk_iff.1 hw).2.1
      have := length_le_of_sub (l := l.map (·.off)) (m := (List.range 16384).map fun i : Nat => (i : Int)) (by
        rw [List.Nodup, List.pairwise_map]
        refine hp.imp_of_mem ?_
        intro x y hx _ hxy e
        have := (walk_mem hw hx).2.s1
        omega) (fun o ho => by
        obtain ⟨x, hx, rfl⟩ := List.mem_map.1 ho
        have h1 := (walk_mem hw hx).2.lo
        have h2 := (walk_mem hw hx).2.hi
        have h3 := (walk_mem hw hx).2.s1
        exact List.mem_map.2 ⟨x.off.toNat, List.mem_range.2 (by omega), by omega⟩)
      simp at this
      omega
    clear hw hr h
    go_enter Try.func42, Try.ntmps42
    go_wp2_with fail
    refine hK.mono ?_; rintro e w1 ⟨v, rfl, hN⟩
    obtain ⟨A, c, rfl, hc1, hc2⟩ := hN.own.form
    have HN := hid hN
    clear hK hN
    go_wp2_with fail
    refine (HCL.out _ HN.out.keep).mono ?_; rintro e w2 ⟨rfl, hW⟩
    have HR0 : Hid (RbRel w w2 p V s l (.slice A l.length c) 0) := hid ⟨Nat.zero_le _, by
      have := (Mut.ofNo HAR.out HN.out.keep).trans hW.mut
      simpa [putAll] using this, HN.out.rd.keep hW.keep (fun i hi hV => by have := hlt i (.inr hV); omega)⟩
    clear hW
    go_wp2_with fail
    go_loopw [24] (fun t wr => ∃ j : Nat, t = .int .i64 j ∧ RbRel w wr p V s l (.slice A l.length c) j) (fun t _ => l.length - (intOf t).toNat)
    case atStart => exact ⟨0, rfl, HR0.out⟩
    case round =>
      obtain ⟨j, rfl, q1, q2, q3⟩ := hrel
      have Q2 := hid q2
      have Q3 := hid q3
      clear q2 q3
      by_cases hj : j < l.length
      · obtain ⟨g, o, cap, he, hgF, hgl, hcc⟩ := Q3.out.blkAt (by omega)
        cases he
        obtain ⟨c0, c1, c2⟩ := hcc j hj
        have hpt := putAll_take (b := wiped s.b) hj
        have HPT := hid hpt
        have HPJ := hid (HPI.out j hj)
        clear hcc hpt
        generalize hlj : l[j] = x at *
        obtain ⟨xo, xs, xu⟩ := x
        have HLJ := hid hlj
        clear hlj
        simp only at *
        cases xu with
        | true =>
          have HN2 : Hid (RbRel w (wr.alloc (.cells #[.int .i64 xo, .int .i64 xs, .bool true] 57)) p V s l (.slice (some ⟨g, o, none⟩) l.length c) (j + 1)) := hid ⟨by omega, by
            have e := HPT.out
            simp only [if_true] at e
            rw [e]
            exact Q2.out.thenNo (keep_alloc _ _), Q3.out.keepNo (keep_alloc _ _)⟩
          go_wp2
          refine ⟨⟨j + 1, rfl, HN2.out⟩, ?_⟩
          simp [intOf]; omega
        | false =>
          obtain ⟨b', hb'⟩ := HPJ.out rfl
          have hP := HPUT.out _ _ (Q2.out.ar.keepNo (keep_alloc wr (.cells #[.int .i64 xo, .int .i64 xs, .bool false] 57))) xo
          simp only at hP
          rw [hb'] at hP
          simp only [TurnR] at hP
          have HB' := hid hb'
          clear hb'
          go_wp2_with fail
          refine hP.mono ?_; rintro e w4 ⟨rfl, hM⟩
          have HN2 : Hid (RbRel w w4 p V s l (.slice (some ⟨g, o, none⟩) l.length c) (j + 1)) := hid ⟨by omega, by
            have e := HPT.out
            simp only [Bool.false_eq_true, if_false, HB'.out, Option.getD_some] at e
            rw [e]
            exact (Q2.out.thenNo (keep_alloc _ _)).trans hM, (Q3.out.keepNo (keep_alloc _ _)).keep hM.keep (fun i hi q => by have := hlt i q; omega)⟩
          clear hM hP
          go_wp2
          refine ⟨⟨j + 1, rfl, HN2.out⟩, ?_⟩
          simp [intOf]; omega
      · go_wp2
        go_ret
        refine ⟨rfl, ?_⟩
        have := Q2.out
        rwa [List.take_of_length_le (by omega)] at this
end Go.Proofs.Ytnldmhljggcnpaa
namespace Go.Proofs.Ytnldmhljggcnpaa
set_option linter.unusedSimpArgs false
set_option linter.unusedVariables false
open Go.RowKit Cantle

/-! ### what the statements ask of errors, numbers, images -/
theorem run_equalIn_fields {P : Program} {d : Nat} {t : TypeId} {fs : Array Field} {xs ys : Array Value} {r : Result Bool} {w : World} (hu : P.underlying t = some (.struct fs)) (hp : P.stoodInHeld t = false) (h : (Op.eqFields d xs ys fs.toList).run P w = r) :
    (Op.equalIn (d + 1) t (.agg xs) (.agg ys)).run P w = r := by
  have hf : P.fieldsOf t = fs := by simp [Program.fieldsOf, hu]
  rw [run_equalIn_struct (P := P) w d t xs ys (by rw [hf]; exact hu) hp, hf]
  exact h
theorem run_equalIn_blk (d : Nat) (x y : Blk) (w : World) : (Op.equalIn (d + 2) 57 (blkV x) (blkV y)).run Try.prog w = .ok (decide (x = y)) w := by
  obtain ⟨a, b, c⟩ := x
  obtain ⟨a', b', c'⟩ := y
  have hi := Try.underlying3
  have hb := Try.underlying4
  have e1 : ∀ p q : Int, (Op.equalIn (d + 1) 3 (.int .i64 p) (.int .i64 q)).run Try.prog w = .ok (p == q) w := fun p q => run_equalIn_int w d _ _ _ p q hi
  have e2 : ∀ p q : Bool, (Op.equalIn (d + 1) 4 (.bool p) (.bool q)).run Try.prog w = .ok (p == q) w := fun p q => run_equalIn_bool' w d _ p q hb
  refine run_equalIn_fields Try.underlying57 (by kernel_rfl) ?_
  by_cases h1 : a = a' <;> by_cases h2 : b = b' <;> by_cases h3 : c = c' <;> simp [Op.eqFields, part, e1, e2, h1, h2, h3]
theorem run_eql_blk (x y : Blk) (w : World) : (binOp .eql 57 (blkV x) (blkV y)).run Try.prog w = .ok (.bool (decide (x = y))) w := by
  have h := run_equalIn_blk 9998 x y w
  unfold blkV at *
  simp only [binOp]
  simp [Op.equal, Op.maxDepth, h]
theorem run_neq_blk (x y : Blk) (w : World) : (binOp .neq 57 (blkV x) (blkV y)).run Try.prog w = .ok (.bool (decide (x ≠ y))) w := by
  have h := run_equalIn_blk 9998 x y w
  unfold blkV at *
  simp only [binOp]
  simp [Op.equal, Op.maxDepth, h]
theorem run_neq_str (a b : List UInt8) (w : World) : (binOp .neq 9 (.string (strOf a)) (.string (strOf b))).run Try.prog w = .ok (.bool (decide (a ≠ b))) w := by
  have hs := str_beq a b
  simp [go_sem, hs]
set_option maxRecDepth 100000
set_option maxHeartbeats 1000000
theorem errV_eq (c k : Nat) (h : 0 < c) (w : World) : (binOp .eql 31 (errV c) (.iface 136 (.int .i64 (k : Int)))).run Try.prog w = .ok (.bool (decide (c = k))) w := by
  obtain ⟨n, rfl⟩ : ∃ n, c = n + 1 := ⟨c - 1, by omega⟩
  refine (Lib.run_eql_iface_int w ((n + 1 : Nat) : Int) (k : Int) Try.underlying31 (by kernel_rfl) Try.underlying136).trans ?_
  congr 2
  rw [Bool.eq_iff_iff]; simp; omega
theorem law00_Code (c : Nat) (hc : c ≤ 10) (w : World) : Calls Try.prog 31 #[errV c] w fun e w' => e = .returned (.int .i64 (c : Int)) ∧ w = w' := by
  by_cases h0 : c = 0
  · subst h0
    simp only [errV]
    go_enter Try.func31, Try.ntmps31
    go_wp2
    go_ret
    exact ⟨rfl, rfl⟩
  · obtain ⟨n, rfl⟩ : ∃ n, c = n + 1 := ⟨c - 1, by omega⟩
    have hv : errV (n + 1) = .iface 136 (.int .i64 ((n + 1 : Nat) : Int)) := rfl
    rw [hv]
    clear hv
    generalize hz : ((n + 1 : Nat) : Int) = z
    have hz1 : z ≤ 10 := by omega
    have hEQ : ∀ k : Int, ∀ W, (binOp .eql 31 (.iface 136 (.int .i64 z)) (.iface 136 (.int .i64 k))).run Try.prog W = .ok (.bool (z == k)) W :=
      fun k W => Lib.run_eql_iface_int W z k Try.underlying31 (by kernel_rfl) Try.underlying136
    have hz0 : 1 ≤ z := by omega
    clear hz h0 hc
    go_enter Try.func31, Try.ntmps31
    go_wp2
    go_loopw [3] (fun i wr => ∃ k : Int, i = .int .i64 k ∧ 1 ≤ k ∧ k ≤ z ∧ wr = w) (fun i _ => (z - intOf i).toNat)
    case atStart => exact ⟨1, rfl, by omega, by omega, rfl⟩
    case round =>
      obtain ⟨k, rfl, hk1, hk2, rfl⟩ := hrel
      by_cases hck : z = k
      · subst hck
        have hE : ∀ W, (binOp .eql 31 (.iface 136 (.int .i64 z)) (.iface 136 (.int .i64 z))).run Try.prog W = .ok (.bool true) W := fun W => by rw [hEQ]; simp
        clear hEQ
        go_wp2
        go_ret
        exact ⟨rfl, rfl⟩
      · have hE : ∀ W, (binOp .eql 31 (.iface 136 (.int .i64 z)) (.iface 136 (.int .i64 k))).run Try.prog W = .ok (.bool false) W := fun W => by rw [hEQ]; simp [hck]
        clear hEQ
        go_wp2
        exact ⟨⟨k + 1, rfl, by omega, by omega, trivial⟩, by simp [intOf]; omega⟩
end Go.Proofs.Ytnldmhljggcnpaa
/-! A region that draws its order, walked in one order: what only reads is taken as soon as it may be; what writes comes up alone. -/
namespace Go.Proofs.Ytnldmhljggcnpaa
set_option linter.unusedSimpArgs false
set_option linter.unusedVariables false

section
variable {P : Program} {ops : Array Oper} {Q : Exit → Act → World → Prop} {md : Region.Mode} {S S' : World → Prop}

theorem held_mono (h : ∀ x, S' x → S x) : ∀ (fuel : Nat) (listed : Array Bool) (a : Act) (w : World), wpAnyH P md ops Q S' fuel listed a w → wpAnyH P md ops Q S fuel listed a w
  | 0, _, _, _, hh => hh
  | fuel + 1, _, _, _, hh => ⟨hh.1, fun i hi => wpOp_mono (fun a' w' q => ⟨h _ q.1, held_mono h fuel _ a' w' q.2⟩) (hh.2 i hi)⟩

/-- Is this order one that serves for all: each number may be taken first (true), or comes up alone (false)? -/
def planB (md : Region.Mode) (ops : Array Oper) : List (Nat × Bool) → Array Bool → Bool
  | [], listed => (Region.ready md ops listed).isEmpty
  | (i, true) :: rest, listed => (Region.free md ops listed i && (Region.ready md ops listed).contains i) && planB md ops rest (listed.setIfInBounds i true)
  | (i, false) :: rest, listed => (Region.ready md ops listed == [i]) && planB md ops rest (listed.setIfInBounds i true)

/-- The walk in that order. -/
def wpPlan (P : Program) (ops : Array Oper) (Q : Exit → Act → World → Prop) : List (Nat × Bool) → (World → Prop) → Act → World → Prop
  | [], _, a, w => Q .normal a w
  | (i, true) :: rest, S, a, w => ∃ o v, ops[i]? = some o ∧ YieldsIf P ops S o v a ∧ wpPlan P ops Q rest S (a.put o.dst v) w
  | (i, false) :: rest, S, a, w => wpOp P ops Q i (fun a' w' => ∃ S' : World → Prop, (∀ x, S' x → S x) ∧ S' w' ∧ wpPlan P ops Q rest S' a' w') a w

theorem held_of_plan (hs : Region.noSelect ops = true) (hQ : ∀ c d v a w, Q (.panic c) (a.put d v) w → Q (.panic c) a w) :
    ∀ (plan : List (Nat × Bool)) (S : World → Prop) (listed : Array Bool) (a : Act) (w : World), planB md ops plan listed = true → S w → wpPlan P ops Q plan S a w →
      wpAnyH P md ops Q S plan.length listed a w
  | [], S, listed, a, w, hp, hS, h => ⟨by simpa [planB] using hp, h⟩
  | (i, true) :: rest, S, listed, a, w, hp, hS, h => by
    obtain ⟨o, v, ho, hy, hr⟩ := h
    simp only [planB, Bool.and_eq_true] at hp
    exact wpAnyH_take ho hs hp.1.1 hp.1.2 (fun c a w => hQ c _ _ a w) hy hS (held_of_plan hs hQ rest S _ _ w hp.2 hS hr)
  | (i, false) :: rest, S, listed, a, w, hp, hS, h => by
    simp only [planB, Bool.and_eq_true, beq_iff_eq] at hp
    refine wpAnyH_all hp.1 (by simp) (fun j hj => ?_)
    obtain rfl : j = i := by simpa using hj
    refine wpOp_mono ?_ h
    rintro a' w' ⟨S', h1, h2, h3⟩
    exact ⟨h1 _ h2, held_mono h1 _ _ _ _ (held_of_plan hs hQ rest S' _ a' w' hp.2 h2 h3)⟩

/-- The same, along the operations themselves, in the order of the text: a flag each. -/
def wpSeq (P : Program) (ops : Array Oper) (Q : Exit → Act → World → Prop) : List Oper → List Bool → (World → Prop) → Act → World → Prop
  | o :: os, true :: fs, S, a, w => ∃ v, YieldsIf P ops S o v a ∧ wpSeq P ops Q os fs S (a.put o.dst v) w
  | o :: os, false :: fs, S, a, w =>
    if Region.wanted o (yielded ops a.tmps) = true then Oper.wp P o a w (fun a' w' => ∃ S' : World → Prop, (∀ x, S' x → S x) ∧ S' w' ∧ wpSeq P ops Q os fs S' a' w') Q
    else wpSeq P ops Q os fs S (a.put o.dst undef) w
  | [], _, _, a, w => Q .normal a w
  | _ :: _, [], _, _, _ => False
theorem plan_of_seq (g : Nat → Oper) : ∀ (σ : List Nat) (fs : List Bool) (S : World → Prop) (a : Act) (w : World), (∀ i ∈ σ, ops[i]? = some (g i)) → σ.length = fs.length → S w → wpSeq P ops Q (σ.map g) fs S a w → wpPlan P ops Q (σ.zip fs) S a w
  | [], [], _, _, _, _, _, _, h => h
  | i :: σ, true :: fs, S, a, w, hk, hl, hS, h => by
    obtain ⟨v, hy, hr⟩ := h
    exact ⟨g i, v, hk i (List.mem_cons_self ..), hy, plan_of_seq g σ fs S _ w (fun k hk' => hk k (List.mem_cons_of_mem _ hk')) (by simpa using hl) hS hr⟩
  | i :: σ, false :: fs, S, a, w, hk, hl, hS, h => by
    have ho : ops[i]? = some (g i) := hk i (List.mem_cons_self ..)
    have hk' : ∀ k ∈ σ, ops[k]? = some (g k) := fun k hk' => hk k (List.mem_cons_of_mem _ hk')
    have hl' : σ.length = fs.length := by simpa using hl
    show wpOp P ops Q i _ a w
    unfold wpOp
    simp only [ho]
    rw [List.map_cons] at h
    unfold wpSeq at h
    split
    · rename_i hw
      rw [if_pos hw] at h
      refine .inl (Oper.wp_mono ?_ h)
      rintro a' w' ⟨S', h1, h2, h3⟩
      exact ⟨S', h1, h2, plan_of_seq g σ fs S' a' w' hk' hl' h2 h3⟩
    · rename_i hw
      rw [if_neg hw] at h
      exact ⟨S, fun _ h => h, hS, plan_of_seq g σ fs S _ w hk' hl' hS h⟩
theorem seq_nil {a : Act} {w : World} (h : Q .normal a w) : wpSeq P ops (NoPanic Q) [] [] S a w := h
theorem seq_take {os : List Oper} {fs : List Bool} {o : Oper} {v : Value} {a : Act} {w : World} (hw : Region.wanted o (yielded ops a.tmps) = true)
    (hy : ∀ w, S w → (execOp a.eval o).run P w = .ok (.value v) w) (h : wpSeq P ops Q os fs S (a.put o.dst v) w) : wpSeq P ops Q (o :: os) (true :: fs) S a w :=
  ⟨v, .inl ⟨hw, hy⟩, h⟩
theorem seq_skip {os : List Oper} {fs : List Bool} {o : Oper} {a : Act} {w : World} (hw : Region.wanted o (yielded ops a.tmps) = false)
    (h : wpSeq P ops Q os fs S (a.put o.dst undef) w) : wpSeq P ops Q (o :: os) (true :: fs) S a w :=
  ⟨undef, .inr ⟨hw, rfl⟩, h⟩
theorem seq_pass {os : List Oper} {fs : List Bool} {o : Oper} {a : Act} {w : World} (hw : Region.wanted o (yielded ops a.tmps) = false)
    (h : wpSeq P ops Q os fs S (a.put o.dst undef) w) : wpSeq P ops Q (o :: os) (false :: fs) S a w := by
  unfold wpSeq
  rw [if_neg (by rw [hw]; simp)]
  exact h
/-- an operation that is carried out: behind it another condition may stand, that says more -/
theorem seq_call {os : List Oper} {fs : List Bool} {o : Oper} {a : Act} {w : World} (hw : Region.wanted o (yielded ops a.tmps) = true)
    (h : ∀ K : Act → World → Prop, Shut (∀ (S' : World → Prop) a w, (∀ x, S' x → S x) → S' w → wpSeq P ops Q os fs S' a w → K a w) → Oper.wp P o a w K Q) : wpSeq P ops Q (o :: os) (false :: fs) S a w := by
  unfold wpSeq
  rw [if_pos hw]
  exact h _ (fun S' a w h1 h2 h3 => ⟨S', h1, h2, h3⟩)
theorem wp_region_seq {l : List Oper} (σ : List Nat) (fs : List Bool) (S : World → Prop) {id : Nat} {a : Act} {w : World} (hm : P.follows .mixedOrders = true) (hs : Region.noSelect l.toArray = true)
    (hi : (σ.all fun i => decide (i < l.length)) = true) (hl : (l.length == σ.length && σ.length == fs.length) = true) (hp : planB .any l.toArray (σ.zip fs) (Array.replicate l.toArray.size false) = true)
    (hS : S w.drew) (h : wpSeq P l.toArray (NoPanic Q) (σ.map fun i => (l[i]?).getD default) fs S a w.drew) : (Code.region id l.toArray true).wp P Q a w := by
  refine wp_region_noPanic (wp_region_held (S := S) hm ?_)
  simp only [Bool.and_eq_true, beq_iff_eq] at hl
  have h1 := plan_of_seq (ops := l.toArray) (fun i => (l[i]?).getD default) σ fs S a w.drew (fun i hi' => by
    have := List.all_eq_true.1 hi i hi'
    have hlt : i < l.length := by simpa using this
    simp [hlt]) hl.2 hS h
  have := held_of_plan (md := .any) hs (fun c d v a w h => h) (σ.zip fs) S _ a w.drew hp hS h1
  rw [List.length_zip, ← hl.2, Nat.min_self, ← hl.1] at this
  simpa using this
end
end Go.Proofs.Ytnldmhljggcnpaa
