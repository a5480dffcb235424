import Derived.Test.YtnldmhljggcnpaaList6
import Derived.Test.YtnldmhljggcnpaaPlainD
namespace Go.Proofs.Ytnldmhljggcnpaa
set_option linter.unusedSimpArgs false
set_option linter.unusedVariables false
open Go.RowKit Cantle
set_option maxRecDepth 100000
set_option maxHeartbeats 4000000

theorem fit_Find_no {w : World} (p : Nat) (z : Int) (hz : isSize z = false) :
    Calls Try.prog 43 #[.pointer (some ⟨p, 0, none⟩), .int .i64 z] w fun e w' => e = .returned (.tuple #[.int .i64 0, errV 1]) ∧ w = w' := by
  have hC := class_Class z w
  rw [cls_none hz] at hC
  clear hz
  go_enter Try.func43, Try.ntmps43
  go_wp2_with fail
  refine hC.mono ?_; rintro e w1 ⟨rfl, rfl⟩
  go_wp2
  go_ret2
  exact ⟨rfl, rfl⟩
theorem lall_few {b : List UInt8} {c : Nat} {l : List Int} (h : lall b c = some l) : l.length ≤ 1024 := by
  unfold lall at h
  split at h
  · cases h
  · split at h
    · cases h
    · exact (chain_iff.1 h).2.1
def findR : Option Int → Value
  | none => .tuple #[.int .i64 0, errV 3]
  | some o => .tuple #[.int .i64 o, .nilIface]
theorem fit_Find {w : World} {p : Nat} {V : Value} {s : ArS} (h : Ar w p V s) (z : Int) (hz : isSize z = true) :
    Calls Try.prog 43 #[.pointer (some ⟨p, 0, none⟩), .int .i64 z] w fun e w' => e = .returned (findR (findB s.b z)) ∧ Keep No w w' := by
  have hr := cls_range hz
  have hs := (isSize_iff _).1 hz
  obtain ⟨c0, hc0⟩ := Int.eq_ofNat_of_zero_le hr.1
  have hC := class_Class z w
  rw [hc0] at hC hr
  have HA := hid (fun wx (k : Keep No w wx) c hc => list_All (h.keepNo k) c hc)
  have HG := hid (fun wx (k : Keep No w wx) o => block_Get (h.keepNo k) o)
  clear h
  generalize s.b = b at *
  generalize hF : findB b z = FF
  have HF := hid hF
  have HF0 : Hid (FF = findGo b z (22 - c0) c0) := hid (by rw [← hF]; unfold findB; rw [hc0, Int.toNat_natCast])
  clear hF hc0 hz
  go_enter Try.func43, Try.ntmps43
  go_wp2_with fail
  refine hC.mono ?_; rintro e w1 ⟨rfl, rfl⟩
  clear hC
  go_wp2_with fail
  go_loopw [6] (fun t wr => ∃ c k : Nat, t = .int .i64 c ∧ k + c = 22 ∧ FF = findGo b z k c ∧ Keep No w wr) (fun t _ => 22 - (intOf t).toNat)
  case atStart => exact ⟨c0, 22 - c0, rfl, by omega, HF0.out, Keep.refl _ _⟩
  case round =>
    obtain ⟨c, k, rfl, r1, r2, r3⟩ := hrel
    obtain ⟨wo, rfl⟩ : ∃ wo : World, wo = wr := ⟨_, rfl⟩
    have R2 := hid r2
    have R3 := hid r3
    clear r2 r3
    cases k with
    | zero =>
      obtain rfl : c = 22 := by omega
      have hFF : FF = some 0 := R2.out
      subst hFF
      go_wp2
      go_ret2
      exact ⟨rfl, R3.out⟩
    | succ k =>
      have hA := HA.out wo R3.out c (by omega)
      cases hl : lall b c with
      | none =>
        rw [hl] at hA
        have hFF : FF = none := by rw [R2.out]; simp [findGo, hl]
        subst hFF
        clear hl
        simp only [allR, errV] at hA
        go_wp2_with fail
        refine hA.mono ?_; rintro e w2 ⟨rfl, k2⟩
        go_wp2
        go_ret2
        exact ⟨rfl, R3.out.thenNo k2⟩
      | some l =>
        rw [hl] at hA
        have hFF : FF = match l.find? (bigAt b z) with | some o => some o | none => findGo b z k (c + 1) := by rw [R2.out]; simp only [findGo, hl]; rfl
        have HFF := hid hFF
        have hll : l.length ≤ 1024 := (lall_few hl)
        clear hl hFF
        simp only [allR] at hA
        go_wp2_with fail
        refine hA.mono ?_; rintro e w2 ⟨v, rfl, hN⟩
        obtain ⟨Av, cv, rfl, hv1, hv2⟩ := hN.own.form
        have HN := hid hN
        clear hA hN
        go_wp2_with fail
        go_loopw [33] (fun t wx => ∃ j : Nat, t = .int .i64 j ∧ j ≤ l.length ∧ l.find? (bigAt b z) = (l.drop j).find? (bigAt b z) ∧ Keep No w2 wx) (fun t _ => l.length - (intOf t).toNat)
        case atStart => exact ⟨0, rfl, by omega, by simp, Keep.refl _ _⟩
        case round =>
          obtain ⟨j, rfl, q1, q2, q3⟩ := hrel
          have Q2 := hid q2
          have Q3 := hid q3
          clear q2 q3
          by_cases hj : j < l.length
          · have hcell := (HN.out.rd.keepNo Q3.out).cells (by rw [iv_length]; omega)
            obtain ⟨g, o, cap, he, _, _, _, _, hcc⟩ := hcell
            cases he
            have hcj := hcc j _ (iv_get? l j hj)
            have hG := HG.out wr ((R3.out.thenNo HN.out.keep).thenNo Q3.out) l[j]
            have hdj : l.drop j = l[j] :: l.drop (j + 1) := List.drop_eq_getElem_cons hj
            have HDJ := hid hdj
            clear hcc hdj
            have hbg : bigAt b z l[j] = match bget b l[j] with | none => false | some x => decide (z ≤ x.size) := rfl
            cases hg : bget b l[j] with
            | none =>
              rw [hg] at hG hbg
              have HB := hid hbg
              simp only [blkR, errV] at hG
              clear hg hbg
              generalize hlj : l[j] = lj at *
              have HLJ := hid hlj
              clear hlj
              go_wp2_with fail
              refine hG.mono ?_; rintro e w3 ⟨rfl, k3⟩
              go_wp2
              refine ⟨⟨j + 1, rfl, by omega, ?_, ?_⟩, ?_⟩
              · rw [Q2.out, HDJ.out, List.find?_cons, HB.out]
              · exact (Q3.out.thenNo k3).thenNo (keep_alloc _ _)
              · simp [intOf]; omega
            | some x =>
              obtain ⟨xo, xs, xu⟩ := x
              rw [hg] at hG hbg
              have HB := hid hbg
              simp only [blkR, blkV] at hG
              clear hg hbg
              generalize hlj : l[j] = lj at *
              have HLJ := hid hlj
              clear hlj
              by_cases hge : z ≤ xs
              · have hFF : FF = some lj := by
                  rw [HFF.out, Q2.out, HDJ.out, List.find?_cons, HB.out]; simp [hge]
                subst hFF
                go_wp2_with fail
                refine hG.mono ?_; rintro e w3 ⟨rfl, k3⟩
                go_wp2
                go_ret2
                exact ⟨rfl, (((R3.out.thenNo HN.out.keep).thenNo Q3.out).thenNo k3).thenNo (keep_alloc _ _)⟩
              · have HNB : Hid (bigAt b z lj = false) := hid (by rw [HB.out]; simp [hge])
                go_wp2_with fail
                refine hG.mono ?_; rintro e w3 ⟨rfl, k3⟩
                go_wp2
                refine ⟨⟨j + 1, rfl, by omega, ?_, ?_⟩, ?_⟩
                · rw [Q2.out, HDJ.out, List.find?_cons, HNB.out]
                · exact (Q3.out.thenNo k3).thenNo (keep_alloc _ _)
                · simp [intOf]; omega
          · have hnf : l.find? (bigAt b z) = none := by rw [Q2.out, List.drop_of_length_le (by omega)]; rfl
            have HNF : Hid (FF = findGo b z k (c + 1)) := hid (by rw [HFF.out, hnf])
            clear hnf
            go_wp2
            refine ⟨⟨c + 1, k, rfl, by omega, HNF.out, (R3.out.thenNo HN.out.keep).thenNo Q3.out⟩, ?_⟩
            simp [intOf]; omega
end Go.Proofs.Ytnldmhljggcnpaa
