import Derived.Test.YtnldmhljggcnpaaMaps
import Derived.Test.YtnldmhljggcnpaaPlainN
import Derived.Test.YtnldmhljggcnpaaList6
import Derived.Test.YtnldmhljggcnpaaSched
import Derived.Deep.DeepCutAuto
namespace Go.Proofs.Ytnldmhljggcnpaa
set_option linter.unusedSimpArgs false
set_option linter.unusedVariables false
open Go.RowKit Cantle
set_option maxRecDepth 100000
set_option maxHeartbeats 4000000

/-- what is told of the free ones -/
def freeMR (w w' : World) (l : List Blk) (e : Ending) : Bool → Prop
  | false => e = .returned (.tuple #[.map none, .bool false]) ∧ Keep No w w'
  | true => ∃ b, e = .returned (.tuple #[.map (some b), .bool true]) ∧ Mp w' b (places l) ∧ Keep No w w' ∧ w.heap.size ≤ b
theorem check_free {w : World} {F : Nat → Prop} {A : Option Addr} {c : Nat} {l : List Blk} (h : Rd w F (.slice A l.length c) l.length (bks l)) (hl : l.length ≤ 1000000) (hn : (l.map (·.off)).Nodup) :
    Calls Try.prog 106 #[.slice A l.length c] w fun e w' => freeMR w w' l e (apartL l) := by
  have HR := hid h
  have HN := hid hn
  have hmm := @run_makeMap Try.prog
  generalize hAP : apartL l = ap
  have HAPL := hid hAP
  clear h hn hAP
  go_enter Try.func106, Try.ntmps106
  go_wp2_with fail
  go_loopw [10] (fun t wr => ∃ k : Nat, t = .int .i64 k ∧ k ≤ l.length ∧ apartL (l.take k) = true ∧ Mp wr w.heap.size (places (l.take k)) ∧ Keep (fun i => i = w.heap.size) (w.alloc (.map #[] 0)) wr) (fun t _ => l.length - (intOf t).toNat)
  case atStart => exact ⟨0, rfl, by omega, rfl, Mp.made w, Keep.refl _ _⟩
  case round =>
    obtain ⟨k, rfl, hk, r1, r2, r3⟩ := hrel
    have HK0 := hid (fun i (hi : i < w.heap.size) => show ¬ i = w.heap.size by omega)
    have R1 := hid r1
    have R2 := hid r2
    have R3 := hid r3
    clear r1 r2 r3
    by_cases hj : k < l.length
    · have hRr : Rd wr F (.slice A l.length c) l.length (bks l) := by
        obtain ⟨A', c', e, h1, h2, h3⟩ := HR.out
        refine ⟨A', c', e, h1, h2, fun hne => ?_⟩
        obtain ⟨b, o, q1, q2, q3, q4⟩ := h3 hne
        have K0 := (keep_alloc w (.map #[] 0)).no.then R3.out (S := fun i => i = w.heap.size) (fun _ _ h => h)
        exact ⟨b, o, q1, q2, Nat.lt_of_lt_of_le q3 K0.size, fun j u hju => K0.cell (HK0.out b q3) (q4 j u hju)⟩
      obtain ⟨g, o, cap, he, hgF, hgl, hcc⟩ := hRr.blkAt (by omega)
      cases he
      obtain ⟨c0, c1, c2⟩ := hcc k hj
      have hpl := places_take hj
      have hnew := place_new HN.out hj (cls l[k].size)
      have hpv : ∃ u : Bool, apartL (l.take (k + 1)) = (apartL (l.take k) && (u || l[k].used)) ∧ (k = 0 ∧ u = true ∨ ∃ j : Nat, j + 1 = k ∧ wr.cell? ⟨g, o + j * 3 + 2, none⟩ = some (.bool u)) := by
        cases k with
        | zero => exact ⟨true, by rw [apart_zero hj]; rfl, .inl ⟨rfl, rfl⟩⟩
        | succ j => exact ⟨(l[j]'(by omega)).used, by rw [apart_take hj]; cases (l[j]'(by omega)).used <;> cases l[j + 1].used <;> rfl, .inr ⟨j, rfl, (hcc j (by omega)).2.2⟩⟩
      have hlt := hgl
      generalize hux : l[k].used = xu at *
      generalize hxo : l[k].off = xo at *
      generalize hxs : l[k].size = xs at *
      clear hxo hxs
      have HPL := hid hpl
      clear hpl hcc
      have hCl := fun wx => class_Class xs wx
      cases xu with
      | true =>
        obtain ⟨u, hap, _⟩ := hpv
        have HAP := hid hap
        clear hux hap hnew hCl
        go_wp2
        refine ⟨⟨k + 1, rfl, by omega, ?_, ?_, R3.out.trans (Keep.alloc _ _ _)⟩, ?_⟩
        · rw [HAP.out, R1.out]; simp
        · rw [HPL.out, if_pos rfl]
          exact R2.out.keep (Keep.alloc No _ _) (fun q => q)
        · simp [intOf]; omega
      | false =>
        simp only [Bool.false_eq_true, if_false] at HPL
        obtain ⟨u, hap, hpv⟩ := hpv
        have HAP := hid hap
        clear hux hap
        rcases hpv with ⟨hk0, rfl⟩ | ⟨j, hjj, cu⟩
        · have hkz : ¬ (0 < (k : Int)) := by omega
          clear hk0
          have hcl := Keep.alloc No wr (.cells #[.int .i64 xo, .int .i64 xs, .bool false] 57)
          have hbx := heap_alloc_new wr (.cells #[.int .i64 xo, .int .i64 xs, .bool false] 57)
          obtain ⟨q0, q1, q2, q3, q4, q5, q6⟩ := bx3 hbx
          have hM8 := (R2.out.keep hcl (fun q => q)).keep (Keep.drew No _) (fun q => q)
          obtain ⟨w9, hU, hM9, k9⟩ := hM8.update hnew
          simp only [plV] at hU
          have HM8L := hid R2.out.lt
          have HM9 := hid hM9
          have HK9 := hid k9
          clear hM8 hM9 k9 hnew hbx
          have d0 := (Keep.drew No _).cell (fun q => q) q0
          have d1 := (Keep.drew No _).cell (fun q => q) q1
          go_upto_region 8 with fail
          refine wp_region_seq [0, 1, 2, 3, 4, 5, 6, 7] [true, true, true, true, true, false, true, false] (fun w' => w'.cell? ⟨wr.heap.size, 0, none⟩ = some (.int .i64 xo) ∧ w'.cell? ⟨wr.heap.size, 1, none⟩ = some (.int .i64 xs)) (by kernel_rfl) (by kernel_rfl) (by kernel_rfl) (by kernel_rfl) (by kernel_rfl) ⟨d0, d1⟩ ?_
          simp only [List.map_cons, List.map_nil, List.getElem?_cons_succ, List.getElem?_cons_zero, Option.getD_some]
          repeat (first
            | (refine seq_take (by rfl) (fun w hSw => by (try dsimp only at hSw); (try obtain ⟨hS1, hS2⟩ := hSw); go_simp; try with_reducible rfl) ?_; simp only [Act.put, List.setIfInBounds_toArray, List.set_cons_zero, List.set_cons_succ])
            | (refine seq_skip (by rfl) ?_; simp only [Act.put, List.setIfInBounds_toArray, List.set_cons_zero, List.set_cons_succ])
            | (refine seq_pass (by rfl) ?_; simp only [Act.put, List.setIfInBounds_toArray, List.set_cons_zero, List.set_cons_succ]))
          refine seq_call (by rfl) (fun K hK => ?_)
          go_simp
          refine (hCl _).mono ?_; rintro e wa ⟨rfl, rfl⟩
          go_wp2_with fail
          refine hK.out (fun w' => w'.cell? ⟨wr.heap.size, 0, none⟩ = some (.int .i64 xo) ∧ w'.cell? ⟨wr.heap.size, 1, none⟩ = some (.int .i64 xs)) _ _ (fun _ h => h) ⟨d0, d1⟩ ?_
          clear hK K
          try simp only [Act.put, List.setIfInBounds_toArray, List.set_cons_zero, List.set_cons_succ]
          repeat (first
            | (refine seq_take (by rfl) (fun w hSw => by (try dsimp only at hSw); (try obtain ⟨hS1, hS2⟩ := hSw); go_simp; try with_reducible rfl) ?_; simp only [Act.put, List.setIfInBounds_toArray, List.set_cons_zero, List.set_cons_succ])
            | (refine seq_skip (by rfl) ?_; simp only [Act.put, List.setIfInBounds_toArray, List.set_cons_zero, List.set_cons_succ])
            | (refine seq_pass (by rfl) ?_; simp only [Act.put, List.setIfInBounds_toArray, List.set_cons_zero, List.set_cons_succ]))
          refine seq_call (by rfl) (fun K hK => ?_)
          refine wp_mapUpdate_run (.tmp 28) (.tmp 34) (.const (.bool true)) 162 rfl _ _ _ rfl rfl rfl hU ?_
          refine hK.out (fun x => x = w9) _ _ (fun x hx => by subst hx; exact ⟨HK9.out.cell (fun e => by have := HM8L.out; simp at e; omega) d0, HK9.out.cell (fun e => by have := HM8L.out; simp at e; omega) d1⟩) rfl ?_
          clear hK K
          try simp only [Act.put, List.setIfInBounds_toArray, List.set_cons_zero, List.set_cons_succ]
          refine seq_nil ?_
          go_wp2
          refine ⟨⟨k + 1, rfl, by omega, ?_, ?_, ?_⟩, ?_⟩
          · rw [HAP.out, R1.out]; rfl
          · rw [HPL.out]; exact HM9.out
          · exact ((R3.out.trans (Keep.alloc _ _ _)).trans (Keep.drew _ _)).trans HK9.out
          · simp [intOf]; omega
        · have hkz : 0 < (k : Int) := by omega
          have hkj : (k : Int) - 1 = (j : Int) := by omega
          have hjl : (j : Int) < l.length := by omega
          cases u with
          | true =>
            clear hjj
            have cu' := (Keep.alloc No wr (.cells #[.int .i64 xo, .int .i64 xs, .bool false] 57)).cell (fun q => q) cu
            have hcl := Keep.alloc No wr (.cells #[.int .i64 xo, .int .i64 xs, .bool false] 57)
            have hbx := heap_alloc_new wr (.cells #[.int .i64 xo, .int .i64 xs, .bool false] 57)
            obtain ⟨q0, q1, q2, q3, q4, q5, q6⟩ := bx3 hbx
            have hM8 := (R2.out.keep hcl (fun q => q)).keep (Keep.drew No _) (fun q => q)
            obtain ⟨w9, hU, hM9, k9⟩ := hM8.update hnew
            simp only [plV] at hU
            have HM8L := hid R2.out.lt
            have HM9 := hid hM9
            have HK9 := hid k9
            clear hM8 hM9 k9 hnew hbx
            have d0 := (Keep.drew No _).cell (fun q => q) q0
            have d1 := (Keep.drew No _).cell (fun q => q) q1
            go_upto_region 8 with fail
            refine wp_region_seq [0, 1, 2, 3, 4, 5, 6, 7] [true, true, true, true, true, false, true, false] (fun w' => w'.cell? ⟨wr.heap.size, 0, none⟩ = some (.int .i64 xo) ∧ w'.cell? ⟨wr.heap.size, 1, none⟩ = some (.int .i64 xs)) (by kernel_rfl) (by kernel_rfl) (by kernel_rfl) (by kernel_rfl) (by kernel_rfl) ⟨d0, d1⟩ ?_
            simp only [List.map_cons, List.map_nil, List.getElem?_cons_succ, List.getElem?_cons_zero, Option.getD_some]
            repeat (first
              | (refine seq_take (by rfl) (fun w hSw => by (try dsimp only at hSw); (try obtain ⟨hS1, hS2⟩ := hSw); go_simp; try with_reducible rfl) ?_; simp only [Act.put, List.setIfInBounds_toArray, List.set_cons_zero, List.set_cons_succ])
              | (refine seq_skip (by rfl) ?_; simp only [Act.put, List.setIfInBounds_toArray, List.set_cons_zero, List.set_cons_succ])
              | (refine seq_pass (by rfl) ?_; simp only [Act.put, List.setIfInBounds_toArray, List.set_cons_zero, List.set_cons_succ]))
            refine seq_call (by rfl) (fun K hK => ?_)
            go_simp
            refine (hCl _).mono ?_; rintro e wa ⟨rfl, rfl⟩
            go_wp2_with fail
            refine hK.out (fun w' => w'.cell? ⟨wr.heap.size, 0, none⟩ = some (.int .i64 xo) ∧ w'.cell? ⟨wr.heap.size, 1, none⟩ = some (.int .i64 xs)) _ _ (fun _ h => h) ⟨d0, d1⟩ ?_
            clear hK K
            try simp only [Act.put, List.setIfInBounds_toArray, List.set_cons_zero, List.set_cons_succ]
            repeat (first
              | (refine seq_take (by rfl) (fun w hSw => by (try dsimp only at hSw); (try obtain ⟨hS1, hS2⟩ := hSw); go_simp; try with_reducible rfl) ?_; simp only [Act.put, List.setIfInBounds_toArray, List.set_cons_zero, List.set_cons_succ])
              | (refine seq_skip (by rfl) ?_; simp only [Act.put, List.setIfInBounds_toArray, List.set_cons_zero, List.set_cons_succ])
              | (refine seq_pass (by rfl) ?_; simp only [Act.put, List.setIfInBounds_toArray, List.set_cons_zero, List.set_cons_succ]))
            refine seq_call (by rfl) (fun K hK => ?_)
            refine wp_mapUpdate_run (.tmp 28) (.tmp 34) (.const (.bool true)) 162 rfl _ _ _ rfl rfl rfl hU ?_
            refine hK.out (fun x => x = w9) _ _ (fun x hx => by subst hx; exact ⟨HK9.out.cell (fun e => by have := HM8L.out; simp at e; omega) d0, HK9.out.cell (fun e => by have := HM8L.out; simp at e; omega) d1⟩) rfl ?_
            clear hK K
            try simp only [Act.put, List.setIfInBounds_toArray, List.set_cons_zero, List.set_cons_succ]
            refine seq_nil ?_
            go_wp2
            refine ⟨⟨k + 1, rfl, by omega, ?_, ?_, ?_⟩, ?_⟩
            · rw [HAP.out, R1.out]; rfl
            · rw [HPL.out]; exact HM9.out
            · exact ((R3.out.trans (Keep.alloc _ _ _)).trans (Keep.drew _ _)).trans HK9.out
            · simp [intOf]; omega
          | false =>
            have hap : apartL l = false := apart_no (k := k + 1) (by rw [HAP.out]; simp)
            obtain rfl : ap = false := by rw [← HAPL.out]; exact hap
            have cu' := (Keep.alloc No wr (.cells #[.int .i64 xo, .int .i64 xs, .bool false] 57)).cell (fun q => q) cu
            clear hap hjj
            go_wp2
            go_ret2
            exact ⟨rfl, (((keep_alloc w (.map #[] 0)).no.then R3.out (S := fun i => i = w.heap.size) (fun _ _ h => h)).mono (fun i hi e => HK0.out i hi e)).trans (Keep.alloc _ _ _)⟩
    · obtain rfl : k = l.length := by omega
      have hap := R1.out
      have hmp := R2.out
      rw [List.take_length] at hap hmp
      obtain rfl : ap = true := by rw [← HAPL.out]; exact hap
      clear hap
      go_wp2
      go_ret2
      exact ⟨w.heap.size, rfl, hmp, ((keep_alloc w (.map #[] 0)).no.then R3.out (S := fun i => i = w.heap.size) (fun _ _ h => h)).mono (fun i hi e => HK0.out i hi e), Nat.le_refl _⟩
theorem check_Check {w : World} {p : Nat} {V : Value} {s : ArS} (h : Ar w p V s) :
    Calls Try.prog 29 #[.pointer (some ⟨p, 0, none⟩)] w fun e w' => e = .returned (errV (if checkB s.b then 0 else 3)) ∧ Keep No w w' := by
  have hll := h.len_le
  have hcl := h.cap_le
  have hWk := block_Walk h
  have HB := hid (fun wx (k : Keep No w wx) => arena_Base (h.keepNo k))
  have HW := hid (fun wx (k : Keep No w wx) => arena_Word (h.keepNo k) 0 (by omega))
  have HA := hid (fun wx (k : Keep No w wx) c hc => list_All (h.keepNo k) c hc)
  simp only [Nat.add_zero] at HW
  clear h
  generalize hCB : checkB s.b = CB
  have HCB := hid hCB
  clear hCB
  generalize s.b = b at *
  generalize s.base = base at *
  cases hw : walk b with
  | none =>
    rw [hw] at hWk
    obtain rfl : CB = false := by rw [← HCB.out]; unfold checkB; rw [hw]
    clear hw
    simp only [errV, Bool.false_eq_true, if_false] at hWk ⊢
    go_enter Try.func29, Try.ntmps29
    go_wp2_with fail
    refine hWk.mono ?_; rintro e w1 ⟨rfl, k1⟩
    go_wp2
    go_ret
    exact ⟨rfl, k1⟩
  | some l =>
    rw [hw] at hWk
    have hlen0 := (walk_iff.1 hw).1
    have hnd := walk_nodup hw
    have hlf : l.length ≤ 1000000 := by
      have := walk_few hw
      omega
    have hCBv : CB = (apartL l && (decide (num b 0 < 4194304) && decide (eatGo b 22 0 (places l) = some []))) := by rw [← HCB.out]; unfold checkB; rw [hw]
    have HCV := hid hCBv
    clear hw hCBv HCB
    simp only at hWk
    rw [if_pos (by omega)] at HW
    simp only [errV] at HW
    have HN0 := hid (num_lt b 0)
    generalize num b 0 = N at *
    go_enter Try.func29, Try.ntmps29
    go_wp2_with fail
    refine hWk.mono ?_; rintro e w1 ⟨v, rfl, hN⟩
    obtain ⟨A, c, rfl, _, _⟩ := hN.own.form
    have hF := check_free hN.rd hlf hnd
    have HK1 := hid hN.keep
    clear hWk hN hnd
    cases hap : apartL l with
    | false =>
      rw [hap] at hF
      have HCV2 := HCV.out
      rw [hap] at HCV2
      obtain rfl : CB = false := HCV2
      clear hap
      simp only [freeMR, errV, Bool.false_eq_true, if_false] at hF ⊢
      go_wp2_with fail
      refine hF.mono ?_; rintro e w2 ⟨rfl, k2⟩
      go_wp2_with fail
      refine (HB.out _ (HK1.out.thenNo k2)).mono ?_; rintro e w3 ⟨rfl, rfl⟩
      go_wp2_with fail
      refine (HW.out _ (HK1.out.thenNo k2)).mono ?_; rintro e w3 ⟨rfl, rfl⟩
      go_wp2
      go_ret
      exact ⟨rfl, HK1.out.thenNo k2⟩
    | true =>
      rw [hap] at hF
      have HCV2 := HCV.out
      rw [hap, Bool.true_and] at HCV2
      have HC2 := hid HCV2
      clear HCV2 hap HCV
      simp only [freeMR] at hF
      go_wp2_with fail
      refine hF.mono ?_; rintro e w2 ⟨B, rfl, hM, k2, hB⟩
      have K2 := hid (HK1.out.thenNo k2)
      have hBw : w.heap.size ≤ B := Nat.le_trans HK1.out.size hB
      have HM := hid hM
      clear hM k2 hF
      go_wp2_with fail
      refine (HB.out _ K2.out).mono ?_; rintro e w3 ⟨rfl, rfl⟩
      go_wp2_with fail
      refine (HW.out _ K2.out).mono ?_; rintro e w3 ⟨rfl, rfl⟩
      by_cases hN4 : N < 4194304
      · have hsh : (N : Int) / 4194304 = 0 := by omega
        have HC3 : Hid (CB = decide (eatGo b 22 0 (places l) = some [])) := hid (by rw [HC2.out]; simp [hN4])
        clear HC2 hN4
        obtain ⟨wS, rfl⟩ : ∃ wS : World, wS = w2 := ⟨_, rfl⟩
        go_wp2_with fail
        go_loopw [46] (fun t wr => ∃ (k : Nat) (left : List (Int × Int)), t = .int .i64 k ∧ k ≤ 22 ∧ eatGo b 22 0 (places l) = eatGo b (22 - k) k left ∧ Mp wr B left ∧ left.length ≤ l.length ∧ Keep (fun i => i = B) wS wr) (fun t _ => 22 - (intOf t).toNat)
        case atStart => exact ⟨0, places l, rfl, by omega, rfl, HM.out, by unfold places; rw [List.length_map]; exact List.length_filter_le _ _, Keep.refl _ _⟩
        case round =>
          obtain ⟨k, left, rfl, hk, r1, r2, r3, r4⟩ := hrel
          obtain ⟨wo, rfl⟩ : ∃ wo : World, wo = wr := ⟨_, rfl⟩
          have R1 := hid r1
          have R2 := hid r2
          have R4 := hid r4
          have KR := hid (show Keep No w wo from K2.out.then r4 (fun i hi e => by omega))
          clear r1 r2 r4
          by_cases hj : k < 22
          · have hjz : (k : Int) < 22 := by omega
            have hA := HA.out wo KR.out k hj
            have hgo : eatGo b (22 - k) k left = match lall b k with
                | none => none
                | some M => match eatC k M left with
                  | none => none
                  | some left' => eatGo b (22 - (k + 1)) (k + 1) left' := by
              rw [show 22 - k = (22 - (k + 1)) + 1 from by omega]; rfl
            have HGO := hid hgo
            clear hgo
            cases hl : lall b k with
            | none =>
              rw [hl] at hA
              obtain rfl : CB = false := by rw [HC3.out, R1.out, HGO.out, hl]; rfl
              clear hl
              simp only [allR, errV] at hA
              go_wp2_with fail
              refine hA.mono ?_; rintro e w5 ⟨rfl, k5⟩
              go_wp2
              go_ret
              exact ⟨rfl, KR.out.thenNo k5⟩
            | some M =>
              rw [hl] at hA
              have hgo := HGO.out
              rw [hl] at hgo
              simp only at hgo
              have HGO2 := hid hgo
              clear hgo hl
              simp only [allR] at hA
              go_wp2_with fail
              refine hA.mono ?_; rintro e w5 ⟨v5, rfl, hN5⟩
              obtain ⟨A5, c5, rfl, _, _⟩ := hN5.own.form
              have HN5 := hid hN5
              clear hA hN5
              obtain ⟨wT, rfl⟩ : ∃ wT : World, wT = w5 := ⟨_, rfl⟩
              go_wp2_with fail
              go_loopw [60] (fun t wx => ∃ (j : Nat) (left2 : List (Int × Int)), t = .int .i64 j ∧ j ≤ M.length ∧ eatC k M left = eatC k (M.drop j) left2 ∧ Mp wx B left2 ∧ left2.length ≤ l.length ∧ Keep (fun i => i = B) wT wx) (fun t _ => M.length - (intOf t).toNat)
              case atStart => exact ⟨0, left, rfl, by omega, by rw [List.drop_zero], R2.out.keep HN5.out.keep (fun q => q), r3, Keep.refl _ _⟩
              case round =>
                obtain ⟨j, left2, rfl, hj2, q1, q2, q3, q4⟩ := hrel
                have Q1 := hid q1
                have Q2 := hid q2
                have Q4 := hid q4
                clear q1 q2 q4
                by_cases hj3 : j < M.length
                · have hRd : Rd wr (fun i => i ≠ B) (.slice A5 M.length c5) M.length (iv M) := by
                    have hb := R2.out.lt
                    exact (HN5.out.rd.mono (F' := fun i => i ≠ B) (fun i _ hi => by omega)).keep Q4.out (fun i hi => hi)
                  obtain ⟨g, o, cap, he, _, _, _, hgl, hcc⟩ := hRd.cells (by rw [iv_length]; omega)
                  cases he
                  have cM := hcc j _ (iv_get? M j hj3)
                  have hdr : M.drop j = M[j] :: M.drop (j + 1) := List.drop_eq_getElem_cons hj3
                  have hea : eatC k (M.drop j) left2 = if (M[j], (k : Int)) ∈ left2 then eatC k (M.drop (j + 1)) (left2.erase (M[j], (k : Int))) else none := by rw [hdr]; rfl
                  have HEA := hid hea
                  have hjM : (j : Int) < M.length := by omega
                  clear hcc hdr hea hRd
                  generalize M[j] = mo at *
                  have hLk := Q2.out.look (mo, (k : Int))
                  simp only [plV] at hLk
                  by_cases hin : (mo, (k : Int)) ∈ left2
                  · obtain ⟨w7, hD, hM7, k7⟩ := Q2.out.drop (mo, (k : Int)) 0
                    simp only [plV] at hD
                    rw [decide_eq_true hin] at hLk
                    have HM7 := hid hM7
                    have K7 := hid k7
                    have hq1 : eatC k M left = eatC k (M.drop (j + 1)) (left2.erase (mo, (k : Int))) := by rw [Q1.out, HEA.out, if_pos hin]
                    have HQ1 := hid hq1
                    have hle : (left2.erase (mo, (k : Int))).length ≤ l.length := Nat.le_trans (List.length_erase_le ..) q3
                    clear hM7 k7 hq1 hin
                    go_wp2_with (at_builtin; refine wpList_delete_run rfl (.tmp 71) (.tmp 74) 162 167 rfl _ _ rfl rfl hD ?_)
                    go_wp2
                    refine ⟨⟨j + 1, _, rfl, by omega, HQ1.out, HM7.out, hle, Q4.out.trans K7.out⟩, ?_⟩
                    simp [intOf]; omega
                  · rw [decide_eq_false hin] at hLk
                    obtain rfl : CB = false := by
                      rw [HC3.out, R1.out, HGO2.out, Q1.out, HEA.out, if_neg hin]; rfl
                    clear hin
                    go_wp2
                    go_ret
                    exact ⟨rfl, (KR.out.thenNo HN5.out.keep).then Q4.out (fun i hi e => by omega)⟩
                · obtain rfl : j = M.length := by omega
                  have hq : eatC k M left = some left2 := by rw [Q1.out, List.drop_length]; rfl
                  have hgo2 : eatGo b 22 0 (places l) = eatGo b (22 - (k + 1)) (k + 1) left2 := by rw [R1.out, HGO2.out, hq]
                  have HG2 := hid hgo2
                  clear hq hgo2
                  go_wp2
                  refine ⟨⟨k + 1, left2, rfl, by omega, HG2.out, Q2.out, q3, (R4.out.thenNo HN5.out.keep).trans Q4.out⟩, ?_⟩
                  simp [intOf]; omega
          · obtain rfl : k = 22 := by omega
            have hLn := R2.out.len 3
            have hfin : eatGo b 22 0 (places l) = some left := R1.out
            cases left with
            | nil =>
              obtain rfl : CB = true := by rw [HC3.out, hfin]; rfl
              clear hfin
              simp only [List.length_nil, Int.natCast_zero] at hLn
              go_wp2
              go_ret
              exact ⟨rfl, KR.out⟩
            | cons x left =>
              obtain rfl : CB = false := by rw [HC3.out, hfin]; rfl
              clear hfin
              have hpos : 0 < ((x :: left).length : Int) := by rw [List.length_cons]; omega
              generalize (x :: left).length = n at *
              go_wp2
              go_ret
              exact ⟨rfl, KR.out⟩
      · have hsh : ((N : Int) / 4194304 == 0) = false := by rw [beq_eq_false_iff_ne]; omega
        obtain rfl : CB = false := by rw [HC2.out]; simp [hN4]
        clear HC2
        go_wp2
        go_ret
        exact ⟨rfl, K2.out⟩
end Go.Proofs.Ytnldmhljggcnpaa
