import Derived.Test.YtnldmhljggcnpaaInts
import Derived.Test.YtnldmhljggcnpaaPick
import Derived.Test.YtnldmhljggcnpaaRefCl
import Derived.Test.YtnldmhljggcnpaaPlainF
namespace Go.Proofs.Ytnldmhljggcnpaa
set_option linter.unusedSimpArgs false
set_option linter.unusedVariables false
open Go.RowKit Cantle
set_option maxRecDepth 100000
set_option maxHeartbeats 4000000

theorem class_ref01k (s : Int) (w : World) : Calls Try.prog 36 #[.int .i64 s] w fun e w' => e = .returned (.int .i64 (cls s)) ∧ Keep No w w' :=
  (class_ref01 s w).mono fun _ _ ⟨h1, h2⟩ => ⟨h1, h2 ▸ Keep.refl _ _⟩
theorem NewK.snoc {w wr w1 : World} {v : Value} {l : List Blk} (h : NewK w wr v l) (k : Keep No wr w1) (x : Blk) (hm : l.length ≤ 1000000) (ty : TypeId) :
    ∃ g cap w', (Builtin.append_ #[22, 22] ty #[v, .slice (some ⟨w1.heap.size, 0, none⟩) 1 1]).run Try.prog (w1.alloc (.cells #[.int .i64 x.off, .int .i64 x.size, .bool x.used] 57)) = .ok (.slice (some ⟨g, 0, none⟩) (l.length + 1) cap) w' ∧
      NewK w w' (.slice (some ⟨g, 0, none⟩) (l.length + 1) cap) (l ++ [x]) ∧ Keep (fun i => v.ownBlock = some i) w1 w' := by
  obtain ⟨g, cap, w', h1, h2, h3, h4, h5⟩ := append_blk (h.own.keepNo k) x hm ty
  refine ⟨g, cap, w', h1, ⟨(h.keep.thenNo k).then h3 (fun i hi e => by have := h.ge i e; omega), h2, fun i hi => ?_⟩, h3⟩
  have hgi : g = i := Option.some.inj hi
  subst hgi
  have := h.keep.size
  have := k.size
  rcases h4 with q | q
  · exact h.ge _ q
  · omega
theorem listsOf_few (l : List Blk) (j k : Nat) : (listsOf (l.drop j) k).length ≤ l.length := by
  unfold listsOf
  rw [List.length_reverse, List.length_map]
  refine Nat.le_trans (List.length_filter_le _ _) ?_
  rw [List.length_drop]; omega
theorem FitAll_walk {w : World} {F G : Nat → Prop} {A B : Option Addr} {c d : Nat} {xs : List Int} {us : List Bool} (ha : Rd w F (.slice A xs.length c) xs.length (iv xs)) (hb : Rd w G (.slice B us.length d) us.length (us.map Value.bool))
    (hx : ∀ x ∈ xs, -9223372036854775808 ≤ x ∧ x ≤ 9223372036854775807) (z : Int) :
    Calls Try.prog 6 #[.slice A xs.length c, .slice B us.length d, .int .i64 z] w fun e w' => e = .returned (.bool true) ∧ Keep No w w' := by
  obtain ⟨A', c', he, hl1, hl2⟩ := ha.form'
  have hxl : xs.length ≤ 9223372036854775807 := by omega
  clear he hl1 hl2 A' c'
  obtain ⟨A', c', he, hl1, hl2⟩ := hb.form'
  have hul : us.length ≤ 9223372036854775807 := by omega
  clear he hl1 hl2 A' c'
  have HA := hid ha
  have HB := hid hb
  have HX := hid hx
  clear ha hb hx
  go_enter Try.func6, Try.ntmps6
  go_wp2_with fail
  refine up_law10.mono ?_; rintro e w1 ⟨rfl, k1⟩
  have K1 := hid k1
  by_cases g1 : 40 < (xs.length : Int)
  · go_wp2
    go_ret
    exact ⟨rfl, k1⟩
  clear k1
  go_wp2_with fail
  go_loopw [8, 9, 10] (fun v o i wr => ∃ k : Nat, i = .int .i64 k ∧ k ≤ xs.length ∧ ∃ (l : List Blk) (E : Int), o = .int .i64 E ∧ E = ends 184 l ∧ l.length = k ∧ tiled 184 l ∧ E ≤ 184 + 336 * k ∧ NewK w1 wr v l) (fun _ _ i _ => xs.length - (intOf i).toNat)
  case atStart => exact ⟨0, rfl, by omega, [], 184, rfl, rfl, rfl, trivial, by omega, Keep.refl _ _, OwnK.nil _, fun _ h => by cases h⟩
  case round =>
    obtain ⟨k, rfl, hk, l, E, rfl, q1, q2, q3, q4, q5⟩ := hrel
    subst q2
    obtain ⟨Av, cv, rfl, _, _⟩ := q5.own.form
    have hE := tiled_ends q3
    rw [← q1] at hE
    have hE1 := hE.1
    have Q1 := hid q1
    have Q3 := hid q3
    have Q5 := hid q5
    clear q1 q3 q5 hE
    by_cases hj : l.length < xs.length
    · obtain ⟨g, o, cap, he, _, _, _, hgl, hcc⟩ := (HA.out.keepNo (K1.out.thenNo Q5.out.keep)).cells (by rw [iv_length]; omega)
      cases he
      have c1 := hcc l.length _ (iv_get? xs l.length hj)
      have hxk := HX.out xs[l.length] (List.getElem_mem hj)
      have hP := fun wx => pick_law00 (w := wx) xs[l.length] 20 hxk.1 hxk.2 (by decide) (by decide)
      have hq1 := Int.emod_nonneg xs[l.length] (b := 20) (by decide)
      have hq2 := Int.emod_lt_of_pos xs[l.length] (b := 20) (by decide)
      clear hcc hxk
      generalize xs[l.length] % 20 = q at *
      generalize xs[l.length] = xk at *
      have hu : ∃ u : Bool, (l.length < us.length ∧ us[l.length]? = some u) ∨ (¬ l.length < us.length ∧ u = false) := by
        by_cases h : l.length < us.length
        · exact ⟨us[l.length], .inl ⟨h, List.getElem?_eq_getElem h⟩⟩
        · exact ⟨false, .inr ⟨h, rfl⟩⟩
      obtain ⟨u, hu⟩ := hu
      have hsn := fun w2 (kk : Keep No wr w2) => Q5.out.snoc kk ⟨E, 32 + 16 * q, u⟩ (by omega) 22
      have HSN := hid hsn
      clear hsn
      simp only at HSN
      have HE2 : Hid (tiled 184 (l ++ [⟨E, 32 + 16 * q, u⟩]) ∧ E + (32 + 16 * q) = ends 184 (l ++ [⟨E, 32 + 16 * q, u⟩])) := hid (by
        have := tiled_snoc (x := ⟨E, 32 + 16 * q, u⟩) Q3.out Q1.out ((isSize_iff _).2 ⟨by show 32 ≤ 32 + 16 * q; omega, by show 32 + 16 * q ≤ 16384; omega, by show (32 + 16 * q) % 16 = 0; omega⟩)
        exact ⟨this.1, by rw [this.2, Q1.out]⟩)
      have KA := keep_alloc wr (.cells #[.int .i64 E, .int .i64 (32 + 16 * q), .bool u] 57)
      have hbx := heap_alloc_new wr (.cells #[.int .i64 E, .int .i64 (32 + 16 * q), .bool u] 57)
      obtain ⟨g9, cap9, w9, ha9, hN9, hk9⟩ := HSN.out _ KA
      have hbx9 := hk9.heap (fun e => by have := Q5.out.own.lt _ e; omega) hbx
      have KA2 := hid KA
      obtain ⟨b0, b1, b2, f0, f1, f2, bl⟩ := bx3 hbx
      obtain ⟨d0, d1, d2, e0, e1, e2, el⟩ := bx3 hbx9
      have hsz : (wr.alloc (.cells #[.int .i64 E, .int .i64 (32 + 16 * q), .bool u] 57)).heap.size = wr.heap.size + 1 := by simp
      rw [hsz] at ha9
      have HN9 := hid hN9
      clear hsz hN9 hk9 hbx hbx9 HSN KA
      rcases hu with ⟨hu1, hu2⟩ | ⟨hu1, rfl⟩
      · obtain ⟨gb, ob, capb, heb, _, _, _, hglb, hccb⟩ := (HB.out.keepNo (K1.out.thenNo Q5.out.keep)).cells (by rw [List.length_map]; omega)
        cases heb
        have cb := hccb l.length (.bool u) (by rw [List.getElem?_map, hu2]; rfl)
        clear hccb hu2
        have cb2 := KA2.out.cell (fun q => q) cb
        have cc2 := KA2.out.cell (fun q => q) c1
        go_wp2_with fail
        refine (hP _).mono ?_; rintro e w2 ⟨rfl, rfl⟩
        go_wp2_with (at_builtin; refine Lib.wpList_append_run _ rfl (.tmp 54) (.tmp 56) 22 22 rfl _ _ rfl rfl _ _ ha9 ?_)
        go_wp2
        refine ⟨⟨l.length + 1, rfl, by omega, _, _, rfl, HE2.out.2, by simp, HE2.out.1, by omega, HN9.out⟩, ?_⟩
        simp [intOf]; omega
      · go_wp2_with fail
        refine (hP _).mono ?_; rintro e w2 ⟨rfl, rfl⟩
        go_wp2_with (at_builtin; refine Lib.wpList_append_run _ rfl (.tmp 54) (.tmp 56) 22 22 rfl _ _ rfl rfl _ _ ha9 ?_)
        go_wp2
        refine ⟨⟨l.length + 1, rfl, by omega, _, _, rfl, HE2.out.2, by simp, HE2.out.1, by omega, HN9.out⟩, ?_⟩
        simp [intOf]; omega
    · have hk40 : (l.length : Int) ≤ 40 := by omega
      obtain ⟨N, rfl⟩ := Int.eq_ofNat_of_zero_le (show 0 ≤ E by omega)
      have hN1 : 184 ≤ N := by omega
      have hN2 : N ≤ 16384 := by omega
      have hmk := fun wx => mk_bytes N (by omega) wx
      obtain ⟨wb, rfl⟩ : ∃ wb : World, wb = wr := ⟨_, rfl⟩
      have hz0 := new_zeros N (by omega) wb
      rw [List.length_replicate] at hz0
      have hz1 : Rd (wb.alloc (.cells (zb N) 5)) (fun i => wb.heap.size ≤ i) (.slice (some ⟨wb.heap.size, 0, none⟩) N N) (List.replicate N (0 : UInt8)).length (bv (List.replicate N 0)) := by rw [List.length_replicate]; exact hz0
      clear hz0
      have hAr := law00_Arena (w := wb.alloc (.cells (zb N) 5)) (l := List.replicate N 0) 32 16384 (by decide) hz1 (by rw [List.length_replicate]; omega)
      have e32 : ((32 : Nat) : Int) = 32 := rfl
      rw [e32] at hAr
      clear e32 HA HB HX hxl hul
      have HZ : Hid ((List.replicate N (0 : UInt8)).length = N) := hid List.length_replicate
      generalize List.replicate N (0 : UInt8) = Z at *
      have hKZ := hid (keep_alloc wb (.cells (zb N) 5))
      go_wp2_with fail
      refine hAr.mono ?_; rintro e w3 ⟨p, V, rfl, hNA⟩
      have HR0 : Hid (NewA wb w3 p V ⟨32, 16384, Z⟩) := hid (NewA.old hKZ.out hNA)
      clear hAr hNA hmk
      go_wp2_with fail
      go_loopw [13] (fun i wx => ∃ k : Nat, i = .int .i64 k ∧ k ≤ l.length ∧ ∃ b : List UInt8, b.length = N ∧ tlp b 184 (l.take k) ∧ NewA wb wx p V ⟨32, 16384, b⟩) (fun i _ => l.length - (intOf i).toNat)
      case atStart => exact ⟨0, rfl, by omega, Z, HZ.out, trivial, HR0.out⟩
      case round =>
        obtain ⟨k, rfl, hk2, b, r1, r2, r3⟩ := hrel
        have R1 := hid r1
        have R2 := hid r2
        have R3 := hid r3
        clear r1 r2 r3
        by_cases hj2 : k < l.length
        · obtain ⟨g, o, cap, he, hgF, hgl, hcc⟩ := (Q5.out.rd.keepNo R3.out.keep).blkAt (by omega)
          cases he
          obtain ⟨c0, c1, c2⟩ := hcc k hj2
          have ht := tiled_at Q3.out hj2
          have hset : ∃ b', bset b l[k] = some b' ∧ b'.length = b.length ∧ tlp b' 184 (l.take (k + 1)) := by
            have := tlp_set R2.out ht.1 (by omega) (by omega) ht.2.1 (by have := R1.out; have := Q1.out; omega)
            rwa [List.take_append_getElem hj2] at this
          obtain ⟨b', hb1, hb2, hb3⟩ := hset
          have hS := block_Set_ok R3.out.ar l[k] hb1
          simp only [blkV] at hS
          have HB2 := hid hb2
          have HB3 := hid hb3
          clear hcc ht hb1 hb2 hb3
          generalize l[k].off = xo at *
          generalize l[k].size = xs' at *
          generalize l[k].used = xu at *
          go_wp2_with fail
          refine hS.mono ?_; rintro e w4 ⟨rfl, hM⟩
          have HM := hid hM
          clear hS hM
          go_wp2
          refine ⟨⟨k + 1, rfl, by omega, b', by rw [HB2.out, R1.out], HB3.out, R3.out.mut HM.out⟩, ?_⟩
          simp [intOf]; omega
        · obtain rfl : k = l.length := by omega
          have hw : walk b = some l := walk_set (by have := R2.out; rwa [List.take_length] at this) (by rw [R1.out]; exact Q1.out.symm) (by rw [R1.out]; exact hN1)
          obtain ⟨b2, hr1, hr2, hr3, _⟩ := rebuild_inv hw (by rw [R1.out]; exact hN2)
          have hR := fit_Rebuild R3.out.ar
          simp only at hR
          rw [hr1] at hR
          simp only [rebuildR] at hR
          have HINV := hid hr2
          clear hw hr1 hr2 hr3
          go_wp2_with fail
          refine hR.mono ?_; rintro e w4 ⟨rfl, hM⟩
          have HN4 : Hid (NewA wb w4 p V ⟨32, 16384, b2⟩) := hid (R3.out.mut hM)
          clear hR hM
          go_wp2_with fail
          go_loopw [14] (fun i wx => ∃ k : Nat, i = .int .i64 k ∧ k ≤ 22 ∧ NewA wb wx p V ⟨32, 16384, b2⟩) (fun i _ => 22 - (intOf i).toNat)
          case atStart => exact ⟨0, rfl, by omega, HN4.out⟩
          case round =>
            obtain ⟨k, rfl, hk3, r5⟩ := hrel
            obtain ⟨wo, rfl⟩ : ∃ wo : World, wo = wr := ⟨_, rfl⟩
            have R5 := hid r5
            clear r5
            by_cases hj3 : k < 22
            · have hk22 : (k : Int) < 22 := by omega
              have HLA := hid (fun wx (kk : Keep No wo wx) => list_All (R5.out.keepNo kk).ar k hj3)
              have hla := HINV.out.lall hj3
              simp only at HLA
              rw [hla] at HLA
              simp only [allR] at HLA
              clear hla
              go_wp2_with fail
              go_loopw [15, 16] (fun v i wx => ∃ (j : Nat) (y : Int), i = .int .i64 y ∧ y = (j : Int) - 1 ∧ j ≤ l.length ∧ NewI wo wx v (listsOf (l.drop j) k)) (fun _ i _ => (intOf i + 1).toNat)
              case atStart => exact ⟨l.length, _, rfl, rfl, Nat.le_refl _, by rw [List.drop_length]; exact ⟨Keep.refl _ _, OwnI.nil _, fun _ h => by cases h⟩⟩
              case round =>
                obtain ⟨j, y, rfl, hy, hj, r6⟩ := hrel
                obtain ⟨wo2, rfl⟩ : ∃ wo2 : World, wo2 = wr := ⟨_, rfl⟩
                obtain ⟨Av2, cv2, rfl, _, _⟩ := r6.own.form
                have R6 := hid r6
                clear r6
                cases j with
                | zero =>
                  obtain rfl : y = -1 := by omega
                  have hA := HLA.out wo2 R6.out.keep
                  have HW := hid (show NewI wo wo2 (.slice Av2 (listsOf (l.drop 0) k).length cv2) (listsOf l k) from R6.out)
                  simp only [List.drop_zero] at *
                  clear hy
                  go_wp2_with fail
                  refine hA.mono ?_; rintro e w5 ⟨v, rfl, hN5⟩
                  obtain ⟨Av3, cv3, rfl, _, _⟩ := hN5.own.form
                  have hI := law00_Ints hN5.rd (HW.out.rd.keepNo hN5.keep)
                  have HN5 := hid hN5
                  clear hA hN5
                  go_wp2_with fail
                  refine hI.mono ?_; rintro e w6 ⟨rfl, k6⟩
                  go_wp2
                  refine ⟨⟨k + 1, rfl, by omega, ((R5.out.keepNo HW.out.keep).keepNo HN5.out.keep).keepNo k6⟩, ?_⟩
                  simp [intOf]; omega
                | succ j =>
                  obtain rfl : y = (j : Int) := by omega
                  have hj4 : j < l.length := by omega
                  obtain ⟨g, o, cap, he, hgF, hgl, hcc⟩ := (Q5.out.rd.keepNo ((R5.out.keep).thenNo R6.out.keep)).blkAt (by omega)
                  cases he
                  obtain ⟨c0, c1, c2⟩ := hcc j hj4
                  have hlo := listsOf_cons l[j] (l.drop (j + 1)) k
                  rw [← List.drop_eq_getElem_cons hj4] at hlo
                  have HLO := hid hlo
                  have hfw := (listsOf_few l (j + 1) k)
                  clear hcc hlo hy
                  generalize l[j].off = xo at *
                  generalize l[j].size = xs' at *
                  generalize l[j].used = xu at *
                  have hCl := fun wx => class_ref01k xs' wx
                  have HSN := hid (fun wx (kk : Keep No wo2 wx) => R6.out.snoc kk xo (by omega) 43)
                  cases xu with
                  | true =>
                    have HE : Hid (listsOf (l.drop j) k = listsOf (l.drop (j + 1)) k) := hid (by rw [HLO.out]; simp)
                    go_wp2
                    refine ⟨⟨j, _, rfl, rfl, by omega, by rw [HE.out]; exact R6.out⟩, ?_⟩
                    simp [intOf]
                  | false =>
                    by_cases hce : cls xs' = (k : Int)
                    · have HE : Hid (listsOf (l.drop j) k = listsOf (l.drop (j + 1)) k ++ [xo]) := hid (by rw [HLO.out]; simp [hce])
                      rw [hce] at hCl
                      go_wp2_with fail
                      refine (hCl _).mono ?_; rintro e w5 ⟨rfl, k5⟩
                      have c0' := k5.cell (fun q => q) c0
                      have hgl5 := Nat.lt_of_lt_of_le hgl k5.size
                      obtain ⟨g9, cap9, w9, ha9, hN9⟩ := HSN.out _ k5
                      have HN9 := hid hN9
                      clear hN9 c0 c1 c2 hgl
                      go_wp2_with (at_builtin; refine Lib.wpList_append_run _ rfl (.tmp 110) (.tmp 116) 43 43 rfl _ _ rfl rfl _ _ ha9 ?_)
                      go_wp2
                      refine ⟨⟨j, _, rfl, rfl, by omega, by rw [HE.out]; exact HN9.out⟩, ?_⟩
                      simp [intOf]
                    · have HE : Hid (listsOf (l.drop j) k = listsOf (l.drop (j + 1)) k) := hid (by rw [HLO.out]; simp [hce])
                      generalize cls xs' = cc at *
                      go_wp2_with fail
                      refine (hCl _).mono ?_; rintro e w5 ⟨rfl, k5⟩
                      go_wp2
                      refine ⟨⟨j, _, rfl, rfl, by omega, by rw [HE.out]; exact ⟨R6.out.keep.thenNo k5, R6.out.own.keepNo k5, R6.out.ge⟩⟩, ?_⟩
                      simp [intOf]
            · obtain rfl : k = 22 := by omega
              have HK0 := hid ((K1.out.thenNo Q5.out.keep).thenNo R5.out.keep)
              have hCl := fun wx => class_ref01k z wx
              cases hz : isSize z with
              | false =>
                rw [cls_none hz] at hCl
                clear hz
                go_wp2_with fail
                refine (hCl _).mono ?_; rintro e w5 ⟨rfl, k5⟩
                go_wp2
                go_ret
                exact ⟨rfl, HK0.out.thenNo k5⟩
              | true =>
                have hcr := (cls_range hz).1
                have hcl : ¬ cls z < 0 := by omega
                have HF := hid (fun wx (kk : Keep No wo wx) => fit_Find (R5.out.keepNo kk).ar z hz)
                obtain ⟨at_, hf1, hf2, hf3⟩ := find_inv HINV.out hz
                simp only at HF
                rw [hf1] at HF
                simp only [findR] at HF
                have HF2 := hid hf2
                have HF3 := hid hf3
                clear hz hf1 hf2 hf3 hcr
                generalize cls z = cc at *
                go_wp2_with fail
                refine (hCl _).mono ?_; rintro e w5 ⟨rfl, k5⟩
                have hF := HF.out _ k5
                go_wp2_with fail
                refine hF.mono ?_; rintro e w6 ⟨rfl, k6⟩
                have HK6 := hid ((HK0.out.thenNo k5).thenNo k6)
                have HQ6 := hid ((R5.out.keep.thenNo k5).thenNo k6)
                clear hF hCl k5 k6
                go_wp2_with fail
                go_loopw [21, 22, 23] (fun r f i wx => ∃ k : Nat, i = .int .i64 k ∧ k ≤ l.length ∧ r = .bool (roomB (l.take k) z) ∧ f = .bool (decide (at_ = 0) || foundB (l.take k) z at_) ∧ Keep No w6 wx) (fun _ _ i _ => l.length - (intOf i).toNat)
                case atStart => exact ⟨0, rfl, by omega, rfl, by simp [foundB]; by_cases h : at_ = 0 <;> simp [h], Keep.refl _ _⟩
                case round =>
                  obtain ⟨k, rfl, hk5, rfl, rfl, r7⟩ := hrel
                  have R7 := hid r7
                  clear r7
                  by_cases hj5 : k < l.length
                  · obtain ⟨g, o, cap, he, hgF, hgl, hcc⟩ := (Q5.out.rd.keepNo (HQ6.out.thenNo R7.out)).blkAt (by omega)
                    cases he
                    obtain ⟨c0, c1, c2⟩ := hcc k hj5
                    have hro := roomB_take hj5 z
                    have hfo := foundB_take hj5 z at_
                    clear hcc
                    generalize l[k].off = xo at *
                    generalize l[k].size = xs' at *
                    generalize l[k].used = xu at *
                    have HRO := hid hro
                    have HFO := hid (show (decide (at_ = 0) || foundB (l.take (k + 1)) z at_) = ((decide (at_ = 0) || foundB (l.take k) z at_) || (decide (xo = at_) && !xu && decide (z ≤ xs'))) from by rw [hfo, Bool.or_assoc])
                    clear hro hfo
                    generalize roomB (l.take k) z = RR at *
                    generalize (decide (at_ = 0) || foundB (l.take k) z at_) = FF at *
                    by_cases hzs : z ≤ xs' <;> by_cases heq : xo = at_ <;> cases xu <;> cases RR <;> cases FF <;>
                    · have HR1 := hid HRO.out
                      have HR2 := hid HFO.out
                      simp only [hzs, heq, decide_true, decide_false, Bool.not_true, Bool.not_false, Bool.and_true, Bool.true_and, Bool.and_false, Bool.false_and, Bool.or_true, Bool.true_or, Bool.or_false, Bool.false_or] at HR1 HR2
                      go_wp2
                      refine ⟨⟨k + 1, rfl, by omega, ?_, ?_, R7.out⟩, ?_⟩
                      · rw [HR1.out]
                      · rw [HR2.out]
                      · simp [intOf]; omega
                  · obtain rfl : k = l.length := by omega
                    rw [List.take_length, HF2.out]
                    have hR := HF3.out
                    by_cases h0 : at_ = 0
                    · have hr0 : roomB l z = false := by rw [← hR]; simp [h0]
                      rw [hr0]
                      clear hR hr0
                      subst h0
                      go_wp2
                      go_ret
                      exact ⟨rfl, HK6.out.thenNo R7.out⟩
                    · have hr0 : roomB l z = true := by rw [← hR]; simp [h0]
                      have hb1 : (at_ != 0) = true := by rw [bne_iff_ne]; exact h0
                      rw [hr0]
                      clear hR hr0
                      go_wp2
                      go_ret
                      exact ⟨rfl, HK6.out.thenNo R7.out⟩
end Go.Proofs.Ytnldmhljggcnpaa
