import Derived.Test.YtnldmhljggcnpaaPick
import Derived.Test.YtnldmhljggcnpaaFit2
import Derived.Test.YtnldmhljggcnpaaCheck
import Derived.Test.YtnldmhljggcnpaaCode
import Derived.Test.YtnldmhljggcnpaaPlainO
import Derived.Test.YtnldmhljggcnpaaByteSet
import Derived.Test.YtnldmhljggcnpaaUp11
import Derived.Deep.DeepCutAuto
namespace Go.Proofs.Ytnldmhljggcnpaa
set_option linter.unusedSimpArgs false
set_option linter.unusedVariables false
open Go.RowKit Cantle
set_option maxRecDepth 100000
set_option maxHeartbeats 4000000

theorem NewK.more {w wr w1 : World} {v : Value} {l : List Blk} (h : NewK w wr v l) (k : Keep No wr w1) (x : Blk) (hm : l.length ≤ 1000000) (ty : TypeId) :
    ∃ g cap w', (Builtin.append_ #[22, 22] ty #[v, .slice (some ⟨w1.heap.size, 0, none⟩) 1 1]).run Try.prog (w1.alloc (.cells #[.int .i64 x.off, .int .i64 x.size, .bool x.used] 57)) = .ok (.slice (some ⟨g, 0, none⟩) (l.length + 1) cap) w' ∧
      NewK w w' (.slice (some ⟨g, 0, none⟩) (l.length + 1) cap) (l ++ [x]) ∧ Keep (fun i => v.ownBlock = some i) w1 w' := by
  obtain ⟨g, cap, w', h1, h2, h3, h4, h5⟩ := append_blk (h.own.keepNo k) x hm ty
  refine ⟨g, cap, w', h1, ⟨(h.keep.thenNo k).then h3 (fun i hi e => by have := h.ge i e; omega), h2, fun i hi => ?_⟩, h3⟩
  have hgi : g = i := Option.some.inj hi
  subst hgi
  have := h.keep.size
  have := k.size
  rcases h4 with q | q
  · exact h.ge _ q
  · omega
theorem apart_snoc (l : List Blk) (x : Blk) : apartL (l ++ [x]) = (apartL l && (x.used || (match l.getLast? with | none => true | some y => y.used))) := by
  unfold apartL
  rw [apartGo_append]
  cases l.getLast? with
  | none => simp
  | some y => cases y.used <;> cases x.used <;> simp
theorem CheckBuilt_walk {w : World} {F G : Nat → Prop} {A B : Option Addr} {c d : Nat} {xs : List Int} {us : List Bool} (ha : Rd w F (.slice A xs.length c) xs.length (iv xs)) (hb : Rd w G (.slice B us.length d) us.length (us.map Value.bool))
    (hx : ∀ x ∈ xs, -9223372036854775808 ≤ x ∧ x ≤ 9223372036854775807) (z : Int) (hz1 : -9223372036854775808 ≤ z) (hz2 : z ≤ 9223372036854775807) (y : Nat) (hy : y < 256) :
    Calls Try.prog 8 #[.slice A xs.length c, .slice B us.length d, .int .i64 z, .int .u8 (y : Int)] w fun e w' => e = .returned (.bool true) ∧ Keep No w w' := by
  obtain ⟨A', c', he, hl1, hl2⟩ := ha.form'
  have hxl : xs.length ≤ 9223372036854775807 := by omega
  clear he hl1 hl2 A' c'
  obtain ⟨A', c', he, hl1, hl2⟩ := hb.form'
  have hul : us.length ≤ 9223372036854775807 := by omega
  clear he hl1 hl2 A' c'
  have HA := hid ha
  have HB := hid hb
  have HX := hid hx
  clear ha hb hx
  go_enter Try.func8, Try.ntmps8
  go_wp2_with fail
  refine up_law11.mono ?_; rintro e w1 ⟨rfl, k1⟩
  have K1 := hid k1
  by_cases g1 : 40 < (xs.length : Int)
  · go_wp2
    go_ret
    exact ⟨rfl, k1⟩
  clear k1
  go_wp2_with fail
  go_loopw [10, 11, 12, 13] (fun ap o v i wr => ∃ k : Nat, i = .int .i64 k ∧ k ≤ xs.length ∧ ∃ (l : List Blk) (E : Int), ap = .bool (apartL l) ∧ o = .int .i64 E ∧ E = ends 184 l ∧ l.length = k ∧ tiled 184 l ∧ E ≤ 184 + 336 * k ∧ NewK w1 wr v l) (fun _ _ _ i _ => xs.length - (intOf i).toNat)
  case atStart => exact ⟨0, rfl, by omega, [], 184, rfl, rfl, rfl, rfl, trivial, by omega, Keep.refl _ _, OwnK.nil _, fun _ h => by cases h⟩
  case round =>
    obtain ⟨k, rfl, hk, l, E, rfl, rfl, q1, q2, q3, q4, q5⟩ := hrel
    subst q2
    obtain ⟨Av, cv, rfl, _, _⟩ := q5.own.form
    have hE := tiled_ends q3
    rw [← q1] at hE
    have hE1 := hE.1
    have Q1 := hid q1
    have Q3 := hid q3
    have Q5 := hid q5
    clear q1 q3 q5 hE
    by_cases hj : l.length < xs.length
    · obtain ⟨g, o, cap, he, _, _, _, hgl, hcc⟩ := (HA.out.keepNo (K1.out.thenNo Q5.out.keep)).cells (by rw [iv_length]; omega)
      cases he
      have c1 := hcc l.length _ (iv_get? xs l.length hj)
      have hxk := HX.out xs[l.length] (List.getElem_mem hj)
      have hP := fun wx => pick_law00 (w := wx) xs[l.length] 20 hxk.1 hxk.2 (by decide) (by decide)
      have hq1 := Int.emod_nonneg xs[l.length] (b := 20) (by decide)
      have hq2 := Int.emod_lt_of_pos xs[l.length] (b := 20) (by decide)
      clear hcc hxk
      generalize xs[l.length] % 20 = q at *
      generalize xs[l.length] = xk at *
      have hu : ∃ u : Bool, (l.length < us.length ∧ us[l.length]? = some u) ∨ (¬ l.length < us.length ∧ u = false) := by
        by_cases h : l.length < us.length
        · exact ⟨us[l.length], .inl ⟨h, List.getElem?_eq_getElem h⟩⟩
        · exact ⟨false, .inr ⟨h, rfl⟩⟩
      obtain ⟨u, hu⟩ := hu
      have hsn := fun w2 (kk : Keep No wr w2) => Q5.out.more kk ⟨E, 32 + 16 * q, u⟩ (by omega) 22
      have HSN := hid hsn
      clear hsn
      simp only at HSN
      have HE2 : Hid (tiled 184 (l ++ [⟨E, 32 + 16 * q, u⟩]) ∧ E + (32 + 16 * q) = ends 184 (l ++ [⟨E, 32 + 16 * q, u⟩])) := hid (by
        have := tiled_snoc (x := ⟨E, 32 + 16 * q, u⟩) Q3.out Q1.out ((isSize_iff _).2 ⟨by show 32 ≤ 32 + 16 * q; omega, by show 32 + 16 * q ≤ 16384; omega, by show (32 + 16 * q) % 16 = 0; omega⟩)
        exact ⟨this.1, by rw [this.2, Q1.out]⟩)
      have KA := keep_alloc wr (.cells #[.int .i64 E, .int .i64 (32 + 16 * q), .bool u] 57)
      have hbx := heap_alloc_new wr (.cells #[.int .i64 E, .int .i64 (32 + 16 * q), .bool u] 57)
      obtain ⟨g9, cap9, w9, ha9, hN9, hk9⟩ := HSN.out _ KA
      have hbx9 := hk9.heap (fun e => by have := Q5.out.own.lt _ e; omega) hbx
      have KA2 := hid KA
      obtain ⟨b0, b1, b2, f0, f1, f2, bl⟩ := bx3 hbx
      obtain ⟨d0, d1, d2, e0, e1, e2, el⟩ := bx3 hbx9
      have hsz : (wr.alloc (.cells #[.int .i64 E, .int .i64 (32 + 16 * q), .bool u] 57)).heap.size = wr.heap.size + 1 := by simp
      rw [hsz] at ha9
      have HN9 := hid hN9
      have hlast : ∃ LU : Bool, apartL (l ++ [⟨E, 32 + 16 * q, u⟩]) = (apartL l && (u || LU)) ∧ (l.length = 0 ∧ LU = true ∧ apartL l = true ∨ ∃ j g o : Nat, ∃ cp, (l.length : Int) = j + 1 ∧ Av = some ⟨g, o, none⟩ ∧ cv = cp ∧ (wr.alloc (.cells #[.int .i64 E, .int .i64 (32 + 16 * q), .bool u] 57)).cell? ⟨g, o + j * 3 + 2, none⟩ = some (.bool LU)) := by
        have hap := apart_snoc l ⟨E, 32 + 16 * q, u⟩
        rcases List.eq_nil_or_concat l with e | ⟨p, v, e⟩
        · subst e
          exact ⟨true, by rw [hap]; rfl, .inl ⟨rfl, rfl, rfl⟩⟩
        · rw [List.concat_eq_append] at e
          have hlen : l.length = p.length + 1 := by rw [e]; simp
          obtain ⟨g, o, cap, he, _, hgl, hcc⟩ := (Q5.out.own.rd.keepNo KA2.out).blkAt (by omega)
          cases he
          refine ⟨v.used, by rw [hap, e]; simp, .inr ⟨p.length, g, o, _, by omega, rfl, rfl, ?_⟩⟩
          have := (hcc p.length (by omega)).2.2
          have e2 : l[p.length]'(by omega) = v := by simp [e]
          rw [e2] at this
          exact this
      obtain ⟨LU, hap, hlast⟩ := hlast
      have HAP := hid hap
      have HLAST := hid hlast
      clear hsz hN9 hk9 hbx hbx9 HSN KA hap hlast
      go_upto_region 10 with fail
      go_cut [14] (fun p wx => p = .pointer (some ⟨wr.heap.size, 0, none⟩) ∧ wx = wr.alloc (.cells #[.int .i64 E, .int .i64 (32 + 16 * q), .bool u] 57))
      case first =>
        clear HAP HLAST HN9 b0 b1 b2 f0 f1 f2 bl d0 d1 d2 e0 e1 e2 el ha9
        rcases hu with ⟨hu1, hu2⟩ | ⟨hu1, rfl⟩
        · obtain ⟨gb, ob, capb, heb, _, _, _, hglb, hccb⟩ := (HB.out.keepNo (K1.out.thenNo Q5.out.keep)).cells (by rw [List.length_map]; omega)
          cases heb
          have cb := hccb l.length (.bool u) (by rw [List.getElem?_map, hu2]; rfl)
          clear hccb hu2
          go_wp2_with fail
          refine (hP _).mono ?_; rintro e w2 ⟨rfl, rfl⟩
          go_wp2_with fail
          go_meet
          case rel => exact ⟨rfl, rfl⟩
        · go_wp2_with fail
          refine (hP _).mono ?_; rintro e w2 ⟨rfl, rfl⟩
          go_wp2_with fail
          go_meet
          case rel => exact ⟨rfl, rfl⟩
      case rest =>
        obtain ⟨rfl, rfl⟩ := hcut
        clear hu hP c1 hgl
        go_upto_if 53 with fail
        go_cut [10] (fun ap wx => ap = .bool (apartL (l ++ [⟨E, 32 + 16 * q, u⟩])) ∧ wx = wr.alloc (.cells #[.int .i64 E, .int .i64 (32 + 16 * q), .bool u] 57))
        case first =>
          clear HN9 d0 d1 d2 e0 e1 e2 el ha9
          have hlast := HLAST.out
          have hap := HAP.out
          generalize apartL (l ++ [⟨E, 32 + 16 * q, u⟩]) = AN at *
          generalize apartL l = AP at *
          rcases hlast with ⟨hl0, rfl, rfl⟩ | ⟨jj, gg, oo, cp, hjl, rfl, rfl, hcu⟩
          · obtain rfl : AN = true := by rw [hap]; simp
            have hl0' : ¬ (0 < (l.length : Int)) := by omega
            clear hl0 hap HAP
            go_wp2_with fail
            go_meet
            case rel => exact ⟨rfl, rfl⟩
          · have hl0' : 0 < (l.length : Int) := by omega
            have hj1 : (l.length : Int) - 1 = (jj : Int) := by omega
            have hj2 : (jj : Int) < l.length := by omega
            cases AP <;> cases u <;> cases LU <;>
            · simp only [Bool.true_and, Bool.false_and, Bool.or_true, Bool.true_or, Bool.or_false, Bool.false_or] at hap
              subst hap
              clear hjl HAP HLAST
              go_wp2_with fail
              go_meet
              case rel => exact ⟨rfl, rfl⟩
        case rest =>
          obtain ⟨rfl, rfl⟩ := hcut
          generalize hAN : apartL (l ++ [⟨E, 32 + 16 * q, u⟩]) = AN at *
          have HANE := hid hAN
          clear hAN
          have HCE := hid HE2.out
          clear HAP HLAST HE2
          go_wp2_with (at_builtin; refine Lib.wpList_append_run _ rfl (.tmp 67) (.tmp 69) 22 22 rfl _ _ rfl rfl _ _ ha9 ?_)
          go_wp2
          refine ⟨⟨l.length + 1, rfl, by omega, _, _, HANE.out.symm ▸ rfl, rfl, HCE.out.2, by simp, HCE.out.1, by omega, HN9.out⟩, ?_⟩
          simp [intOf]; omega
    · have hk40 : (l.length : Int) ≤ 40 := by omega
      obtain ⟨N, rfl⟩ := Int.eq_ofNat_of_zero_le (show 0 ≤ E by omega)
      have hN1 : 184 ≤ N := by omega
      have hN2 : N ≤ 16384 := by omega
      have hmk := fun wx => mk_bytes N (by omega) wx
      obtain ⟨wb, rfl⟩ : ∃ wb : World, wb = wr := ⟨_, rfl⟩
      have hz0 := zeros_new11 N (by omega) wb
      have hAr := law00_Arena (w := wb.alloc (.cells (zb N) 5)) (l := List.replicate N 0) 32 16384 (by decide) hz0 (by rw [List.length_replicate]; omega)
      have e32 : ((32 : Nat) : Int) = 32 := rfl
      rw [e32] at hAr
      clear e32 HA HB HX hxl hul hz0
      have HZ : Hid ((List.replicate N (0 : UInt8)).length = N ∧ Cantle.Clean (List.replicate N 0) []) := hid ⟨List.length_replicate, clean_zeros N⟩
      generalize List.replicate N (0 : UInt8) = Z at *
      have hKZ := hid (keep_alloc wb (.cells (zb N) 5))
      have HAPL := hid (show apartL l = apartL l from rfl)
      go_wp2_with fail
      refine hAr.mono ?_; rintro e w3 ⟨p, V, rfl, hNA⟩
      have HR0 : Hid (NewA wb w3 p V ⟨32, 16384, Z⟩) := hid (NewA.old hKZ.out hNA)
      clear hAr hNA hmk
      go_wp2_with fail
      go_loopw [16] (fun i wx => ∃ k : Nat, i = .int .i64 k ∧ k ≤ l.length ∧ ∃ b : List UInt8, b.length = N ∧ tlp b 184 (l.take k) ∧ Cantle.Clean b (l.take k) ∧ NewA wb wx p V ⟨32, 16384, b⟩) (fun i _ => l.length - (intOf i).toNat)
      case atStart => exact ⟨0, rfl, by omega, Z, HZ.out.1, trivial, HZ.out.2, HR0.out⟩
      case round =>
        obtain ⟨k, rfl, hk2, b, r1, r2, r4, r3⟩ := hrel
        have R1 := hid r1
        have R2 := hid r2
        have R3 := hid r3
        have R4 := hid r4
        clear r1 r2 r3 r4
        by_cases hj2 : k < l.length
        · obtain ⟨g, o, cap, he, hgF, hgl, hcc⟩ := (Q5.out.rd.keepNo R3.out.keep).blkAt (by omega)
          cases he
          obtain ⟨c0, c1, c2⟩ := hcc k hj2
          have ht := tiled_at Q3.out hj2
          have hset : ∃ b', bset b l[k] = some b' ∧ b'.length = b.length ∧ tlp b' 184 (l.take (k + 1)) ∧ Cantle.Clean b' (l.take (k + 1)) := by
            have h1 := tlp_set R2.out ht.1 (by omega) (by omega) ht.2.1 (by have := R1.out; have := Q1.out; omega)
            obtain ⟨b', e1, e2, e3⟩ := h1
            have h2 := clean_set R4.out e1 (by omega) (by omega) ht.2.1
            rw [List.take_append_getElem hj2] at e3 h2
            exact ⟨b', e1, e2, e3, h2⟩
          obtain ⟨b', hb1, hb2, hb3, hb4⟩ := hset
          have hS := block_Set_ok R3.out.ar l[k] hb1
          simp only [blkV] at hS
          have HB2 := hid hb2
          have HB3 := hid hb3
          have HB4 := hid hb4
          clear hcc ht hb1 hb2 hb3 hb4
          generalize l[k].off = xo at *
          generalize l[k].size = xs' at *
          generalize l[k].used = xu at *
          go_wp2_with fail
          refine hS.mono ?_; rintro e w4 ⟨rfl, hM⟩
          have HM := hid hM
          clear hS hM
          go_wp2
          refine ⟨⟨k + 1, rfl, by omega, b', by rw [HB2.out, R1.out], HB3.out, HB4.out, R3.out.mut HM.out⟩, ?_⟩
          simp [intOf]; omega
        · obtain rfl : k = l.length := by omega
          have hw : walk b = some l := walk_set (by have := R2.out; rwa [List.take_length] at this) (by rw [R1.out]; exact Q1.out.symm) (by rw [R1.out]; exact hN1)
          have hcl0 : Cantle.Clean b l := by have := R4.out; rwa [List.take_length] at this
          have hcl1 := clean_all hw (by rw [R1.out]; exact hN2) hcl0 l.length (Nat.le_refl _)
          rw [List.take_length] at hcl1
          obtain ⟨b2, hr1, hr2, hr3, _⟩ := rebuild_inv hw (by rw [R1.out]; exact hN2)
          have hb2e : b2 = putAll l (wiped b) := by
            unfold rebuild at hr1
            rw [hw] at hr1
            exact (Option.some.inj hr1).symm
          rw [← hb2e] at hcl1
          have hR := fit_Rebuild R3.out.ar
          simp only at hR
          rw [hr1] at hR
          simp only [rebuildR] at hR
          have HINV := hid hr2
          have HCL := hid hcl1
          have HLB : Hid (b2.length = N) := hid (by rw [hr3, R1.out])
          clear hw hr1 hr2 hr3 hcl0 hcl1 hb2e
          have hCB := check_inv HINV.out
          generalize apartL l = AP at *
          go_wp2_with fail
          refine hR.mono ?_; rintro e w4 ⟨rfl, hM⟩
          have HN4 : Hid (NewA wb w4 p V ⟨32, 16384, b2⟩) := hid (R3.out.mut hM)
          clear hR hM
          have hC := check_Check HN4.out.ar
          simp only at hC
          rw [hCB] at hC
          have HCB := hid hCB
          clear hCB
          have HK0 := hid ((K1.out.thenNo Q5.out.keep))
          cases AP with
          | false =>
            simp only [Bool.false_eq_true, if_false, errV] at hC
            go_wp2_with fail
            refine hC.mono ?_; rintro e w5 ⟨rfl, k5⟩
            by_cases hy0 : y = 0
            · subst hy0
              go_wp2
              go_ret
              exact ⟨rfl, (HK0.out.thenNo HN4.out.keep).thenNo k5⟩
            · have hyb : ((y : Int) == 0) = false := by rw [beq_eq_false_iff_ne]; omega
              go_wp2
              go_ret
              exact ⟨rfl, (HK0.out.thenNo HN4.out.keep).thenNo k5⟩
          | true =>
            simp only [if_true, errV] at hC
            go_wp2_with fail
            refine hC.mono ?_; rintro e w5 ⟨rfl, k5⟩
            by_cases hy0 : y = 0
            · subst hy0
              go_wp2
              go_ret
              exact ⟨rfl, (HK0.out.thenNo HN4.out.keep).thenNo k5⟩
            · have hyb : ((y : Int) == 0) = false := by rw [beq_eq_false_iff_ne]; omega
              have hBy := law00_Bytes (HN4.out.keepNo k5).ar
              have HKb := hid (HN4.out.keep.thenNo k5)
              clear hC k5
              go_wp2_with fail
              refine hBy.mono ?_; rintro e w6 ⟨v6, rfl, hN6⟩
              obtain ⟨g6, c6, rfl, hc6⟩ := hN6.own.somewhere (by have := HLB.out; show 0 < b2.length; omega)
              have hg6 := hN6.ge g6 rfl
              have HKb6 := hid (HKb.out.thenNo hN6.keep)
              have HO6 := hid hN6.own
              clear hBy hN6
              generalize hbn : b2.length = bn at *
              have HBN := hid hbn
              clear hbn
              obtain ⟨Kk, hKk⟩ := Int.eq_ofNat_of_zero_le (Int.emod_nonneg z (show (184 : Int) ≠ 0 by decide))
              have hK2 : Kk < 184 := by have := Int.emod_lt_of_pos z (show (0 : Int) < 184 by decide); omega
              have hP2 := fun wx => pick_law00 (w := wx) z 184 hz1 hz2 (by decide) (by decide)
              rw [hKk] at hP2
              obtain ⟨hbn1, hbn2⟩ : 184 ≤ bn ∧ bn ≤ 16384 := by have : bn = N := HLB.out; omega
              have hKb2 : Kk < b2.length := by rw [HBN.out]; omega
              obtain ⟨hcell, hfz⟩ := HO6.out.cellAt HBN.out Kk hKb2
              have hu0 : b2[Kk]? = some b2[Kk] := List.getElem?_eq_getElem hKb2
              have HSS := hid (show b2.set Kk b2[Kk] = b2 from List.set_getElem_self hKb2)
              generalize b2[Kk] = u at *
              obtain ⟨x, hx1, hx2⟩ := xor_byte u hy
              have hset := HO6.out.setByte HBN.out Kk x
              have hne := xor_same hx2 hy0
              have hfalse : checkB (b2.set Kk x) = false := by
                obtain ⟨l', L', hr⟩ := (checkB_iff (by rw [HBN.out]; omega)).1 HCB.out
                have := turn_head (b' := b2.set Kk x) hr hK2 (List.length_set ..) (by rw [List.getElem?_set_self hKb2, hu0]; intro e; exact hne (Option.some.inj e)) (fun i hi => List.getElem?_set_ne (Ne.symm hi))
                rw [← checkB_iff (by rw [List.length_set, HBN.out]; omega)] at this
                cases hcc : checkB (b2.set Kk x) with
                | true => exact absurd hcc this
                | false => rfl
              have HX2 := hid hx2
              have HO7 := hid hset.1
              have HKb7 := hid (HKb6.out.then hset.2 (fun i hi e => by have := HKb.out.size; omega))
              have hA7 := law00_Arena (w := w6.setCell ⟨g6, Kk, none⟩ (.int .u8 (x.toNat : Int))) 32 16384 (by decide) hset.1.rd (by rw [List.length_set, HBN.out]; omega)
              have e32 : ((32 : Nat) : Int) = 32 := rfl
              rw [e32] at hA7
              clear e32 hset hx2 hne hu0 hKk
              have HLEN3 := hid (show (b2.set Kk x).length = bn by rw [List.length_set, HBN.out])
              have HSS3 := hid (show (b2.set Kk x).set Kk u = b2 by rw [List.set_set, HSS.out])
              have HG3 := hid (show (b2.set Kk x)[Kk]? = some x by rw [List.getElem?_set_self hKb2])
              generalize b2.set Kk x = b3 at *
              have HC7 := hid (fun wx p V (h : Ar wx p V ⟨32, (16384 : Int).toNat, b3⟩) => check_Check h)
              simp only [hfalse, Bool.false_eq_true, if_false, errV] at HC7
              clear hfalse
              go_wp2_with fail
              refine (hP2 _).mono ?_; rintro e w7 ⟨rfl, rfl⟩
              go_wp2_with fail
              refine hA7.mono ?_; rintro e w8 ⟨p8, V8, rfl, hN8⟩
              go_wp2_with fail
              refine (HC7.out _ _ _ hN8.ar).mono ?_; rintro e w9 ⟨rfl, k9⟩
              have HKb9 := hid ((HKb7.out.thenNo hN8.keep).thenNo k9)
              have HO9 := hid ((HO7.out.keepNo hN8.keep).keepNo k9)
              clear hA7 hN8 k9 hcell hfz hP2 hx1
              by_cases hl0 : l.length = 0
              · have hl0' : ((l.length : Int) == 0) = true := by rw [beq_iff_eq]; omega
                clear hl0
                go_wp2
                go_ret
                exact ⟨rfl, HK0.out.thenNo HKb9.out⟩
              · have hl0' : ((l.length : Int) == 0) = false := by rw [beq_eq_false_iff_ne]; omega
                have hKb3 : Kk < b3.length := by rw [HLEN3.out]; omega
                obtain ⟨hcell, hfz⟩ := HO9.out.cellAt HLEN3.out Kk hKb3
                have hxe : b3[Kk] = x := by have := HG3.out; rw [List.getElem?_eq_getElem hKb3] at this; exact Option.some.inj this
                rw [hxe] at hcell
                obtain ⟨u', hx1, hx3⟩ := xor_byte x hy
                obtain rfl : u' = u := UInt8.toNat_inj.1 (by rw [hx3, ← xor_back HX2.out])
                have hset := HO9.out.setByte HLEN3.out Kk u'
                rw [HSS3.out] at hset
                have HOE := hid hset.1
                have HKbE := hid (HKb9.out.then hset.2 (fun i hi e => by have := HKb.out.size; omega))
                obtain ⟨J, hJ⟩ := Int.eq_ofNat_of_zero_le (Int.emod_nonneg z (show (l.length : Int) ≠ 0 by omega))
                have hJ2 : J < l.length := by have := Int.emod_lt_of_pos z (show (0 : Int) < (l.length : Int) by omega); omega
                have hP3 := fun wx => pick_law00 (w := wx) z l.length hz1 hz2 (by omega) (by omega)
                rw [hJ] at hP3
                clear hset hx3 hxe hJ hl0
                go_upto_region 37 with fail
                go_cut [18] (fun kv wx => kv = .int .i64 (Kk : Int) ∧ OwnB wx (.slice (some ⟨g6, 0, none⟩) bn c6) b2 ∧ Keep No wb wx)
                case first =>
                  go_wp2_with fail
                  go_meet
                  case rel => exact ⟨rfl, HOE.out, HKbE.out⟩
                case rest =>
                  obtain ⟨rfl, hOa, hKa⟩ := hcut
                  have HOa := hid hOa
                  have HKa := hid hKa
                  clear hOa hKa hcell hfz hx1
                  obtain ⟨gl, ol, capl, he, _, hgl, hcc⟩ := (Q5.out.rd.keepNo HKa.out).blkAt (by omega)
                  cases he
                  obtain ⟨c0, c1, c2⟩ := hcc J hJ2
                  have hst := HINV.out.st (List.getElem_mem hJ2)
                  obtain ⟨X, hX⟩ := Int.eq_ofNat_of_zero_le (show 0 ≤ l[J].off by have := hst.lo; omega)
                  have hXb : X < b2.length := by have := hst.hi; have := hst.s1; omega
                  have hu2 : b2[X]? = some b2[X] := List.getElem?_eq_getElem hXb
                  obtain ⟨x4, hx5, hx6⟩ := xor_byte b2[X] hy
                  have hne4 := xor_same hx6 hy0
                  have hfalse4 : checkB (b2.set X x4) = false := by
                    have hXt : l[J].off.toNat = X := by rw [hX]; rfl
                    exact turn_tag HINV.out.wk (by rw [HBN.out]; omega) HCL.out (List.getElem_mem hJ2) (List.length_set ..) (by rw [hXt, List.getElem?_set_self hXb, hu2]; intro e; exact hne4 (Option.some.inj e)) (fun i hi => by rw [hXt] at hi; exact List.getElem?_set_ne (Ne.symm hi))
                  have hJz : (J : Int) < l.length := by omega
                  rw [hX] at c0
                  clear hcc hst hX hne4 hx6
                  generalize l[J].size = xs4 at *
                  generalize l[J].used = xu4 at *
                  generalize hu2g : b2[X] = u2 at *
                  have HU2G := hid hu2g
                  clear hu2g hu2
                  go_upto_region 38 with fail
                  go_cut [20] (fun p wx => ∃ bq : Nat, p = .pointer (some ⟨bq, 0, none⟩) ∧ wx.heap[bq]? = some (.cells #[.int .i64 (X : Int), .int .i64 xs4, .bool xu4] 57 (0, 0)) ∧ bq ≠ g6 ∧ OwnB wx (.slice (some ⟨g6, 0, none⟩) bn c6) b2 ∧ Keep No wb wx)
                  case first =>
                    go_wp2_with fail
                    refine (hP3 _).mono ?_; rintro e wk ⟨rfl, rfl⟩
                    go_wp2_with fail
                    go_meet
                    case rel => exact ⟨_, rfl, heap_alloc_new _ _, fun e => by have := HOa.out.lt g6 rfl; omega, HOa.out.keepNo (keep_alloc _ _), HKa.out.thenNo (keep_alloc _ _)⟩
                  case rest =>
                    obtain ⟨bq, rfl, hbq, hbg, hOb, hKb⟩ := hcut
                    clear hP3 c0 c1 c2 hgl
                    obtain ⟨q0, q1, q2, q3, q4, q5, q6⟩ := bx3 hbq
                    have hOd := hOb.keepNo (Keep.drew No wc)
                    have hXb2 : (X : Int) < bn := by have := HBN.out; omega
                    obtain ⟨d1, d2⟩ := hOd.cellAt HBN.out X hXb
                    rw [HU2G.out] at d1
                    have d0 := (Keep.drew No wc).cell (fun q => q) q0
                    have hset4 := hOd.setByte HBN.out X x4
                    have d3 := hset4.2.cell (a := ⟨bq, 0, none⟩) hbg d0
                    have hA4 := law00_Arena (w := wc.drew.setCell ⟨g6, X, none⟩ (.int .u8 (x4.toNat : Int))) 32 16384 (by decide) hset4.1.rd (by rw [List.length_set, HBN.out]; omega)
                    have e32 : ((32 : Nat) : Int) = 32 := rfl
                    rw [e32] at hA4
                    have HKf := hid ((hKb.trans (Keep.drew No wc)).then hset4.2 (fun i hi e => by have := HKb.out.size; omega))
                    generalize b2.set X x4 = b4 at *
                    have HC8 := hid (fun wx p V (h : Ar wx p V ⟨32, (16384 : Int).toNat, b4⟩) => check_Check h)
                    simp only [hfalse4, Bool.false_eq_true, if_false, errV] at HC8
                    clear e32 hset4 hbq hOb hKb hfalse4 hOd q0 q1 q2 q3 q4 q5 q6
                    go_upto_region 39 with fail
                    refine wp_region_seq [0, 1, 2, 3, 4, 5, 6, 8, 7, 9, 10, 11] [true, true, true, true, true, true, true, true, false, true, true, false] (fun w' => w'.cell? ⟨bq, 0, none⟩ = some (.int .i64 (X : Int))) (by kernel_rfl) (by kernel_rfl) (by kernel_rfl) (by kernel_rfl) (by kernel_rfl) d0 ?_
                    simp only [List.map_cons, List.map_nil, List.getElem?_cons_succ, List.getElem?_cons_zero, Option.getD_some]
                    repeat (first
                      | (refine seq_take (by rfl) (fun w hSw => by (try dsimp only at hSw); (try obtain ⟨hS1, hS2⟩ := hSw); go_simp; try with_reducible rfl) ?_; simp only [Act.put, List.setIfInBounds_toArray, List.set_cons_zero, List.set_cons_succ])
                      | (refine seq_skip (by rfl) ?_; simp only [Act.put, List.setIfInBounds_toArray, List.set_cons_zero, List.set_cons_succ])
                      | (refine seq_pass (by rfl) ?_; simp only [Act.put, List.setIfInBounds_toArray, List.set_cons_zero, List.set_cons_succ]))
                    refine seq_call (by rfl) (fun K hK => ?_)
                    go_simp
                    refine hK.out (fun w' => w'.cell? ⟨bq, 0, none⟩ = some (.int .i64 (X : Int))) _ _ (fun _ h => h) d0 ?_
                    clear hK K
                    try simp only [Act.put, List.setIfInBounds_toArray, List.set_cons_zero, List.set_cons_succ]
                    repeat (first
                      | (refine seq_take (by rfl) (fun w hSw => by (try dsimp only at hSw); (try obtain ⟨hS1, hS2⟩ := hSw); go_simp; try with_reducible rfl) ?_; simp only [Act.put, List.setIfInBounds_toArray, List.set_cons_zero, List.set_cons_succ])
                      | (refine seq_skip (by rfl) ?_; simp only [Act.put, List.setIfInBounds_toArray, List.set_cons_zero, List.set_cons_succ])
                      | (refine seq_pass (by rfl) ?_; simp only [Act.put, List.setIfInBounds_toArray, List.set_cons_zero, List.set_cons_succ]))
                    refine seq_call (by rfl) (fun K hK => ?_)
                    go_simp
                    refine hK.out (fun w' => w'.cell? ⟨bq, 0, none⟩ = some (.int .i64 (X : Int))) _ _ (fun _ h => h) d3 ?_
                    clear hK K
                    try simp only [Act.put, List.setIfInBounds_toArray, List.set_cons_zero, List.set_cons_succ]
                    refine seq_nil ?_
                    go_wp2_with fail
                    refine hA4.mono ?_; rintro e wx4 ⟨p4, V4, rfl, hN4⟩
                    go_wp2_with fail
                    refine (HC8.out _ _ _ hN4.ar).mono ?_; rintro e wy4 ⟨rfl, k4⟩
                    go_wp2
                    go_ret
                    exact ⟨rfl, HK0.out.thenNo ((HKf.out.thenNo hN4.keep).thenNo k4)⟩
end Go.Proofs.Ytnldmhljggcnpaa
