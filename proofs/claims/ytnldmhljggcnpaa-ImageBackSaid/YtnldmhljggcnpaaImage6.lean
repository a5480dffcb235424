import Derived.Test.YtnldmhljggcnpaaImage5
import Derived.Deep.RegionHeld3
import Derived.Deep.DeepCutAuto
namespace Go.Proofs.Ytnldmhljggcnpaa
set_option linter.unusedSimpArgs false
set_option linter.unusedVariables false
open Go.RowKit Cantle

set_option maxHeartbeats 1000000 in
set_option maxRecDepth 100000 in
theorem image_Put {w : World} {F G : Nat → Prop} {vb vd : Value} {l : List Blk} {d : List (List UInt8)} (hb : Rd w F vb l.length (bks l)) (hd : RdD w G vd d) (n : Int) (hm : mayB n l d = true) (hll : l.length ≤ 1000000) (hfl : d.flatten.length ≤ 1000000) (hdl : d.length ≤ 1000000) :
    Calls Try.prog 20 #[.agg #[.int .i64 n, vb, vd]] w fun e w' => ∃ v, e = .returned (.tuple #[v, .nilIface]) ∧ NewO w w' v (putL n l d) := by
  have hbs : ∃ A cap, vb = .slice A l.length cap ∧ l.length ≤ cap ∧ cap ≤ 9223372036854775807 := by obtain ⟨A, c, e, h1, h2, _⟩ := hb; exact ⟨A, c, e, h1, h2⟩
  have hds : ∃ A cap, vd = .slice A d.length cap ∧ d.length ≤ cap ∧ cap ≤ 9223372036854775807 := by obtain ⟨_, ⟨A, c, e, h1, h2, _⟩, _⟩ := hd; exact ⟨A, c, e, h1, h2⟩
  obtain ⟨A1, c1, rfl, hb1, hb2⟩ := hbs
  obtain ⟨A2, c2, rfl, hd1, hd2⟩ := hds
  have hl2 := (longB_iff n).1 (by unfold mayB at hm; simp at hm; exact hm.1.1)
  obtain ⟨hn1, hn2, _⟩ := hl2
  obtain ⟨N, rfl⟩ := Int.eq_ofNat_of_zero_le (show 0 ≤ n by omega)
  have hbox : ∀ wx : World, Keep No (w.alloc (.cells #[.int .i64 N, .slice A1 l.length c1, .slice A2 d.length c2] 29)) wx → wx.heap[w.heap.size]? = some (.cells #[.int .i64 N, .slice A1 l.length c1, .slice A2 d.length c2] 29 (0, 0)) := fun wx k => k.heap (fun q => q) (heap_alloc_new w _)
  have hk0 := keep_alloc w (.cells #[.int .i64 N, .slice A1 l.length c1, .slice A2 d.length c2] 29)
  have H := image_May (hb.keepNo hk0) (hd.keepNo hk0) N
  rw [hm] at H
  have hwN : IntKind.u64.wrap (N : Int) = N := by rw [IntKind.wrap_u64]; omega
  have hlen : l.length < 9223372036854775807 := by omega
  generalize hL : l.length = len at *
  have hwl : IntKind.u64.wrap (len : Int) = len := by rw [IntKind.wrap_u64]; omega
  have HL := hid hL
  have HM := hid hm
  have HH := hid H
  have HB := hid hbox
  clear hL hm H hbox
  go_enter Try.func20, Try.ntmps20
  go_wp2_with fail
  refine HH.out.mono ?_; rintro e w1 ⟨rfl, hk1⟩
  have hg := HB.out _ hk1
  have g0 := (cell_blk hg 0).trans rfl
  have g1 := (cell_blk hg 1).trans rfl
  have hB1 := lt_blk hg
  generalize hBn : w.heap.size = B at *
  go_upto_region 3 with fail
  go_cut [4] (fun v wx => OwnB wx v (headL N len) ∧ Keep No w1 wx ∧ ∀ k, v.ownBlock = some k → w1.heap.size ≤ k)
  case first =>
    go_region_held3 (fun w' => w'.cell? ⟨B, 0, none⟩ = some (.int .i64 N) ∧ w'.cell? ⟨B, 1, none⟩ = some (.slice A1 len c1))
      (first
        | exact ⟨g0, g1⟩
        | exact ⟨KK.out.cell (fun q => q) g0, KK.out.cell (fun q => q) g1⟩
        | exact ⟨(hA.keep.cell (fun q => q) g0), (hA.keep.cell (fun q => q) g1)⟩
        | exact ⟨((hA.keep.thenNo hC.keep).cell (fun q => q) g0), ((hA.keep.thenNo hC.keep).cell (fun q => q) g1)⟩
        | exact ⟨KD.out.cell (fun q => q) g0, KD.out.cell (fun q => q) g1⟩
        | exact ⟨(KD.out.thenNo hE.keep).cell (fun q => q) g0, (KD.out.thenNo hE.keep).cell (fun q => q) g1⟩
        | exact ⟨g0, g1⟩)
      (first
        | (go_at_call 86; refine (image_begin _).mono ?_; rintro e wa ⟨vb, rfl, hA⟩)
        | (go_at_call_of 93 (Value.int .u64 (N : Int)); refine (word_Put N (by omega) _).mono ?_; rintro e wc ⟨vc, rfl, hC⟩)
        | (go_at_call_of 93 (Value.int .u64 (len : Int)); refine (word_Put len (by omega) _).mono ?_; rintro e we ⟨ve, rfl, hE⟩)
        | (obtain ⟨vd, wd, hr1, oD, kD, fD⟩ := append_bytes (hA.ownB.keepNo hC.keep) hC.rd (by rw [low_length]; decide) 24; refine step_append_run rfl (.tmp 13) (.tmp 17) 24 24 rfl _ _ rfl rfl _ _ hr1 ?_; have KD := hid ((hA.keep.thenNo hC.keep).then kD (fun i hi e => Nat.lt_irrefl _ (Nat.lt_of_lt_of_le hi (hA.ge i e)))))
        | (obtain ⟨vf, wf, hr2, oF, kF, fF⟩ := append_bytes (oD.keepNo hE.keep) hE.rd (by rw [List.length_append, low_length, low_length]; decide) 24; refine step_append_run rfl (.tmp 18) (.tmp 23) 24 24 rfl _ _ rfl rfl _ _ hr2 ?_; have KK := hid ((KD.out.thenNo hE.keep).then kF (fun i hi e => Nat.lt_irrefl _ (Nat.lt_of_lt_of_le hi (by rcases fD i e with h | h; exact hA.ge i h; exact Nat.le_trans (hA.keep.thenNo hC.keep).size h))))))
    go_wp2_with fail
    go_meet
    case rel => exact ⟨oF, (Keep.drew No w1).trans KK.out, fun k hk => by
      rcases fF k hk with h | h
      · rcases fD k h with h | h
        · exact hA.ge k h
        · exact Nat.le_trans (hA.keep.thenNo hC.keep).size h
      · exact Nat.le_trans (KD.out.thenNo hE.keep).size h⟩
  case rest =>
    obtain ⟨oH, kH, fH⟩ := hcut
    have hg := kH.heap (fun q => q) hg
    have g1 := (cell_blk hg 1).trans rfl
    have g2 := (cell_blk hg 2).trans rfl
    have hkw := ((keep_alloc w (.cells #[.int .i64 N, .slice A1 len c1, .slice A2 d.length c2] 29)).thenNo hk1).thenNo kH
    have hB1 := lt_blk hg
    generalize hTL : tagsL l = T at *
    have HTL := hid hTL
    clear hTL
    go_wp2
    go_loopw [5, 28] (fun v i wr => ∃ (k : Nat) (z : Value), z = v ∧ k ≤ len ∧ i = .int .i64 k ∧ Keep No wc wr ∧ OwnB wr z (tagsL (l.take k)) ∧ ∀ j, z.ownBlock = some j → wc.heap.size ≤ j) (fun _ i _ => len - (intOf i).toNat)
    case atStart => exact ⟨0, _, rfl, by omega, rfl, Keep.refl _ _, OwnB.nil _, fun j h => by simp [Value.ownBlock] at h⟩
    case round =>
      obtain ⟨k, v, rfl, hk, rfl, hkr, hov, hfv⟩ := hrel
      have hkwr := hkw.thenNo hkr
      by_cases hlt : k < len
      · have hj : k < l.length := by rw [HL.out]; exact hlt
        obtain ⟨b, o, cap, e, _, _, hF, hbb, hc⟩ := hb.cells (by rw [bks_length]; omega)
        injection e with e1 e2 e3
        subst e1
        obtain ⟨hc0, hc1, hc2⟩ := Rd.blk (w := w) hc k hj
        have hc0 := hkwr.cell (fun q => q) hc0
        have hc1 := hkwr.cell (fun q => q) hc1
        have hc2 := hkwr.cell (fun q => q) hc2
        have hbw : b < wr.heap.size := Nat.lt_of_lt_of_le hbb hkwr.size
        have htk : tagsL (l.take (k + 1)) = tagsL (l.take k) ++ low 8 (pack l[k].size l[k].used) := by
          rw [List.take_succ_eq_append_getElem hj, tagsL_append, tagsL_one]
        have htl : (tagsL (l.take k)).length ≤ 8 * 1000000 := by rw [tagsL_length, List.length_take]; omega
        generalize hx : l[k]'hj = x at *
        obtain ⟨xo, xs, xu⟩ := x
        simp only at hc0 hc1 hc2
        have HTK := hid htk
        clear htk hc hx e2 e3
        go_wp2_with fail
        refine (tag_Pack xs xu _).mono ?_; rintro e wp ⟨rfl, rfl⟩
        go_wp2_with fail
        refine (word_Put _ (Nat.lt_of_lt_of_le pack_lt (by decide)) _).mono ?_; rintro e wq ⟨vq, rfl, hq⟩
        have hk2 := (keep_alloc wr (.cells #[.int .i64 xo, .int .i64 xs, .bool xu] 57)).thenNo hq.keep
        obtain ⟨vr, wz, hrz, oz, kz, fz⟩ := append_bytes (hov.keepNo hk2) hq.rd (by rw [low_length]; omega) 24
        go_wp2_with (at_builtin; refine Lib.wpList_append_run _ rfl (.tmp 32) (.tmp 38) 24 24 rfl _ _ rfl rfl _ _ hrz ?_)
        refine ⟨⟨k + 1, _, rfl, by omega, rfl, (hkr.thenNo hk2).then kz (fun i hi e => Nat.lt_irrefl _ (Nat.lt_of_lt_of_le hi (hfv i e))), by rw [HTK.out]; exact oz, fun j hj => ?_⟩, by simp [intOf]; omega⟩
        rcases fz j hj with h | h
        · exact hfv j h
        · exact Nat.le_trans (hkr.thenNo hk2).size h
      · obtain rfl : len = k := by omega
        rw [List.take_of_length_le (by rw [HL.out]; exact Nat.le_refl _), HTL.out] at hov
        have hTl : T.length ≤ 8000000 := by rw [← HTL.out, tagsL_length, HL.out]; omega
        have g2r := hkr.cell (fun q => q) g2
        have hBr := Nat.lt_of_lt_of_le hB1 hkr.size
        go_wp2_with fail
        refine (image_closed (oH.keepNo hkr) (by rw [headL_length]; decide)).mono ?_; rintro e w4 ⟨v4, rfl, o4, k4, f4⟩
        have hu4 : ∀ i, u4.ownBlock = some i → w1.heap.size ≤ i ∧ i < wc.heap.size := fun i h => ⟨fH i h, oH.lt i h⟩
        have hv4 : ∀ i, v.ownBlock = some i → wc.heap.size ≤ i ∧ i < wr.heap.size := fun i h => ⟨hfv i h, hov.lt i h⟩
        have s1 := kH.size
        have s2 := hkr.size
        have s3 := k4.size
        have KB4 : Keep No w1 w4 := (kH.thenNo hkr).then k4 (fun i hi e => by have := hu4 i e; omega)
        have ov4 : OwnB w4 v T := hov.keep k4 (fun i h e => by have := hu4 i e; have := hv4 i h; omega)
        have HTl := hid hTl
        clear hTl
        go_wp2_with fail
        refine (image_closed ov4 (by have := HTl.out; omega)).mono ?_; rintro e w5 ⟨v5, rfl, o5, k5, f5⟩
        have s4 := k5.size
        have KB5 : Keep No w1 w5 := KB4.then k5 (fun i hi e => by have := hv4 i e; omega)
        have o4' : OwnB w5 v4 (headL N len ++ low 4 (crcSum (headL N len))) := o4.keep k5 (fun i h e => by
          have := hv4 i e
          rcases f4 i h with h | h
          · have := hu4 i h; omega
          · omega)
        obtain ⟨v6, w6, hr6, o6, k6, f6⟩ := append_bytes o4' o5.rd (by have := HTl.out; rw [List.length_append, List.length_append, low_length, low_length, headL_length]; omega) 24
        have s5 := k6.size
        have hv4o : ∀ i, v4.ownBlock = some i → w1.heap.size ≤ i := fun i h => by
          rcases f4 i h with h | h
          · exact (hu4 i h).1
          · omega
        have KB6 : Keep No w1 w6 := KB5.then k6 (fun i hi e => by have := hv4o i e; omega)
        have hv6o : ∀ i, v6.ownBlock = some i → w1.heap.size ≤ i := fun i h => by
          rcases f6 i h with h | h
          · exact hv4o i h
          · omega
        have g26 : w6.cell? ⟨B, 2, none⟩ = some (.slice A2 d.length c2) := KB6.cell (fun q => q) ((cell_blk (HB.out _ hk1) 2).trans rfl)
        have K6 := ((keep_alloc w (.cells #[.int .i64 N, .slice A1 len c1, .slice A2 d.length c2] 29)).thenNo hk1).thenNo KB6
        go_wp2_with (at_builtin; refine Lib.wpList_append_run _ rfl (.tmp 42) (.tmp 44) 24 24 rfl _ _ rfl rfl _ _ hr6 ?_)
        have hJ := bytes_Join (hd.keepNo K6) (fun x hx h => by have := mayB_pos HM.out x hx; rw [h] at this; simp at this) (by omega) (by omega)
        refine hJ.mono ?_; rintro e w7 ⟨v7, rfl, o7, k7⟩
        go_wp2_with fail
        refine (image_closed_fresh o7 k7.size (by omega)).mono ?_; rintro e w8 ⟨v8, rfl, r8, k8⟩
        have s6 := k7.size
        have s7 := k8.size
        have KB8 : Keep No w1 w8 := (KB6.thenNo k7).then k8 (fun i hi e => by omega)
        have o6' : OwnB w8 v6 _ := (o6.keepNo k7).keep k8 (fun i h e => by have := o6.lt i h; omega)
        obtain ⟨v9, w9, hr9, o9, k9, f9⟩ := append_bytes o6' r8 (by have := HTl.out; simp only [List.length_append, low_length, headL_length]; omega) 24
        have s8 := k9.size
        have KB9 : Keep No w1 w9 := KB8.then k9 (fun i hi e => by have := hv6o i e; omega)
        have hv9o : ∀ i, v9.ownBlock = some i → w1.heap.size ≤ i := fun i h => by
          rcases f9 i h with h | h
          · exact hv6o i h
          · omega
        go_wp2_with (at_builtin; refine Lib.wpList_append_run _ rfl (.tmp 46) (.tmp 50) 24 24 rfl _ _ rfl rfl _ _ hr9 ?_)
        refine (image_closed o9 (by have := HTl.out; simp only [List.length_append, low_length, headL_length]; omega)).mono ?_; rintro e w10 ⟨v10, rfl, o10, k10, f10⟩
        have s9 := k10.size
        have KB10 : Keep No w1 w10 := KB9.then k10 (fun i hi e => by have := hv9o i e; omega)
        have hfin : NewO w w10 v10 (putL N l d) := by
          refine ⟨((keep_alloc w (.cells #[.int .i64 N, .slice A1 len c1, .slice A2 d.length c2] 29)).thenNo hk1).thenNo KB10, ?_, fun i h => ?_⟩
          · have e : putL (N : Int) l d = headL N len ++ low 4 (crcSum (headL N len)) ++ (T ++ low 4 (crcSum T)) ++ (d.flatten ++ low 4 (crcSum d.flatten)) ++ low 4 (crcSum (headL N len ++ low 4 (crcSum (headL N len)) ++ (T ++ low 4 (crcSum T)) ++ (d.flatten ++ low 4 (crcSum d.flatten)))) := by
              unfold putL sealed; rw [HL.out, HTL.out]
            rw [e]; exact o10
          · have : w1.heap.size ≤ i := by
              rcases f10 i h with h | h
              · exact hv9o i h
              · omega
            have := hk1.size
            simp at this
            omega
        have HF := hid hfin
        clear hfin
        go_wp2
        go_ret2
        exact ⟨_, rfl, HF.out⟩
set_option maxHeartbeats 1000000 in
set_option maxRecDepth 100000 in
theorem image_Put_bad {w : World} {F G : Nat → Prop} {vb vd : Value} {l : List Blk} {d : List (List UInt8)} (hb : Rd w F vb l.length (bks l)) (hd : RdD w G vd d) (n : Int) (hm : mayB n l d = false) :
    Calls Try.prog 20 #[.agg #[.int .i64 n, vb, vd]] w fun e w' => e = .returned (.tuple #[.slice none 0 0, errV 1]) ∧ Keep No w w' := by
  have hbs : ∃ A cap, vb = .slice A l.length cap := by obtain ⟨A, c, e, h1, h2, _⟩ := hb; exact ⟨A, c, e⟩
  have hds : ∃ A cap, vd = .slice A d.length cap := by obtain ⟨_, ⟨A, c, e, h1, h2, _⟩, _⟩ := hd; exact ⟨A, c, e⟩
  obtain ⟨A1, c1, rfl⟩ := hbs
  obtain ⟨A2, c2, rfl⟩ := hds
  have hk0 := keep_alloc w (.cells #[.int .i64 n, .slice A1 l.length c1, .slice A2 d.length c2] 29)
  have H := image_May (hb.keepNo hk0) (hd.keepNo hk0) n
  rw [hm] at H
  have HH := hid H
  clear H hm
  go_enter Try.func20, Try.ntmps20
  go_wp2_with fail
  refine HH.out.mono ?_; rintro e w1 ⟨rfl, hk1⟩
  go_wp2
  go_ret2
  exact ⟨rfl, hk0.thenNo hk1⟩
end Go.Proofs.Ytnldmhljggcnpaa
