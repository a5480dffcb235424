import Derived.Test.YtnldmhljggcnpaaUp15
import Derived.Test.YtnldmhljggcnpaaPlain3
import Derived.Test.YtnldmhljggcnpaaByteSet
import Derived.Deep.DeepCutAuto
namespace Go.Proofs.Ytnldmhljggcnpaa
set_option linter.unusedSimpArgs false
set_option linter.unusedVariables false
open Go.RowKit Cantle
set_option maxRecDepth 100000
set_option maxHeartbeats 4000000
theorem image_Get_n {w : World} {F : Nat → Prop} {v : Value} {b : List UInt8} {N : Nat} (hn : b.length = N) (hr : Rd w F v N (bv b)) (hmx : N ≤ 1000000) :
    Calls Try.prog 19 #[v] w (GetPost (getL b) w) := by subst hn; exact image_Get hr hmx
theorem errV_nil (c : Nat) (x : Operand) (z : Value) (W : World) : (binOp .eql 31 (errV c) .nilIface).run Try.prog W = .ok (.bool (decide (c = 0))) W ∧ (binOp .neq 31 (errV c) .nilIface).run Try.prog W = .ok (.bool (decide (c ≠ 0))) W ∧
    (eqGuard .eql 31 x (.const z) (errV c) .nilIface).run Try.prog W = .ok () W ∧ (eqGuard .neq 31 x (.const z) (errV c) .nilIface).run Try.prog W = .ok () W := by
  cases c with
  | zero => refine ⟨?_, ?_, ?_, ?_⟩ <;> simp [errV, go_sem]
  | succ n => refine ⟨?_, ?_, ?_, ?_⟩ <;> simp [errV, go_sem]
def codeOf : GetR → Nat
  | .err c => c
  | .ok _ _ _ => 0
/-- an image, and what was amiss, as a box and an error -/
def GotV (B : Nat) : GetR → Value → Value → World → Prop
  | .err c, p, e, w => e = errV c ∧ ∃ g, p = .pointer (some ⟨g, 0, none⟩) ∧ B ≤ g ∧ w.heap[g]? = some (.cells #[.int .i64 0, .slice none 0 0, .slice none 0 0] 29 (0, 0))
  | .ok n l d, p, e, w => e = .nilIface ∧ ∃ g A1 c1 A2 c2, p = .pointer (some ⟨g, 0, none⟩) ∧ B ≤ g ∧ w.heap[g]? = some (.cells #[.int .i64 n, .slice A1 l.length c1, .slice A2 d.length c2] 29 (0, 0)) ∧ Rd w (fun i => B ≤ i) (.slice A1 l.length c1) l.length (bks l) ∧ RdD w (fun i => B ≤ i) (.slice A2 d.length c2) d
theorem GotV.err {B : Nat} {r : GetR} {p e : Value} {w : World} (h : GotV B r p e w) : e = errV (codeOf r) := by
  cases r with
  | err c => exact h.1
  | ok n l d => exact h.1
theorem ImageBack_walk {w : World} {F : Nat → Prop} {vb vd v : Value} {l : List Blk} {d : List (List UInt8)} {b : List UInt8} (hb : Rd w F vb l.length (bks l)) (hd : RdD w F vd d) (hv : Rd w F v b.length (bv b))
    (n at_ cut : Int) (by_ : Nat) (hat1 : -9223372036854775808 ≤ at_) (hat2 : at_ ≤ 9223372036854775807) (hct1 : -9223372036854775808 ≤ cut) (hct2 : cut ≤ 9223372036854775807) (hby2 : by_ ≤ 4294967295) :
    Calls Try.prog 3 #[.int .i64 n, vb, vd, v, .int .i64 at_, .int .u32 (by_ : Int), .int .i64 cut] w fun e w' => e = .returned (.bool true) ∧ Keep No w w' := by
  obtain ⟨Av, cv, rfl, hv1, hv2⟩ := hv.form
  obtain ⟨Ab, cb, rfl, hb1, hb2⟩ := hb.form
  obtain ⟨Ad, cd, rfl, hd1, hd2⟩ := hd.form
  have HB := hid hb
  have HD := hid hd
  have HV := hid hv
  have hfew := fun wx (k : Keep No w wx) => law15_Few (hb.keepNo k) (hd.keepNo k)
  have HFEW := hid hfew
  clear hb hd hv hfew
  generalize hL : l.length = len at *
  generalize hDl : d.length = dlen at *
  generalize hBl : b.length = blen at *
  have HL := hid hL
  have HDL := hid hDl
  have HBL := hid hBl
  clear hL hDl hBl
  go_enter Try.func3, Try.ntmps3
  go_wp2_with fail
  refine law15_up.mono ?_; rintro e w1 ⟨rfl, k1⟩
  have H := HFEW.out w1 k1
  cases hf : fewB l d with
  | false =>
    rw [hf] at H
    clear hf
    go_wp2_with fail
    refine H.mono ?_; rintro e w2 ⟨rfl, rfl⟩
    simp only [b2n]
    go_wp2
    go_ret
    exact ⟨rfl, k1⟩
  | true =>
    rw [hf] at H
    have HF := hid hf
    clear hf
    go_wp2_with fail
    refine H.mono ?_; rintro e w2 ⟨rfl, rfl⟩
    simp only [b2n]
    clear H
    by_cases hlen : 30000 < blen
    · go_wp2
      go_ret
      exact ⟨rfl, k1⟩
    · have hGet := image_Get_n HBL.out (HV.out.keepNo k1) (by omega)
      go_upto_region 4 with fail
      go_cut [16, 17] (fun p e wx => GotV w.heap.size (getL b) p e wx ∧ Keep No w wx)
      case first =>
        cases hg : getL b with
        | err c =>
          rw [hg] at hGet
          go_wp2_with fail
          refine hGet.mono ?_; rintro e w3 ⟨rfl, k3⟩
          generalize hev : errV c = ev
          have HEV := hid hev
          clear hev
          go_wp2_with fail
          go_meet
          case rel =>
            refine ⟨?_, (k1.thenNo k3).thenNo (keep_alloc _ _)⟩
            rw [hg]
            exact ⟨HEV.out.symm, w3.heap.size, rfl, (k1.thenNo k3).size, heap_alloc_new _ _⟩
        | ok n1 l1 d1 =>
          rw [hg] at hGet
          go_wp2_with fail
          refine hGet.mono ?_; rintro e w3 ⟨vb, vd, rfl, k3, hvb, hvd⟩
          obtain ⟨A1, c1, rfl, _, _⟩ := hvb.form
          obtain ⟨A2, c2, rfl, _, _⟩ := hvd.form
          go_wp2_with fail
          go_meet
          case rel =>
            refine ⟨?_, (k1.thenNo k3).thenNo (keep_alloc _ _)⟩
            rw [hg]
            exact ⟨rfl, w3.heap.size, A1, c1, A2, c2, rfl, (k1.thenNo k3).size, heap_alloc_new _ _, (hvb.mono (fun i _ h => Nat.le_trans k1.size h)).keepNo (keep_alloc _ _), (hvd.mono (fun i _ h => Nat.le_trans k1.size h)).keepNo (keep_alloc _ _)⟩
      case rest =>
        obtain ⟨hgot, kc⟩ := hcut
        obtain rfl := hgot.err
        have HGOT := hid hgot
        have HC0 := hid (fun c (h : getL b = .err c) => getL_err h)
        have e1 := fun W => (errV_nil (codeOf (getL b)) (.tmp 0) .nilIface W).1
        have e2 := fun x y W => (errV_nil (codeOf (getL b)) x y W).2.2.1
        clear hgot hGet
        generalize hcode : codeOf (getL b) = cg at *
        generalize errV cg = ev at *
        go_upto_if 52 with fail
        go_cut [18, 19] (fun p q wx => Keep No w wx)
        case first =>
          have hgot := HGOT.out
          cases hg : getL b with
          | err c =>
            rw [hg] at hgot
            obtain ⟨hE, g, rfl, hg1, hg2⟩ := hgot
            clear hE
            have hz : cg ≠ 0 := by rw [← hcode, hg]; have := getL_err hg; simp only [codeOf]; omega
            have hzd : decide (cg = 0) = false := by simpa using hz
            clear hcode
            go_wp2
            go_meet
            case rel => exact kc
          | ok n1 l1 d1 =>
            rw [hg] at hgot
            obtain ⟨hE, g, A1, c1, A2, c2, rfl, hg1, hg2, hr1, hr2⟩ := hgot
            clear hE
            obtain ⟨hm1, hp1, hl1, hf1⟩ := put_get hg
            have hz : cg = 0 := by rw [← hcode, hg]; rfl
            clear hcode
            have hPut := image_Put hr1 hr2 (n1 : Int) hm1 (by omega) (by rw [HBL.out] at hf1; omega) (Nat.le_trans (flat_len (mayB_pos hm1)) (by rw [HBL.out] at hf1; omega))
            rw [hp1] at hPut
            have HMAY := hid (fun wx (k : Keep No wc wx) => image_May (hr1.keepNo k) (hr2.keepNo k) (n1 : Int))
            rw [hm1] at HMAY
            obtain ⟨q0, q1, q2, _, _, _, ql⟩ := box3 hg2
            clear hm1 hp1 hf1 hr1 hr2
            go_wp2_with fail
            refine hPut.mono ?_; rintro e w5 ⟨v5, rfl, hN⟩
            have hr5 := hN.rd
            have hcv1 := conv_str hr5
            have hcv2 : (convert 24 9 (.slice Av blen cv)).run Try.prog w5 = .ok (.string (strOf b)) w5 := by
              have := HV.out.keepNo (kc.thenNo hN.keep)
              rw [← HBL.out] at this ⊢
              exact conv_str this
            obtain ⟨A5, c5, rfl, _, _⟩ := hr5.form
            obtain ⟨q0, q1, q2, _, _, _, ql⟩ := box3 (hN.keep.heap (fun q => q) hg2)
            generalize strOf b = sb at *
            clear hr5 hPut
            go_wp2_with fail
            refine (HMAY.out _ hN.keep).mono ?_; rintro e w6 ⟨rfl, k6⟩
            go_wp2
            go_meet
            case rel => exact (kc.thenNo hN.keep).thenNo k6
        case rest =>
          clear e1 e2 HGOT HC0 hcode
          have HB' := hid (fun wx (k : Keep No w wx) => (show Rd wx F (.slice Ab len cb) l.length (bks l) by rw [HL.out]; exact HB.out.keepNo k))
          have HD' := hid (fun wx (k : Keep No w wx) => HD.out.keepNo k)
          have HMAY := hid (fun wx (k : Keep No w wx) => image_May (HB'.out wx k) (HD'.out wx k) n)
          have hka := keep_alloc wc (.cells #[.int .i64 n, .slice Ab len cb, .slice Ad dlen cd] 29)
          have hbx := heap_alloc_new wc (.cells #[.int .i64 n, .slice Ab len cb, .slice Ad dlen cd] 29)
          have kX := hcut.thenNo hka
          obtain ⟨q0, q1, q2, _, _, _, ql⟩ := box3 hbx
          cases hm : mayB n l d with
          | false =>
            rw [hm] at HMAY
            have hPut := image_Put_bad (HB'.out _ kX) (HD'.out _ kX) n hm
            clear hm
            go_wp2_with fail
            refine hPut.mono ?_; rintro e w5 ⟨rfl, k5⟩
            obtain ⟨q0, q1, q2, _, _, _, ql⟩ := box3 (k5.heap (fun q => q) hbx)
            simp only [errV]
            go_wp2_with fail
            refine (HMAY.out _ (kX.thenNo k5)).mono ?_; rintro e w6 ⟨rfl, k6⟩
            go_wp2
            go_ret
            exact ⟨rfl, (kX.thenNo k5).thenNo k6⟩
          | true =>
            have HM := hid hm
            obtain ⟨f1, f2, f3, f4⟩ : l.length ≤ 600 ∧ d.length ≤ 600 ∧ (∀ x ∈ d, x.length ≤ 20000) ∧ d.flatten.length ≤ 40000 := by have := HF.out; unfold fewB at this; simpa using this
            have hPut := image_Put (HB'.out _ kX) (HD'.out _ kX) n hm (by omega) (by omega) (by omega)
            have hfew := mayB_few hm
            have hgp := get_put hm
            have hnn : ((n.toNat : Nat) : Int) = n := by have := (longB_iff _).1 (mayB_iff.1 hm).1; omega
            have hpl := putL_length n l d
            clear hm
            have HMORE := hid (getL_more HM.out)
            have HLESS := hid (fun k => getL_less (k := k) HM.out)
            have HTURN := hid (fun c' k => getL_turned (n := n) (l := l) (d := d) (c' := c') (k := k))
            generalize hcc : putL n l d = c at *
            have HGP := hid hgp
            have hcl : c.length ≤ 100000 := by omega
            have hcl2 : 40 ≤ c.length := by omega
            clear hcc hgp hpl
            go_wp2_with fail
            refine hPut.mono ?_; rintro e w5 ⟨v5, rfl, hN⟩
            have kP := kX.thenNo hN.keep
            obtain ⟨A5, c5, rfl, hc5, hc6⟩ := hN.rd.form
            have hxb := hN.keep.heap (fun q => q) hbx
            have hGet := image_Get_n (N := c.length) rfl hN.rd (by omega)
            rw [HGP.out] at hGet
            have HRC := hid (fun wx (k : Keep No w5 wx) => hN.rd.keepNo k)
            have HOC := hid (fun wx (k : Keep No w5 wx) => hN.own.keepNo k)
            have HGE := hid hN.ge
            generalize hcn : c.length = cn at *
            have HCN := hid hcn
            clear hcn hN hPut q0 q1 q2 ql HMAY
            generalize hX : wc.heap.size = bX at *
            go_upto_region 13 with fail
            go_cut [23, 24] (fun p e wx => e = .nilIface ∧ ∃ A1 c1 A2 c2, p = .pointer (some ⟨wx.heap.size - 1, 0, none⟩) ∧ 0 < wx.heap.size ∧ w5.heap.size ≤ wx.heap.size - 1 ∧ wx.heap[wx.heap.size - 1]? = some (.cells #[.int .i64 n, .slice A1 l.length c1, .slice A2 d.length c2] 29 (0, 0)) ∧ Rd wx (fun _ => True) (.slice A1 l.length c1) l.length (bks l) ∧ RdD wx (fun _ => True) (.slice A2 d.length c2) d ∧ Keep No w5 wx)
            case first =>
              go_wp2_with fail
              refine hGet.mono ?_; rintro e w6 ⟨vb, vd, rfl, k6, hvb, hvd⟩
              obtain ⟨A1, c1, rfl, _, _⟩ := hvb.form
              obtain ⟨A2, c2, rfl, _, _⟩ := hvd.form
              rw [hnn]
              have hs6 : w6.heap.size = (w6.alloc (.cells #[.int .i64 n, .slice A1 l.length c1, .slice A2 d.length c2] 29)).heap.size - 1 := by simp
              have hal := heap_alloc_new w6 (.cells #[.int .i64 n, .slice A1 l.length c1, .slice A2 d.length c2] 29)
              have hr1 := (hvb.mono (F' := fun _ => True) (fun _ _ _ => trivial)).keepNo (keep_alloc w6 (.cells #[.int .i64 n, .slice A1 l.length c1, .slice A2 d.length c2] 29))
              have hr2 := (hvd.mono (F' := fun _ => True) (fun _ _ _ => trivial)).keepNo (keep_alloc w6 (.cells #[.int .i64 n, .slice A1 l.length c1, .slice A2 d.length c2] 29))
              have hsz6 := k6.size
              have HS6 := hid hs6
              clear hs6
              go_wp2_with fail
              go_meet
              case rel => exact ⟨rfl, A1, c1, A2, c2, by rw [← HS6.out], by simp, by rw [← HS6.out]; exact hsz6, by rw [← HS6.out]; exact hal, hr1, hr2, k6.thenNo (keep_alloc _ _)⟩
            case rest =>
              obtain ⟨rfl, A1, c1, A2, c2, rfl, hpos, hge, hyb, hry1, hry2, k6⟩ := hcut
              generalize hbY : wc.heap.size - 1 = bY at *
              have hxc := k6.heap (fun q => q) hxb
              obtain ⟨y0, y1, y2, _, _, _, yl⟩ := box3 hyb
              obtain ⟨x0, x1, x2, _, _, _, xl⟩ := box3 hxc
              have hsame : decide (n = n ∧ l = l ∧ d = d) = true := by simp
              have HSM := hid (fun wx (k : Keep No wc wx) => ref15_Same (hry1.keepNo k) (hry2.keepNo k) (HB'.out wx ((kP.thenNo k6).thenNo k)) (HD'.out wx ((kP.thenNo k6).thenNo k)) n n)
              rw [hsame] at HSM
              clear hsame hbY
              generalize hll : l.length = ll at *
              generalize hdl : d.length = dl at *
              go_upto_region 14 with fail
              go_cut [25] (fun q wx => q = .bool true ∧ Keep No wc wx)
              case first =>
                go_region_held3 (fun w' => w'.cell? ⟨bY, 0, none⟩ = some (.int .i64 n) ∧ w'.cell? ⟨bY, 1, none⟩ = some (.slice A1 ll c1) ∧ w'.cell? ⟨bY, 2, none⟩ = some (.slice A2 dl c2) ∧
                    w'.cell? ⟨bX, 0, none⟩ = some (.int .i64 n) ∧ w'.cell? ⟨bX, 1, none⟩ = some (.slice Ab len cb) ∧ w'.cell? ⟨bX, 2, none⟩ = some (.slice Ad dlen cd))
                  (first
                    | exact ⟨y0, y1, y2, x0, x1, x2⟩
                    | exact ⟨hka.cell (fun q => q) y0, hka.cell (fun q => q) y1, hka.cell (fun q => q) y2, hka.cell (fun q => q) x0, hka.cell (fun q => q) x1, hka.cell (fun q => q) x2⟩
                    | exact ⟨(hka.thenNo hkb).cell (fun q => q) y0, (hka.thenNo hkb).cell (fun q => q) y1, (hka.thenNo hkb).cell (fun q => q) y2, (hka.thenNo hkb).cell (fun q => q) x0, (hka.thenNo hkb).cell (fun q => q) x1, (hka.thenNo hkb).cell (fun q => q) x2⟩
                    | exact ⟨KS.out.cell (fun q => q) y0, KS.out.cell (fun q => q) y1, KS.out.cell (fun q => q) y2, KS.out.cell (fun q => q) x0, KS.out.cell (fun q => q) x1, KS.out.cell (fun q => q) x2⟩
                    | exact ⟨y0, y1, y2, x0, x1, x2⟩)
                  (first
                    | (go_at_call_of 23 (Value.agg #[.int .i64 n, .slice A1 ll c1, .slice A2 dl c2]); refine (law15_Like n A1 A2 ll c1 dl c2).mono ?_; rintro e wa ⟨rfl, hka⟩)
                    | (go_at_call_of 23 (Value.agg #[.int .i64 n, .slice Ab len cb, .slice Ad dlen cd]); refine (law15_Like n Ab Ad len cb dlen cd).mono ?_; rintro e wb ⟨rfl, hkb⟩)
                    | (go_at_call 22; refine (HSM.out _ (((Keep.drew No _).trans hka).thenNo hkb)).mono ?_; rintro e ws ⟨rfl, hks⟩; have KS := hid ((hka.thenNo hkb).thenNo hks)))
                all_goals
                  go_wp2_with fail
                  go_meet
                  case rel => exact ⟨rfl, (Keep.drew No _).trans KS.out⟩
              case rest =>
                obtain ⟨rfl, k7⟩ := hcut
                go_upto_region 15 with fail
                go_cut [26, 27] (fun p e wx => ∃ n15 : Int, e = .iface 136 (.int .i64 n15) ∧ Keep No wc wx)
                case first =>
                  have kC := k6.thenNo k7
                  have hO0 := owns_empty wc
                  have hRc := (HRC.out _ kC).keepNo (keep_alloc wc (.cells #[] 5))
                  rw [← HCN.out] at hRc
                  obtain ⟨va, wa, hra, oA, kA, fA⟩ := append_bytes hO0 hRc (by rw [HCN.out]; simp; omega) 24
                  rw [HCN.out] at hra
                  have hx0 : Rd (wa.alloc (.cells #[.int .u8 0] 5)) (fun _ => True) (.slice (some ⟨wa.heap.size, 0, none⟩) 1 1) ([0] : List UInt8).length (bv [0]) :=
                    ⟨_, 1, rfl, Nat.le_refl _, by omega, fun _ => ⟨wa.heap.size, 0, rfl, trivial, by simp, fun j u hu => by
                      rw [cell_blk (heap_alloc_new wa _), Nat.zero_add]
                      simpa [bv, byteV] using hu⟩⟩
                  obtain ⟨vb, wb, hrb, oB, kB, fB⟩ := append_bytes (oA.keepNo (keep_alloc wa (.cells #[.int .u8 0] 5))) hx0 (by simp [HCN.out]; omega) 24
                  have hG := image_Get oB.rd (by simp [HCN.out]; omega)
                  rw [List.nil_append] at hG
                  obtain ⟨c15, hc15⟩ := HMORE.out
                  rw [hc15] at hG
                  have hc15' := getL_err hc15
                  have HKA := hid kA
                  have HKB := hid kB
                  have HFA := hid fA
                  clear hc15 oA oB fA fB hx0 hRc hO0 kA kB
                  go_wp2_with (first
                    | (at_builtin; refine Lib.wpList_append_run _ rfl (.tmp 100) (.tmp 101) 24 24 rfl _ _ rfl rfl _ _ hra ?_)
                    | (at_builtin; refine Lib.wpList_append_run _ rfl (.tmp 102) (.tmp 103) 24 24 rfl _ _ rfl rfl _ _ hrb ?_))
                  refine hG.mono ?_; rintro e wg ⟨rfl, kg⟩
                  generalize hev : errV c15 = e15
                  have HEV := hid hev
                  clear hev
                  go_wp2_with fail
                  go_meet
                  case rel =>
                    have KA := (keep_alloc wc (.cells #[] 5)).then HKA.out (fun i hi e => by have : wc.heap.size = i := Option.some.inj e; omega)
                    obtain ⟨n15, rfl⟩ : ∃ m, c15 = m + 1 := ⟨c15 - 1, by omega⟩
                    exact ⟨_, HEV.out.symm, (((KA.thenNo (keep_alloc _ _)).then HKB.out (fun i hi e => by
                      rcases HFA.out i e with h | h
                      · have : wc.heap.size = i := Option.some.inj h; omega
                      · simp at h; omega)).thenNo kg).thenNo (keep_alloc _ _)⟩
                case rest =>
                  obtain ⟨n15, rfl, k8⟩ := hcut
                  have kD := (k6.thenNo k7).thenNo k8
                  have hO5 := HOC.out _ kD
                  obtain ⟨g, rfl⟩ : ∃ g, A5 = some ⟨g, 0, none⟩ := by
                    rcases hO5.2 with ⟨e, _⟩ | ⟨g, cap, cur, e, _⟩
                    · cases e; omega
                    · cases e; exact ⟨g, rfl⟩
                  have hR5 := HRC.out _ kD
                  obtain ⟨K, hK⟩ := Int.eq_ofNat_of_zero_le (Int.emod_nonneg cut (show (cn : Int) ≠ 0 by omega))
                  have hK2 : K < cn := by have := Int.emod_lt_of_pos cut (show (0 : Int) < cn by omega); omega
                  have hP1 := fun wx => law00_Pick (w := wx) cut cn hct1 hct2 (by omega) (by omega)
                  rw [hK] at hP1
                  have hKc : (K : Int) ≤ c5 := by omega
                  have hGk := image_Get_n (b := c.take K) (N := K) (by rw [List.length_take]; have := HCN.out; omega) (hR5.takeB HCN.out (by omega)) (by omega)
                  obtain ⟨c16, hc16⟩ := HLESS.out K hK2
                  rw [hc16] at hGk
                  have hc16' := getL_err hc16
                  have HK2 := hid hK2
                  clear hc16 hK hK2 hR5 hO5 HLESS HMORE HSM
                  go_upto_region 16 with fail
                  go_cut [28, 29] (fun p e wx => ∃ n16 : Int, e = .iface 136 (.int .i64 n16) ∧ Keep No wc wx)
                  case first =>
                    go_wp2_with fail
                    refine (hP1 _).mono ?_; rintro e wg ⟨rfl, rfl⟩
                    go_wp2_with fail
                    refine hGk.mono ?_; rintro e wg ⟨rfl, kg⟩
                    generalize hev : errV c16 = e16
                    have HEV := hid hev
                    clear hev
                    go_wp2_with fail
                    go_meet
                    case rel =>
                      obtain ⟨n16, rfl⟩ : ∃ m, c16 = m + 1 := ⟨c16 - 1, by omega⟩
                      exact ⟨_, HEV.out.symm, kg.thenNo (keep_alloc _ _)⟩
                  case rest =>
                    obtain ⟨n16, rfl, k9⟩ := hcut
                    have kE := kD.thenNo k9
                    have hO5 := HOC.out _ kE
                    have hxd := (((k7.thenNo k8).thenNo k9)).heap (fun q => q) hxc
                    obtain ⟨kk, hkk⟩ := Int.eq_ofNat_of_zero_le (Int.emod_nonneg at_ (show (cn : Int) - 3 ≠ 0 by omega))
                    have hkk2 : kk + 4 ≤ cn := by have := Int.emod_lt_of_pos at_ (show (0 : Int) < (cn : Int) - 3 by omega); omega
                    have hP2 := fun wx => law00_Pick (w := wx) at_ ((cn : Int) - 3) hat1 hat2 (by omega) (by omega)
                    rw [hkk] at hP2
                    have HO5 := hid hO5
                    have HXD := hid hxd
                    clear hGk hP1 hkk hO5 hxd hc16' hKc
                    go_wp2_with fail
                    refine (hP2 _).mono ?_; rintro e wE ⟨rfl, rfl⟩
                    obtain ⟨wE, hwE⟩ : ∃ wE : World, wE = wc := ⟨_, rfl⟩
                    have HWE := hid hwE
                    have KE0 := hid (show Keep No w wE by rw [hwE]; exact kP.thenNo kE)
                    clear hwE hP2
                    go_wp2_with fail
                    go_loopw [5, 31] (fun b j wx => ∃ m y : Nat, b = .int .u32 (y : Int) ∧ j = .int .i64 (m : Int) ∧ m ≤ 4 ∧ y ≤ 4294967295 ∧ ∃ c' : List UInt8, near c c' kk ∧ OwnB wx (.slice (some ⟨g, 0, none⟩) cn c5) c' ∧ Keep (fun i => i = g) wE wx) (fun _ j _ => 4 - (intOf j).toNat)
                    case atStart => exact ⟨0, by_, rfl, rfl, by omega, hby2, c, near_refl _ _, HO5.out, by rw [HWE.out]; exact Keep.refl _ _⟩
                    case round =>
                      obtain ⟨m, y, rfl, rfl, hm4, hy2, c', hn, ho, kF⟩ := hrel
                      have hl' : c'.length = cn := by rw [hn.1, HCN.out]
                      have HN' := hid hn
                      have HO' := hid ho
                      have HKF := hid kF
                      have HL' := hid hl'
                      clear hn ho kF hl'
                      by_cases hlt : m < 4
                      · obtain ⟨hcell, hfz⟩ := HO'.out.cellAt HL'.out (kk + m) (by rw [HL'.out]; omega)
                        generalize c'[kk + m]'(by rw [HL'.out]; omega) = u at *
                        obtain ⟨x, hxo, hx2⟩ := xor_byte u (y := y % 256) (by omega)
                        have HX2 := hid hx2
                        have hxo2 : bits .xor .u8 ((u.toNat : Nat) : Int) ((y : Int) % 256) = ((x.toNat : Nat) : Int) := hxo
                        have hset := HO'.out.setByte HL'.out (kk + m) x
                        have HSET := hid hset
                        have HNX := hid (HN'.out.set (i := kk + m) (by omega) (by omega) x)
                        have hidx : (kk : Int) + (m : Int) < cn := by omega
                        clear hxo hset hx2
                        go_wp2
                        refine ⟨⟨m + 1, y / 256, rfl, rfl, by omega, by omega, c'.set (kk + m) x, HNX.out, ?_, ?_⟩, ?_⟩
                        · exact HSET.out.1
                        · exact HKF.out.trans HSET.out.2
                        · simp [intOf]; omega
                      · obtain rfl : m = 4 := by omega
                        have hgb : bX < g := by have := HGE.out g rfl; simp at this; omega
                        have hwX := kX.size
                        have KR := hid (show Keep No w wr from KE0.out.then HKF.out (fun i hi e => by simp at hwX; omega))
                        have hG := image_Get_n (b := c') (N := cn) HL'.out (by have := HO'.out.rd; rw [HL'.out] at this; exact this) (by omega)
                        have HTU := hid (fun n' l' d' (hg : getL c' = .ok n' l' d') => HTURN.out c' kk (by omega) HN'.out hg)
                        go_upto_region 25 with fail
                        go_cut [32, 33] (fun p e wx => ∃ (bZ : Nat) (nz : Int) (A1 : Option Addr) (c1 : Nat) (A2 : Option Addr) (c2 : Nat) (lz : List Blk) (dz : List (List UInt8)), p = .pointer (some ⟨bZ, 0, none⟩) ∧ wx.heap[bZ]? = some (.cells #[.int .i64 nz, .slice A1 lz.length c1, .slice A2 dz.length c2] 29 (0, 0)) ∧ Rd wx (fun _ => True) (.slice A1 lz.length c1) lz.length (bks lz) ∧ RdD wx (fun _ => True) (.slice A2 dz.length c2) dz ∧ ((∃ n17 : Int, e = .iface 136 (.int .i64 n17)) ∨ (e = .nilIface ∧ nz = n ∧ lz = l ∧ dz = d)) ∧ Keep No wr wx)
                        case first =>
                          cases hg : getL c' with
                          | err c17 =>
                            rw [hg] at hG
                            have hc17 := getL_err hg
                            clear hg
                            go_wp2_with fail
                            refine hG.mono ?_; rintro e wz ⟨rfl, kz⟩
                            generalize hev : errV c17 = e17
                            have HEV := hid hev
                            clear hev
                            go_wp2_with fail
                            go_meet
                            case rel =>
                              obtain ⟨n17, rfl⟩ : ∃ m, c17 = m + 1 := ⟨c17 - 1, by omega⟩
                              exact ⟨wz.heap.size, 0, none, 0, none, 0, [], [], rfl, heap_alloc_new _ _, Rd.nil _ _, RdD.nil _ _, .inl ⟨_, HEV.out.symm⟩, kz.thenNo (keep_alloc _ _)⟩
                          | ok n1 l1 d1 =>
                            obtain rfl := HTU.out _ _ _ hg
                            rw [HGP.out] at hg hG
                            obtain ⟨rfl, rfl, rfl⟩ : n.toNat = n1 ∧ l = l1 ∧ d = d1 := by simpa using hg
                            clear hg
                            go_wp2_with fail
                            refine hG.mono ?_; rintro e wz ⟨vb, vd, rfl, kz, hvb, hvd⟩
                            obtain ⟨A1, c1, rfl, _, _⟩ := hvb.form
                            obtain ⟨A2, c2, rfl, _, _⟩ := hvd.form
                            rw [hnn]
                            go_wp2_with fail
                            go_meet
                            case rel => exact ⟨wz.heap.size, n, A1, c1, A2, c2, l, d, rfl, by rw [hll, hdl]; exact heap_alloc_new _ _, (hvb.mono (F' := fun _ => True) (fun _ _ _ => trivial)).keepNo (keep_alloc _ _), (hvd.mono (F' := fun _ => True) (fun _ _ _ => trivial)).keepNo (keep_alloc _ _), .inr ⟨rfl, rfl, rfl, rfl⟩, kz.thenNo (keep_alloc _ _)⟩
                        case rest =>
                          obtain ⟨bZ, nz, A1, c1, A2, c2, lz, dz, rfl, hzb, hr1, hr2, hcase, kz⟩ := hcut
                          have hxz := kz.heap (fun q => q) (HKF.out.heap (fun e => by omega) (HWE.out ▸ HXD.out))
                          have KZ := hid (KR.out.thenNo kz)
                          obtain ⟨y0, y1, y2, _, _, _, yl⟩ := box3 hzb
                          obtain ⟨x0, x1, x2, _, _, _, xl⟩ := box3 hxz
                          have HSM := hid (fun wx (k : Keep No wc wx) => ref15_Same (hr1.keepNo k) (hr2.keepNo k) (l' := l) (by have := HB'.out wx (KZ.out.thenNo k); rw [← hll] at this; exact this) (HD'.out wx (KZ.out.thenNo k)) nz n)
                          have hQ : ∃ Q : Bool, decide (nz = n ∧ lz = l ∧ dz = d) = Q := ⟨_, rfl⟩
                          obtain ⟨Q, hQ⟩ := hQ
                          rw [hQ] at HSM
                          have HQ := hid hQ
                          have HCASE := hid hcase
                          clear hQ hcase hzb hxz hr1 hr2
                          generalize lz.length = llz at *
                          generalize dz.length = dlz at *
                          go_upto_region 26 with fail
                          go_cut [34] (fun q wx => q = .bool Q ∧ Keep No wc wx)
                          case first =>
                            clear HCASE
                            go_region_held3 (fun w' => w'.cell? ⟨bZ, 0, none⟩ = some (.int .i64 nz) ∧ w'.cell? ⟨bZ, 1, none⟩ = some (.slice A1 llz c1) ∧ w'.cell? ⟨bZ, 2, none⟩ = some (.slice A2 dlz c2) ∧
                                w'.cell? ⟨bX, 0, none⟩ = some (.int .i64 n) ∧ w'.cell? ⟨bX, 1, none⟩ = some (.slice Ab len cb) ∧ w'.cell? ⟨bX, 2, none⟩ = some (.slice Ad dlen cd))
                              (first
                                | exact ⟨y0, y1, y2, x0, x1, x2⟩
                                | exact ⟨hka.cell (fun q => q) y0, hka.cell (fun q => q) y1, hka.cell (fun q => q) y2, hka.cell (fun q => q) x0, hka.cell (fun q => q) x1, hka.cell (fun q => q) x2⟩
                                | exact ⟨(hka.thenNo hkb).cell (fun q => q) y0, (hka.thenNo hkb).cell (fun q => q) y1, (hka.thenNo hkb).cell (fun q => q) y2, (hka.thenNo hkb).cell (fun q => q) x0, (hka.thenNo hkb).cell (fun q => q) x1, (hka.thenNo hkb).cell (fun q => q) x2⟩
                                | exact ⟨KS.out.cell (fun q => q) y0, KS.out.cell (fun q => q) y1, KS.out.cell (fun q => q) y2, KS.out.cell (fun q => q) x0, KS.out.cell (fun q => q) x1, KS.out.cell (fun q => q) x2⟩
                                | exact ⟨y0, y1, y2, x0, x1, x2⟩)
                              (first
                                | (go_at_call_of 23 (Value.agg #[.int .i64 nz, .slice A1 llz c1, .slice A2 dlz c2]); refine (law15_Like nz A1 A2 llz c1 dlz c2).mono ?_; rintro e wa ⟨rfl, hka⟩)
                                | (go_at_call_of 23 (Value.agg #[.int .i64 n, .slice Ab len cb, .slice Ad dlen cd]); refine (law15_Like n Ab Ad len cb dlen cd).mono ?_; rintro e wb ⟨rfl, hkb⟩)
                                | (go_at_call 22; refine (HSM.out _ (((Keep.drew No _).trans hka).thenNo hkb)).mono ?_; rintro e ws ⟨rfl, hks⟩; have KS := hid ((hka.thenNo hkb).thenNo hks)))
                            all_goals
                              go_wp2_with fail
                              go_meet
                              case rel => exact ⟨rfl, (Keep.drew No _).trans KS.out⟩
                          case rest =>
                            obtain ⟨rfl, k7z⟩ := hcut
                            have KF := hid (KZ.out.thenNo k7z)
                            rcases HCASE.out with ⟨n17, rfl⟩ | ⟨rfl, e1, e2, e3⟩
                            · go_wp2
                              go_ret
                              exact ⟨rfl, KF.out⟩
                            · obtain rfl : Q = true := by rw [← HQ.out, e1, e2, e3]; simp
                              clear e1 e2 e3
                              go_wp2
                              go_ret
                              exact ⟨rfl, KF.out⟩
end Go.Proofs.Ytnldmhljggcnpaa
