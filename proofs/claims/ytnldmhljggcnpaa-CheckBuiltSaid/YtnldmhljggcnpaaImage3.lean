import Derived.Test.YtnldmhljggcnpaaImage2
namespace Go.Proofs.Ytnldmhljggcnpaa
set_option linter.unusedSimpArgs false
set_option linter.unusedVariables false
open Go.RowKit Cantle

/-- a slice of byte slices that is read -/
def RdD (w : World) (F : Nat → Prop) (v : Value) (d : List (List UInt8)) : Prop :=
  ∃ vs : List Value, Rd w F v d.length vs ∧ vs.length = d.length ∧ ∀ (i : Nat) (x : Value) (l : List UInt8), vs[i]? = some x → d[i]? = some l → Rd w F x l.length (bv l)
theorem RdD.keep {S F : Nat → Prop} {w w' : World} {v : Value} {d : List (List UInt8)} (h : RdD w F v d) (k : Keep S w w') (hs : ∀ i, F i → ¬ S i) : RdD w' F v d := by
  obtain ⟨vs, h1, h2, h3⟩ := h
  exact ⟨vs, h1.keep k hs, h2, fun i x l a b => (h3 i x l a b).keep k hs⟩
theorem RdD.keepNo {F : Nat → Prop} {w w' : World} {v : Value} {d : List (List UInt8)} (h : RdD w F v d) (k : Keep No w w') : RdD w' F v d := h.keep k (fun _ _ q => q)
theorem RdD.mono {F F' : Nat → Prop} {w : World} {v : Value} {d : List (List UInt8)} (h : RdD w F v d) (hf : ∀ i, i < w.heap.size → F i → F' i) : RdD w F' v d := by
  obtain ⟨vs, h1, h2, h3⟩ := h
  exact ⟨vs, h1.mono hf, h2, fun i x l a b => (h3 i x l a b).mono hf⟩
/-- the u-th of them -/
theorem RdD.at_ {w : World} {F : Nat → Prop} {v : Value} {d : List (List UInt8)} (h : RdD w F v d) (u : Nat) (hu : u < d.length) :
    ∃ b o cap A c, v = .slice (some ⟨b, o, none⟩) d.length cap ∧ d.length ≤ cap ∧ cap ≤ 9223372036854775807 ∧ b < w.heap.size ∧ F b ∧ w.cell? ⟨b, o + u, none⟩ = some (.slice A d[u].length c) ∧ Rd w F (.slice A d[u].length c) d[u].length (bv d[u]) := by
  obtain ⟨vs, h1, h2, h3⟩ := h
  obtain ⟨b, o, cap, rfl, g1, g2, g3, g4, g5⟩ := h1.cells (by omega)
  have hx : vs[u]? = some (vs[u]'(by omega)) := List.getElem?_eq_getElem (by omega)
  have hr := h3 u _ _ hx (List.getElem?_eq_getElem hu)
  have hr' := hr
  obtain ⟨A, c, e, _, _, _⟩ := hr
  rw [e] at hx hr'
  exact ⟨b, o, cap, A, c, rfl, g1, g2, g4, g3, g5 u _ hx, hr'⟩

def imgV (n : Int) (vb vd : Value) : Value := .agg #[.int .i64 n, vb, vd]
set_option maxHeartbeats 400000 in
set_option maxRecDepth 100000 in
theorem image_May {w : World} {F G : Nat → Prop} {vb vd : Value} {l : List Blk} {d : List (List UInt8)} (hb : Rd w F vb l.length (bks l)) (hd : RdD w G vd d) (n : Int) :
    Calls Try.prog 21 #[.agg #[.int .i64 n, vb, vd]] w fun e w' => e = .returned (.bool (mayB n l d)) ∧ Keep No w w' := by
  have hbs : ∃ A cap, vb = .slice A l.length cap ∧ l.length ≤ cap ∧ cap ≤ 9223372036854775807 := by obtain ⟨A, c, e, h1, h2, _⟩ := hb; exact ⟨A, c, e, h1, h2⟩
  have hds : ∃ A cap, vd = .slice A d.length cap ∧ d.length ≤ cap ∧ cap ≤ 9223372036854775807 := by obtain ⟨_, ⟨A, c, e, h1, h2, _⟩, _⟩ := hd; exact ⟨A, c, e, h1, h2⟩
  obtain ⟨A1, c1, rfl, hb1, hb2⟩ := hbs
  obtain ⟨A2, c2, rfl, hd1, hd2⟩ := hds
  by_cases hl : longB n = true
  · have hl2 := (longB_iff n).1 hl
    have HL := hid (image_long n)
    rw [hl] at HL
    by_cases ht : tilesB n l = true
    · have hres : mayB n l d = dataB l d := by unfold mayB; rw [hl, ht]; rfl
      generalize hll : l.length = len at *
      generalize hdl : d.length = dlen at *
      have HLL := hid hll
      have HDL := hid hdl
      have HR := hid hres
      clear hll hdl hres hl
      go_enter Try.func21, Try.ntmps21
      go_wp2_with fail
      refine (HL.out _).mono ?_; rintro e w1 ⟨rfl, rfl⟩
      go_wp2_with fail
      have hbA : Rd (w.alloc (.cells #[.int .i64 n, .slice A1 len c1, .slice A2 dlen c2] 29)) F (.slice A1 len c1) l.length (bks l) := by rw [HLL.out]; exact hb.keepNo (keep_alloc _ _)
      have H := image_tiles hbA n hl2.1 hl2.2.1
      rw [ht] at H
      refine H.mono ?_; rintro e w1 ⟨rfl, hk1⟩
      have hg := hk1.heap (fun q => q) (heap_alloc_new w _)
      have g1 := (cell_blk hg 1).trans rfl
      have g2 := (cell_blk hg 2).trans rfl
      have hB1 := lt_blk hg
      have hkw := (keep_alloc w (.cells #[.int .i64 n, .slice A1 len c1, .slice A2 dlen c2] 29)).thenNo hk1
      clear H hbA hg hk1
      generalize w.heap.size = B at *
      go_wp2
      go_loopw [3, 21] (fun x i wr => ∃ k u : Nat, k ≤ len ∧ u ≤ dlen ∧ i = .int .i64 k ∧ x = .int .i64 u ∧ Keep No w1 wr ∧ dataB l d = dataB (l.drop k) (d.drop u)) (fun _ i _ => len - (intOf i).toNat)
      case atStart => exact ⟨0, 0, by omega, by omega, rfl, rfl, Keep.refl _ _, rfl⟩
      case round =>
        obtain ⟨k, u, hk, hu, rfl, rfl, hkr, hres⟩ := hrel
        have HRES := hid hres
        clear hres
        have g1r := hkr.cell (fun q => q) g1
        have g2r := hkr.cell (fun q => q) g2
        have hkwr := hkw.thenNo hkr
        have hBw : B < wr.heap.size := Nat.lt_of_lt_of_le hB1 hkr.size
        by_cases hlt : k < len
        · have hj : k < l.length := by rw [HLL.out]; exact hlt
          obtain ⟨b, o, cap, e, _, _, hF, hbb, hc⟩ := hb.cells (by rw [bks_length]; omega)
          injection e with e1 e2 e3
          subst e1
          obtain ⟨hc0, hc1, hc2⟩ := Rd.blk (w := w) hc k hj
          have hc0 := hkwr.cell (fun q => q) hc0
          have hc1 := hkwr.cell (fun q => q) hc1
          have hc2 := hkwr.cell (fun q => q) hc2
          have hdrop : l.drop k = l[k] :: l.drop (k + 1) := List.drop_eq_getElem_cons hj
          generalize hx : l[k]'hj = x at *
          obtain ⟨xo, xs, xu⟩ := x
          simp only at hc0 hc1 hc2
          have hsz := (isSize_iff _).1 (tilesGo_size ht _ (hx ▸ List.getElem_mem hj))
          obtain ⟨hs1, hs2, _⟩ := hsz
          simp only at hs1 hs2
          rw [hdrop] at HRES
          clear hdrop hx hc e2 e3
          cases xu with
          | false =>
            have HR2 : Hid (dataB l d = dataB (l.drop (k + 1)) (d.drop u)) := HRES.out
            go_wp2
            exact ⟨⟨k + 1, u, by omega, hu, rfl, rfl, hkr.thenNo (keep_alloc _ _), HR2.out⟩, by simp [intOf]; omega⟩
          | true =>
            by_cases hud : u < dlen
            · have hud2 : u < d.length := by rw [HDL.out]; exact hud
              obtain ⟨b2, o2, cap2, A3, c3, e, _, _, hbb2, _, hcd, hrd⟩ := hd.at_ u hud2
              injection e with e1 e2 e3
              subst e1
              have hcd := hkwr.cell (fun q => q) hcd
              have hdd : d.drop u = d[u] :: d.drop (u + 1) := List.drop_eq_getElem_cons hud2
              rw [hdd] at HRES
              have hl64 : (d[u]'hud2).length ≤ 9223372036854775807 := by obtain ⟨_, _, e, _, _, _⟩ := hrd; injection e; omega
              generalize d[u]'hud2 = y at *
              have hR3 : dataB l d = if (y.length : Int) = xs - 16 then dataB (l.drop (k + 1)) (d.drop (u + 1)) else false := HRES.out
              have HR3 := hid hR3
              clear hdd HRES hR3 e2 e3 hrd
              generalize y.length = yl at *
              have hbw : b2 < wr.heap.size := Nat.lt_of_lt_of_le hbb2 hkwr.size
              have hge : decide ((dlen : Int) ≤ (u : Int)) = false := by simpa using hud
              have hui : (u : Int) < (dlen : Int) := by omega
              have hui0 : (0 : Int) ≤ (u : Int) := by omega
              by_cases hys : (yl : Int) = xs - 16
              · have hyb : ((yl : Int) != xs - 16) = false := by simp [bne, hys]
                have hR4 : dataB l d = dataB (l.drop (k + 1)) (d.drop (u + 1)) := by rw [HR3.out, if_pos hys]
                have HR4 := hid hR4
                clear hys hR4
                have hsub : IntKind.i64.wrap (xs - 16) = xs - 16 := by rw [IntKind.wrap_i64]; omega
                go_wp2
                go_quiet (fail)
                clear hsub
                go_wp2
                exact ⟨⟨k + 1, u + 1, by omega, by omega, rfl, rfl, (hkr.thenNo (keep_alloc _ _)).thenNo (Keep.drewN _ _ _), HR4.out⟩, by simp [intOf]; omega⟩
              · have hyb : ((yl : Int) != xs - 16) = true := by simpa [bne_iff_ne] using hys
                have hR4 : dataB l d = false := by rw [HR3.out, if_neg hys]
                have HR4 := hid hR4
                clear hR4
                have hsub : IntKind.i64.wrap (xs - 16) = xs - 16 := by rw [IntKind.wrap_i64]; omega
                go_wp2
                go_quiet (fail)
                clear hsub
                go_wp2
                go_ret
                exact ⟨by rw [HR.out, HR4.out]; rfl, (hkwr.thenNo (keep_alloc _ _)).thenNo (Keep.drewN _ _ _)⟩
            · have hud' : dlen ≤ u := by omega
              have hdd : d.drop u = [] := List.drop_eq_nil_of_le (by rw [HDL.out]; exact hud')
              rw [hdd] at HRES
              have hR4 : dataB l d = false := HRES.out
              have HR4 := hid hR4
              clear hR4 hdd HRES
              have hge : decide ((dlen : Int) ≤ (u : Int)) = true := by simpa using hud'
              go_wp2
              go_quiet (fail)
              go_wp2
              go_ret
              exact ⟨by rw [HR.out, HR4.out]; rfl, (hkwr.thenNo (keep_alloc _ _)).thenNo (Keep.drewN _ _ _)⟩
        · obtain rfl : k = len := by omega
          have hdd : l.drop k = [] := List.drop_eq_nil_of_le (by rw [HLL.out]; exact Nat.le_refl _)
          rw [hdd] at HRES
          have hR4 : dataB l d = (d.drop u).isEmpty := HRES.out
          have hR5 : (d.drop u).isEmpty = ((u : Int) == (dlen : Int)) := by
            rw [Bool.eq_iff_iff, List.isEmpty_iff, List.drop_eq_nil_iff, HDL.out]; simp; omega
          have HR4 := hid hR4
          have HR5 := hid hR5
          clear hR4 hR5 hdd
          go_wp2
          go_ret
          exact ⟨by rw [HR.out, HR4.out, HR5.out]; rfl, hkwr⟩
    · have ht' : tilesB n l = false := by simpa using ht
      have hres : mayB n l d = false := by unfold mayB; rw [ht']; simp
      have HR := hid hres
      clear hres
      have hbA : Rd (w.alloc (.cells #[.int .i64 n, .slice A1 l.length c1, .slice A2 d.length c2] 29)) F (.slice A1 l.length c1) l.length (bks l) := hb.keepNo (keep_alloc _ _)
      have H := image_tiles hbA n hl2.1 hl2.2.1
      rw [ht'] at H
      generalize l.length = len at *
      generalize d.length = dlen at *
      have HH := hid H
      clear H hl
      go_enter Try.func21, Try.ntmps21
      go_wp2_with fail
      refine (HL.out _).mono ?_; rintro e w1 ⟨rfl, rfl⟩
      go_wp2_with fail
      refine HH.out.mono ?_; rintro e w1 ⟨rfl, hk1⟩
      go_wp2
      go_ret
      exact ⟨by rw [HR.out]; rfl, (keep_alloc _ _).thenNo hk1⟩
  · have hl' : longB n = false := by simpa using hl
    have HL := hid (image_long n)
    rw [hl'] at HL
    have hres : mayB n l d = false := by unfold mayB; rw [hl']; simp
    have HR := hid hres
    clear hres hl
    generalize l.length = len at *
    generalize d.length = dlen at *
    go_enter Try.func21, Try.ntmps21
    go_wp2_with fail
    refine (HL.out _).mono ?_; rintro e w1 ⟨rfl, rfl⟩
    go_wp2
    go_ret
    exact ⟨by rw [HR.out]; rfl, keep_alloc _ _⟩
end Go.Proofs.Ytnldmhljggcnpaa
