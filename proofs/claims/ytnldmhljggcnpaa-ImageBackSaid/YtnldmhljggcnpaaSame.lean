import Derived.Test.YtnldmhljggcnpaaImage7
import Derived.Test.YtnldmhljggcnpaaPlain2
import Derived.Test.YtnldmhljggcnpaaCode
import Derived.Lib.IfaceEq
import Derived.Lib.IfaceNeq
import Derived.Laws.StructEq
namespace Go.Proofs.Ytnldmhljggcnpaa
set_option linter.unusedSimpArgs false
set_option linter.unusedVariables false
open Go.RowKit Cantle

set_option maxRecDepth 100000
set_option maxHeartbeats 1000000
theorem law00_Pick {w : World} (n b : Int) (hn1 : -9223372036854775808 ≤ n) (hn2 : n ≤ 9223372036854775807) (hb1 : 0 < b) (hb2 : b ≤ 4611686018427387904) :
    Calls Try.prog 24 #[.int .i64 n, .int .i64 b] w fun e w' => e = .returned (.int .i64 (n % b)) ∧ w = w' := by
  have h0 : ¬ (b = 0) := by omega
  have hlt : n.tmod b < b ∧ -b < n.tmod b := ⟨Int.tmod_lt_of_pos n hb1, by have := Int.lt_tmod_of_pos n hb1; omega⟩
  have hd1 := Int.emod_nonneg n h0
  have hd2 := Int.emod_lt_of_pos n hb1
  have hem : n % b = if n.tmod b < 0 then n.tmod b + b else n.tmod b := by
    rcases Int.lt_or_le n 0 with h | h
    · have hn := Int.tmod_eq_emod (a := n) (b := b)
      rw [hn]
      split
      · rw [if_neg (by omega)]; omega
      · have : (b.natAbs : Int) = b := by omega
        rw [this, if_pos (by omega)]; omega
    · rw [Int.tmod_eq_emod_of_nonneg h, if_neg (by omega)]
  clear hd1 hd2
  rw [hem]
  clear hem
  have hw1 : IntKind.i64.wrap (n.tmod b) = n.tmod b := by rw [IntKind.wrap_i64]; omega
  by_cases hneg : n.tmod b < 0
  · rw [if_pos hneg]
    have hw2 : IntKind.i64.wrap (n.tmod b + b) = n.tmod b + b := by rw [IntKind.wrap_i64]; omega
    generalize hr : n.tmod b = r at *
    go_enter Try.func24, Try.ntmps24
    go_wp2
    go_ret
    exact ⟨rfl, rfl⟩
  · rw [if_neg hneg]
    generalize hr : n.tmod b = r at *
    go_enter Try.func24, Try.ntmps24
    go_wp2
    go_ret
    exact ⟨rfl, rfl⟩

/-! ### few of everything -/
def fewB (l : List Blk) (d : List (List UInt8)) : Bool := decide (l.length ≤ 600 ∧ d.length ≤ 600 ∧ (∀ x ∈ d, x.length ≤ 20000) ∧ d.flatten.length ≤ 40000)
theorem few_take {d : List (List UInt8)} {k : Nat} (hk : k < d.length) : (d.take (k + 1)).flatten.length = (d.take k).flatten.length + d[k].length := by
  rw [List.take_succ_eq_append_getElem hk, List.flatten_append, List.length_append]; simp
theorem law15_Few {w : World} {F G : Nat → Prop} {vb vd : Value} {l : List Blk} {d : List (List UInt8)} (hb : Rd w F vb l.length (bks l)) (hd : RdD w G vd d) :
    Calls Try.prog 18 #[vb, vd] w fun e w' => e = .returned (.int .i64 (b2n (fewB l d) : Int)) ∧ w = w' := by
  have hbs : ∃ A cap, vb = .slice A l.length cap ∧ l.length ≤ cap ∧ cap ≤ 9223372036854775807 := by obtain ⟨A, c, e, h1, h2, _⟩ := hb; exact ⟨A, c, e, h1, h2⟩
  have hds : ∃ A cap, vd = .slice A d.length cap ∧ d.length ≤ cap ∧ cap ≤ 9223372036854775807 := by obtain ⟨_, ⟨A, c, e, h1, h2, _⟩, _⟩ := hd; exact ⟨A, c, e, h1, h2⟩
  obtain ⟨A1, c1, rfl, hb1, hb2⟩ := hbs
  obtain ⟨A2, c2, rfl, hd1, hd2⟩ := hds
  by_cases hl : l.length ≤ 600
  · by_cases hdl : d.length ≤ 600
    · have hres : fewB l d = decide ((∀ x ∈ d, x.length ≤ 20000) ∧ d.flatten.length ≤ 40000) := by unfold fewB; simp [hl, hdl]
      have HR := hid hres
      generalize hL : l.length = len at *
      generalize hD : d.length = dlen at *
      have HL := hid hL
      have HD := hid hD
      clear hL hD hb hres
      go_enter Try.func18, Try.ntmps18
      go_wp2
      go_loopw [5, 6] (fun n i wr => ∃ k : Nat, k ≤ dlen ∧ i = .int .i64 k ∧ n = .int .i64 ((d.take k).flatten.length : Int) ∧ (∀ x ∈ d.take k, x.length ≤ 20000) ∧ (d.take k).flatten.length ≤ 20000 * k ∧ wr = w) (fun _ i _ => dlen - (intOf i).toNat)
      case atStart => exact ⟨0, Nat.zero_le _, rfl, rfl, by simp, by simp, rfl⟩
      case round =>
        obtain ⟨k, hk, rfl, rfl, hall, hsum, rfl⟩ := hrel
        by_cases hlt : k < dlen
        · have hj : k < d.length := by rw [HD.out]; exact hlt
          obtain ⟨b2, o2, cap2, A3, c3, e, _, _, hbb2, _, hcd, hrd⟩ := hd.at_ k hj
          injection e with e1 e2 e3
          subst e1
          have hft := few_take hj
          have hl64 : (d[k]'hj).length ≤ 9223372036854775807 := by obtain ⟨_, _, e, _, _, _⟩ := hrd; injection e; omega
          have hmem : d.take (k + 1) = d.take k ++ [d[k]] := List.take_succ_eq_append_getElem hj
          have hin : d[k] ∈ d := List.getElem_mem hj
          generalize hy : d[k]'hj = y at *
          have HF := hid hft
          have HM := hid hmem
          have HA := hid hall
          have HI := hid hin
          generalize hyl : y.length = yl at *
          have HY := hid hyl
          have hs0 : (d.take k).flatten.length ≤ 12000000 := by omega
          generalize hsm : (d.take k).flatten.length = sm at *
          clear hft hmem hall hin hy hyl hrd e2 e3
          by_cases hbig : 20000 < yl
          · have HX := hid (show fewB l d = false by
              rw [HR.out]; simp only [decide_eq_false_iff_not]; rintro ⟨h, _⟩; have := h y HI.out; rw [HY.out] at this; omega)
            go_wp2
            go_ret
            exact ⟨by rw [HX.out]; rfl, rfl⟩
          · go_wp2
            refine ⟨⟨k + 1, by omega, rfl, by rw [HF.out]; push_cast; rfl, ?_, by rw [HF.out]; omega, trivial⟩, by simp [intOf]; omega⟩
            rw [HM.out]
            intro x hx
            rcases List.mem_append.1 hx with h | h
            · exact HA.out x h
            · simp at h; subst h; rw [HY.out]; omega
        · obtain rfl : dlen = k := by omega
          have htk : d.take dlen = d := by rw [← HD.out]; exact List.take_length
          rw [htk] at hall hsum
          rw [htk]
          have hR : fewB l d = decide (d.flatten.length ≤ 40000) := by rw [HR.out, decide_eq_decide]; exact ⟨fun h => h.2, fun h => ⟨hall, h⟩⟩
          have HRR := hid hR
          clear hR htk hall
          generalize d.flatten.length = fl at *
          by_cases hbig : 40000 < fl
          · have HX := hid (show fewB l d = false by rw [HRR.out]; simp; omega)
            go_wp2
            go_ret
            exact ⟨by rw [HX.out]; rfl, rfl⟩
          · have HX := hid (show fewB l d = true by rw [HRR.out]; simp; omega)
            go_wp2
            go_ret
            exact ⟨by rw [HX.out]; rfl, rfl⟩
    · have HX := hid (show fewB l d = false by unfold fewB; simp only [decide_eq_false_iff_not]; rintro ⟨_, h, _⟩; exact hdl h)
      generalize l.length = len at *
      generalize d.length = dlen at *
      have : decide ((600 : Int) < (dlen : Int)) = true := by simp; omega
      clear hb hd
      go_enter Try.func18, Try.ntmps18
      go_wp2
      go_ret
      exact ⟨by rw [HX.out]; rfl, rfl⟩
  · have HX := hid (show fewB l d = false by unfold fewB; simp only [decide_eq_false_iff_not]; rintro ⟨h, _⟩; exact hl h)
    generalize l.length = len at *
    generalize d.length = dlen at *
    have : decide ((600 : Int) < (len : Int)) = true := by simp; omega
    clear hb hd
    go_enter Try.func18, Try.ntmps18
    go_wp2
    go_ret
    exact ⟨by rw [HX.out]; rfl, rfl⟩
theorem info_img15 : (Try.prog.info? 38).map (·.size) = some 3 := by kernel_rfl
theorem like_done {R : Ending → World → Prop} {tmps : Array Value} {wx : World} {B0 : Nat} {cs : Array Value} (hg : wx.heap[B0]? = some (.cells cs 38 (0, 0))) (hs : cs.size = 3)
    (hp : tmps.getD 2 undef = .pointer (some ⟨B0, 0, none⟩)) (hR : R (.returned (.agg cs)) wx) :
    bodyPost Try.prog Try.f23 R .ret ⟨tmps, []⟩ wx := by
  have hp' : tmps[2]?.getD undef = .pointer (some ⟨B0, 0, none⟩) := by simpa using hp
  refine bodyPost_ret (v := .agg cs) ?_ rfl hR
  have hl := run_loadVar_row (P := Try.prog) _ B0 38 38 cs (0, 0) _ hg Try.underlying38 rfl (by rw [hs]; exact info_img15)
  simp [results, Try.results23, hp', asAddr, hl]
theorem law15_Like {w : World} (n : Int) (A1 A2 : Option Addr) (l1 c1 l2 c2 : Nat) :
    Calls Try.prog 23 #[.agg #[.int .i64 n, .slice A1 l1 c1, .slice A2 l2 c2]] w fun e w' => e = .returned (.agg #[.int .i64 n, .slice A1 l1 c1, .slice A2 l2 c2]) ∧ Keep No w w' := by
  go_enter Try.func23, Try.ntmps23
  go_wp2
  refine like_done (B0 := w.heap.size + 1) (cs := #[.int .i64 n, .slice A1 l1 c1, .slice A2 l2 c2]) ?_ rfl rfl ⟨rfl, (keep_alloc w _).thenNo (keep_alloc _ _)⟩
  have := heap_alloc_new (w.alloc (.cells #[.int .i64 n, .slice A1 l1 c1, .slice A2 l2 c2] 29)) (.cells #[.int .i64 n, .slice A1 l1 c1, .slice A2 l2 c2] 38)
  simpa using this
/-! ### the same image -/
theorem take_ne {α : Type} {l l' : List α} {k : Nat} (h1 : k < l.length) (h2 : k < l'.length) (h : l[k] ≠ l'[k]) : l ≠ l' := fun e => by subst e; exact h rfl
theorem take_next {α : Type} {l l' : List α} {k : Nat} (h1 : k < l.length) (h2 : k < l'.length) (ht : l.take k = l'.take k) (h : l[k] = l'[k]) : l.take (k + 1) = l'.take (k + 1) := by
  rw [List.take_succ_eq_append_getElem h1, List.take_succ_eq_append_getElem h2, ht, h]
theorem ref15_Same {w : World} {F G F' G' : Nat → Prop} {vb vd vb' vd' : Value} {l l' : List Blk} {d d' : List (List UInt8)} (hb : Rd w F vb l.length (bks l)) (hd : RdD w G vd d)
    (hb' : Rd w F' vb' l'.length (bks l')) (hd' : RdD w G' vd' d') (n n' : Int) :
    Calls Try.prog 22 #[.agg #[.int .i64 n, vb, vd], .agg #[.int .i64 n', vb', vd']] w fun e w' => e = .returned (.bool (decide (n = n' ∧ l = l' ∧ d = d'))) ∧ Keep No w w' := by
  have hbs : ∃ A cap, vb = .slice A l.length cap ∧ l.length ≤ cap ∧ cap ≤ 9223372036854775807 := by obtain ⟨A, c, e, h1, h2, _⟩ := hb; exact ⟨A, c, e, h1, h2⟩
  have hds : ∃ A cap, vd = .slice A d.length cap ∧ d.length ≤ cap ∧ cap ≤ 9223372036854775807 := by obtain ⟨_, ⟨A, c, e, h1, h2, _⟩, _⟩ := hd; exact ⟨A, c, e, h1, h2⟩
  have hbs' : ∃ A cap, vb' = .slice A l'.length cap ∧ l'.length ≤ cap ∧ cap ≤ 9223372036854775807 := by obtain ⟨A, c, e, h1, h2, _⟩ := hb'; exact ⟨A, c, e, h1, h2⟩
  have hds' : ∃ A cap, vd' = .slice A d'.length cap ∧ d'.length ≤ cap ∧ cap ≤ 9223372036854775807 := by obtain ⟨_, ⟨A, c, e, h1, h2, _⟩, _⟩ := hd'; exact ⟨A, c, e, h1, h2⟩
  obtain ⟨A1, c1, rfl, hb1, hb2⟩ := hbs
  obtain ⟨A2, c2, rfl, hd1, hd2⟩ := hds
  obtain ⟨A3, c3, rfl, hb3, hb4⟩ := hbs'
  obtain ⟨A4, c4, rfl, hd3, hd4⟩ := hds'
  by_cases hq : n = n' ∧ l.length = l'.length ∧ d.length = d'.length
  · obtain ⟨rfl, hl, hdl⟩ := hq
    obtain ⟨X, hX⟩ : ∃ X, decide (n = n ∧ l = l' ∧ d = d') = X := ⟨_, rfl⟩
    rw [hX]
    have hXt := hid (show l = l' → d = d' → X = true from fun h1 h2 => by rw [← hX, h1, h2]; simp)
    have hXf1 := hid (show l ≠ l' → X = false from fun h1 => by rw [← hX]; simp [h1])
    have hXf2 := hid (show d ≠ d' → X = false from fun h1 => by rw [← hX]; simp [h1])
    clear hX
    rw [← hl] at hb' hb3 ⊢
    rw [← hdl] at hd3 ⊢
    generalize hL : l.length = len at *
    generalize hD : d.length = dlen at *
    have HL := hid hL
    have HD := hid hD
    have HL' := hid hl
    have HD' := hid hdl
    have hB1 : w.heap.size < w.heap.size + 1 := Nat.lt_succ_self _
    have k0 : Keep No w ((w.alloc (.cells #[.int .i64 n, .slice A1 len c1, .slice A2 dlen c2] 38)).alloc (.cells #[.int .i64 n, .slice A3 len c3, .slice A4 dlen c4] 38)) := (keep_alloc _ _).thenNo (keep_alloc _ _)
    have hg1 := (keep_alloc (w.alloc (.cells #[.int .i64 n, .slice A1 len c1, .slice A2 dlen c2] 38)) (.cells #[.int .i64 n, .slice A3 len c3, .slice A4 dlen c4] 38)).heap (fun q => q) (heap_alloc_new w (.cells #[.int .i64 n, .slice A1 len c1, .slice A2 dlen c2] 38))
    have hg2 := heap_alloc_new (w.alloc (.cells #[.int .i64 n, .slice A1 len c1, .slice A2 dlen c2] 38)) (.cells #[.int .i64 n, .slice A3 len c3, .slice A4 dlen c4] 38)
    have hsz : (w.alloc (.cells #[.int .i64 n, .slice A1 len c1, .slice A2 dlen c2] 38)).heap.size = w.heap.size + 1 := by simp
    rw [hsz] at hg2
    clear hL hD hl hdl hsz
    go_enter Try.func22, Try.ntmps22
    go_wp2
    generalize hW : ((w.alloc (.cells #[.int .i64 n, .slice A1 len c1, .slice A2 dlen c2] 38)).alloc (.cells #[.int .i64 n, .slice A3 len c3, .slice A4 dlen c4] 38)) = w1 at *
    clear hW
    generalize hBz : w.heap.size = B at *
    go_loopw [5] (fun i wr => ∃ k : Nat, k ≤ len ∧ i = .int .i64 k ∧ l.take k = l'.take k ∧ Keep No w1 wr) (fun i _ => len - (intOf i).toNat)
    case atStart => exact ⟨0, Nat.zero_le _, rfl, rfl, Keep.refl _ _⟩
    case round =>
      obtain ⟨k, hk, rfl, hpre, hkr⟩ := hrel
      obtain ⟨r0, r1, r2, _, _, _, rl⟩ := box3 (hkr.heap (fun q => q) hg1)
      obtain ⟨s0, s1, s2, _, _, _, sl⟩ := box3 (hkr.heap (fun q => q) hg2)
      have hkw := k0.thenNo hkr
      have HPRE := hid hpre
      clear hpre
      by_cases hlt : k < len
      · have hj : k < l.length := by rw [HL.out]; exact hlt
        have hj' : k < l'.length := by rw [← HL'.out]; exact hlt
        obtain ⟨b, o, cap, e, _, _, hF, hbb, hc⟩ := hb.cells (by rw [bks_length]; omega)
        injection e with e1 e2 e3
        subst e1
        obtain ⟨b', o', cap', e', _, _, hF', hbb', hc'⟩ := hb'.cells (by rw [bks_length]; omega)
        injection e' with e1' e2' e3'
        subst e1'
        obtain ⟨hc0, hc1, hc2⟩ := Rd.blk (w := w) hc k hj
        obtain ⟨hc0', hc1', hc2'⟩ := Rd.blk (w := w) hc' k hj'
        have hc0 := hkw.cell (fun q => q) hc0
        have hc1 := hkw.cell (fun q => q) hc1
        have hc2 := hkw.cell (fun q => q) hc2
        have hc0' := hkw.cell (fun q => q) hc0'
        have hc1' := hkw.cell (fun q => q) hc1'
        have hc2' := hkw.cell (fun q => q) hc2'
        have hbw : b < wr.heap.size := Nat.lt_of_lt_of_le hbb hkw.size
        have hbw' : b' < wr.heap.size := Nat.lt_of_lt_of_le hbb' hkw.size
        have hne := fun h : l[k] ≠ l'[k] => take_ne hj hj' h
        have hnx := fun h : l[k] = l'[k] => take_next hj hj' HPRE.out h
        generalize hx : l[k]'hj = x at *
        generalize hy : l'[k]'hj' = y at *
        have HNE := hid hne
        have HNX := hid hnx
        have HQ := fun W => run_neq_blk x y W
        obtain ⟨xo, xs, xu⟩ := x
        obtain ⟨yo, ys, yu⟩ := y
        simp only at hc0 hc1 hc2 hc0' hc1' hc2'
        simp only [blkV] at HQ
        clear hne hnx hx hy hc hc' e2 e3 e2' e3'
        by_cases hxy : (⟨xo, xs, xu⟩ : Blk) = ⟨yo, ys, yu⟩
        · have HQ2 : ∀ W, (binOp .neq 57 (.agg #[.int .i64 xo, .int .i64 xs, .bool xu]) (.agg #[.int .i64 yo, .int .i64 ys, .bool yu])).run Try.prog W = .ok (.bool false) W := fun W => by rw [HQ]; simp [hxy]
          have HXY := hid hxy
          clear HQ hxy
          go_wp2
          go_quiet (fail)
          go_wp2
          exact ⟨⟨k + 1, by omega, rfl, HNX.out HXY.out, hkr.thenNo (Keep.drewN _ _ _)⟩, by simp [intOf]; omega⟩
        · have HQ2 : ∀ W, (binOp .neq 57 (.agg #[.int .i64 xo, .int .i64 xs, .bool xu]) (.agg #[.int .i64 yo, .int .i64 ys, .bool yu])).run Try.prog W = .ok (.bool true) W := fun W => by rw [HQ]; simp only [ne_eq, hxy, not_false_eq_true, decide_true]
          have HXY := hid hxy
          clear HQ hxy
          go_wp2
          go_quiet (fail)
          go_wp2
          go_ret
          exact ⟨by rw [hXf1.out (HNE.out HXY.out)]; rfl, hkw.thenNo (Keep.drewN _ _ _)⟩
      · obtain rfl : len = k := by omega
        have hll : l = l' := by
          have h := HPRE.out
          rwa [show l.take len = l by rw [← HL.out]; exact List.take_length, show l'.take len = l' by rw [HL'.out]; exact List.take_length] at h
        have HLL := hid hll
        clear hll
        go_wp2
        go_loopw [6] (fun i wz => ∃ k : Nat, k ≤ dlen ∧ i = .int .i64 k ∧ d.take k = d'.take k ∧ Keep No wr wz) (fun i _ => dlen - (intOf i).toNat)
        case atStart => exact ⟨0, Nat.zero_le _, rfl, rfl, Keep.refl _ _⟩
        case round =>
          obtain ⟨k, hk, rfl, hpre, hkz⟩ := hrel
          obtain ⟨t0, t1, t2, _, _, _, tl⟩ := box3 ((hkr.thenNo hkz).heap (fun q => q) hg1)
          obtain ⟨z0, z1, z2, _, _, _, zl⟩ := box3 ((hkr.thenNo hkz).heap (fun q => q) hg2)
          have hkq := hkw.thenNo hkz
          have HPD := hid hpre
          clear hpre
          by_cases hlt : k < dlen
          · have hj : k < d.length := by rw [HD.out]; exact hlt
            have hj' : k < d'.length := by rw [← HD'.out]; exact hlt
            obtain ⟨b, o, cap, A5, c5, e, _, _, hbb, _, hcd, hrd⟩ := hd.at_ k hj
            injection e with e1 e2 e3
            subst e1
            obtain ⟨b', o', cap', A6, c6, e', _, _, hbb', _, hcd', hrd'⟩ := hd'.at_ k hj'
            injection e' with e1' e2' e3'
            subst e1'
            have hcd := hkq.cell (fun q => q) hcd
            have hcd' := hkq.cell (fun q => q) hcd'
            have hbw : b < wr.heap.size := Nat.lt_of_lt_of_le hbb hkq.size
            have hbw' : b' < wr.heap.size := Nat.lt_of_lt_of_le hbb' hkq.size
            have hne := fun h : d[k] ≠ d'[k] => take_ne hj hj' h
            have hnx := fun h : d[k] = d'[k] => take_next hj hj' HPD.out h
            have hcv : ∀ m, (convert 24 9 (.slice A5 d[k].length c5)).run Try.prog (wr.drewN m) = .ok (.string (strOf d[k])) (wr.drewN m) := fun m => conv_str ((hrd.keepNo hkq).keepNo (Keep.drewN _ _ m))
            have hcv' : ∀ m, (convert 24 9 (.slice A6 d'[k].length c6)).run Try.prog (wr.drewN m) = .ok (.string (strOf d'[k])) (wr.drewN m) := fun m => conv_str ((hrd'.keepNo hkq).keepNo (Keep.drewN _ _ m))
            have HQ := str_beq d[k] d'[k]
            generalize hx : d[k]'hj = x at *
            generalize hy : d'[k]'hj' = y at *
            have HNE := hid hne
            have HNX := hid hnx
            clear hne hnx hx hy hrd hrd' e2 e3 e2' e3'
            by_cases hxy : x = y
            · have HQ2 : ((strOf x).toList == (strOf y).toList) = true := by rw [HQ]; simp [hxy]
              have HXY := hid hxy
              clear HQ hxy
              generalize strOf x = sx at *
              generalize strOf y = sy at *
              go_wp2
              go_quiet (fail)
              go_wp2
              exact ⟨⟨k + 1, by omega, rfl, HNX.out HXY.out, hkz.thenNo (Keep.drewN _ _ _)⟩, by simp [intOf]; omega⟩
            · have HQ2 : ((strOf x).toList == (strOf y).toList) = false := by rw [HQ]; simp [hxy]
              have HXY := hid hxy
              clear HQ hxy
              generalize strOf x = sx at *
              generalize strOf y = sy at *
              go_wp2
              go_quiet (fail)
              go_wp2
              go_ret
              exact ⟨by rw [hXf2.out (HNE.out HXY.out)]; rfl, hkq.thenNo (Keep.drewN _ _ _)⟩
          · obtain rfl : dlen = k := by omega
            have hdd : d = d' := by
              have h := HPD.out
              rwa [show d.take dlen = d by rw [← HD.out]; exact List.take_length, show d'.take dlen = d' by rw [HD'.out]; exact List.take_length] at h
            have HDD := hid hdd
            clear hdd
            go_wp2
            go_ret
            exact ⟨by rw [hXt.out HLL.out HDD.out]; rfl, hkq⟩
  · have hX : decide (n = n' ∧ l = l' ∧ d = d') = false := by
      simp only [decide_eq_false_iff_not]
      rintro ⟨h1, h2, h3⟩
      exact hq ⟨h1, by rw [h2], by rw [h3]⟩
    rw [hX]
    have hqq : n ≠ n' ∨ (l.length : Int) ≠ (l'.length : Int) ∨ (d.length : Int) ≠ (d'.length : Int) := by omega
    generalize l.length = l1 at *
    generalize l'.length = l2 at *
    generalize d.length = l3 at *
    generalize d'.length = l4 at *
    clear hX hb hd hb' hd' hq
    by_cases h1 : n = n'
    · subst h1
      by_cases h2 : (l1 : Int) = (l2 : Int)
      · have h2b : ((l1 : Int) != (l2 : Int)) = false := by simp [bne, h2]
        have h3b : ((l3 : Int) != (l4 : Int)) = true := by rw [bne_iff_ne]; omega
        clear h2 hqq
        go_enter Try.func22, Try.ntmps22
        go_wp2
        go_ret
        exact ⟨rfl, (keep_alloc _ _).thenNo (keep_alloc _ _)⟩
      · have h2b : ((l1 : Int) != (l2 : Int)) = true := by rw [bne_iff_ne]; omega
        clear h2 hqq
        go_enter Try.func22, Try.ntmps22
        go_wp2
        go_ret
        exact ⟨rfl, (keep_alloc _ _).thenNo (keep_alloc _ _)⟩
    · have h1b : (n != n') = true := by rw [bne_iff_ne]; omega
      clear h1 hqq
      go_enter Try.func22, Try.ntmps22
      go_wp2
      go_ret
      exact ⟨rfl, (keep_alloc _ _).thenNo (keep_alloc _ _)⟩
end Go.Proofs.Ytnldmhljggcnpaa
