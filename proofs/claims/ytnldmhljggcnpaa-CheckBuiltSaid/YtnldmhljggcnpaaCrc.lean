import Derived.Test.YtnldmhljggcnpaaWord2
import Derived.Deep.MidRow
import Derived.Deep.LoopGhost
namespace Go.Proofs.Ytnldmhljggcnpaa
set_option linter.unusedSimpArgs false
set_option linter.unusedVariables false
open Go.RowKit Cantle

theorem zero_tab : Try.zeroCells219.size = 256 := by kernel_rfl
theorem bit_step {v : Nat} (hv : v < 4294967296) (M : Int) (hM : M = bits .and .u32 (v : Int) 1) :
    bits .xor .u32 ((v : Int) / 2) (bits .and .u32 (IntKind.u32.wrap (-M)) 3988292384) = ((crcBit v : Nat) : Int) := by
  have h1 : bits .and .u32 (v : Int) 1 = ((v % 2 : Nat) : Int) := by
    have := u32_and_nat v 1 hv (by decide)
    rw [nat_mask1] at this
    exact this
  rw [hM, h1, IntKind.wrap_u32]
  have hd : ((v : Int) / 2) = ((v / 2 : Nat) : Int) := by omega
  rw [hd]
  unfold crcBit
  by_cases h : v % 2 = 1
  · rw [h, if_pos rfl]
    have e : bits .and .u32 ((-((1 : Nat) : Int)) % 4294967296) 3988292384 = ((3988292384 : Nat) : Int) := by decide +kernel
    rw [e, u32_xor_nat _ _ (by omega) (by decide)]
  · have h0 : v % 2 = 0 := by omega
    rw [h0, if_neg (by decide)]
    have e : bits .and .u32 ((-((0 : Nat) : Int)) % 4294967296) 3988292384 = ((0 : Nat) : Int) := by decide +kernel
    rw [e, u32_xor_nat _ _ (by omega) (by decide)]
def tabL : List Value := (List.range 256).map fun i => Value.int .u32 (crcBits 8 i : Nat)
theorem tabL_size : tabL.length = 256 := by unfold tabL; rw [List.length_map, List.length_range]
theorem info_tab : (Try.prog.info? 219).map (·.size) = some 256 := by kernel_rfl
set_option maxHeartbeats 400000 in
set_option maxRecDepth 100000 in
theorem crc_table (w : World) :
    Calls Try.prog 177 #[] w fun e w' => e = .returned (.agg tabL.toArray) ∧ Keep No w w' := by
  go_enter Try.func177, Try.ntmps177
  go_wp2
  go_loopw [2, 3, 4, 5] (fun _ _ _ i wr => ∃ k : Nat, k ≤ 256 ∧ i = .int .i64 k ∧ ∃ cs : Array Value, wr = (w.alloc (.cells Try.zeroCells219 219)).alloc (.cells cs 219) ∧ cs.size = 256 ∧ ∀ j, j < k → cs[j]? = some (.int .u32 (crcBits 8 j : Nat))) (fun _ _ _ i _ => 256 - (intOf i).toNat)
  case atStart => exact ⟨0, by omega, rfl, _, rfl, zero_tab, fun j h => by omega⟩
  case round =>
    obtain ⟨k, hk, rfl, cs, rfl, hcs, hj⟩ := hrel
    have HJ := hid hj
    have HC := hid hcs
    clear hj hcs
    by_cases hlt : k < 256
    · have hlt2 : k < cs.size := by rw [HC.out]; exact hlt
      have hlt3 : crcBits 0 k = k := rfl
      go_wp2
      go_loop [3, 4, 10] (fun v _ i => ∃ n : Nat, n ≤ 8 ∧ i = .int .i64 n ∧ v = .int .u32 (crcBits n k : Nat)) (fun _ _ i => 8 - (intOf i).toNat)
      case atStart => exact ⟨0, by omega, rfl, rfl⟩
      case round =>
        obtain ⟨n, hn, rfl, rfl⟩ := hrel
        clear hlt3
        by_cases hn8 : n < 8
        · have hb : crcBits n k < 4294967296 := crcBits_lt n (by omega)
          have hs : crcBits (n + 1) k = crcBit (crcBits n k) := by rw [crcBits_add]; rfl
          have HY := hid hs
          clear hs
          generalize crcBits n k = X at *
          have HB := hid (bit_step hb)
          go_wp2
          refine ⟨⟨n + 1, by omega, rfl, ?_⟩, by simp [intOf]; omega⟩
          have hb2 := HB.out _ rfl
          rw [IntKind.wrap_u32] at hb2
          rw [hb2, HY.out]
        · obtain rfl : n = 8 := by omega
          generalize hX : crcBits 8 k = X at *
          have HX := hid hX
          clear hX
          go_wp2
          refine ⟨⟨k + 1, by omega, rfl, _, rfl, by rw [Array.size_setIfInBounds]; exact HC.out, fun j hj => ?_⟩, by simp [intOf]; omega⟩
          by_cases e : j = k
          · subst e
            rw [Array.getElem?_setIfInBounds_self_of_lt hlt2, HX.out]
          · rw [Array.getElem?_setIfInBounds_ne (by omega)]
            exact HJ.out j (by omega)
    · obtain rfl : k = 256 := by omega
      have hcs : cs = tabL.toArray := by
        apply Array.toList_inj.1
        apply List.ext_getElem?
        intro j
        by_cases hj : j < 256
        · rw [Array.getElem?_toList, HJ.out j hj]
          simp [tabL, hj]
        · rw [List.getElem?_eq_none (by rw [Array.length_toList, HC.out]; omega), List.getElem?_eq_none (by simp [tabL]; omega)]
      subst hcs
      generalize hT : tabL.toArray = T at *
      have hTs : T.size = 256 := by rw [← hT]; simp [tabL]
      have HT := hid hT
      have HTs := hid hTs
      clear hT hTs
      go_wp2_with (first | (refine wpList_load_row rfl 219 (.tmp 1) rfl (w.heap.size + 1) rfl 219 T (0, 0) _ ?h1 Try.underlying219 rfl ?h2 ?_) | (refine wpList_store_row rfl 219 (.tmp 0) (.tmp 25) rfl w.heap.size T rfl rfl 219 Try.zeroCells219 ?h3 ?h4 ?h5 ?h6 ?_))
      case h1 => exact heap_alloc2_new w _ _
      case h2 => rw [info_tab, HTs.out]
      case h3 => exact heap_alloc2_old w _ _
      case h4 => rw [info_tab, HTs.out]
      case h5 => rw [zero_tab, HTs.out]
      case h6 => rw [← HT.out]; exact all_oneCell_toArray (fun v hv => by obtain ⟨i, _, rfl⟩ := List.mem_map.1 hv; rfl)
      go_wp2
      have hg : (((w.alloc (.cells Try.zeroCells219 219)).alloc (.cells T 219)).setRow w.heap.size T).heap[w.heap.size]? = some (.cells T 219 (0, 0)) := setRow_heap _ _ _ _ _ _ (heap_alloc2_old w _ _)
      refine bodyPost_ret (v := .agg T) (results_cell_row (P := Try.prog) rfl _ _ w.heap.size 219 T (0, 0) _ rfl hg Try.underlying219 rfl (by rw [info_tab, HTs.out])) rfl ⟨by rw [HT.out], ?_⟩
      exact ((keep_alloc w _).thenNo (keep_alloc _ _)).then (Keep.setRow (S := fun i => i = w.heap.size) _ _ _ rfl) (fun i hi e => by omega)
theorem tabL_get {k : Nat} (h : k < 256) : tabL.toArray[k]? = some (.int .u32 (crcBits 8 k : Nat)) := by
  simp [tabL, h]
theorem crcByte_step (v x : Nat) : crcByte v x = (v / 256) ^^^ crcBits 8 ((v % 256) ^^^ x) := by
  unfold crcByte
  have e : v = (v % 256) ^^^ (v / 256 * 2 ^ 8) := by
    rw [xor_add_of_lt (by omega)]; omega
  conv => lhs; rw [e]
  rw [show (v % 256 ^^^ v / 256 * 2 ^ 8) ^^^ x = ((v % 256) ^^^ x) ^^^ (v / 256 * 2 ^ 8) from by ac_rfl, crcBits_xor, crcBits_small, Nat.xor_comm]
set_option maxHeartbeats 400000 in
set_option maxRecDepth 100000 in
theorem crc_More {w : World} {F : Nat → Prop} {v : Value} {l : List UInt8} (hr : Rd w F v l.length (bv l)) (sum : Nat) (hs : sum < 4294967296) :
    Calls Try.prog 172 #[.int .u32 sum, v] w fun e w' => e = .returned (.int .u32 (crcRun (sum ^^^ 4294967295) l ^^^ 4294967295 : Nat)) ∧ Keep No w w' := by
  by_cases h0 : l.length = 0
  · obtain ⟨A, cap, rfl, _, _, _⟩ := hr
    obtain rfl : l = [] := List.eq_nil_of_length_eq_zero h0
    clear h0
    simp only [List.length_nil]
    go_enter Try.func172, Try.ntmps172
    go_wp2
    go_ret
    refine ⟨?_, Keep.refl _ _⟩
    simp [crcRun, Nat.xor_assoc]
  · obtain ⟨b, o, cap, rfl, h1, h2, hF, hb, hc⟩ := hr.cells (by simp [bv]; omega)
    have hlen : l.length ≤ 9223372036854775807 := by omega
    have hz : ((l.length : Int) == 0) = false := by simp; simpa using h0
    generalize hL : l.length = len at *
    have HL := hid hL
    clear hL h0 h1 h2
    go_enter Try.func172, Try.ntmps172
    go_wp2_with fail
    refine (crc_table w).mono ?_; rintro e w1 ⟨rfl, hk⟩
    generalize hT : tabL.toArray = T at *
    have hTs : T.size = 256 := by rw [← hT]; simp [tabL]
    have HT := hid hT
    have HTs := hid hTs
    clear hT hTs
    go_wp2_with (refine wpList_store_row rfl 219 (.tmp 5) (.tmp 13) rfl w1.heap.size T rfl rfl 219 Try.zeroCells219 ?h3 ?h4 ?h5 ?h6 ?_)
    case h3 => exact heap_alloc_new w1 _
    case h4 => rw [info_tab, HTs.out]
    case h5 => rw [zero_tab, HTs.out]
    case h6 => rw [← HT.out]; exact all_oneCell_toArray (fun v hv => by obtain ⟨i, _, rfl⟩ := List.mem_map.1 hv; rfl)
    have hg : ((w1.alloc (.cells Try.zeroCells219 219)).setRow w1.heap.size T).heap[w1.heap.size]? = some (.cells T 219 (0, 0)) := setRow_heap _ _ _ _ _ _ (heap_alloc_new w1 _)
    have hkk : Keep No w ((w1.alloc (.cells Try.zeroCells219 219)).setRow w1.heap.size T) :=
      (hk.thenNo (keep_alloc _ _)).then (Keep.setRow (S := fun i => i = w1.heap.size) _ _ _ rfl) (fun i hi e => by have := hk.size; omega)
    generalize (w1.alloc (.cells Try.zeroCells219 219)).setRow w1.heap.size T = wr at *
    have e0 : bits .xor .u32 IntKind.u32.max (sum : Int) = ((sum ^^^ 4294967295 : Nat) : Int) := by
      have : IntKind.u32.max = ((4294967295 : Nat) : Int) := by decide +kernel
      rw [this, u32_xor_nat _ _ (by decide) hs, Nat.xor_comm]
    rw [e0]
    have hs2 : sum ^^^ 4294967295 < 4294967296 := Nat.xor_lt_two_pow (n := 32) hs (by decide)
    generalize hS : sum ^^^ 4294967295 = S at *
    have HS := hid hS
    have HG := hid hg
    clear hS hs e0 hk hg
    generalize w1.heap.size = G at *
    go_loop [6, 8, 18] (fun v _ i => ∃ k : Nat, k ≤ len ∧ i = .int .i64 k ∧ v = .int .u32 (crcRun S (l.take k) : Nat)) (fun _ _ i => len - (intOf i).toNat)
    case atStart => exact ⟨0, by omega, rfl, rfl⟩
    case round =>
      obtain ⟨k, hk, rfl, rfl⟩ := hrel
      have hcr := crcRun_lt (l.take k) (v := S) hs2
      by_cases hlt : k < len
      · have hj : k < l.length := by rw [HL.out]; exact hlt
        have hcc : wr.cell? ⟨b, o + k, none⟩ = some (.int .u8 ((l[k]'hj).toNat : Int)) := hkk.cell (fun q => q) (hc k _ (bv_get? l _ hj))
        have hst : crcRun S (l.take (k + 1)) = crcByte (crcRun S (l.take k)) (l[k]'hj).toNat := by
          rw [List.take_succ_eq_append_getElem hj, crcRun_append]; rfl
        have hx := (l[k]'hj).toNat_lt
        rw [crcByte_step] at hst
        have HST := hid hst
        clear hst
        generalize crcRun S (l.take k) = X at *
        generalize (l[k]'hj).toNat = Y at *
        have hxl : X % 256 ^^^ Y < 256 := Nat.xor_lt_two_pow (n := 8) (by omega) hx
        have hxor : bits .xor .u8 ((X : Int) % 256) (Y : Int) = ((X % 256 ^^^ Y : Nat) : Int) := u8_xor_nat (X % 256) _ (by omega) hx
        generalize X % 256 ^^^ Y = Z at *
        have htc : wr.cell? ⟨G, Z, none⟩ = some (.int .u32 (crcBits 8 Z : Nat)) := by rw [cell_blk HG.out, ← HT.out]; exact tabL_get hxl
        have hzl : crcBits 8 Z < 4294967296 := crcBits_lt 8 (by omega)
        generalize crcBits 8 Z = C at *
        go_wp2
        refine ⟨⟨k + 1, by omega, rfl, ?_⟩, by simp [intOf]; omega⟩
        rw [HST.out, ← u32_xor_nat _ _ (by omega) hzl]
        rfl
      · obtain rfl : k = len := by omega
        have e1 : bits .xor .u32 IntKind.u32.max ((crcRun S (l.take k) : Nat) : Int) = ((crcRun S l ^^^ 4294967295 : Nat) : Int) := by
          have : IntKind.u32.max = ((4294967295 : Nat) : Int) := by decide +kernel
          rw [this, u32_xor_nat _ _ (by decide) hcr, Nat.xor_comm, List.take_of_length_le (by rw [HL.out]; exact Nat.le_refl _)]
        go_wp2
        go_ret
        exact ⟨by rw [HS.out]; rfl, hkk⟩

set_option maxHeartbeats 400000 in
theorem crc_Sum {w : World} {F : Nat → Prop} {v : Value} {l : List UInt8} (hr : Rd w F v l.length (bv l)) :
    Calls Try.prog 153 #[v] w fun e w' => e = .returned (.int .u32 (crcSum l : Nat)) ∧ Keep No w w' := by
  have H := crc_More hr 0 (by decide)
  rw [show 0 ^^^ 4294967295 = 4294967295 from by decide, ← crcSum] at H
  obtain ⟨A, cap, rfl, _, _, _⟩ := hr
  go_enter Try.func153, Try.ntmps153
  go_wp2_with fail
  refine H.mono ?_; rintro e w1 ⟨rfl, hk⟩
  go_wp2
  go_ret
  exact ⟨rfl, hk⟩
end Go.Proofs.Ytnldmhljggcnpaa
