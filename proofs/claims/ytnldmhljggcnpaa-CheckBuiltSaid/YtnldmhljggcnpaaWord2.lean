import Derived.Test.YtnldmhljggcnpaaWord
import Derived.Test.YtnldmhljggcnpaaPlain1
namespace Go.Proofs.Ytnldmhljggcnpaa
set_option linter.unusedSimpArgs false
set_option linter.unusedVariables false
open Go.RowKit Cantle

def getV : Option Nat → Value
  | some v => .tuple #[.int .u64 (v : Int), .bool true]
  | none => .tuple #[.int .u64 0, .bool false]
def get4V : Option Nat → Value
  | some v => .tuple #[.int .u32 (v : Int), .bool true]
  | none => .tuple #[.int .u32 0, .bool false]
theorem word_getN {w : World} {F : Nat → Prop} {v : Value} {l : List UInt8} (hr : Rd w F v l.length (bv l)) (at_ n : Nat) (hn : n ≤ 8) :
    Calls Try.prog 154 #[v, .int .u64 at_, .int .u64 n] w fun e w' => e = .returned (getV (getN l at_ n)) ∧ w = w' :=
  (word_get hr at_ n hn).mono fun e w' ⟨h, hw⟩ => ⟨by rw [h]; unfold getN; split <;> rfl, hw⟩

set_option maxHeartbeats 400000 in
set_option maxRecDepth 100000 in
theorem word_Get {w : World} {F : Nat → Prop} {v : Value} {l : List UInt8} (hr : Rd w F v l.length (bv l)) (at_ : Nat) :
    Calls Try.prog 88 #[v, .int .u64 at_] w fun e w' => e = .returned (getV (getN l at_ 8)) ∧ w = w' := by
  have H := word_getN hr at_ 8 (by omega)
  cases h : getN l at_ 8 with
  | none =>
    rw [h] at H; clear h; simp only [getV] at H ⊢
    have H := hid H
    go_enter Try.func88, Try.ntmps88
    go_wp2_with fail
    refine (H.out).mono ?_; rintro e w' ⟨rfl, rfl⟩
    go_wp2
    go_ret2
    exact ⟨rfl, rfl⟩
  | some x =>
    rw [h] at H; clear h; simp only [getV] at H ⊢
    go_enter Try.func88, Try.ntmps88
    go_wp2_with fail
    refine H.mono ?_; rintro e w' ⟨rfl, rfl⟩
    go_wp2
    go_ret2
    exact ⟨rfl, rfl⟩
theorem shr_step {n k : Nat} (hk : k < 8) : IntKind.u8.wrap ((n : Int) / 2 ^ (8 * k)) = ((UInt8.ofNat (n / 256 ^ k % 256)).toNat : Int) := by
  have e : (256 : Nat) ^ k = 2 ^ (8 * k) := by rw [Nat.pow_mul]
  have : ((n : Int) / 2 ^ (8 * k)) = ((n / 2 ^ (8 * k) : Nat) : Int) := by rw [Int.natCast_ediv]; simp
  rw [IntKind.wrap_u8, this, e]
  simp
set_option maxHeartbeats 400000 in
set_option maxRecDepth 100000 in
theorem word_Put (n : Nat) (hn : n < 18446744073709551616) (w : World) :
    Calls Try.prog 93 #[.int .u64 n] w fun e w' => ∃ v, e = .returned v ∧ NewB w w' v (low 8 n) := by
  have hmk := fun w => mk_bytes 8 (by decide) w
  simp only [Int.cast_ofNat_Int] at hmk
  go_enter Try.func93, Try.ntmps93
  go_wp2
  go_loopw [4, 8] (fun u i wr => ∃ k : Nat, k ≤ 8 ∧ i = .int .i64 k ∧ ∃ cs : Array Value, wr = w.alloc (.cells cs 5) ∧ cs.size = 8 ∧ ∀ j, j < k → cs[j]? = some (byteV (UInt8.ofNat (n / 256 ^ j % 256)))) (fun _ i _ => 8 - (intOf i).toNat)
  case atStart => exact ⟨0, by omega, rfl, _, rfl, rfl, fun j h => by omega⟩
  case round =>
    obtain ⟨k, hk, rfl, cs, rfl, hcs, hj⟩ := hrel
    have HJ := hid hj
    have HC := hid hcs
    clear hj hcs
    by_cases hlt : k < 8
    · have hlt2 : k < cs.size := by rw [HC.out]; exact hlt
      have HS := hid (shr_step (n := n) hlt)
      go_wp2
      refine ⟨⟨k + 1, by omega, rfl, _, rfl, by rw [Array.size_setIfInBounds]; exact HC.out, fun j hj => ?_⟩, by simp [intOf]; omega⟩
      by_cases e : j = k
      · subst e
        rw [Array.getElem?_setIfInBounds_self_of_lt hlt2, byteV, ← HS.out, IntKind.wrap_u8]
      · rw [Array.getElem?_setIfInBounds_ne (by omega)]
        exact HJ.out j (by omega)
    · obtain rfl : k = 8 := by omega
      go_wp2
      go_ret
      refine ⟨_, rfl, ?_⟩
      refine newB_alloc w cs (low 8 n) ?_ (by rw [low_length]; decide)
      apply List.ext_getElem
      · rw [Array.length_toList, HC.out, bv_length, low_length]
      · intro j h1 h2
        rw [bv_length, low_length] at h2
        have := HJ.out j h2
        rw [Array.getElem?_eq_getElem (by rw [HC.out]; exact h2)] at this
        rw [Array.getElem_toList, Option.some.inj this, bv_get, low_get]
        rfl
set_option maxHeartbeats 400000 in
set_option maxRecDepth 100000 in
theorem word_Get4 {w : World} {F : Nat → Prop} {v : Value} {l : List UInt8} (hr : Rd w F v l.length (bv l)) (at_ : Nat) :
    Calls Try.prog 152 #[v, .int .u64 at_] w fun e w' => e = .returned (get4V (getN l at_ 4)) ∧ w = w' := by
  have H := word_getN hr at_ 4 (by omega)
  cases h : getN l at_ 4 with
  | none =>
    rw [h] at H; clear h; simp only [getV, get4V] at H ⊢
    go_enter Try.func152, Try.ntmps152
    go_wp2_with fail
    refine H.mono ?_; rintro e w' ⟨rfl, rfl⟩
    go_wp2
    go_ret2
    exact ⟨rfl, rfl⟩
  | some x =>
    rw [h] at H
    have hx : x < 4294967296 := by
      unfold getN at h
      split at h
      · obtain rfl := Option.some.inj h
        refine Nat.lt_of_lt_of_le (le_lt _) ?_
        rw [List.length_take]
        exact Nat.le_trans (Nat.pow_le_pow_right (by decide) (Nat.min_le_left 4 _)) (by decide)
      · cases h
    clear h; simp only [getV, get4V] at H ⊢
    go_enter Try.func152, Try.ntmps152
    go_wp2_with fail
    refine H.mono ?_; rintro e w' ⟨rfl, rfl⟩
    go_wp2
    go_ret2
    exact ⟨rfl, rfl⟩

set_option maxHeartbeats 400000 in
set_option maxRecDepth 100000 in
theorem word_Put4 (n : Nat) (hn : n < 4294967296) (w : World) :
    Calls Try.prog 155 #[.int .u32 n] w fun e w' => ∃ v, e = .returned v ∧ Keep No w w' ∧ Rd w' (fun i => w.heap.size ≤ i) v 4 (bv (low 4 n)) := by
  have hw : IntKind.u64.wrap (n : Int) = n := by rw [IntKind.wrap_u64]; omega
  go_enter Try.func155, Try.ntmps155
  go_wp2_with fail
  refine (word_Put n (by omega) w).mono ?_; rintro e w' ⟨v, rfl, h⟩
  obtain ⟨g, cap, cur, rfl, hb, hg, h1, h2, h3, h4⟩ := h.own.2.resolve_left (by rintro ⟨_, h0⟩; simp [low_length] at h0)
  have hm := maxLen_le h2
  simp only [low_length] at h1 h4 ⊢
  go_wp2
  go_ret
  refine ⟨_, rfl, h.keep, some ⟨g, 0, none⟩, 4, rfl, by omega, by omega, fun _ => ⟨g, 0, rfl, hb, lt_blk hg, fun j u hu => ?_⟩⟩
  have hj : j < 4 := by have := (List.getElem?_eq_some_iff.1 hu).1; rwa [bv_length, low_length] at this
  rw [cell_blk hg, Nat.zero_add]
  rw [← low_take 4 8 n (by omega), bv, List.map_take, List.getElem?_take, if_pos hj] at hu
  have e : (bv (low 8 n))[j]? = cur[j]? := by
    rw [← h4, List.getElem?_take, if_pos (by omega)]; simp
  rw [← e]; exact hu
end Go.Proofs.Ytnldmhljggcnpaa
