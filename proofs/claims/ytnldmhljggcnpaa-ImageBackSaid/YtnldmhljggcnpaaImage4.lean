import Derived.Test.YtnldmhljggcnpaaBytes
import Derived.Test.YtnldmhljggcnpaaImage3
namespace Go.Proofs.Ytnldmhljggcnpaa
set_option linter.unusedSimpArgs false
set_option linter.unusedVariables false
open Go.RowKit Cantle

theorem Keep.setCells {S : Nat → Prop} (b : Nat) (hS : S b) : ∀ (vs : List Value) (o : Nat) (w : World), Keep S w (w.setCells b o vs)
  | [], _, w => Keep.refl _ _
  | v :: r, o, w => by
    rw [World.setCells]
    exact (Keep.setCell w ⟨b, o, none⟩ v hS).trans (Keep.setCells b hS r (o + 1) _)
theorem append_fresh {B : Nat} {w : World} {v : Value} {l : List UInt8} (hf : Lib.FreshBytes B w v l) (hB : B ≤ w.heap.size) {F : Nat → Prop} {x : Value} {l2 : List UInt8} (hx : Rd w F x l2.length (bv l2)) (h0 : 0 < l2.length)
    (hm : l.length + l2.length ≤ 140737488355328) (ty : TypeId) :
    ∃ v' w', (Builtin.append_ #[24, 24] ty #[v, x]).run Try.prog w = .ok v' w' ∧ Rd w' (fun i => B ≤ i) v' (l ++ l2).length (bv (l ++ l2)) ∧ Keep (fun i => B ≤ i) w w' := by
  have hrd := fresh_rd hf
  obtain ⟨i0, hi, hz0, hz1, hz2⟩ := info_parts info_u8
  obtain ⟨g, cap, zs, rfl, hBg, g1, g2, g3, g4, g5, g6, g7⟩ := hf
  obtain ⟨b, o, c, rfl, c1, c2, hF, hb, hc⟩ := hx.cells (by rw [bv_length]; exact h0)
  have hnews : ∀ j u, (bv l2)[j]? = some u → w.cell? ((⟨b, o, none⟩ : Addr).add j) = some u := fun j u hu => by rw [addr_add]; exact hc j u hu
  have holds := fresh_cells g1 g3 g4 g5 g6
  have hz : 0 + l.length * i0.size = l.length := by rw [hz1]; omega
  by_cases hroom : l.length + l2.length ≤ cap
  · have hlt : g < w.heap.size := block_lt_of_cell (g6 0 (by omega))
    have hsome : ∀ j, j < (bv l2).length → (w.cell? ⟨g, l.length + j, none⟩).isSome = true := fun j hj => by
      rw [g6 _ (by rw [bv_length] at hj; omega)]; rfl
    have hr := run_append_room_cells (P := Try.prog) w 24 ty 5 i0 Try.underlying24 hi g 0 l.length cap ⟨b, o, none⟩ l2.length c (bv l2) (by rw [bv_length, hz1, Nat.mul_one]) hnews (bv_one _) hroom
      (fun j hj => by rw [hz]; exact hsome j hj) (fun j hj => by rw [hz]; exact g7 _ (by rw [bv_length] at hj; omega))
    rw [hz] at hr
    refine ⟨_, _, hr, ⟨_, cap, by rw [List.length_append], by rw [List.length_append]; exact hroom, maxLen_le g2, fun _ => ⟨g, 0, rfl, hBg, ?_, fun j u hu => ?_⟩⟩, Keep.setCells g hBg _ _ _⟩
    · exact Nat.lt_of_lt_of_le hlt (Keep.setCells (S := fun i => B ≤ i) g hBg _ _ _).size
    · rw [Nat.zero_add j]
      rw [bv_append, List.getElem?_append] at hu
      split at hu
      · rename_i hj
        rw [bv_length] at hj
        rw [World.cell?_setCells_out g _ _ w ⟨g, j, none⟩ (fun _ _ => .inl hj)]
        exact holds j u hu
      · rename_i hj
        rw [bv_length] at hj hu
        have hj2 := (List.getElem?_eq_some_iff.1 hu).1
        have e : l.length + (j - l.length) = j := by omega
        have := World.cell?_setCells_in g (bv l2) l.length w hsome (j - l.length) hj2
        rw [e] at this
        rw [this, ← hu, List.getElem?_eq_getElem hj2]
  · obtain ⟨v', w', hr, ho, hg⟩ := run_append_arg_grows (P := Try.prog) w 24 ty 5 i0 (.int .u8 0) 1 1 Try.underlying24 hi hz0 hz1 hz2 rfl (by decide) ⟨g, 0, none⟩ l.length cap (bv l) (by rw [bv_length, Nat.mul_one])
      (fun j u hu => by rw [addr_add, Nat.zero_add]; exact holds j u hu) ⟨b, o, none⟩ l2.length c (bv l2) (by rw [bv_length, Nat.mul_one]) hnews (by omega) (by unfold maxLen; omega) (by omega)
    refine ⟨v', w', hr, ?_, Keep.grown hg (fun k h => by cases h)⟩
    rw [bv_append, List.length_append]
    exact (Rd.ofOwn ho).mono fun i _ hi => Nat.le_trans hB (ho.lt i hi).1

set_option maxHeartbeats 400000 in
set_option maxRecDepth 100000 in
theorem image_closed_fresh {B : Nat} {w : World} {v : Value} {l : List UInt8} (ho : Lib.FreshBytes B w v l) (hB : B ≤ w.heap.size) (hm : l.length + 4 ≤ 140737488355328) :
    Calls Try.prog 95 #[v] w fun e w' => ∃ v', e = .returned v' ∧ Rd w' (fun i => B ≤ i) v' (l ++ low 4 (crcSum l)).length (bv (l ++ low 4 (crcSum l))) ∧ Keep (fun i => B ≤ i) w w' := by
  have H := crc_Sum (fresh_rd ho)
  obtain ⟨g, cap, zs, hv, hBg, g1, g2, g3, g4, g5, g6, g7⟩ := ho
  have fr : ∀ w', Keep No w w' → (g < w.heap.size ∨ cap = 0) → Lib.FreshBytes B w' v l := fun w' k hg => by
    refine ⟨g, cap, zs, hv, hBg, g1, g2, g3, g4, g5, fun i hi => k.cell (fun q => q) (g6 i hi), fun i hi => ?_⟩
    rcases hg with hg | hg
    · rw [World.frozen?_of_block (w := w) (k.block g hg (fun q => q))]; exact g7 i hi
    · omega
  have hg : g < w.heap.size ∨ cap = 0 := by
    by_cases h : cap = 0
    · exact .inr h
    · exact .inl (block_lt_of_cell (g6 0 (by omega)))
  have FR := hid fr
  have HG := hid hg
  clear fr hg g6 g7 g4 g5 hv
  go_enter Try.func95, Try.ntmps95
  go_wp2_with fail
  refine H.mono ?_; rintro e w1 ⟨rfl, hk1⟩
  go_wp2_with fail
  refine (word_Put4 _ (crcSum_lt l) w1).mono ?_; rintro e w2 ⟨x, rfl, hk2, hr2⟩
  obtain ⟨v', w3, hrun, h1, h2⟩ := append_fresh (x := x) (l2 := low 4 (crcSum l)) (FR.out _ (hk1.thenNo hk2) HG.out) (Nat.le_trans hB (hk1.thenNo hk2).size) (by rw [low_length]; exact hr2) (by rw [low_length]; decide) (by rw [low_length]; exact hm) 24
  go_wp2_with (at_builtin; refine Lib.wpList_append_run _ rfl (.tmp 3) (.tmp 6) 24 24 rfl _ _ rfl rfl _ _ hrun ?_)
  go_ret
  exact ⟨_, rfl, h1, ((hk1.thenNo hk2).no).trans h2⟩
end Go.Proofs.Ytnldmhljggcnpaa
