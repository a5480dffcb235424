import Derived.Test.YtnldmhljggcnpaaBlock2
import Derived.Deep.RegionHeld3
import Derived.IntWalk
namespace Go.Proofs.Ytnldmhljggcnpaa
set_option linter.unusedSimpArgs false
set_option linter.unusedVariables false
open Go.RowKit Cantle
set_option maxRecDepth 100000
set_option maxHeartbeats 2000000

theorem block_Set_no {w : World} {p : Nat} {V : Value} {s : ArS} (h : Ar w p V s) (x : Blk) (hx : bset s.b x = none) :
    Calls Try.prog 35 #[.pointer (some ⟨p, 0, none⟩), blkV x] w fun e w' => e = .returned (errV 1) ∧ Keep No w w' := by
  have hk := keep_alloc w (.cells #[.int .i64 x.off, .int .i64 x.size, .bool x.used] 57)
  have hbx := heap_alloc_new w (.cells #[.int .i64 x.off, .int .i64 x.size, .bool x.used] 57)
  obtain ⟨b0, b1, b2, f0, f1, f2, bl⟩ := bx3 hbx
  have HP := hid (fun wx => tag_Pack x.size x.used wx)
  have HF := hid (fun h1 h2 => block_fits (h.keepNo hk) x.off x.size h1 h2)
  have hx' : ¬ (isSize x.size = true ∧ could s.b.length x.off x.size = true) := by
    intro h; unfold bset at hx; rw [if_pos h] at hx; cases hx
  clear h hx hbx
  simp only [blkV]
  cases g1 : isSize x.size with
  | false =>
    have hp : pack x.size x.used = 0 := by unfold pack; rw [g1]; rfl
    have HP := HP.out
    rw [hp] at HP
    clear hp g1 hx'
    go_enter Try.func35, Try.ntmps35
    go_wp2_with fail
    refine (HP _).mono ?_; rintro e w1 ⟨rfl, rfl⟩
    go_wp2
    go_ret
    exact ⟨rfl, hk⟩
  | true =>
    have g2 : could s.b.length x.off x.size = false := by
      cases g : could s.b.length x.off x.size with
      | false => rfl
      | true => exact absurd ⟨g1, g⟩ hx'
    have hs := (isSize_iff _).1 g1
    have hF := HF.out (by omega) (by omega)
    rw [g2] at hF
    have hp : pack x.size x.used ≠ 0 := by unfold pack; rw [g1]; simp; omega
    have hp0 : (((pack x.size x.used : Nat) : Int) == 0) = false := by rw [beq_eq_false_iff_ne]; omega
    have HP := HP.out
    clear hx' g1 g2 hp
    generalize pack x.size x.used = N at *
    go_enter Try.func35, Try.ntmps35
    go_wp2_with fail
    refine (HP _).mono ?_; rintro e w1 ⟨rfl, rfl⟩
    go_wp2_with fail
    refine hF.mono ?_; rintro e w1 ⟨rfl, rfl⟩
    go_wp2
    go_ret
    exact ⟨rfl, hk⟩
theorem block_Set_ok {w : World} {p : Nat} {V : Value} {s : ArS} (h : Ar w p V s) (x : Blk) {b' : List UInt8} (hx : bset s.b x = some b') :
    Calls Try.prog 35 #[.pointer (some ⟨p, 0, none⟩), blkV x] w fun e w' => e = .returned .nilIface ∧ Mut w w' p V V { s with b := b' } := by
  have hk := keep_alloc w (.cells #[.int .i64 x.off, .int .i64 x.size, .bool x.used] 57)
  have hbx := heap_alloc_new w (.cells #[.int .i64 x.off, .int .i64 x.size, .bool x.used] 57)
  obtain ⟨b0, b1, b2, f0, f1, f2, bl⟩ := bx3 hbx
  have HP := hid (fun wx => tag_Pack x.size x.used wx)
  have hFb : w.heap.size ≠ p := by have := lt_blk h.hp; omega
  have hFv : V.ownBlock ≠ some w.heap.size := fun e => by have := h.lt _ (.inr e); omega
  have hx' : isSize x.size = true ∧ could s.b.length x.off x.size = true := by
    unfold bset at hx; split at hx
    · assumption
    · cases hx
  obtain ⟨g1, g2⟩ := hx'
  unfold bset at hx
  rw [if_pos ⟨g1, g2⟩] at hx
  have hx := Option.some.inj hx
  have hs := (isSize_iff _).1 g1
  have hF := block_fits (h.keepNo hk) x.off x.size (by omega) (by omega)
  rw [g2] at hF
  have hg := could_iff.1 g2
  have hll := h.len_le
  have hcl := h.cap_le
  have hpl : pack x.size x.used < 18446744073709551616 := Nat.lt_of_lt_of_le pack_lt (by decide)
  have hp : pack x.size x.used ≠ 0 := by unfold pack; rw [g1]; simp; omega
  have hp0 : (((pack x.size x.used : Nat) : Int) == 0) = false := by rw [beq_eq_false_iff_ne]; omega
  obtain ⟨o, ho⟩ := Int.eq_ofNat_of_zero_le (show 0 ≤ x.off by omega)
  obtain ⟨z, hz⟩ := Int.eq_ofNat_of_zero_le (show 0 ≤ x.size by omega)
  clear g1 g2
  simp only [blkV]
  generalize hN : pack x.size x.used = N at *
  obtain ⟨xo, xs, xu⟩ := x
  simp only at *
  subst ho; subst hz
  rw [Int.toNat_natCast, show ((o : Int) + (z : Int) - 8).toNat = o + z - 8 from by omega] at hx
  have HS1 := hid (fun wx (hA : Ar wx p V s) => arena_SetWord hA o N (by omega) hpl)
  have HS2 := hid (fun wx (hA : Ar wx p V { s with b := lay s.b o N }) => arena_SetWord hA (o + z - 8) N (by omega) hpl)
  have HB := hid (fun wx s' (hA : Ar wx p V s') => arena_Base hA)
  have HX := hid hx
  have HN := hid hN
  have HH := hid h
  have hb := h.base_le
  clear hx hN h hp hbx
  go_enter Try.func35, Try.ntmps35
  go_wp2_with fail
  refine (HP.out _).mono ?_; rintro e w1 ⟨rfl, rfl⟩
  go_wp2_with fail
  refine hF.mono ?_; rintro e w1 ⟨rfl, rfl⟩
  go_wp2_with fail
  have A0 : Ar (w.alloc (.cells #[.int .i64 (o : Int), .int .i64 (z : Int), .bool xu] 57)).drew p V s := (HH.out.keepNo hk).keepNo (Keep.drew _ _)
  have w0 : IntKind.u64.wrap (o : Int) = o := by rw [IntKind.wrap_u64]; omega
  have w1 : IntKind.u64.wrap ((s.base : Int) + (o : Int)) = (s.base : Int) + (o : Int) := by rw [IntKind.wrap_u64]; omega
  have hs1 := HS1.out _ A0
  rw [cast_add, if_pos (by omega)] at hs1
  simp only [errV] at hs1
  have hb1 := HB.out _ _ A0
  go_region_held3 (fun w' => w'.cell? ⟨w.heap.size, 0, none⟩ = some (.int .i64 (o : Int)) ∧ w'.cell? ⟨w.heap.size, 1, none⟩ = some (.int .i64 (z : Int)))
    (first | exact ⟨b0, b1⟩ | exact ⟨W1.out.keep.cell hFv b0, W1.out.keep.cell hFv b1⟩)
    (first
      | (go_at_call 51; refine hb1.mono ?_; rintro e wa ⟨rfl, rfl⟩)
      | (go_at_call 113; refine hs1.mono ?_; rintro e wb ⟨rfl, hW1⟩; have W1 := hid hW1; clear hW1))
  all_goals
    go_wp2_with fail
    have c0 := W1.out.keep.cell hFv b0
    have c1 := W1.out.keep.cell hFv b1
    clear hs1 hb1 w1
    have A1 := W1.out.ar.keepNo (Keep.drew No wb)
    have hs2 := HS2.out _ A1
    have hb2 := HB.out _ _ A1
    have w1 : IntKind.u64.wrap ((o : Int) + (z : Int) - 8) = (o : Int) + (z : Int) - 8 := by rw [IntKind.wrap_u64]; omega
    have w2 : IntKind.u64.wrap ((s.base : Int) + ((o : Int) + (z : Int) - 8)) = (s.base : Int) + ((o : Int) + (z : Int) - 8) := by rw [IntKind.wrap_u64]; omega
    have w3 : IntKind.i64.wrap ((o : Int) + (z : Int)) = (o : Int) + (z : Int) := IntWalk.i64_in _ (by omega)
    have w4 : IntKind.i64.wrap ((o : Int) + (z : Int) - 8) = (o : Int) + (z : Int) - 8 := IntWalk.i64_in _ (by omega)
    rw [lay_length, if_pos (by omega), show ((s.base + (o + z - 8) : Nat) : Int) = (s.base : Int) + ((o : Int) + (z : Int) - 8) from by omega] at hs2
    simp only [errV] at hs2
    go_region_held3 (fun w' => w'.cell? ⟨w.heap.size, 0, none⟩ = some (.int .i64 (o : Int)) ∧ w'.cell? ⟨w.heap.size, 1, none⟩ = some (.int .i64 (z : Int)))
      (first | exact ⟨c0, c1⟩ | exact ⟨W2.out.keep.cell hFv c0, W2.out.keep.cell hFv c1⟩)
      (first
        | (go_at_call 51; refine hb2.mono ?_; rintro e wa ⟨rfl, rfl⟩)
        | (go_at_call 113; refine hs2.mono ?_; rintro e wc ⟨rfl, hW2⟩; have W2 := hid hW2; clear hW2))
    all_goals
      go_wp2
      go_ret
      rw [HX.out] at W2
      refine ⟨rfl, ?_⟩
      have M1 := (Mut.ofNo HH.out (hk.thenNo (Keep.drew No _))).trans W1.out.mut
      exact (M1.thenNo (Keep.drew No _)).trans W2.out.mut
end Go.Proofs.Ytnldmhljggcnpaa
