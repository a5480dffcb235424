import Derived.Test.YtnldmhljggcnpaaImage3
import Derived.Test.YtnldmhljggcnpaaReadG
import Derived.Deep.Matrix
import Derived.Deep.Strs
import Derived.Deep.Fields
/-! How slices of bytes, of blocks, and of slices of bytes read, handed in. -/
namespace Go.Proofs.Ytnldmhljggcnpaa
set_option linter.unusedSimpArgs false
set_option linter.unusedVariables false
open Go.RowKit Go.Deep Cantle
set_option maxRecDepth 100000

theorem wf_u8 {n : Int} (h : (Lit.int .u8 n).wf = true) : 0 ≤ n ∧ n < 256 := by
  unfold Lit.wf at h
  rw [Bool.and_eq_true, decide_eq_true_eq, decide_eq_true_eq] at h
  have e1 : IntKind.u8.min = 0 := by decide
  have e2 : IntKind.u8.max = 255 := by decide
  have := h.1
  have := h.2
  omega
theorem wf_u32 {n : Int} (h : (Lit.int .u32 n).wf = true) : 0 ≤ n ∧ n ≤ 4294967295 := by
  unfold Lit.wf at h
  rw [Bool.and_eq_true, decide_eq_true_eq, decide_eq_true_eq] at h
  have e1 : IntKind.u32.min = 0 := by decide
  have e2 : IntKind.u32.max = 4294967295 := by decide
  have := h.1
  have := h.2
  omega
theorem wf_u64 {n : Int} (h : (Lit.int .u64 n).wf = true) : 0 ≤ n ∧ n < 18446744073709551616 := by
  unfold Lit.wf at h
  rw [Bool.and_eq_true, decide_eq_true_eq, decide_eq_true_eq] at h
  have e1 : IntKind.u64.min = 0 := by decide
  have e2 : IntKind.u64.max = 18446744073709551615 := by decide
  have := h.1
  have := h.2
  omega
def by8 (z : Int) : UInt8 := UInt8.ofNat z.toNat
theorem by8_to {z : Int} (h0 : 0 ≤ z) (h1 : z < 256) : ((by8 z).toNat : Int) = z := by
  unfold by8
  rw [UInt8.toNat_ofNat', Nat.mod_eq_of_lt (by omega)]
  omega
theorem rd_u8 {W : World} {ad : Addr} {len cap : Nat} {zs : List Int} (hl : len ≤ cap) (hm : cap ≤ maxLen) (hlz : len ≤ zs.length) (hx : ∀ i, i < len → W.cell? (ad.add i) = some (.int .u8 (zs.getD i 0))) (hwf : ∀ z ∈ zs, (Lit.int .u8 z).wf = true) :
    Rd W (fun _ => True) (.slice (some ad) len cap) len (bv ((zs.take len).map by8)) := by
  refine rd_of hl hm fun j u hj => ?_
  have hjl : j < len := by
    have := (List.getElem?_eq_some_iff.1 hj).1
    rw [bv_length, List.length_map, List.length_take] at this
    omega
  rw [bv, List.getElem?_map, List.getElem?_map, List.getElem?_take, if_pos hjl, List.getElem?_eq_getElem (by omega)] at hj
  obtain rfl := Option.some.inj hj
  have hw := wf_u8 (hwf zs[j] (List.getElem_mem (by omega)))
  rw [hx j hjl, List.getD_eq_getElem?_getD, List.getElem?_eq_getElem (by omega)]
  show some (Value.int .u8 zs[j]) = some (Value.int .u8 ((by8 zs[j]).toNat : Int))
  rw [by8_to hw.1 hw.2]
theorem read_bytes {H : Type} {enc : TypeId × Value → H} {W : World} {a : Option Addr} {len cap : Nat} {d : DataW H} {ps : List MemPlace} (h : DataW.Trod enc Try.prog W 0 (fun _ => true) true 24 (.slice a len cap) d ps) :
    ∃ l : List UInt8, l.length = len ∧ Rd W (fun _ => True) (.slice a len cap) len (bv l) := by
  obtain ⟨fuel, hf⟩ := h
  rcases Go.ChangeShapes.open_ints Try.underlying24 Try.underlying5 (by kernel_rfl) hf with ⟨hcs, _⟩ | ⟨ad, len', cap', zs, hcs, _, hl, hm, hzs, _, hx, hwf⟩
  · simp [Value.cells] at hcs
    obtain ⟨rfl, rfl, rfl⟩ := hcs
    exact ⟨[], rfl, ⟨_, _, rfl, Nat.le_refl _, by omega, fun h => absurd rfl h⟩⟩
  · simp [Value.cells] at hcs
    obtain ⟨rfl, rfl, rfl⟩ := hcs
    simp only [if_true] at hzs
    exact ⟨(zs.take len).map by8, by rw [List.length_map, List.length_take]; omega, rd_u8 hl hm (by omega) (fun i hi => hx i (by omega)) hwf⟩
theorem read_data {H : Type} {enc : TypeId × Value → H} {W : World} {a : Option Addr} {len cap : Nat} {d : DataW H} {ps : List MemPlace} (h : DataW.Trod enc Try.prog W 0 (fun _ => true) true 23 (.slice a len cap) d ps) :
    ∃ l : List (List UInt8), l.length = len ∧ RdD W (fun _ => True) (.slice a len cap) l := by
  obtain ⟨fuel, hf⟩ := h
  rcases open_int_rows Try.underlying23 Try.underlying24 Try.underlying5 (by kernel_rfl) (by kernel_rfl) hf with ⟨hcs, _⟩ | ⟨ad, len', cap', A, L, C, Z, hcs, _, hl, hm, _, hx⟩
  · simp [Value.cells] at hcs
    obtain ⟨rfl, rfl, rfl⟩ := hcs
    exact ⟨[], rfl, [], ⟨_, _, rfl, Nat.le_refl _, by omega, fun h => absurd rfl h⟩, rfl, fun i x l h => by simp at h⟩
  · simp [Value.cells] at hcs
    obtain ⟨rfl, rfl, rfl⟩ := hcs
    refine ⟨(List.range len).map fun r => ((Z r).take (L r)).map by8, by simp, (List.range len).map fun r => Value.slice (A r) (L r) (C r), ?_, by simp, fun i x l h1 h2 => ?_⟩
    · rw [List.length_map, List.length_range]
      refine rd_of hl hm fun j u hj => ?_
      have hjl : j < len := by
        have := (List.getElem?_eq_some_iff.1 hj).1
        simpa using this
      rw [List.getElem?_map, List.getElem?_range hjl] at hj
      obtain rfl := Option.some.inj hj
      exact (hx j (by omega)).1
    · have hil : i < len := by
        have := (List.getElem?_eq_some_iff.1 h1).1
        simpa using this
      rw [List.getElem?_map, List.getElem?_range hil] at h1 h2
      obtain rfl := Option.some.inj h1
      obtain rfl := Option.some.inj h2
      obtain ⟨_, q1, q2, q3, q4, q5, q6⟩ := hx i (by omega)
      rw [List.length_map, List.length_take, Nat.min_eq_left (by omega)]
      show Rd W _ (.slice (A i) (L i) (C i)) _ (bv (((Z i).take (L i)).map by8))
      cases hA : A i with
      | none =>
        have hc := q5 hA
        have hL : L i = 0 := by omega
        rw [hL, hc]
        exact ⟨none, 0, rfl, Nat.le_refl _, by omega, fun h => absurd (by simp [bv]) h⟩
      | some a' => exact rd_u8 q1 q2 (by omega) (fun c hc => (q6 a' hA).2 c (by omega)) q4
theorem read_blks {H : Type} {enc : TypeId × Value → H} {W : World} {a : Option Addr} {len cap : Nat} {d : DataW H} {ps : List MemPlace} (h : DataW.Trod enc Try.prog W 0 (fun _ => true) true 22 (.slice a len cap) d ps) :
    ∃ l : List Blk, l.length = len ∧ Rd W (fun _ => True) (.slice a len cap) len (bks l) := by
  obtain ⟨fuel, hf⟩ := h
  rcases open_slice Try.underlying22 hf with ⟨hcs, _⟩ | ⟨ad, len', cap', m, n, D, Pl, hcs, _, hl, hm, hmm, _, hx⟩
  · simp [Value.cells] at hcs
    obtain ⟨rfl, rfl, rfl⟩ := hcs
    exact ⟨[], rfl, ⟨_, _, rfl, Nat.le_refl _, by omega, fun h => absurd rfl h⟩⟩
  · simp [Value.cells] at hcs
    obtain ⟨rfl, rfl, rfl⟩ := hcs
    simp only [if_true] at hmm
    subst hmm
    have ce : Try.prog.cellsOf 57 = 3 := by kernel_rfl
    rw [ce] at hx
    have each : ∀ i, i < m → ∃ q : Blk, W.cell? (ad.add (i * 3)) = some (.int .i64 q.off) ∧ W.cell? (ad.add (i * 3 + 1)) = some (.int .i64 q.size) ∧ W.cell? (ad.add (i * 3 + 2)) = some (.bool q.used) := by
      intro i hi
      obtain ⟨cs', h1, h2⟩ := hx i hi
      obtain ⟨_, hlen, hcell⟩ := World.cells?_some h1
      obtain ⟨y0, y1, y2, n', _, _, g0, g1, g2⟩ := trod_struct3 Try.underlying57 h2
      match cs', hlen with
      | [v0, v1, v2], _ =>
        have c3 : Try.prog.cellsOf 3 = 1 := by kernel_rfl
        have c4 : Try.prog.cellsOf 4 = 1 := by kernel_rfl
        obtain ⟨x0, e0, _, _⟩ := DataW.trod_int Try.underlying3 g0
        obtain ⟨x1, e1, _, _⟩ := DataW.trod_int Try.underlying3 g1
        obtain ⟨x2, e2, _⟩ := DataW.trod_bool Try.underlying4 g2
        simp [c3, c4] at e0 e1 e2
        subst e0; subst e1; subst e2
        have k0 := hcell 0 (by omega)
        have k1 := hcell 1 (by omega)
        have k2 := hcell 2 (by omega)
        rw [add_add] at k0 k1 k2
        exact ⟨⟨x0, x1, x2⟩, by simpa using k0, by simpa using k1, by simpa using k2⟩
    haveI : Inhabited Blk := ⟨⟨0, 0, false⟩⟩
    obtain ⟨q, hq⟩ := choose_lt each
    refine ⟨(List.range len).map q, by simp, rd_of hl hm fun j u hj => ?_⟩
    have hjl : j < len * 3 := by
      have := (List.getElem?_eq_some_iff.1 hj).1
      rw [bks_length, List.length_map, List.length_range] at this
      exact this
    have hk : j / 3 < ((List.range len).map q).length := by rw [List.length_map, List.length_range]; omega
    have hb := bks_get ((List.range len).map q) (j / 3) (j % 3) hk (by omega)
    rw [show j / 3 * 3 + j % 3 = j from by omega, hj] at hb
    have hqe : ((List.range len).map q)[j / 3] = q (j / 3) := by simp
    rw [hqe] at hb
    obtain ⟨a1, a2, a3⟩ := hq (j / 3) (by omega)
    have h3 : j % 3 = 0 ∨ j % 3 = 1 ∨ j % 3 = 2 := by omega
    rcases h3 with e | e | e
    · rw [e] at hb
      obtain rfl : u = .int .i64 (q (j / 3)).off := by simpa [blkC] using hb
      rw [← a1]; congr 2; omega
    · rw [e] at hb
      obtain rfl : u = .int .i64 (q (j / 3)).size := by simpa [blkC] using hb
      rw [← a2]; congr 2; omega
    · rw [e] at hb
      obtain rfl : u = .bool (q (j / 3)).used := by simpa [blkC] using hb
      rw [← a3]; congr 2; omega
end Go.Proofs.Ytnldmhljggcnpaa
