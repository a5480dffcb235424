import Derived.Test.YtnldmhljggcnpaaList5
import Derived.Test.YtnldmhljggcnpaaPlainC
namespace Go.Proofs.Ytnldmhljggcnpaa
set_option linter.unusedSimpArgs false
set_option linter.unusedVariables false
open Go.RowKit Cantle
set_option maxRecDepth 100000
set_option maxHeartbeats 4000000

theorem putAt_wiped {b : List UInt8} (h : 184 ≤ b.length) : putAt b 0 (List.replicate 184 0) = wiped b := by
  have hl : (List.replicate 184 (0 : UInt8)).length = 184 := List.length_replicate
  unfold putAt wiped
  rw [hl, List.take_zero, List.nil_append, Nat.zero_add]
theorem list_Clear {w : World} {p : Nat} {V : Value} {s : ArS} (h : Ar w p V s) (hl : 184 ≤ s.b.length) :
    Calls Try.prog 121 #[.pointer (some ⟨p, 0, none⟩)] w fun e w' => e = .returned .nilIface ∧ Wrote w w' p V { s with b := wiped s.b } := by
  have hL := arena_Len h
  have hB := arena_Base h
  have hF := arena_Fill_ok h s.base 184 0 (Nat.le_refl _) (by omega)
  rw [Nat.sub_self, putAt_wiped hl] at hF
  have hl2 : ¬ ((s.b.length : Nat) : Int) < 184 := by omega
  clear h hl
  generalize wiped s.b = wb at *
  generalize hlen : s.b.length = len at *
  have HLEN := hid hlen
  clear hlen
  have hz : ((0 : UInt8).toNat : Int) = 0 := rfl
  have hn : ((184 : Nat) : Int) = 184 := rfl
  rw [hz, hn] at hF
  clear hz hn
  generalize hbase : s.base = base at *
  have HBASE := hid hbase
  clear hbase
  go_enter Try.func121, Try.ntmps121
  go_wp2_with fail
  refine hL.mono ?_; rintro e w1 ⟨rfl, rfl⟩
  go_wp2_with fail
  refine hB.mono ?_; rintro e w1 ⟨rfl, rfl⟩
  go_wp2_with fail
  refine hF.mono ?_; rintro e w1 ⟨rfl, hW⟩
  go_wp2
  go_ret
  exact ⟨rfl, hW⟩
/-! ### arenas that the laws make -/
/-- a new arena with bytes b -/
structure NewA (w w' : World) (p : Nat) (V : Value) (s : ArS) : Prop where
  ar : Ar w' p V s
  keep : Keep No w w'
  ge : ∀ i, Fp p V i → w.heap.size ≤ i
theorem NewA.keepNo {w w' w2 : World} {p : Nat} {V : Value} {s : ArS} (h : NewA w w' p V s) (k : Keep No w' w2) : NewA w w2 p V s := ⟨h.ar.keepNo k, h.keep.thenNo k, h.ge⟩
theorem NewA.mut {w w' w2 : World} {p : Nat} {V V2 : Value} {s s2 : ArS} (h : NewA w w' p V s) (k : Mut w' w2 p V V2 s2) : NewA w w2 p V2 s2 :=
  ⟨k.ar, h.keep.then k.keep (fun i hi q => by have := h.ge i q; omega), fun i hi => by
    rcases k.lies i hi with q | q
    · exact h.ge i q
    · exact Nat.le_trans h.keep.size q⟩
theorem NewA.old {w0 w w' : World} {p : Nat} {V : Value} {s : ArS} (k : Keep No w0 w) (h : NewA w w' p V s) : NewA w0 w' p V s :=
  ⟨h.ar, k.thenNo h.keep, fun i hi => Nat.le_trans k.size (h.ge i hi)⟩
theorem putAt_all {l : List UInt8} : putAt (([] : List UInt8) ++ List.replicate l.length 0) 0 l = l := by
  unfold putAt; simp
theorem law00_Arena {w : World} (base : Nat) (cap : Int) {F : Nat → Prop} {x : Value} {l : List UInt8} (hm : mayA base cap = true) (hx : Rd w F x l.length (bv l)) (hl : (l.length : Int) ≤ cap) :
    Calls Try.prog 28 #[.int .u64 base, .int .i64 cap, x] w fun e w' => ∃ p V, e = .returned (.pointer (some ⟨p, 0, none⟩)) ∧ NewA w w' p V ⟨base, cap.toNat, l⟩ := by
  have hN := arena_New_ok base cap hm w
  have hcap := (mayA_iff.1 hm).2.2.2
  have hb0 := (mayA_iff.1 hm).2.1
  obtain ⟨A, c, rfl, hc1, hc2⟩ := hx.form'
  have HX := hid hx
  have hG := fun wx p (hA : Ar wx p (.slice none 0 0) ⟨base, cap.toNat, []⟩) => arena_Grow_ok hA l.length (by simp; omega)
  have HS := hid (fun wx p V (k : Keep No w wx) (hA : Ar wx p V ⟨base, cap.toNat, [] ++ List.replicate l.length 0⟩) => arena_Store_ok hA base (hx.keepNo k) (Nat.le_refl _) (by simp))
  have HALL := hid (putAt_all (l := l))
  simp only [Nat.sub_self] at HS
  rw [HALL.out] at HS
  clear hm hx
  have hlg : ¬ cap < (l.length : Int) := by omega
  generalize hlen : l.length = len at *
  clear hlen HALL HX
  go_enter Try.func28, Try.ntmps28
  go_wp2_with fail
  refine hN.mono ?_; rintro e w1 ⟨p, rfl, hA, k1, hge⟩
  have hG1 := hG w1 p hA
  go_wp2_with fail
  refine hG1.mono ?_; rintro e w2 ⟨rfl, V', hM⟩
  have k2 : Keep No w w2 := k1.then hM.keep (fun i hi q => by
    rcases q with q | q
    · omega
    · simp [Value.ownBlock] at q)
  have hS := HS.out w2 p V' k2 hM.ar
  go_wp2_with fail
  refine hS.mono ?_; rintro e w3 ⟨rfl, hW⟩
  go_wp2
  go_ret
  have hM2 := hM.trans hW.mut
  have h0 : NewA w w1 p (.slice none 0 0) ⟨base, cap.toNat, []⟩ := ⟨hA, k1, fun i hi => by
    rcases hi with q | q
    · omega
    · simp [Value.ownBlock] at q⟩
  exact ⟨p, V', rfl, h0.mut hM2⟩
theorem law00_Bytes {w : World} {p : Nat} {V : Value} {s : ArS} (h : Ar w p V s) :
    Calls Try.prog 32 #[.pointer (some ⟨p, 0, none⟩)] w fun e w' => ∃ v, e = .returned v ∧ NewO w w' v s.b := by
  have hB := arena_Base h
  have hL := arena_Len h
  have hO := arena_Load_ok h s.base s.b.length (Nat.le_refl _) (by omega)
  have hll := h.len_le
  have hcl := h.cap_le
  have ht : (s.b.drop (s.base - s.base)).take s.b.length = s.b := by rw [Nat.sub_self, List.drop_zero, List.take_length]
  rw [ht] at hO
  clear h ht
  generalize s.base = base at *
  generalize hb : s.b = b at *
  generalize b.length = len at *
  clear hb
  go_enter Try.func32, Try.ntmps32
  go_wp2_with fail
  refine hB.mono ?_; rintro e w1 ⟨rfl, rfl⟩
  go_wp2_with fail
  refine hL.mono ?_; rintro e w1 ⟨rfl, rfl⟩
  go_wp2_with fail
  have hmx : ((max (len : Int) 0 : Int)) = len := by omega
  first
    | (refine hO.mono ?_; rintro e w1 ⟨v, rfl, hN⟩)
    | (rw [hmx]; refine hO.mono ?_; rintro e w1 ⟨v, rfl, hN⟩)
  go_wp2
  go_ret
  exact ⟨_, rfl, hN⟩
end Go.Proofs.Ytnldmhljggcnpaa
