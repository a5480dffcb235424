import Derived.Test.YtnldmhljggcnpaaArena
import Derived.Lib.AppendZerosOnto
namespace Go.Proofs.Ytnldmhljggcnpaa
set_option linter.unusedSimpArgs false
set_option linter.unusedVariables false
open Go.RowKit Cantle
set_option maxRecDepth 100000
set_option maxHeartbeats 1000000

/-! ### an arena's calls -/
theorem arena_Base {w : World} {p : Nat} {V : Value} {s : ArS} (h : Ar w p V s) : Calls Try.prog 51 #[.pointer (some ⟨p, 0, none⟩)] w fun e w' => e = .returned (.int .u64 (s.base : Int)) ∧ w = w' := by
  have c0 := h.c0
  clear h
  go_enter Try.func51, Try.ntmps51
  go_wp2
  go_ret
  exact ⟨rfl, rfl⟩
theorem arena_Len {w : World} {p : Nat} {V : Value} {s : ArS} (h : Ar w p V s) : Calls Try.prog 111 #[.pointer (some ⟨p, 0, none⟩)] w fun e w' => e = .returned (.int .i64 (s.b.length : Int)) ∧ w = w' := by
  obtain ⟨A, cap, rfl, _⟩ := h.form
  have c2 := h.c2
  clear h
  generalize s.b.length = len at *
  go_enter Try.func111, Try.ntmps111
  go_wp2
  go_ret
  exact ⟨rfl, rfl⟩
theorem arena_Cap {w : World} {p : Nat} {V : Value} {s : ArS} (h : Ar w p V s) : Calls Try.prog 127 #[.pointer (some ⟨p, 0, none⟩)] w fun e w' => e = .returned (.int .i64 (s.cap : Int)) ∧ w = w' := by
  have c1 := h.c1
  clear h
  go_enter Try.func127, Try.ntmps127
  go_wp2
  go_ret
  exact ⟨rfl, rfl⟩
/-- may there be such an arena? -/
def mayA (base : Nat) (cap : Int) : Bool := base % 16 == 0 && base ≤ 4611686018427387904 && 1024 ≤ cap && cap ≤ 16384
theorem mayA_iff {base : Nat} {cap : Int} : mayA base cap = true ↔ base % 16 = 0 ∧ base ≤ 4611686018427387904 ∧ 1024 ≤ cap ∧ cap ≤ 16384 := by simp [mayA, and_assoc]
theorem arena_New_ok (base : Nat) (cap : Int) (hm : mayA base cap = true) (w : World) :
    Calls Try.prog 103 #[.int .u64 base, .int .i64 cap] w fun e w' => ∃ p, e = .returned (.pointer (some ⟨p, 0, none⟩)) ∧ Ar w' p (.slice none 0 0) ⟨base, cap.toNat, []⟩ ∧ Keep No w w' ∧ w.heap.size ≤ p := by
  obtain ⟨h1, h2, h3, h4⟩ := mayA_iff.1 hm
  clear hm
  obtain ⟨c, rfl⟩ := Int.eq_ofNat_of_zero_le (show 0 ≤ cap by omega)
  have hb1 : (((base : Int) % 16) != 0) = false := by rw [bne_eq_false_iff_eq]; omega
  have H1 := hid h1
  clear h1
  go_enter Try.func103, Try.ntmps103
  go_wp2
  go_ret
  refine ⟨w.heap.size, rfl, ⟨heap_alloc_new _ _, OwnB.nil _, by simp [Value.ownBlock], by simpa using h2, ?_, by simp⟩, keep_alloc _ _, Nat.le_refl _⟩
  show ((c : Int)).toNat ≤ 16384
  omega
theorem arena_New_bad (base : Nat) (cap : Int) (hm : mayA base cap = false) (w : World) :
    Calls Try.prog 103 #[.int .u64 base, .int .i64 cap] w fun e w' => e = .returned (.pointer none) ∧ w = w' := by
  have hn : ¬ (base % 16 = 0 ∧ base ≤ 4611686018427387904 ∧ 1024 ≤ cap ∧ cap ≤ 16384) := fun h => by rw [mayA_iff.2 h] at hm; cases hm
  clear hm
  by_cases g1 : base % 16 = 0
  · have hb1 : (((base : Int) % 16) != 0) = false := by rw [bne_eq_false_iff_eq]; omega
    have H1 := hid g1
    by_cases g2 : 4611686018427387904 < base
    · clear hn g1
      go_enter Try.func103, Try.ntmps103
      go_wp2
      go_ret
      exact ⟨rfl, rfl⟩
    · by_cases g3 : cap < 1024
      · clear hn g1
        go_enter Try.func103, Try.ntmps103
        go_wp2
        go_ret
        exact ⟨rfl, rfl⟩
      · have g4 : 16384 < cap := by omega
        clear hn g1
        go_enter Try.func103, Try.ntmps103
        go_wp2
        go_ret
        exact ⟨rfl, rfl⟩
  · have hb1 : (((base : Int) % 16) != 0) = true := by rw [bne_iff_ne]; omega
    clear hn g1
    go_enter Try.func103, Try.ntmps103
    go_wp2
    go_ret
    exact ⟨rfl, rfl⟩
theorem arena_Load_ok {w : World} {p : Nat} {V : Value} {s : ArS} (h : Ar w p V s) (addr n : Nat) (h1 : s.base ≤ addr) (h2 : addr - s.base + n ≤ s.b.length) :
    Calls Try.prog 69 #[.pointer (some ⟨p, 0, none⟩), .int .u64 addr, .int .u64 n] w fun e w' => ∃ v, e = .returned (.tuple #[v, .nilIface]) ∧ NewO w w' v ((s.b.drop (addr - s.base)).take n) := by
  have ha := arena_at_ok h addr n h1 h2
  go_enter Try.func69, Try.ntmps69
  go_wp2_with fail
  refine ha.mono ?_; rintro e w1 ⟨v, rfl, hv, rfl⟩
  have hr := hv.rd h h2
  have hl : ((s.b.drop (addr - s.base)).take n).length = n := by rw [List.length_take, List.length_drop]; omega
  obtain ⟨A, c, rfl, _⟩ := hv
  have hc := slices_Clone (l := (s.b.drop (addr - s.base)).take n) (by rw [hl]; exact hr) (by rw [hl]; have := h.len_le; have := h.cap_le; omega)
  clear ha hr hl
  go_wp2_with fail
  refine hc.mono ?_; rintro e w2 ⟨v2, rfl, hN⟩
  clear hc
  go_wp2
  go_ret2
  exact ⟨_, rfl, hN⟩
theorem arena_Load_bad {w : World} {p : Nat} {V : Value} {s : ArS} (h : Ar w p V s) (addr n : Nat) (ha : addr < 18446744073709551616) (hn : n < 18446744073709551616) (h1 : ¬ (s.base ≤ addr ∧ addr - s.base + n ≤ s.b.length)) :
    Calls Try.prog 69 #[.pointer (some ⟨p, 0, none⟩), .int .u64 addr, .int .u64 n] w fun e w' => ∃ v, e = .returned (.tuple #[v, errV 2]) ∧ NewO w w' v [] := by
  have ha := arena_at_bad h addr n ha hn h1
  clear h1
  go_enter Try.func69, Try.ntmps69
  go_wp2_with fail
  refine ha.mono ?_; rintro e w1 ⟨rfl, rfl⟩
  have hc := slices_Clone (w := w) (l := []) (Rd.nil w No) (by simp)
  simp only [errV]
  clear ha
  go_wp2_with fail
  refine hc.mono ?_; rintro e w2 ⟨v2, rfl, hN⟩
  clear hc
  go_wp2
  go_ret2
  exact ⟨_, rfl, hN⟩
theorem arena_Store_ok {w : World} {p : Nat} {V : Value} {s : ArS} (h : Ar w p V s) (addr : Nat) {F : Nat → Prop} {x : Value} {l : List UInt8} (hx : Rd w F x l.length (bv l)) (h1 : s.base ≤ addr) (h2 : addr - s.base + l.length ≤ s.b.length) :
    Calls Try.prog 105 #[.pointer (some ⟨p, 0, none⟩), .int .u64 addr, x] w fun e w' => e = .returned .nilIface ∧ Wrote w w' p V { s with b := putAt s.b (addr - s.base) l } := by
  have ha := arena_at_ok h addr l.length h1 h2
  have hlm : l.length ≤ 16384 := by have := h.len_le; have := h.cap_le; omega
  obtain ⟨A, c, rfl, hx'⟩ := id hx
  clear hx'
  have HX := hid hx
  clear hx
  have HC := hid (fun v (hv : AtV V v s.b.length (addr - s.base) l.length) => copy_run h hv h2 HX.out rfl 3)
  generalize hl : l.length = n at *
  have HL := hid hl
  clear hl
  go_enter Try.func105, Try.ntmps105
  go_wp2_with fail
  refine ha.mono ?_; rintro e w1 ⟨v, rfl, hv, rfl⟩
  obtain ⟨w2, hrun, hW⟩ := HC.out v hv
  clear ha
  go_wp2_with (with_reducible refine wpList_copy_run rfl (.tmp 18) (.tmp 19) 24 24 rfl _ _ rfl rfl hrun ?_)
  go_ret
  exact ⟨rfl, hW⟩

theorem arena_Store_bad {w : World} {p : Nat} {V : Value} {s : ArS} (h : Ar w p V s) (addr : Nat) {F : Nat → Prop} {x : Value} {l : List UInt8} (hx : Rd w F x l.length (bv l)) (ha : addr < 18446744073709551616) (hln : l.length ≤ 1000000) (h1 : ¬ (s.base ≤ addr ∧ addr - s.base + l.length ≤ s.b.length)) :
    Calls Try.prog 105 #[.pointer (some ⟨p, 0, none⟩), .int .u64 addr, x] w fun e w' => e = .returned (errV 2) ∧ w = w' := by
  have ha := arena_at_bad h addr l.length ha (by omega) h1
  obtain ⟨A, c, rfl, hx'⟩ := id hx
  clear hx' h1
  have hsz : (Try.prog.info? 5).map (·.size) = some 1 := by kernel_rfl
  have hrun := run_copy_none (P := Try.prog) w 24 24 3 5 none A 0 0 l.length c Try.underlying24 hsz (by simp)
  generalize hl : l.length = n at *
  have HL := hid hl
  have HR := hid hrun
  clear hl hrun
  go_enter Try.func105, Try.ntmps105
  go_wp2_with fail
  refine ha.mono ?_; rintro e w1 ⟨rfl, rfl⟩
  clear ha
  simp only [errV]
  have hrun := HR.out
  go_wp2_with (with_reducible refine wpList_copy_run rfl (.tmp 18) (.tmp 19) 24 24 rfl _ _ rfl rfl hrun ?_)
  go_ret
  exact ⟨rfl, rfl⟩
theorem num_window {b : List UInt8} {o : Nat} (h : o + 8 ≤ b.length) : getN ((b.drop o).take 8) 0 8 = some (num b o) := by
  have hl : ((b.drop o).take 8).length = 8 := by rw [List.length_take, List.length_drop]; omega
  unfold getN
  rw [if_pos (by omega), num_some h, List.drop_zero, List.take_of_length_le (by omega)]
theorem arena_Word {w : World} {p : Nat} {V : Value} {s : ArS} (h : Ar w p V s) (o : Nat) (ho : o ≤ 1000000) :
    Calls Try.prog 107 #[.pointer (some ⟨p, 0, none⟩), .int .u64 ((s.base + o : Nat) : Int)] w fun e w' => e = .returned (.tuple #[.int .u64 (num s.b o : Nat), errV (if o + 8 ≤ s.b.length then 0 else 2)]) ∧ w = w' := by
  have hb := h.base_le
  by_cases hin : o + 8 ≤ s.b.length
  · rw [if_pos hin]
    have hat := arena_at_ok h (s.base + o) 8 (by omega) (by omega)
    have ew : s.base + o - s.base = o := by omega
    rw [ew] at hat
    have HG := hid (fun v (hv : AtV V v s.b.length o 8) => word_Get (l := (s.b.drop o).take 8) (by rw [show ((s.b.drop o).take 8).length = 8 from by rw [List.length_take, List.length_drop]; omega]; exact hv.rd h hin) 0)
    have HN := hid (num_window hin)
    clear ew h
    generalize s.base + o = addr at *
    generalize num s.b o = N at *
    go_enter Try.func107, Try.ntmps107
    go_wp2_with fail
    refine hat.mono ?_; rintro e w1 ⟨v, rfl, hv, rfl⟩
    have hG := HG.out v hv
    rw [HN.out] at hG
    simp only [getV] at hG
    obtain ⟨A, c, rfl, _⟩ := hv
    clear hat
    go_wp2_with fail
    refine hG.mono ?_; rintro e w1 ⟨rfl, rfl⟩
    clear hG
    go_wp2
    go_ret2
    exact ⟨rfl, rfl⟩
  · rw [if_neg hin, num_none (by omega)]
    have hat := arena_at_bad h (s.base + o) 8 (by omega) (by decide) (by omega)
    have hG := word_Get (w := w) (F := No) (l := []) (Rd.nil w No) 0
    rw [getN_none (by simp)] at hG
    simp only [getV, List.length_nil, errV] at hG hat ⊢
    clear h
    generalize s.base + o = addr at *
    go_enter Try.func107, Try.ntmps107
    go_wp2_with fail
    refine hat.mono ?_; rintro e w1 ⟨rfl, rfl⟩
    clear hat
    go_wp2_with fail
    refine hG.mono ?_; rintro e w1 ⟨rfl, rfl⟩
    clear hG
    go_wp2
    go_ret2
    exact ⟨rfl, rfl⟩
theorem lay_putAt {b : List UInt8} {o v : Nat} (h : o + 8 ≤ b.length) : putAt b o (low 8 v) = lay b o v := by
  rw [lay_some h]; unfold putAt; rw [low_length]
/-- what a store into an arena leaves, bounds or not -/
theorem arena_SetWord {w : World} {p : Nat} {V : Value} {s : ArS} (h : Ar w p V s) (o v : Nat) (ho : o ≤ 1000000) (hv : v < 18446744073709551616) :
    Calls Try.prog 113 #[.pointer (some ⟨p, 0, none⟩), .int .u64 ((s.base + o : Nat) : Int), .int .u64 v] w fun e w' => e = .returned (errV (if o + 8 ≤ s.b.length then 0 else 2)) ∧ Wrote w w' p V { s with b := lay s.b o v } := by
  have hb := h.base_le
  have HP := word_Put v hv w
  have HS := hid (fun wx vx (hN : NewB w wx vx (low 8 v)) => (show Calls Try.prog 105 #[.pointer (some ⟨p, 0, none⟩), .int .u64 ((s.base + o : Nat) : Int), vx] wx fun e w' => e = .returned (errV (if o + 8 ≤ s.b.length then 0 else 2)) ∧ Wrote w w' p V { s with b := lay s.b o v } from by
    have hr := hN.rd
    have hA := h.keepNo hN.keep
    by_cases hin : o + 8 ≤ s.b.length
    · rw [if_pos hin]
      refine (arena_Store_ok hA (s.base + o) hr (by omega) (by rw [low_length]; omega)).mono ?_
      rintro e w' ⟨rfl, hW⟩
      rw [show s.base + o - s.base = o from by omega, lay_putAt hin] at hW
      exact ⟨rfl, hW.ar, hN.keep.no.trans hW.keep⟩
    · rw [if_neg hin]
      refine (arena_Store_bad hA (s.base + o) hr (by omega) (by rw [low_length]; decide) (by rw [low_length]; omega)).mono ?_
      rintro e w' ⟨rfl, rfl⟩
      rw [lay_none (by omega)]
      exact ⟨rfl, hA, hN.keep.no⟩))
  clear h
  generalize s.base + o = addr at *
  generalize errV (if o + 8 ≤ s.b.length then 0 else 2) = ev at *
  go_enter Try.func113, Try.ntmps113
  go_wp2_with fail
  refine HP.mono ?_; rintro e w1 ⟨vx, rfl, hN⟩
  clear HP
  have hS := HS.out w1 vx hN
  go_wp2_with fail
  refine hS.mono ?_; rintro e w2 ⟨rfl, hW⟩
  go_wp2
  go_ret
  exact ⟨rfl, hW⟩
end Go.Proofs.Ytnldmhljggcnpaa
