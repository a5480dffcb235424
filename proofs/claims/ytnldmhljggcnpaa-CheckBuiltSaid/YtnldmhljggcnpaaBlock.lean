import Derived.Test.YtnldmhljggcnpaaArena4
import Derived.Test.YtnldmhljggcnpaaTag
import Derived.Test.YtnldmhljggcnpaaBlk
namespace Go.Proofs.Ytnldmhljggcnpaa
set_option linter.unusedSimpArgs false
set_option linter.unusedVariables false
open Go.RowKit Cantle
set_option maxRecDepth 100000
set_option maxHeartbeats 1000000

theorem block_fits {w : World} {p : Nat} {V : Value} {s : ArS} (h : Ar w p V s) (o z : Int) (hz1 : -1000000 ≤ z) (hz2 : z ≤ 1000000) :
    Calls Try.prog 112 #[.pointer (some ⟨p, 0, none⟩), .int .i64 o, .int .i64 z] w fun e w' => e = .returned (.bool (could s.b.length o z)) ∧ w = w' := by
  obtain ⟨A, cap, rfl, _⟩ := h.form
  have c2 := h.c2
  have hl := h.len_le
  have hc := h.cap_le
  clear h
  generalize hB : could s.b.length o z = B at *
  generalize s.b.length = len at *
  by_cases g1 : 184 ≤ o
  · by_cases g2 : o % 16 = 8
    · have g2' : (o % 16 == 8) = true := by rw [beq_iff_eq]; exact g2
      by_cases g3 : o ≤ len
      · by_cases g4 : z ≤ len - o
        · obtain rfl : true = B := by rw [← hB, could_iff.2 ⟨g1, g2, g3, g4⟩]
          clear hB g2
          go_enter Try.func112, Try.ntmps112
          go_wp2
          go_ret
          exact ⟨rfl, rfl⟩
        · obtain rfl : false = B := by rw [← hB, Eq.comm, ← Bool.not_eq_true, could_iff]; omega
          clear hB g2
          go_enter Try.func112, Try.ntmps112
          go_wp2
          go_ret
          exact ⟨rfl, rfl⟩
      · obtain rfl : false = B := by rw [← hB, Eq.comm, ← Bool.not_eq_true, could_iff]; omega
        clear hB g2
        go_enter Try.func112, Try.ntmps112
        go_wp2
        go_ret
        exact ⟨rfl, rfl⟩
    · have g2' : (o % 16 == 8) = false := by rw [beq_eq_false_iff_ne]; exact g2
      obtain rfl : false = B := by rw [← hB, Eq.comm, ← Bool.not_eq_true, could_iff]; omega
      clear hB g2
      go_enter Try.func112, Try.ntmps112
      go_wp2
      go_ret
      exact ⟨rfl, rfl⟩
  · obtain rfl : false = B := by rw [← hB, Eq.comm, ← Bool.not_eq_true, could_iff]; omega
    clear hB
    go_enter Try.func112, Try.ntmps112
    go_wp2
    go_ret
    exact ⟨rfl, rfl⟩

/-- a block, and what is amiss (3), as a call hands them back -/
def blkR : Option Blk → Value
  | none => .tuple #[.agg #[.int .i64 0, .int .i64 0, .bool false], errV 3]
  | some x => .tuple #[blkV x, .nilIface]
theorem info_blkS : (Try.prog.info? 57).map (·.size) = some 3 := by kernel_rfl
theorem blk_done {f : Func} {R : Ending → World → Prop} {tmps : Array Value} {wx : World} {B0 i j : Nat} {a b c e : Value} {cs : Array Value} (hf : f.results = #[.cell i 57, .tmp j]) (hg : wx.heap[B0]? = some (.cells cs 57 (0, 0))) (hs : cs.size = 3)
    (hp : tmps.getD i undef = .pointer (some ⟨B0, 0, none⟩)) (he : tmps.getD j undef = e)
    (hR : Keep (fun i => i = B0) wx (((wx.setCell ⟨B0, 0, none⟩ a).setCell ⟨B0, 1, none⟩ b).setCell ⟨B0, 2, none⟩ c) → R (.returned (.tuple #[.agg #[a, b, c], e])) (((wx.setCell ⟨B0, 0, none⟩ a).setCell ⟨B0, 1, none⟩ b).setCell ⟨B0, 2, none⟩ c)) :
    bodyPost Try.prog f R .ret ⟨tmps, []⟩ (((wx.setCell ⟨B0, 0, none⟩ a).setCell ⟨B0, 1, none⟩ b).setCell ⟨B0, 2, none⟩ c) := by
  have hW : (((wx.setCell ⟨B0, 0, none⟩ a).setCell ⟨B0, 1, none⟩ b).setCell ⟨B0, 2, none⟩ c).heap[B0]? = some (.cells #[a, b, c] 57 (0, 0)) := by
    rw [setCell_blk (setCell_blk (setCell_blk hg 0 a) 1 b) 2 c]
    match cs, hs with
    | ⟨[x, y, z]⟩, _ => rfl
  have hp' : tmps[i]?.getD undef = .pointer (some ⟨B0, 0, none⟩) := by simpa using hp
  have he' : tmps[j]?.getD undef = e := by simpa using he
  refine bodyPost_ret (v := .tuple #[.agg #[a, b, c], e]) ?_ rfl (hR (((Keep.setCell (S := fun i => i = B0) _ _ _ rfl).trans (Keep.setCell _ _ _ rfl)).trans (Keep.setCell _ _ _ rfl)))
  have hl := run_loadVar_row (P := Try.prog) _ B0 57 57 #[a, b, c] (0, 0) _ hW Try.underlying57 rfl info_blkS
  simp [results, hf, hp', he', asAddr, hl]
theorem blk_at {f : Func} {R : Ending → World → Prop} {tmps : Array Value} {W : World} {B0 i j : Nat} {a b c e : Value} (hf : f.results = #[.cell i 57, .tmp j]) (hW : W.heap[B0]? = some (.cells #[a, b, c] 57 (0, 0)))
    (hp : tmps.getD i undef = .pointer (some ⟨B0, 0, none⟩)) (he : tmps.getD j undef = e) (hR : R (.returned (.tuple #[.agg #[a, b, c], e])) W) : bodyPost Try.prog f R .ret ⟨tmps, []⟩ W := by
  have hp' : tmps[i]?.getD undef = .pointer (some ⟨B0, 0, none⟩) := by simpa using hp
  have he' : tmps[j]?.getD undef = e := by simpa using he
  refine bodyPost_ret (v := .tuple #[.agg #[a, b, c], e]) ?_ rfl hR
  have hl := run_loadVar_row (P := Try.prog) _ B0 57 57 #[a, b, c] (0, 0) _ hW Try.underlying57 rfl info_blkS
  simp [results, hf, hp', he', asAddr, hl]
theorem res_Get : Try.f62.results = #[.cell 4 57, .tmp 5] := rfl
theorem cast_add (a k : Nat) : ((a + k : Nat) : Int) = (a : Int) + (k : Int) := Int.natCast_add a k
theorem block_Get {w : World} {p : Nat} {V : Value} {s : ArS} (h : Ar w p V s) (o : Int) :
    Calls Try.prog 62 #[.pointer (some ⟨p, 0, none⟩), .int .i64 o] w fun e w' => e = .returned (blkR (bget s.b o)) ∧ Keep No w w' := by
  have hl := h.len_le
  have hc := h.cap_le
  have hb := h.base_le
  have HF := hid (fun z h1 h2 => block_fits (h.keepNo (keep_alloc w (.cells #[.int .i64 0, .int .i64 0, .bool false] 57))) o z h1 h2)
  have HB := hid (arena_Base (h.keepNo (keep_alloc w (.cells #[.int .i64 0, .int .i64 0, .bool false] 57))))
  have HW := hid (fun k hk => arena_Word (h.keepNo (keep_alloc w (.cells #[.int .i64 0, .int .i64 0, .bool false] 57))) k hk)
  have hk := keep_alloc w (.cells #[.int .i64 0, .int .i64 0, .bool false] 57)
  have hbx := heap_alloc_new w (.cells #[.int .i64 0, .int .i64 0, .bool false] 57)
  have HFIN : Hid (∀ k : Keep (fun i => i = w.heap.size) (w.alloc (.cells #[.int .i64 0, .int .i64 0, .bool false] 57)) = Keep (fun i => i = w.heap.size) (w.alloc (.cells #[.int .i64 0, .int .i64 0, .bool false] 57)), True) := hid (fun _ => trivial)
  clear h HFIN
  generalize hB : s.base = base at *
  generalize hbb : s.b = b at *
  clear hB hbb
  have h1 := HF.out 32 (by omega) (by omega)
  cases g1 : could b.length o 32 with
  | false =>
    have hg : bget b o = none := by unfold bget; rw [g1]; rfl
    rw [g1] at h1
    rw [hg]
    clear g1 hg
    go_enter Try.func62, Try.ntmps62
    go_wp2_with fail
    refine h1.mono ?_; rintro e w1 ⟨rfl, rfl⟩
    go_wp2
    exact blk_at res_Get hbx rfl rfl ⟨rfl, hk⟩
  | true =>
    rw [g1] at h1
    have g2 := could_iff.1 g1
    obtain ⟨k, rfl⟩ := Int.eq_ofNat_of_zero_le (show 0 ≤ o by omega)
    have hW1 := HW.out k (by omega)
    rw [if_pos (by omega), cast_add] at hW1
    have hU := fun wx => tag_Unpack (num b k) (num_lt b k) wx
    have hbg : bget b (k : Int) = match unpack (num b k) with
      | none => none
      | some (s, u) => if could b.length (k : Int) s = true ∧ num b (k + s - 8) = num b k then some ⟨(k : Int), s, u⟩ else none := by
      unfold bget; rw [g1]; rfl
    have HBG := hid hbg
    clear hbg g1
    cases hu : unpack (num b k) with
    | none =>
      have hg := HBG.out
      rw [hu] at hg
      simp only at hg
      rw [hu] at hU
      rw [hg]
      clear hu hg
      simp only [unpackV, errV] at hU hW1
      generalize num b k = N at *
      go_enter Try.func62, Try.ntmps62
      go_wp2_with fail
      refine h1.mono ?_; rintro e w1 ⟨rfl, rfl⟩
      go_wp2_with fail
      refine HB.out.mono ?_; rintro e w1 ⟨rfl, rfl⟩
      go_wp2_with fail
      refine hW1.mono ?_; rintro e w1 ⟨rfl, rfl⟩
      go_wp2_with fail
      refine (hU _).mono ?_; rintro e w1 ⟨rfl, rfl⟩
      go_wp2
      exact blk_at res_Get hbx rfl rfl ⟨rfl, hk⟩
    | some r =>
      obtain ⟨sz, u⟩ := r
      have hg := HBG.out
      rw [hu] at hg
      simp only at hg
      rw [hu] at hU
      have hsz := (isSize_iff _).1 (unpack_some hu).1
      have h2 := HF.out sz (by omega) (by omega)
      simp only [unpackV, errV] at hU hW1
      have HNL := hid (num_lt b k)
      clear hu
      cases g3 : could b.length (k : Int) sz with
      | false =>
        rw [g3] at h2 hg
        simp only [Bool.false_eq_true, false_and, if_false] at hg
        rw [hg]
        clear hg g3
        generalize num b k = N at *
        go_enter Try.func62, Try.ntmps62
        go_wp2_with fail
        refine h1.mono ?_; rintro e w1 ⟨rfl, rfl⟩
        go_wp2_with fail
        refine HB.out.mono ?_; rintro e w1 ⟨rfl, rfl⟩
        go_wp2_with fail
        refine hW1.mono ?_; rintro e w1 ⟨rfl, rfl⟩
        go_wp2_with fail
        refine (hU _).mono ?_; rintro e w1 ⟨rfl, rfl⟩
        go_wp2_with fail
        refine h2.mono ?_; rintro e w1 ⟨rfl, rfl⟩
        go_wp2
        exact blk_at res_Get hbx rfl rfl ⟨rfl, hk⟩
      | true =>
        rw [g3] at h2 hg
        have g4 := could_iff.1 g3
        have hW2 := HW.out (k + sz - 8) (by omega)
        rw [if_pos (by omega), show ((base + (k + sz - 8) : Nat) : Int) = (base : Int) + ((k : Int) + sz - 8) from by omega] at hW2
        simp only [true_and, errV] at hg hW2
        clear g3
        by_cases g5 : num b (k + sz - 8) = num b k
        · have HG5 := hid g5
          rw [if_pos g5] at hg
          rw [g5] at hW2
          rw [hg]
          have hne : (((num b k : Nat) : Int) != (num b k : Nat)) = false := by simp
          clear hg g5
          generalize num b k = N at *
          go_enter Try.func62, Try.ntmps62
          go_wp2_with fail
          refine h1.mono ?_; rintro e w1 ⟨rfl, rfl⟩
          go_wp2_with fail
          refine HB.out.mono ?_; rintro e w1 ⟨rfl, rfl⟩
          go_wp2_with fail
          refine hW1.mono ?_; rintro e w1 ⟨rfl, rfl⟩
          go_wp2_with fail
          refine (hU _).mono ?_; rintro e w1 ⟨rfl, rfl⟩
          go_wp2_with fail
          refine h2.mono ?_; rintro e w1 ⟨rfl, rfl⟩
          go_wp2_with fail
          refine HB.out.mono ?_; rintro e w1 ⟨rfl, rfl⟩
          go_wp2_with fail
          refine hW2.mono ?_; rintro e w1 ⟨rfl, rfl⟩
          go_wp2
          exact blk_at res_Get (heap_alloc_new _ _) rfl rfl ⟨rfl, keep_alloc _ _⟩
        · rw [if_neg g5] at hg
          rw [hg]
          have hne : (((num b (k + sz - 8) : Nat) : Int) != (num b k : Nat)) = true := by rw [bne_iff_ne]; exact fun e => g5 (Int.ofNat.inj e)
          clear hg g5
          generalize num b (k + sz - 8) = N2 at *
          generalize num b k = N at *
          go_enter Try.func62, Try.ntmps62
          go_wp2_with fail
          refine h1.mono ?_; rintro e w1 ⟨rfl, rfl⟩
          go_wp2_with fail
          refine HB.out.mono ?_; rintro e w1 ⟨rfl, rfl⟩
          go_wp2_with fail
          refine hW1.mono ?_; rintro e w1 ⟨rfl, rfl⟩
          go_wp2_with fail
          refine (hU _).mono ?_; rintro e w1 ⟨rfl, rfl⟩
          go_wp2_with fail
          refine h2.mono ?_; rintro e w1 ⟨rfl, rfl⟩
          go_wp2_with fail
          refine HB.out.mono ?_; rintro e w1 ⟨rfl, rfl⟩
          go_wp2_with fail
          refine hW2.mono ?_; rintro e w1 ⟨rfl, rfl⟩
          go_wp2
          exact blk_at res_Get hbx rfl rfl ⟨rfl, hk⟩
end Go.Proofs.Ytnldmhljggcnpaa
