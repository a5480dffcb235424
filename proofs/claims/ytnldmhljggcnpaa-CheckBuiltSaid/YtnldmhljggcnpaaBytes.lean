import Derived.Test.YtnldmhljggcnpaaWord2
import Derived.Test.YtnldmhljggcnpaaShelf
import Derived.Lib.SliceRun
namespace Go.Proofs.Ytnldmhljggcnpaa
set_option linter.unusedSimpArgs false
set_option linter.unusedVariables false
open Go.RowKit Cantle

/-! ### bytes as a string -/
def strOf (l : List UInt8) : ByteArray := ⟨l.toArray⟩
theorem strOf_inj {a b : List UInt8} (h : strOf a = strOf b) : a = b := by
  have := congrArg (fun x => x.data.toList) h
  simpa [strOf] using this
theorem strOf_data (l : List UInt8) : (strOf l).data.toList = l := by simp [strOf]
theorem strOf_size (l : List UInt8) : (strOf l).size = l.length := by simp [strOf, ByteArray.size]
theorem strOfNums_nat (l : List UInt8) : strOfNums (l.map fun x => (x.toNat : Int)) = strOf l := by
  unfold strOfNums strOf
  rw [List.map_map]
  congr 2
  conv => rhs; rw [← List.map_id l]
  apply List.map_congr_left
  intro x _
  simp
theorem conv_nums {w : World} {F : Nat → Prop} {v : Value} {l : List UInt8} (hr : Rd w F v l.length (bv l)) :
    (convert 24 9 v).run Try.prog w = .ok (.string (strOfNums (l.map fun x => (x.toNat : Int)))) w := by
  obtain ⟨A, cap, rfl, h1, h2, h3⟩ := hr
  by_cases h0 : l = []
  · subst h0
    cases A with
    | none => rw [run_convert_bytes_nil w 24 5 Try.underlying24 Try.underlying5 _ _ 9 Try.underlying9]; rfl
    | some a =>
      simp only [List.length_nil]
      rw [run_convert_bytes_string w 24 9 5 _ _ cap Try.underlying24 Try.underlying5 Try.underlying9,
        run_bytesToString w a 0 cap [] (by simp [loadCells, loadCellsFrom])]
      simp [strOfNums, ByteArray.empty, ByteArray.emptyWithCapacity]
      rfl
  · obtain ⟨b, o, rfl, _, _, hc⟩ := h3 (by intro h; exact h0 (by simpa [bv] using h))
    refine run_convert_bytes_arg w 24 5 Try.underlying24 Try.underlying5 b o _ cap _ (by simp) (fun i hi => ?_) 9 Try.underlying9
    rw [hc i _ (bv_get? l i hi)]
    simp [List.getD_eq_getElem?_getD, List.getElem?_map, List.getElem?_eq_getElem hi]
theorem conv_str {w : World} {F : Nat → Prop} {v : Value} {l : List UInt8} (hr : Rd w F v l.length (bv l)) :
    (convert 24 9 v).run Try.prog w = .ok (.string (strOf l)) w := by rw [conv_nums hr, strOfNums_nat]
theorem str_beq (a b : List UInt8) : ((strOf a).toList == (strOf b).toList) = decide (a = b) := by
  rw [Bool.eq_iff_iff]
  simp only [beq_iff_eq, decide_eq_true_eq]
  constructor
  · intro h
    have h2 : (strOf a).toList = (strOf b).toList := h
    have e : ∀ l : List UInt8, (strOf l).toList = l := fun l => (ByteArray.toList_eq _).trans (strOf_data l)
    rwa [e, e] at h2
  · rintro rfl; rfl
theorem bytes_Equal {w : World} {F G : Nat → Prop} {v u : Value} {a b : List UInt8} (ha : Rd w F v a.length (bv a)) (hb : Rd w G u b.length (bv b)) :
    Calls Try.prog 85 #[v, u] w fun e w' => e = .returned (.bool (decide (a = b))) ∧ w = w' :=
  (Try.bytes_Equal_strs v u _ _ w (conv_str ha) (conv_str hb)).mono fun e w' ⟨h1, h2⟩ => ⟨by rw [h1, str_beq], h2.symm⟩
/-! ### copies -/
theorem owns_empty (w : World) : OwnB (w.alloc (.cells #[] 5)) (.slice (some ⟨w.heap.size, 0, none⟩) 0 0) [] :=
  ⟨rfl, .inr ⟨w.heap.size, 0, #[], rfl, Nat.zero_le _, heap_alloc_new w _, Nat.le_refl _, by decide, rfl, rfl⟩⟩
/-- a new row, owned: blocks that were not there -/
structure NewO (w w' : World) (v : Value) (l : List UInt8) : Prop where
  keep : Keep No w w'
  own : OwnB w' v l
  ge : ∀ k, v.ownBlock = some k → w.heap.size ≤ k
theorem NewO.rd {w w' : World} {v : Value} {l : List UInt8} (h : NewO w w' v l) : Rd w' (fun i => w.heap.size ≤ i) v l.length (bv l) :=
  h.own.rd.mono fun i _ hi => h.ge i hi
theorem NewB.newO {w w' : World} {v : Value} {l : List UInt8} (h : NewB w w' v l) : NewO w w' v l := ⟨h.keep, h.ownB, h.ge⟩
set_option maxHeartbeats 400000 in
set_option maxRecDepth 100000 in
theorem bytes_Clone {w : World} {F : Nat → Prop} {v : Value} {l : List UInt8} (hr : Rd w F v l.length (bv l)) (hm : l.length ≤ 140737488355328) :
    Calls Try.prog 92 #[v] w fun e w' => ∃ v', e = .returned v' ∧ NewO w w' v' l := by
  have hr2 := hr
  obtain ⟨A, cap, rfl, h1, h2, h3⟩ := hr
  have hnil := fun w => Lib.run_eql_slice_nil (P := Try.prog) w 24 5 A l.length cap 0 0 Try.underlying24
  cases A with
  | none =>
    have hl : l = [] := by
      by_cases h : l = []
      · exact h
      · obtain ⟨b, o, e, _⟩ := h3 (by intro q; exact h (by simpa [bv] using q)); cases e
    subst hl
    clear h3 hr2
    simp only [List.length_nil, Option.isNone_none] at hnil ⊢
    go_enter Try.func92, Try.ntmps92
    go_wp2
    go_ret
    exact ⟨_, rfl, Keep.refl _ _, OwnB.nil w, fun k h => by simp [Value.ownBlock] at h⟩
  | some a =>
    clear h3
    simp only [Option.isNone_some] at hnil
    obtain ⟨v', w2, hrun, g1, g2, g3⟩ := append_bytes (owns_empty w) (hr2.keepNo (keep_alloc w _)) (by simpa using hm) 24
    go_enter Try.func92, Try.ntmps92
    go_wp2_with (at_builtin; refine Lib.wpList_append_run _ rfl (.tmp 5) (.tmp 6) 24 24 rfl _ _ rfl rfl _ _ hrun ?_)
    go_ret
    refine ⟨_, rfl, (keep_alloc w _).then g2 (fun i hi e => ?_), g1, fun k hk => ?_⟩
    · have : w.heap.size = i := Option.some.inj e
      omega
    · rcases g3 k hk with h | h
      · have : w.heap.size = k := Option.some.inj h
        omega
      · simp at h; omega
set_option maxHeartbeats 400000 in
set_option maxRecDepth 100000 in
theorem slices_Clone {w : World} {F : Nat → Prop} {v : Value} {l : List UInt8} (hr : Rd w F v l.length (bv l)) (hm : l.length ≤ 140737488355328) :
    Calls Try.prog 144 #[v] w fun e w' => ∃ v', e = .returned v' ∧ NewO w w' v' l := by
  have hr2 := hr
  obtain ⟨A, cap, rfl, h1, h2, h3⟩ := hr
  have hnil := fun w => Lib.run_eql_slice_nil (P := Try.prog) w 24 5 A l.length cap 0 0 Try.underlying24
  cases A with
  | none =>
    have hl : l = [] := by
      by_cases h : l = []
      · exact h
      · obtain ⟨b, o, e, _⟩ := h3 (by intro q; exact h (by simpa [bv] using q)); cases e
    subst hl
    clear h3 hr2
    simp only [List.length_nil, Option.isNone_none] at hnil ⊢
    go_enter Try.func144, Try.ntmps144
    go_wp2
    go_ret
    exact ⟨_, rfl, Keep.refl _ _, OwnB.nil w, fun k h => by simp [Value.ownBlock] at h⟩
  | some a =>
    clear h3
    simp only [Option.isNone_some] at hnil
    obtain ⟨v', w2, hrun, g1, g2, g3⟩ := append_bytes (owns_empty w) (hr2.keepNo (keep_alloc w _)) (by simpa using hm) 24
    go_enter Try.func144, Try.ntmps144
    go_wp2_with (at_builtin; refine Lib.wpList_append_run _ rfl (.tmp 5) (.tmp 6) 24 24 rfl _ _ rfl rfl _ _ hrun ?_)
    go_ret
    refine ⟨_, rfl, (keep_alloc w _).then g2 (fun i hi e => ?_), g1, fun k hk => ?_⟩
    · have : w.heap.size = i := Option.some.inj e
      omega
    · rcases g3 k hk with h | h
      · have : w.heap.size = k := Option.some.inj h
        omega
      · simp at h; omega
/-! ### bytes.Join, nothing between -/
theorem lens_flatten (d : List (List UInt8)) : Lib.lens d = d.flatten.length := by
  simp [Lib.lens, List.length_flatten]
theorem join_nil (d : List (List UInt8)) : Lib.join d [] = d.flatten := by
  simp only [Lib.join]
  induction d with
  | nil => rfl
  | cons x d ih => cases d with
    | nil => simp [List.intercalate]
    | cons y d => simp [List.intercalate, List.intersperse] at ih ⊢; exact ih
theorem fresh_cells {w : World} {l : List UInt8} {g cap : Nat} {zs : List Int} (h1 : l.length ≤ cap) (h3 : zs.length = cap) (h4 : ∀ x ∈ zs, 0 ≤ x ∧ x < 256) (h5 : Lib.bytesOf (zs.take l.length) = l)
    (h6 : ∀ i, i < cap → w.cell? ⟨g, i, none⟩ = some (.int .u8 (zs.getD i 0))) (j : Nat) (u : Value) (hu : (bv l)[j]? = some u) : w.cell? ⟨g, j, none⟩ = some u := by
  have hj : j < l.length := by have := (List.getElem?_eq_some_iff.1 hu).1; rwa [bv_length] at this
  rw [bv_get? l j hj] at hu
  rw [h6 j (by omega), ← hu]
  have e : l[j]? = ((zs.take l.length).map fun n => UInt8.ofNat n.toNat)[j]? := by
    conv => lhs; rw [← h5]
    rfl
  rw [List.getElem?_map, List.getElem?_take, if_pos hj, List.getElem?_eq_getElem hj, List.getElem?_eq_getElem (by omega), Option.map_some] at e
  have hz := h4 (zs[j]'(by omega)) (List.getElem_mem _)
  rw [Option.some.inj e]
  simp [List.getD_eq_getElem?_getD, List.getElem?_eq_getElem (show j < zs.length by omega)]
  omega
theorem fresh_rd {B : Nat} {w : World} {v : Value} {l : List UInt8} (h : Lib.FreshBytes B w v l) : Rd w (fun i => B ≤ i) v l.length (bv l) := by
  obtain ⟨g, cap, zs, rfl, hB, h1, h2, h3, h4, h5, h6, h7⟩ := h
  refine ⟨_, cap, rfl, h1, maxLen_le h2, fun hn => ⟨g, 0, rfl, hB, ?_, fun j u hu => by rw [Nat.zero_add]; exact fresh_cells h1 h3 h4 h5 h6 j u hu⟩⟩
  have hpos : 0 < l.length := by cases l with | nil => simp [bv] at hn | cons => simp
  exact block_lt_of_cell (h6 0 (by omega))
end Go.Proofs.Ytnldmhljggcnpaa
