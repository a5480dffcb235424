import Derived.Test.YtnldmhljggcnpaaBytes
import Derived.Test.YtnldmhljggcnpaaBks
namespace Go.Proofs.Ytnldmhljggcnpaa
set_option linter.unusedSimpArgs false
set_option linter.unusedVariables false
open Go.RowKit Cantle

/-! ### rows of blocks that are one's own -/
def OwnK (w : World) (v : Value) (l : List Blk) : Prop := w.ownsRow 0 57 3 v l.length (bks l)
theorem OwnK.rd {w : World} {v : Value} {l : List Blk} (h : OwnK w v l) : Rd w (fun i => v.ownBlock = some i) v l.length (bks l) := Rd.ofOwn h
theorem OwnK.keep {S : Nat → Prop} {w w' : World} {v : Value} {l : List Blk} (h : OwnK w v l) (k : Keep S w w') (hs : ∀ i, v.ownBlock = some i → ¬ S i) : OwnK w' v l := k.owns hs h
theorem OwnK.keepNo {w w' : World} {v : Value} {l : List Blk} (h : OwnK w v l) (k : Keep No w w') : OwnK w' v l := h.keep k (fun _ _ q => q)
theorem OwnK.lt {w : World} {v : Value} {l : List Blk} (h : OwnK w v l) : ∀ k, v.ownBlock = some k → k < w.heap.size := fun k hk => (World.ownsRow.lt h k hk).2
theorem OwnK.nil (w : World) : OwnK w (.slice none 0 0) [] := World.ownsRow_nil w 0 _ 3
theorem info_blk : (Try.prog.info? 57).map (fun i => (i.zero, i.size, i.bytes)) = some (some (.agg #[.int .i64 0, .int .i64 0, .bool false]), 3, 24) := by kernel_rfl
theorem append_blk {w : World} {v : Value} {l : List Blk} (ho : OwnK w v l) (x : Blk) (hm : l.length ≤ 1000000) (ty : TypeId) :
    ∃ g cap w', (Builtin.append_ #[22, 22] ty #[v, .slice (some ⟨w.heap.size, 0, none⟩) 1 1]).run Try.prog (w.alloc (.cells #[.int .i64 x.off, .int .i64 x.size, .bool x.used] 57)) = .ok (.slice (some ⟨g, 0, none⟩) (l.length + 1) cap) w' ∧
      OwnK w' (.slice (some ⟨g, 0, none⟩) (l.length + 1) cap) (l ++ [x]) ∧ Keep (fun i => v.ownBlock = some i) w w' ∧ (v.ownBlock = some g ∨ w.heap.size < g) ∧ g < w'.heap.size := by
  obtain ⟨i0, hi, hz0, hz1, hz2⟩ := info_parts info_blk
  have ka := keep_alloc w (.cells #[.int .i64 x.off, .int .i64 x.size, .bool x.used] 57)
  have hx : Rd (w.alloc (.cells #[.int .i64 x.off, .int .i64 x.size, .bool x.used] 57)) (fun _ => True) (.slice (some ⟨w.heap.size, 0, none⟩) 1 1) 1 (bks [x]) :=
    ⟨_, 1, rfl, Nat.le_refl _, by omega, fun _ => ⟨w.heap.size, 0, rfl, trivial, by simp, fun j u hu => by
      rw [cell_blk (heap_alloc_new w _), Nat.zero_add]
      simpa [bks, blkC] using hu⟩⟩
  obtain ⟨v', w', hr, h⟩ := append_own (P := Try.prog) _ 0 22 ty 57 i0 (.agg #[.int .i64 0, .int .i64 0, .bool false]) 3 24 Try.underlying22 hi hz0 hz1 hz2 rfl (by decide) v _ _ (ho.keepNo ka) _ _ _ _ hx rfl
    (bks_one _) (by unfold maxLen; omega) (by omega) (Nat.zero_le _)
  obtain ⟨g, cap, rfl, _, hg⟩ := h.own.form (by omega)
  refine ⟨g, cap, w', hr, ?_, (ka.no).trans h.keep, ?_, hg⟩
  · have := h.own
    unfold OwnK
    rwa [bks_append, List.length_append]
  · rcases h.lies g rfl with h | h
    · exact .inl h
    · right; simp at h; omega
theorem Rd.blkAt {w : World} {F : Nat → Prop} {v : Value} {l : List Blk} (h : Rd w F v l.length (bks l)) (hp : 0 < l.length) :
    ∃ b o cap, v = .slice (some ⟨b, o, none⟩) l.length cap ∧ F b ∧ b < w.heap.size ∧ ∀ k (hk : k < l.length), w.cell? ⟨b, o + k * 3, none⟩ = some (.int .i64 l[k].off) ∧ w.cell? ⟨b, o + k * 3 + 1, none⟩ = some (.int .i64 l[k].size) ∧ w.cell? ⟨b, o + k * 3 + 2, none⟩ = some (.bool l[k].used) := by
  obtain ⟨b, o, cap, rfl, _, _, hF, hb, hc⟩ := h.cells (by rw [bks_length]; omega)
  exact ⟨b, o, cap, rfl, hF, hb, fun k hk => Rd.blk hc k hk⟩
end Go.Proofs.Ytnldmhljggcnpaa
