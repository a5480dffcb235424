import Derived.Test.YtnldmhljggcnpaaPlainA
/-!
  Plain Lean: blocks one behind the other; lists that are linked both ways; what putting and taking do to them.
-/
namespace Cantle
set_option linter.unusedSimpArgs false
set_option linter.unusedVariables false

/-! ### blocks one behind the other -/
def tlp (b : List UInt8) : Int → List Blk → Prop
  | _, [] => True
  | o, x :: r => bget b o = some x ∧ tlp b (o + x.size) r
def ends : Int → List Blk → Int
  | o, [] => o
  | o, x :: r => ends (o + x.size) r
theorem ends_append (o : Int) (l m : List Blk) : ends o (l ++ m) = ends (ends o l) m := by
  induction l generalizing o with
  | nil => rfl
  | cons x l ih => exact ih _
theorem tlp_append {b : List UInt8} {o : Int} {l m : List Blk} : tlp b o (l ++ m) ↔ tlp b o l ∧ tlp b (ends o l) m := by
  induction l generalizing o with
  | nil => simp [tlp, ends]
  | cons x l ih => simp only [List.cons_append, tlp, ends, ih, and_assoc]
theorem tlp_le {b : List UInt8} {o : Int} {l : List Blk} (h : tlp b o l) (ho : o ≤ b.length) : o ≤ ends o l ∧ ends o l ≤ b.length := by
  induction l generalizing o with
  | nil => exact ⟨Int.le_refl _, ho⟩
  | cons x l ih =>
    obtain ⟨h1, h2⟩ := h
    obtain ⟨_, _, _, h3, h4, _⟩ := bget_some h1
    have := (isSize_iff _).1 h4
    have := ih h2 h3
    exact ⟨by show o ≤ ends (o + x.size) l; omega, this.2⟩
theorem walkGo_iff {b : List UInt8} {l : List Blk} {k : Nat} {o : Int} (hk : (b.length : Int) ≤ o + k) (ho : o ≤ b.length) : walkGo b k o = some l ↔ tlp b o l ∧ ends o l = b.length := by
  induction k generalizing o l with
  | zero =>
    cases l with
    | nil => simp [walkGo, tlp, ends]; omega
    | cons x l =>
      simp only [walkGo]
      constructor
      · intro h; cases h
      · intro ⟨h, h5⟩
        obtain ⟨h1, _⟩ := h
        obtain ⟨_, _, _, h3, h4, _⟩ := bget_some h1
        have := (isSize_iff _).1 h4
        omega
  | succ k ih =>
    unfold walkGo
    by_cases hlt : o < b.length
    · rw [if_pos hlt]
      cases hb : bget b o with
      | none =>
        simp only
        constructor
        · intro h; cases h
        · intro ⟨h, h5⟩
          cases l with
          | nil => have : o = b.length := h5; omega
          | cons x l => rw [h.1] at hb; cases hb
      | some x =>
        simp only
        obtain ⟨_, _, _, h3, h4, _⟩ := bget_some hb
        have := (isSize_iff _).1 h4
        cases l with
        | nil =>
          constructor
          · intro h; simp at h
          · intro ⟨_, h5⟩; have : o = b.length := h5; omega
        | cons y l =>
          rw [Option.map_eq_some_iff]
          constructor
          · intro ⟨r, hr, e⟩
            obtain ⟨rfl, rfl⟩ := List.cons.inj e
            obtain ⟨h1, h2⟩ := (ih (by omega) h3).1 hr
            exact ⟨⟨hb, h1⟩, h2⟩
          · intro ⟨⟨h1, h2⟩, h5⟩
            rw [hb] at h1
            obtain rfl := Option.some.inj h1
            exact ⟨l, (ih (by omega) h3).2 ⟨h2, h5⟩, rfl⟩
    · rw [if_neg hlt]
      cases l with
      | nil => simp [tlp, ends]; omega
      | cons x l =>
        constructor
        · intro h; cases h
        · intro ⟨h, h5⟩
          obtain ⟨h1, _⟩ := h
          obtain ⟨_, _, _, h3, h4, _⟩ := bget_some h1
          have := (isSize_iff _).1 h4
          omega
theorem walk_iff {b : List UInt8} {l : List Blk} : walk b = some l ↔ 184 ≤ b.length ∧ tlp b 184 l ∧ ends 184 l = b.length := by
  unfold walk
  by_cases h : b.length < 184
  · rw [if_pos h]
    constructor
    · intro h; cases h
    · intro ⟨h, _⟩; omega
  · rw [if_neg h, walkGo_iff (by omega) (by omega)]
    constructor
    · intro h1; exact ⟨by omega, h1⟩
    · intro h1; exact h1.2
theorem tlp_mem {b : List UInt8} {o : Int} {l : List Blk} (h : tlp b o l) : ∀ x ∈ l, bget b x.off = some x ∧ o ≤ x.off := by
  induction l generalizing o with
  | nil => intro x hx; cases hx
  | cons y l ih =>
    intro x hx
    obtain ⟨h1, h2⟩ := h
    obtain ⟨rfl, _, _, h3, h4, _⟩ := bget_some h1
    have := (isSize_iff _).1 h4
    rcases List.mem_cons.1 hx with rfl | hx
    · exact ⟨h1, Int.le_refl _⟩
    · have := ih h2 x hx
      exact ⟨this.1, by omega⟩
theorem tlp_pair {b : List UInt8} {o : Int} {l : List Blk} (h : tlp b o l) : l.Pairwise fun x y => x.off + x.size ≤ y.off := by
  induction l generalizing o with
  | nil => exact List.Pairwise.nil
  | cons y l ih =>
    obtain ⟨h1, h2⟩ := h
    obtain ⟨rfl, _⟩ := bget_some h1
    exact List.Pairwise.cons (fun x hx => (tlp_mem h2 x hx).2) (ih h2)
theorem pair_cases {l : List Blk} (h : l.Pairwise fun x y => x.off + x.size ≤ y.off) {x y : Blk} (hx : x ∈ l) (hy : y ∈ l) : x = y ∨ x.off + x.size ≤ y.off ∨ y.off + y.size ≤ x.off := by
  induction h with
  | nil => cases hx
  | cons h1 _ ih =>
    rcases List.mem_cons.1 hx with e1 | hx1
    · rcases List.mem_cons.1 hy with e2 | hy1
      · exact .inl (e1.trans e2.symm)
      · subst e1; exact .inr (.inl (h1 _ hy1))
    · rcases List.mem_cons.1 hy with e2 | hy1
      · subst e2; exact .inr (.inr (h1 _ hx1))
      · exact ih hx1 hy1
theorem tlp_congr {b b' : List UInt8} {o : Int} {l : List Blk} (hl : b'.length = b.length) (h : tlp b o l) (hw : ∀ x ∈ l, num b' x.off.toNat = num b x.off.toNat ∧ num b' (x.off.toNat + x.size.toNat - 8) = num b (x.off.toNat + x.size.toNat - 8)) : tlp b' o l := by
  induction l generalizing o with
  | nil => trivial
  | cons y l ih =>
    obtain ⟨h1, h2⟩ := h
    obtain ⟨rfl, _⟩ := bget_some h1
    have hy := hw y (List.mem_cons_self ..)
    exact ⟨bget_congr h1 hl hy.1 hy.2, ih h2 fun x hx => hw x (List.mem_cons_of_mem _ hx)⟩
theorem walk_congr {b b' : List UInt8} {l : List Blk} (hl : b'.length = b.length) (h : walk b = some l) (hw : ∀ x ∈ l, num b' x.off.toNat = num b x.off.toNat ∧ num b' (x.off.toNat + x.size.toNat - 8) = num b (x.off.toNat + x.size.toNat - 8)) : walk b' = some l := by
  obtain ⟨h1, h2, h3⟩ := walk_iff.1 h
  exact walk_iff.2 ⟨by omega, tlp_congr hl h2 hw, by rw [h3, hl]⟩
/-- the places of a block -/
structure Stands (b : List UInt8) (x : Blk) : Prop where
  lo : 184 ≤ x.off
  m : x.off % 16 = 8
  hi : x.off + x.size ≤ b.length
  s1 : 32 ≤ x.size
  s2 : x.size ≤ 16384
  s3 : x.size % 16 = 0
theorem bget_stands {b : List UInt8} {o : Int} {x : Blk} (h : bget b o = some x) : Stands b x := by
  obtain ⟨rfl, h1, h2, h3, h4, _⟩ := bget_some h
  have := (isSize_iff _).1 h4
  exact ⟨h1, h2, h3, this.1, this.2.1, this.2.2⟩
theorem Stands.size {b : List UInt8} {x : Blk} (h : Stands b x) : isSize x.size = true := (isSize_iff _).2 ⟨h.s1, h.s2, h.s3⟩
theorem walk_mem {b : List UInt8} {l : List Blk} (h : walk b = some l) {x : Blk} (hx : x ∈ l) : bget b x.off = some x ∧ Stands b x := by
  have := (tlp_mem (walk_iff.1 h).2.1 x hx).1
  exact ⟨this, bget_stands this⟩
theorem walk_cases {b : List UInt8} {l : List Blk} (h : walk b = some l) {x y : Blk} (hx : x ∈ l) (hy : y ∈ l) : x = y ∨ x.off + x.size ≤ y.off ∨ y.off + y.size ≤ x.off :=
  pair_cases (tlp_pair (walk_iff.1 h).2.1) hx hy
theorem walk_off {b : List UInt8} {l : List Blk} (h : walk b = some l) {x y : Blk} (hx : x ∈ l) (hy : y ∈ l) (e : x.off = y.off) : x = y := by
  have hx1 := (walk_mem h hx).1
  rw [e, (walk_mem h hy).1] at hx1
  exact (Option.some.inj hx1).symm

/-! ### lists that are linked both ways -/
def dll (b : List UInt8) : Nat → Nat → List Int → Prop
  | _, at_, [] => at_ = 0
  | last, at_, o :: r => (at_ : Int) = o ∧ at_ ≠ 0 ∧ num b (at_ + 16) = last ∧ dll b at_ (num b (at_ + 8)) r
theorem chain_iff {b : List UInt8} {c : Int} {L : List Int} {f at_ last : Nat} : chain b c f at_ last = some L ↔ dll b last at_ L ∧ L.length ≤ f ∧ ∀ o ∈ L, member b o.toNat c = true := by
  induction f generalizing at_ last L with
  | zero =>
    unfold chain
    by_cases h : at_ = 0
    · rw [if_pos h]
      cases L with
      | nil => simp [dll, h]
      | cons o L => simp [dll, h]
    · rw [if_neg h]
      cases L with
      | nil => simp [dll, h]
      | cons o L => simp
  | succ f ih =>
    unfold chain
    by_cases h : at_ = 0
    · rw [if_pos h]
      cases L with
      | nil => simp [dll, h]
      | cons o L => simp [dll, h]
    · rw [if_neg h]
      cases L with
      | nil =>
        simp only [dll, h, false_and, iff_false]
        split <;> simp
      | cons o L =>
        split
        · rename_i hm
          rw [Option.map_eq_some_iff]
          constructor
          · intro ⟨r, hr, e⟩
            obtain ⟨rfl, rfl⟩ := List.cons.inj e
            obtain ⟨h1, h2, h3⟩ := ih.1 hr
            refine ⟨⟨rfl, h, hm.2, h1⟩, by simp; omega, fun x hx => ?_⟩
            rcases List.mem_cons.1 hx with rfl | hx
            · rw [Int.toNat_natCast]; exact hm.1
            · exact h3 x hx
          · intro ⟨⟨rfl, _, _, h1⟩, h2, h3⟩
            exact ⟨L, ih.2 ⟨h1, by simp at h2; omega, fun x hx => h3 x (List.mem_cons_of_mem _ hx)⟩, rfl⟩
        · rename_i hm
          constructor
          · intro h; cases h
          · intro ⟨⟨rfl, _, h4, h1⟩, h2, h3⟩
            have := h3 _ (List.mem_cons_self ..)
            rw [Int.toNat_natCast] at this
            exact absurd ⟨this, h4⟩ hm
theorem dll_congr {b b' : List UInt8} {L : List Int} {last at_ : Nat} (h : dll b last at_ L) (hw : ∀ o ∈ L, num b' (o.toNat + 16) = num b (o.toNat + 16) ∧ num b' (o.toNat + 8) = num b (o.toNat + 8)) : dll b' last at_ L := by
  induction L generalizing last at_ with
  | nil => exact h
  | cons o L ih =>
    obtain ⟨rfl, h1, h2, h3⟩ := h
    have ho := hw _ (List.mem_cons_self ..)
    rw [Int.toNat_natCast] at ho
    refine ⟨rfl, h1, by rw [ho.1]; exact h2, ?_⟩
    rw [ho.2]
    exact ih h3 fun x hx => hw x (List.mem_cons_of_mem _ hx)
theorem dll_pos {b : List UInt8} {L : List Int} {last at_ : Nat} (h : dll b last at_ L) : ∀ o ∈ L, 0 < o := by
  induction L generalizing last at_ with
  | nil => intro o ho; cases ho
  | cons x L ih =>
    obtain ⟨rfl, h1, h2, h3⟩ := h
    intro o ho
    rcases List.mem_cons.1 ho with rfl | ho
    · omega
    · exact ih h3 o ho
theorem dll_head {b : List UInt8} {L : List Int} {last at_ : Nat} (h : dll b last at_ L) : at_ = 0 ↔ L = [] := by
  cases L with
  | nil => simpa [dll] using h
  | cons x L =>
    obtain ⟨rfl, h1, _⟩ := h
    simp [h1]
theorem dll_head_mem {b : List UInt8} {L : List Int} {last at_ : Nat} (h : dll b last at_ L) (h0 : at_ ≠ 0) : (at_ : Int) ∈ L := by
  cases L with
  | nil => exact absurd h h0
  | cons x L => obtain ⟨rfl, _⟩ := h; exact List.mem_cons_self ..
theorem dll_put {b b' : List UInt8} {L : List Int} {first o : Nat} (h : dll b 0 first L) (hn : L.Nodup) (ho : o ≠ 0)
    (h1 : num b' (o + 8) = first) (h2 : num b' (o + 16) = 0) (h3 : first ≠ 0 → num b' (first + 16) = o) (h4 : ∀ x ∈ L, num b' (x.toNat + 8) = num b (x.toNat + 8))
    (h5 : ∀ x ∈ L, x ≠ (first : Int) → num b' (x.toNat + 16) = num b (x.toNat + 16)) : dll b' 0 o ((o : Int) :: L) := by
  refine ⟨rfl, ho, h2, ?_⟩
  rw [h1]
  cases L with
  | nil => exact h
  | cons x L =>
    obtain ⟨rfl, g1, g2, g3⟩ := h
    have e := h4 _ (List.mem_cons_self ..)
    rw [Int.toNat_natCast] at e
    refine ⟨rfl, g1, h3 g1, ?_⟩
    rw [e]
    refine dll_congr g3 fun y hy => ⟨h5 y (List.mem_cons_of_mem _ hy) ?_, h4 y (List.mem_cons_of_mem _ hy)⟩
    intro e; subst e
    exact (List.nodup_cons.1 hn).1 hy
theorem dll_prev {b : List UInt8} {pre post : List Int} {o : Int} {last at_ : Nat} (h : dll b last at_ (pre ++ o :: post)) :
    (pre = [] → num b (o.toNat + 16) = last ∧ (at_ : Int) = o) ∧ (pre ≠ [] → ((num b (o.toNat + 16) : Nat) : Int) ∈ pre) ∧ (post = [] → num b (o.toNat + 8) = 0) ∧ (post ≠ [] → ((num b (o.toNat + 8) : Nat) : Int) ∈ post) := by
  induction pre generalizing last at_ with
  | nil =>
    obtain ⟨rfl, h1, h2, h3⟩ := h
    rw [Int.toNat_natCast]
    refine ⟨fun _ => ⟨h2, rfl⟩, fun h => absurd rfl h, fun e => ?_, fun e => ?_⟩
    · subst e; exact h3
    · exact dll_head_mem h3 (fun h0 => e ((dll_head h3).1 h0))
  | cons y pre ih =>
    obtain ⟨rfl, h1, h2, h3⟩ := h
    obtain ⟨i1, i2, i3, i4⟩ := ih h3
    refine ⟨fun h => by simp at h, fun _ => ?_, i3, i4⟩
    by_cases e : pre = []
    · rw [(i1 e).1]; exact List.mem_cons_self ..
    · exact List.mem_cons_of_mem _ (i2 e)
theorem dll_take {b b' : List UInt8} {pre post : List Int} {o : Int} {last at_ : Nat} (h : dll b last at_ (pre ++ o :: post)) (hn : (pre ++ o :: post).Nodup) (hl : (last : Int) ∉ pre ++ o :: post)
    (h1 : ∀ x ∈ pre ++ post, num b' (x.toNat + 8) = if x = ((num b (o.toNat + 16) : Nat) : Int) then num b (o.toNat + 8) else num b (x.toNat + 8))
    (h2 : ∀ x ∈ pre ++ post, num b' (x.toNat + 16) = if x = ((num b (o.toNat + 8) : Nat) : Int) then num b (o.toNat + 16) else num b (x.toNat + 16)) :
    dll b' last (if pre = [] then num b (o.toNat + 8) else at_) (pre ++ post) := by
  induction pre generalizing last at_ with
  | nil =>
    obtain ⟨rfl, g1, g2, g3⟩ := h
    rw [Int.toNat_natCast] at h1 h2 ⊢
    rw [if_pos rfl, List.nil_append]
    rw [List.nil_append] at h1 h2
    cases post with
    | nil => exact g3
    | cons y post =>
      obtain ⟨e, e1, e2, e3⟩ := g3
      generalize hnx : num b (at_ + 8) = nx at *
      subst e
      have a2 := h2 _ (List.mem_cons_self ..)
      rw [if_pos rfl, g2, Int.toNat_natCast] at a2
      have a1 := h1 _ (List.mem_cons_self ..)
      rw [g2, if_neg (by intro e; simp at hl; exact hl.2.1 e.symm), Int.toNat_natCast] at a1
      refine ⟨rfl, e1, a2, ?_⟩
      rw [a1]
      refine dll_congr e3 fun z hz => ⟨?_, ?_⟩
      · rw [h2 z (List.mem_cons_of_mem _ hz), if_neg]
        intro e; subst e
        simp at hn
        exact hn.2.1 hz
      · rw [h1 z (List.mem_cons_of_mem _ hz), if_neg]
        intro e; rw [g2] at e; subst e
        simp at hl
        exact hl.2.2 hz
  | cons y pre ih =>
    have hp := dll_prev h
    obtain ⟨rfl, g1, g2, g3⟩ := h
    rw [if_neg (by simp)]
    have hn' := (List.nodup_cons.1 hn)
    have a2 := h2 _ (List.mem_cons_self ..)
    have hyn : (at_ : Int) ≠ ((num b (o.toNat + 8) : Nat) : Int) := by
      intro e
      by_cases hpo : post = []
      · have := hp.2.2.1 hpo; omega
      · have := hp.2.2.2 hpo
        rw [← e] at this
        exact hn'.1 (List.mem_append_right _ (List.mem_cons_of_mem _ this))
    rw [if_neg hyn, Int.toNat_natCast] at a2
    have a1 := h1 _ (List.mem_cons_self ..)
    rw [Int.toNat_natCast] at a1
    have hi := ih g3 hn'.2 hn'.1 (fun x hx => h1 x (List.mem_cons_of_mem _ hx)) (fun x hx => h2 x (List.mem_cons_of_mem _ hx))
    refine ⟨rfl, g1, by rw [a2]; exact g2, ?_⟩
    by_cases e : pre = []
    · subst e
      rw [if_pos rfl] at hi
      have hpr := dll_prev (pre := []) g3
      rw [if_pos (by rw [(hpr.1 rfl).1])] at a1
      rw [a1]; exact hi
    · rw [if_neg e] at hi
      have hpr := (dll_prev g3).2.1 e
      rw [if_neg (by intro e2; rw [← e2] at hpr; exact hn'.1 (List.mem_append_left _ hpr))] at a1
      rw [a1]; exact hi
theorem length_le_of_sub {α : Type} [DecidableEq α] : ∀ {l m : List α}, l.Nodup → (∀ x ∈ l, x ∈ m) → l.length ≤ m.length := by
  intro l
  induction l with
  | nil => intro m _ _; simp
  | cons a l ih =>
    intro m hn hs
    have h1 := hs a (List.mem_cons_self ..)
    have h2 : l.length ≤ (m.erase a).length := ih (List.nodup_cons.1 hn).2 fun x hx => by
      have hne : x ≠ a := fun e => (List.nodup_cons.1 hn).1 (e ▸ hx)
      exact (List.mem_erase_of_ne hne).2 (hs x (List.mem_cons_of_mem _ hx))
    rw [List.length_erase_of_mem h1] at h2
    have := List.length_pos_of_mem h1
    simp; omega
end Cantle
