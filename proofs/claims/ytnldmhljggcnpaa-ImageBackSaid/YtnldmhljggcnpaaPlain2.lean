import Derived.Test.YtnldmhljggcnpaaPlain1
/-!
  Plain Lean: an image and its bytes, both ways.
-/
namespace Cantle
set_option linter.unusedSimpArgs false
set_option linter.unusedVariables false

theorem low8_le {t : List UInt8} (h : t.length = 8) : low 8 (le t) = t := by rw [← h]; exact low_le t
theorem low4_le {t : List UInt8} (h : t.length = 4) : low 4 (le t) = t := by rw [← h]; exact low_le t
theorem le_low4 {v : Nat} (h : v < 2 ^ 32) : le (low 4 v) = v := by rw [le_low]; exact Nat.mod_eq_of_lt (by simpa using h)
theorem le_low8 {v : Nat} (h : v < 2 ^ 64) : le (low 8 v) = v := by rw [le_low]; exact Nat.mod_eq_of_lt (by simpa using h)

theorem beginL_length : beginL.length = 8 := rfl

/-- where a sum stands -/
theorem getN_seal (p a q : List UInt8) : getN (sealed a ++ q) a.length 4 = some (crcSum a) := by
  unfold getN sealed
  rw [if_pos (by simp [low_length]), List.append_assoc, List.drop_left' rfl, List.take_left' (low_length _ _), le_low4 (crcSum_lt a)]
theorem seal_all (X : List UInt8) : getN (sealed X) ((sealed X).length - 4) 4 = some (crcSum ((sealed X).take ((sealed X).length - 4))) := by
  have hl : (sealed X).length - 4 = X.length := by rw [sealed_length]; omega
  have ht : (sealed X).take X.length = X := by unfold sealed; exact List.take_left' rfl
  rw [hl, ht]
  have := getN_seal [] X []
  rwa [List.append_nil] at this
theorem seal_of_getN {b : List UInt8} {k : Nat} (h : getN b k 4 = some (crcSum (b.take k))) : b = sealed (b.take k) ++ b.drop (k + 4) ∧ k + 4 ≤ b.length := by
  unfold getN at h
  split at h
  · rename_i hk
    refine ⟨?_, hk⟩
    have hl : ((b.drop k).take 4).length = 4 := by rw [List.length_take, List.length_drop]; omega
    have h2 := Option.some.inj h
    unfold sealed
    rw [← h2, low4_le hl, List.append_assoc, ← List.drop_drop, List.take_append_drop, List.take_append_drop]
  · cases h

/-! ### tags -/
theorem blocksOf_tags {n : Int} : ∀ {l : List Blk} {o : Int} {pf : Bool}, tilesGo n o pf l = true → ∀ q, blocksOf l.length (tagsL l ++ q) o = some l := by
  intro l
  induction l with
  | nil => intro o pf _ q; rfl
  | cons x l ih =>
    intro o pf h q
    unfold tilesGo at h
    split at h
    · rename_i hc
      obtain ⟨h1, h2, h3, h4⟩ := hc
      have hs := (isSize_iff _).1 h2
      obtain ⟨s, hsn⟩ := Int.eq_ofNat_of_zero_le (show (0 : Int) ≤ x.size by omega)
      have hp : pack x.size x.used = s + b2n x.used := by unfold pack; rw [if_pos h2, hsn]; rfl
      have ht : tagsL (x :: l) ++ q = low 8 (pack x.size x.used) ++ (tagsL l ++ q) := by simp [tagsL]
      rw [List.length_cons, ht, blocksOf_some (s := s) (u := x.used)]
      · rw [List.drop_left' (low_length _ _), ← hsn, ih h q, ← h1]; rfl
      · rw [List.take_left' (low_length _ _), le_low8 (Nat.lt_of_lt_of_le pack_lt (by decide)), hp]
        exact unpack_pack (by rw [← hsn]; exact h2)
    · cases h
theorem tags_blocksOf : ∀ {m : Nat} {t : List UInt8} {o : Int} {l : List Blk}, t.length = 8 * m → blocksOf m t o = some l → l.length = m ∧ tagsL l = t := by
  intro m
  induction m with
  | zero => intro t o l ht h; simp [blocksOf] at h; subst h; simp at ht; subst ht; exact ⟨rfl, rfl⟩
  | succ m ih =>
    intro t o l ht h
    cases hu : unpack (le (t.take 8)) with
    | none => rw [blocksOf_none hu] at h; cases h
    | some su =>
      obtain ⟨s, u⟩ := su
      rw [blocksOf_some hu] at h
      cases hr : blocksOf m (t.drop 8) (o + s) with
      | none => rw [hr] at h; cases h
      | some r =>
        rw [hr] at h
        simp only [Option.map_some, Option.some.injEq] at h
        subst h
        obtain ⟨h1, h2⟩ := ih (by rw [List.length_drop]; omega) hr
        refine ⟨by simp [h1], ?_⟩
        have h8 : (t.take 8).length = 8 := by rw [List.length_take]; omega
        show low 8 (pack s u) ++ tagsL r = t
        rw [h2, (unpack_some hu).2.2, low8_le h8, List.take_append_drop]

/-! ### data -/
theorem dataB_len : ∀ {l : List Blk} {d : List (List UInt8)}, dataB l d = true → (d.flatten.length : Int) = dataLen l := by
  intro l
  induction l with
  | nil => intro d h; cases d with | nil => rfl | cons => simp [dataB] at h
  | cons x l ih =>
    intro d h
    unfold dataB at h
    rw [dataLen_cons]
    split at h
    · rename_i hu
      cases d with
      | nil => cases h
      | cons y d =>
        simp only at h
        split at h
        · rename_i hy
          have := ih h
          rw [if_pos hu, List.flatten_cons, List.length_append]; omega
        · cases h
    · rename_i hu
      rw [if_neg hu, ih h]; omega
theorem cutData_flatten : ∀ {l : List Blk} {d : List (List UInt8)}, dataB l d = true → ∀ q, cutData l (d.flatten ++ q) = d := by
  intro l
  induction l with
  | nil => intro d h q; cases d with | nil => rfl | cons => simp [dataB] at h
  | cons x l ih =>
    intro d h q
    unfold dataB at h
    unfold cutData
    split at h
    · rename_i hu
      cases d with
      | nil => cases h
      | cons y d =>
        simp only at h
        split at h
        · rename_i hy
          have hy' : (x.size - 16).toNat = y.length := by omega
          rw [if_pos hu, List.flatten_cons, List.append_assoc, List.take_left' hy'.symm, List.drop_left' hy'.symm, ih h q]
        · cases h
    · rename_i hu
      rw [if_neg hu]; exact ih h q
theorem dataB_cut : ∀ {l : List Blk} {b : List UInt8}, (∀ x ∈ l, isSize x.size = true) → dataLen l ≤ b.length → dataB l (cutData l b) = true ∧ (cutData l b).flatten = b.take (dataLen l).toNat := by
  intro l
  induction l with
  | nil => intro b _ _; exact ⟨rfl, by simp [cutData, dataLen]⟩
  | cons x l ih =>
    intro b hs hl
    have hs' : ∀ y ∈ l, isSize y.size = true := fun y hy => hs y (List.mem_cons_of_mem _ hy)
    have hx := (isSize_iff _).1 (hs x (List.mem_cons_self ..))
    have hn := dataLen_nonneg hs'
    rw [dataLen_cons] at hl ⊢
    unfold cutData dataB
    by_cases hu : x.used = true
    · simp only [if_pos hu] at hl ⊢
      have hb : dataLen l ≤ (b.drop (x.size - 16).toNat).length := by rw [List.length_drop]; omega
      obtain ⟨h1, h2⟩ := ih hs' hb
      refine ⟨?_, ?_⟩
      · rw [if_pos (by rw [List.length_take]; omega)]; exact h1
      · rw [List.flatten_cons, h2, show (x.size - 16 + dataLen l).toNat = (x.size - 16).toNat + (dataLen l).toNat from by omega, List.take_add]
    · simp only [if_neg hu] at hl ⊢
      obtain ⟨h1, h2⟩ := ih (b := b) hs' (by omega)
      exact ⟨h1, by rw [h2]; congr 1; omega⟩

/-! ### both ways -/
theorem tiles_len {n : Int} : ∀ {l : List Blk} {o : Int} {pf : Bool}, tilesGo n o pf l = true → o + 32 * l.length ≤ n := by
  intro l
  induction l with
  | nil => intro o pf h; simp [tilesGo] at h; simp; omega
  | cons x l ih =>
    intro o pf h
    unfold tilesGo at h
    split at h
    · rename_i hc
      have := (isSize_iff _).1 hc.2.1
      have := ih h
      simp only [List.length_cons]; omega
    · cases h
theorem mayB_few {n : Int} {l : List Blk} {d : List (List UInt8)} (h : mayB n l d = true) : l.length ≤ 507 := by
  have h1 := (longB_iff _).1 (mayB_iff.1 h).1
  have h2 := tiles_len (mayB_iff.1 h).2.1
  omega
theorem putL_length (n : Int) (l : List Blk) (d : List (List UInt8)) : (putL n l d).length = 40 + 8 * l.length + d.flatten.length := by
  simp only [putL, sealed_length, List.length_append, headL_length, tagsL_length]; omega
theorem get_put {n : Int} {l : List Blk} {d : List (List UInt8)} (h : mayB n l d = true) : getL (putL n l d) = .ok n.toNat l d := by
  obtain ⟨hlong, htile, hdat⟩ := mayB_iff.1 h
  have hlg := (longB_iff _).1 hlong
  have hfew := mayB_few h
  have hlen := putL_length n l d
  have hdl := dataB_len hdat
  have hH := headL_length n l.length
  have hT := tagsL_length l
  have hhead : headL n l.length = beginL ++ (low 8 n.toNat ++ low 8 l.length) := by simp [headL, beginL]
  generalize hb : putL n l d = b at *
  have e1 : b = sealed (headL n l.length) ++ (sealed (tagsL l) ++ (sealed d.flatten ++ low 4 (crcSum (sealed (headL n l.length) ++ sealed (tagsL l) ++ sealed d.flatten)))) := by
    rw [← hb]; unfold putL; rw [sealed, List.append_assoc, List.append_assoc]
  have e2 : b = headL n l.length ++ (low 4 (crcSum (headL n l.length)) ++ (sealed (tagsL l) ++ (sealed d.flatten ++ low 4 (crcSum (sealed (headL n l.length) ++ sealed (tagsL l) ++ sealed d.flatten))))) := by
    rw [e1]; simp only [sealed, List.append_assoc]
  have t24 : b.take 24 = headL n l.length := by rw [e2]; exact List.take_left' hH
  have g24 : getN b 24 4 = some (crcSum (b.take 24)) := by
    rw [t24]
    have := getN_seal [] (headL n l.length) (sealed (tagsL l) ++ (sealed d.flatten ++ low 4 (crcSum (sealed (headL n l.length) ++ sealed (tagsL l) ++ sealed d.flatten))))
    rwa [← e1, hH] at this
  have t8 : b.take 8 = beginL := by
    have : b.take 8 = (b.take 24).take 8 := by rw [List.take_take]; rfl
    rw [this, t24, hhead]; exact List.take_left' rfl
  have d8 : (b.drop 8).take 8 = low 8 n.toNat := by
    rw [e2, hhead, List.append_assoc, List.drop_left' beginL_length, List.append_assoc, List.take_left' (low_length _ _)]
  have d16 : (b.drop 16).take 8 = low 8 l.length := by
    rw [show (16 : Nat) = 8 + 8 from rfl, ← List.drop_drop, e2, hhead, List.append_assoc, List.drop_left' beginL_length, List.append_assoc, List.drop_left' (low_length _ _), List.take_left' (low_length _ _)]
  have d28 : b.drop 28 = sealed (tagsL l) ++ (sealed d.flatten ++ low 4 (crcSum (sealed (headL n l.length) ++ sealed (tagsL l) ++ sealed d.flatten))) := by
    rw [e1]; exact List.drop_left' (by rw [sealed_length, hH])
  have t28 : (b.drop 28).take (8 * l.length) = tagsL l := by
    rw [d28, sealed, List.append_assoc]; exact List.take_left' hT
  have g28 : getN (b.drop 28) (8 * l.length) 4 = some (crcSum (tagsL l)) := by
    rw [d28, ← hT]; exact getN_seal [] _ _
  have drest : b.drop (28 + 8 * l.length + 4) = sealed d.flatten ++ low 4 (crcSum (sealed (headL n l.length) ++ sealed (tagsL l) ++ sealed d.flatten)) := by
    rw [Nat.add_assoc, ← List.drop_drop, d28]; exact List.drop_left' (by rw [sealed_length, hT])
  have hsz : le (low 8 n.toNat) = n.toNat := le_low8 (by omega)
  have hmn : le (low 8 l.length) = l.length := le_low8 (by omega)
  have hn : ((n.toNat : Nat) : Int) = n := by omega
  have hdn : (dataLen l).toNat = d.flatten.length := by omega
  unfold getL
  rw [if_neg (by rintro (q | q); omega; exact q t8), if_neg (fun q => q g24), d8, d16, hsz, hmn]
  unfold getL2
  rw [if_neg (by rw [hn, hlong]; rintro (q | q | q | q); omega; cases q; omega; omega)]
  unfold getL2b
  rw [t28, g28, if_neg (fun q => q rfl)]
  have hbo := blocksOf_tags htile []
  rw [List.append_nil] at hbo
  rw [hbo]
  show getL3 b n.toNat l (b.drop (28 + 8 * l.length + 4)) = _
  unfold getL3
  rw [hn, htile, if_neg (by rintro (q | q); cases q; apply q; rw [drest, List.length_append, sealed_length, low_length]; omega)]
  rw [hdn, drest]
  have hall : getN b (b.length - 4) 4 = some (crcSum (b.take (b.length - 4))) := by
    rw [← hb]; exact seal_all _
  have htk : (sealed d.flatten ++ low 4 (crcSum (sealed (headL n l.length) ++ sealed (tagsL l) ++ sealed d.flatten))).take d.flatten.length = d.flatten := by
    rw [sealed, List.append_assoc]; exact List.take_left' rfl
  rw [htk, getN_seal [], if_neg (by rintro (q | q); exact q rfl; exact q hall)]
  congr 1
  rw [sealed, List.append_assoc]
  exact cutData_flatten hdat _

theorem put_get {b : List UInt8} {n : Nat} {l : List Blk} {d : List (List UInt8)} (h : getL b = .ok n l d) : mayB n l d = true ∧ putL n l d = b ∧ l.length ≤ 507 ∧ d.flatten.length + 40 ≤ b.length := by
  unfold getL at h
  split at h
  · cases h
  rename_i c1
  split at h
  · cases h
  rename_i c2
  have h28 : 28 ≤ b.length := by omega
  have t8 : b.take 8 = beginL := Classical.byContradiction fun q => c1 (.inr q)
  obtain ⟨s24, _⟩ := seal_of_getN (Classical.byContradiction fun q => c2 q : getN b 24 4 = some (crcSum (b.take 24)))
  unfold getL2 at h
  split at h
  · cases h
  rename_i c3
  unfold getL2b at h
  split at h
  · cases h
  rename_i c4
  generalize hm : le ((b.drop 16).take 8) = m at *
  generalize hs : le ((b.drop 8).take 8) = sz at *
  obtain ⟨s28, _⟩ := seal_of_getN (Classical.byContradiction fun q => c4 q : getN (b.drop 28) (8 * m) 4 = some (crcSum ((b.drop 28).take (8 * m))))
  have hlong : longB sz = true := by
    cases hq : longB (sz : Int) with
    | true => rfl
    | false => exact absurd (.inr (.inl hq)) c3
  have hm2 : m ≤ 1024 := by omega
  have hbl : 28 + 8 * m + 4 ≤ b.length := by omega
  split at h
  · cases h
  rename_i l' hl'
  have htl : ((b.drop 28).take (8 * m)).length = 8 * m := by rw [List.length_take, List.length_drop]; omega
  obtain ⟨hlm, htags⟩ := tags_blocksOf htl hl'
  unfold getL3 at h
  split at h
  · cases h
  rename_i c5
  split at h
  · cases h
  rename_i c6
  injection h with e1 e2 e3
  subst e1; subst e2
  generalize hrest : b.drop (28 + 8 * m + 4) = rest at *
  have htile : tilesB sz l' = true := by
    cases hq : tilesB (sz : Int) l' with
    | true => rfl
    | false => exact absurd (.inl hq) c5
  have hrl : (rest.length : Int) = dataLen l' + 8 := Classical.byContradiction fun q => c5 (.inr q)
  have hsz := fun x hx => tilesGo_size htile x hx
  have hnn := dataLen_nonneg hsz
  obtain ⟨hdb, hfl⟩ := dataB_cut hsz (show dataLen l' ≤ rest.length by omega)
  rw [e3] at hdb hfl
  have hmay : mayB sz l' d = true := mayB_iff.2 ⟨hlong, htile, hdb⟩
  have hdl := dataB_len hdb
  obtain ⟨sD, _⟩ := seal_of_getN (Classical.byContradiction fun q => c6 (.inl q) : getN rest (dataLen l').toNat 4 = some (crcSum (rest.take (dataLen l').toNat)))
  obtain ⟨sA, _⟩ := seal_of_getN (Classical.byContradiction fun q => c6 (.inr q) : getN b (b.length - 4) 4 = some (crcSum (b.take (b.length - 4))))
  rw [← hfl] at sD
  have hrlen : rest.length = b.length - (28 + 8 * m + 4) := by rw [← hrest, List.length_drop]
  refine ⟨hmay, ?_, mayB_few hmay, by omega⟩
  have h24 : b.take 24 = headL sz l'.length := by
    have a1 : b.take 24 = b.take 8 ++ ((b.drop 8).take 8 ++ (b.drop 16).take 8) := by
      rw [show (24 : Nat) = 8 + 16 from rfl, List.take_add, show (16 : Nat) = 8 + 8 from rfl, List.take_add (l := b.drop 8), List.drop_drop]
    have l1 : ((b.drop 8).take 8).length = 8 := by rw [List.length_take, List.length_drop]; omega
    have l2 : ((b.drop 16).take 8).length = 8 := by rw [List.length_take, List.length_drop]; omega
    rw [a1, t8, ← low8_le l1, ← low8_le l2, hm, hs, hlm]
    simp [headL, beginL]
  have hX : b.take (b.length - 4) = sealed (headL sz l'.length) ++ sealed (tagsL l') ++ sealed d.flatten := by
    have e28 : b.drop 28 = sealed (tagsL l') ++ rest := by
      rw [htags, ← hrest]
      have := s28
      rw [List.drop_drop] at this
      exact this
    have eb : b = (sealed (headL sz l'.length) ++ sealed (tagsL l') ++ sealed d.flatten) ++ rest.drop ((dataLen l').toNat + 4) := by
      conv => lhs; rw [s24, h24, e28, sD]
      simp only [List.append_assoc]
    have hq : (rest.drop ((dataLen l').toNat + 4)).length = 4 := by rw [List.length_drop]; omega
    generalize sealed (headL sz l'.length) ++ sealed (tagsL l') ++ sealed d.flatten = X at *
    have hXl : X.length = b.length - 4 := by
      have := congrArg List.length eb
      rw [List.length_append, hq] at this; omega
    rw [← hXl]
    conv => lhs; rw [eb]
    exact List.take_left' rfl
  unfold putL
  rw [← hX]
  have hq : b.drop (b.length - 4 + 4) = [] := List.drop_eq_nil_of_le (by omega)
  rw [hq, List.append_nil] at sA
  exact sA.symm

/-- no image's bytes begin another's -/
theorem put_prefix {n n' : Nat} {l l' : List Blk} {d d' : List (List UInt8)} {q : List UInt8} (h : mayB n l d = true) (h' : mayB n' l' d' = true) (e : putL n l d ++ q = putL n' l' d') : q = [] := by
  obtain ⟨a1, a2, a3⟩ := mayB_iff.1 h
  obtain ⟨b1, b2, b3⟩ := mayB_iff.1 h'
  have hf := mayB_few h
  have hf' := mayB_few h'
  have hl := putL_length n l d
  have hl' := putL_length n' l' d'
  unfold putL at e
  simp only [sealed, List.append_assoc] at e
  obtain ⟨eh, e⟩ := List.append_inj e (by rw [headL_length, headL_length])
  have hmany : l.length = l'.length := by
    unfold headL at eh
    have := (List.append_inj' eh (by rw [low_length, low_length])).2
    have := congrArg le this
    rwa [le_low8 (by omega), le_low8 (by omega)] at this
  obtain ⟨_, e⟩ := List.append_inj e (by rw [low_length, low_length])
  obtain ⟨et, e⟩ := List.append_inj e (by rw [tagsL_length, tagsL_length, hmany])
  have hll : l = l' := by
    have t1 := blocksOf_tags a2 []
    have t2 := blocksOf_tags b2 []
    rw [et, hmany] at t1
    exact Option.some.inj (t1.symm.trans t2)
  have d1 := dataB_len a3
  have d2 := dataB_len b3
  subst hll
  apply List.eq_nil_of_length_eq_zero
  have := congrArg List.length (show putL n l d ++ q = putL n' l d' by unfold putL; simp only [sealed, List.append_assoc]; rw [eh, et] at *; simp_all)
  rw [List.length_append, hl, hl'] at this
  omega
end Cantle
