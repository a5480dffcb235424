import Derived.Test.YtnldmhljggcnpaaPlainB
/-!
  Plain Lean: an arena whose lists are right; what putting, taking, and making the lists anew do to it.
-/
namespace Cantle
set_option linter.unusedSimpArgs false
set_option linter.unusedVariables false

def upd (L : Nat → List Int) (c : Nat) (v : List Int) : Nat → List Int := fun d => if d = c then v else L d
theorem upd_self (L : Nat → List Int) (c : Nat) (v : List Int) : upd L c v c = v := if_pos rfl
theorem upd_ne (L : Nat → List Int) {c d : Nat} (v : List Int) (h : d ≠ c) : upd L c v d = L d := if_neg h
/-- the blocks l stand one behind the other, and the lists L of some of the free ones are linked right -/
structure Inv (b : List UInt8) (l : List Blk) (L : Nat → List Int) : Prop where
  wk : walk b = some l
  dl : ∀ c, c < 22 → dll b 0 (num b (hd c)) (L c)
  bit : ∀ c, c < 22 → (num b 0).testBit c = decide (L c ≠ [])
  mem : ∀ c, c < 22 → ∀ o ∈ L c, ∃ x ∈ l, x.off = o ∧ x.used = false ∧ cls x.size = c
  nd : ∀ c, c < 22 → (L c).Nodup
  top : num b 0 < 2 ^ 22
  len : b.length ≤ 16384
theorem Inv.len0 {b : List UInt8} {l : List Blk} {L : Nat → List Int} (h : Inv b l L) : 184 ≤ b.length := (walk_iff.1 h.wk).1
theorem Inv.st {b : List UInt8} {l : List Blk} {L : Nat → List Int} (h : Inv b l L) {x : Blk} (hx : x ∈ l) : Stands b x := (walk_mem h.wk hx).2
theorem member_of {b : List UInt8} {x : Blk} {c : Int} (h : bget b x.off = some x) (hu : x.used = false) (hc : cls x.size = c) (hl : b.length ≤ 16384) : member b x.off.toNat c = true := by
  have hs := bget_stands h
  have h1 := hs.lo
  have h2 := hs.hi
  have h3 := hs.s1
  unfold member
  rw [show ((x.off.toNat : Nat) : Int) = x.off from by omega, h]
  simp [hu, hc]
  omega
theorem Inv.member {b : List UInt8} {l : List Blk} {L : Nat → List Int} (h : Inv b l L) {c : Nat} (hc : c < 22) {o : Int} (ho : o ∈ L c) : member b o.toNat c = true := by
  obtain ⟨x, hx, rfl, hu, hk⟩ := h.mem c hc o ho
  exact member_of (walk_mem h.wk hx).1 hu hk h.len
theorem offs_bound {n : Nat} {l : List Int} (hn : l.Nodup) (h : ∀ o ∈ l, 0 ≤ o ∧ o < n) : l.length ≤ n := by
  have := length_le_of_sub (m := (List.range n).map fun i : Nat => (i : Int)) hn fun o ho => by
    have := h o ho
    rw [List.mem_map]
    exact ⟨o.toNat, List.mem_range.2 (by omega), by omega⟩
  simpa using this
theorem Inv.few {b : List UInt8} {l : List Blk} {L : Nat → List Int} (h : Inv b l L) {c : Nat} (hc : c < 22) : (L c).length ≤ 1024 := by
  have hb : ((L c).map fun o => o / 16).length ≤ 1024 := by
    refine offs_bound ?_ ?_
    · rw [List.Nodup, List.pairwise_map]
      have hp := h.nd c hc
      have hm := h.mem c hc
      rw [List.Nodup] at hp
      refine hp.imp_of_mem ?_
      intro x y hx hy hne
      obtain ⟨x', hx', rfl, _, _⟩ := hm x hx
      obtain ⟨y', hy', rfl, _, _⟩ := hm y hy
      have a1 := (h.st hx').m
      have a2 := (h.st hy').m
      intro e; apply hne; omega
    · intro o ho
      obtain ⟨x, hx, rfl⟩ := List.mem_map.1 ho
      obtain ⟨x', hx', rfl, _, _⟩ := h.mem c hc x hx
      have a1 := (h.st hx').lo
      have a2 := (h.st hx').hi
      have a3 := (h.st hx').s1
      have a4 := h.len
      omega
  rwa [List.length_map] at hb
theorem Inv.lall {b : List UInt8} {l : List Blk} {L : Nat → List Int} (h : Inv b l L) {c : Nat} (hc : c < 22) : lall b c = some (L c) := by
  unfold Cantle.lall
  have hh := dll_head (h.dl c hc)
  rw [if_neg (by have := h.len0; omega), if_neg, chain_iff]
  · exact ⟨h.dl c hc, h.few hc, fun o ho => h.member hc ho⟩
  · rw [h.bit c hc]
    simp [hh]
theorem put_nums {b b2 b3 : List UInt8} {c o first : Nat} (hc : c < 22) (hb : 184 ≤ b.length) (ho : 184 ≤ o) (ho8 : o % 8 = 0) (ho2 : o + 24 ≤ b.length) (hfl : first < 18446744073709551616) (hol : o < 18446744073709551616)
    (hf1 : first ≠ 0 → 184 ≤ first ∧ first % 8 = 0 ∧ first + 24 ≤ b.length) (e2 : b2 = lay (lay b (o + 8) first) (o + 16) 0) (e3 : b3 = if first = 0 then b2 else lay b2 (first + 16) o) (hw : num b 0 < 2 ^ 22) :
    (mark (lay b3 (hd c) o) c).length = b.length ∧ (∀ s, s % 8 = 0 → num (mark (lay b3 (hd c) o) c) s = if s = 0 then setBit (num b 0) c else if s = hd c then o else if first ≠ 0 ∧ s = first + 16 then o else if s = o + 16 then 0 else if s = o + 8 then first else num b s) ∧
    (∀ i, (184 ≤ i ∧ (i < o + 8 ∨ o + 24 ≤ i) ∧ (first = 0 ∨ i < first + 16 ∨ first + 24 ≤ i)) → (mark (lay b3 (hd c) o) c)[i]? = b[i]?) := by
  have hd8 : hd c % 8 = 0 := by unfold hd; omega
  have hdb : hd c + 8 ≤ 184 := by unfold hd; omega
  have hd0 : hd c ≠ 0 := by unfold hd; omega
  have l1 : (lay b (o + 8) first).length = b.length := lay_length ..
  have l2 : b2.length = b.length := by rw [e2, lay_length, lay_length]
  have l3 : b3.length = b.length := by rw [e3]; split; exact l2; rw [lay_length]; exact l2
  have l4 : (lay b3 (hd c) o).length = b.length := by rw [lay_length]; exact l3
  have n1 : ∀ s, s % 8 = 0 → num (lay b (o + 8) first) s = if s = o + 8 then first else num b s := fun s hs => num_lay (by omega) hs (by omega) hfl
  have n2 : ∀ s, s % 8 = 0 → num b2 s = if s = o + 16 then 0 else if s = o + 8 then first else num b s := fun s hs => by
    rw [e2, num_lay (by omega) hs (by omega) (by decide), n1 s hs]
  have n3 : ∀ s, s % 8 = 0 → num b3 s = if first ≠ 0 ∧ s = first + 16 then o else if s = o + 16 then 0 else if s = o + 8 then first else num b s := fun s hs => by
    rw [e3]
    by_cases h0 : first = 0
    · rw [if_pos h0, n2 s hs, if_neg (c := first ≠ 0 ∧ _) (by intro h; exact h.1 h0)]
    · have := hf1 h0
      rw [if_neg h0, num_lay (by omega) hs (by omega) hol, n2 s hs]
      by_cases e : s = first + 16
      · rw [if_pos e, if_pos ⟨h0, e⟩]
      · rw [if_neg e, if_neg (c := first ≠ 0 ∧ _) (fun h => e h.2)]
  have n4 : ∀ s, s % 8 = 0 → num (lay b3 (hd c) o) s = if s = hd c then o else if first ≠ 0 ∧ s = first + 16 then o else if s = o + 16 then 0 else if s = o + 8 then first else num b s := fun s hs => by
    rw [num_lay (by omega) hs (by omega) hol, n3 s hs]
  have h0 : num (lay b3 (hd c) o) 0 = num b 0 := by
    rw [n4 0 rfl, if_neg (by omega), if_neg, if_neg (by omega), if_neg (by omega)]
    intro h; have := hf1 h.1; omega
  have hh : num (lay b3 (hd c) o) (hd c) = o := by rw [n4 _ hd8, if_pos rfl]
  have hm : mark (lay b3 (hd c) o) c = lay (lay b3 (hd c) o) 0 (setBit (num b 0) c) := by
    unfold mark; rw [hh, if_neg (by omega), h0]
  have hsl : setBit (num b 0) c < 18446744073709551616 := Nat.lt_of_lt_of_le (setBit_lt hw hc) (by decide)
  refine ⟨by rw [hm, lay_length, l4], fun s hs => ?_, fun i hi => ?_⟩
  · rw [hm, num_lay rfl hs (by omega) hsl, n4 s hs]
  · rw [hm, lay_get (.inr (by omega)), lay_get (.inr (by omega)), e3]
    have : b2[i]? = b[i]? := by rw [e2, lay_get (by omega), lay_get (by omega)]
    split
    · exact this
    · rw [lay_get (by omega)]; exact this
/-- the free block is put -/
theorem Inv.put {b : List UInt8} {l : List Blk} {L : Nat → List Int} (h : Inv b l L) {x : Blk} (hx : x ∈ l) (hu : x.used = false) {c : Nat} (hcx : cls x.size = c) (hc : c < 22) (hn : x.off ∉ L c) :
    ∃ b', lput b x.off = some b' ∧ Inv b' l (upd L c (x.off :: L c)) ∧ b'.length = b.length ∧ (∀ y ∈ l, y.used = true → ∀ i : Nat, y.off ≤ i → (i : Int) < y.off + y.size → b'[i]? = b[i]?) := by
  obtain ⟨hg, hs⟩ := walk_mem h.wk hx
  have a1 := hs.lo; have a2 := hs.m; have a3 := hs.hi; have a4 := hs.s1; have a5 := hs.s2; have a6 := hs.s3
  have hlen := h.len
  have hlen0 := h.len0
  have hdl := h.dl c hc
  have hfree : freeC b x.off = some c := by unfold freeC; rw [hg]; simp [hu, hcx]
  have hfm : num b (hd c) ≠ 0 → ((num b (hd c) : Nat) : Int) ∈ L c := dll_head_mem hdl
  have hfs : num b (hd c) ≠ 0 → ∃ y ∈ l, y.off = (num b (hd c) : Nat) ∧ y.used = false ∧ cls y.size = c := fun h0 => h.mem c hc _ (hfm h0)
  have hfb : num b (hd c) ≠ 0 → 184 ≤ num b (hd c) ∧ num b (hd c) % 8 = 0 ∧ num b (hd c) + 24 ≤ b.length := fun h0 => by
    obtain ⟨y, hy, e, _⟩ := hfs h0
    have k0 := h.st hy
    have := k0.lo; have := k0.m; have := k0.hi; have := k0.s1
    omega
  have hcond : ¬ ((num b (hd c) : Int) = x.off ∨ (num b (hd c) ≠ 0 ∧ Cantle.member b (num b (hd c)) c = false)) := by
    rintro (e | ⟨h0, hm⟩)
    · have h0 : num b (hd c) ≠ 0 := by omega
      exact hn (e ▸ hfm h0)
    · have := h.member hc (hfm h0)
      rw [Int.toNat_natCast, hm] at this; cases this
  have hlp : ∃ b2 b3, b2 = lay (lay b (x.off.toNat + 8) (num b (hd c))) (x.off.toNat + 16) 0 ∧ b3 = (if num b (hd c) = 0 then b2 else lay b2 (num b (hd c) + 16) x.off.toNat) ∧ lput b x.off = some (mark (lay b3 (hd c) x.off.toNat) c) := by
    refine ⟨_, _, rfl, rfl, ?_⟩
    unfold lput
    rw [hfree]
    simp only
    rw [if_neg hcond]
  obtain ⟨b2, b3, e2, e3, hlp⟩ := hlp
  have hfl := num_lt b (hd c)
  generalize hF : num b (hd c) = first at *
  obtain ⟨p1, p2, p3⟩ := put_nums (o := x.off.toNat) hc hlen0 (by omega) (by omega) (by omega) hfl (by omega) hfb e2 e3 h.top
  generalize mark (lay b3 (hd c) x.off.toNat) c = b' at *
  have hox : ((x.off.toNat : Nat) : Int) = x.off := by omega
  have hdc : ∀ d, d < 22 → hd d % 8 = 0 ∧ 8 ≤ hd d ∧ hd d + 8 ≤ 184 ∧ (hd d = hd c ↔ d = c) := fun d hd' => by unfold hd; omega
  have hdc' := hdc c hc
  -- slots of other blocks
  have hslot : ∀ y ∈ l, ∀ s : Nat, s % 8 = 0 → (s = y.off.toNat ∨ s = y.off.toNat + y.size.toNat - 8) → num b' s = num b s := by
    intro y hy s hs8 hs2
    have hys := h.st hy
    have b1 := hys.lo; have b2' := hys.m; have b3' := hys.hi; have b4 := hys.s1; have b5 := hys.s3
    have hd1 := walk_cases h.wk hx hy
    rw [p2 s hs8, if_neg (by omega), if_neg (by omega), if_neg, if_neg, if_neg]
    · rcases hd1 with e | e | e
      · subst e; omega
      · omega
      · omega
    · rcases hd1 with e | e | e
      · subst e; omega
      · omega
      · omega
    · rintro ⟨h0, e⟩
      obtain ⟨z, hz, ez, _⟩ := hfs h0
      have hzs := h.st hz
      have c1 := hzs.lo; have c2 := hzs.m; have c3 := hzs.s1; have c4 := hzs.s3
      have hd2 := walk_cases h.wk hz hy
      rcases hd2 with e' | e' | e'
      · subst e'; omega
      · omega
      · omega
  have hwk : walk b' = some l := walk_congr p1 h.wk fun y hy => by
    have hys := h.st hy
    have b1 := hys.lo; have b2' := hys.m; have b3' := hys.s1; have b5 := hys.s3
    exact ⟨hslot y hy _ (by omega) (.inl rfl), hslot y hy _ (by omega) (.inr rfl)⟩
  -- links of listed blocks
  have hlink : ∀ d, d < 22 → ∀ o ∈ L d, (o ≠ x.off → num b' (o.toNat + 8) = num b (o.toNat + 8)) ∧ (o ≠ x.off → o ≠ (first : Int) → num b' (o.toNat + 16) = num b (o.toNat + 16)) := by
    intro d hd' o ho
    obtain ⟨y, hy, rfl, hyu, hyc⟩ := h.mem d hd' o ho
    have hys := h.st hy
    have b1 := hys.lo; have b2' := hys.m; have b3' := hys.s1
    constructor
    · intro hne
      rw [p2 _ (by omega), if_neg (by omega), if_neg (by omega), if_neg, if_neg (by omega), if_neg (by omega)]
      rintro ⟨h0, e⟩
      have := hfb h0
      obtain ⟨z, hz, ez, _⟩ := hfs h0
      have := (h.st hz).m
      omega
    · intro hne hnf
      rw [p2 _ (by omega), if_neg (by omega), if_neg (by omega), if_neg (by omega), if_neg (by omega), if_neg (by omega)]
  have hoc : ∀ d, d < 22 → d ≠ c → ∀ o ∈ L d, o ≠ x.off ∧ o ≠ (first : Int) := by
    intro d hd' hne o ho
    obtain ⟨y, hy, rfl, hyu, hyc⟩ := h.mem d hd' o ho
    constructor
    · intro e
      have := walk_off h.wk hy hx e
      subst this
      omega
    · intro e
      have h0 : first ≠ 0 := by have := (h.st hy).lo; omega
      obtain ⟨z, hz, ez, _, hzc⟩ := hfs h0
      have := walk_off h.wk hy hz (by omega)
      subst this
      omega
  refine ⟨b', hlp, ⟨hwk, ?_, ?_, ?_, ?_, ?_, by omega⟩, p1, ?_⟩
  · intro d hd'
    by_cases e : d = c
    · subst e
      rw [upd_self, p2 _ hdc'.1, if_neg (by omega), if_pos rfl]
      have key := dll_put (o := x.off.toNat) (b' := b') hdl (h.nd d hc) (by omega) ?_ ?_ ?_ ?_ ?_
      · rwa [hox] at key
      · rw [p2 _ (by omega), if_neg (by omega), if_neg (by omega), if_neg, if_neg (by omega), if_pos rfl]
        rintro ⟨h0, e⟩
        obtain ⟨z, hz, ez, _⟩ := hfs h0
        have := (h.st hz).m
        omega
      · rw [p2 _ (by omega), if_neg (by omega), if_neg (by omega), if_neg, if_pos rfl]
        rintro ⟨h0, e⟩
        exact hcond (.inl (by omega))
      · intro h0
        have := hfb h0
        rw [p2 _ (by omega), if_neg (by omega), if_neg (by omega), if_pos ⟨h0, rfl⟩]
      · intro o ho
        exact (hlink d hc o ho).1 (fun e => hn (e ▸ ho))
      · intro o ho hne
        exact (hlink d hc o ho).2 (fun e => hn (e ▸ ho)) hne
    · rw [upd_ne _ _ e]
      have := hdc d hd'
      have hh : num b' (hd d) = num b (hd d) := by
        rw [p2 _ this.1, if_neg (by omega), if_neg (fun e' => e (this.2.2.2.1 e')), if_neg, if_neg (by omega), if_neg (by omega)]
        rintro ⟨h0, e'⟩
        have := hfb h0
        omega
      rw [hh]
      exact dll_congr (h.dl d hd') fun o ho => ⟨(hlink d hd' o ho).2 (hoc d hd' e o ho).1 (hoc d hd' e o ho).2, (hlink d hd' o ho).1 (hoc d hd' e o ho).1⟩
  · intro d hd'
    rw [p2 0 rfl, if_pos rfl, setBit_test, h.bit d hd']
    by_cases e : d = c
    · subst e; rw [upd_self]; simp
    · rw [upd_ne _ _ e]; simp [Ne.symm e]
  · intro d hd' o ho
    by_cases e : d = c
    · subst e
      rw [upd_self] at ho
      rcases List.mem_cons.1 ho with rfl | ho
      · exact ⟨x, hx, rfl, hu, hcx⟩
      · exact h.mem d hc o ho
    · rw [upd_ne _ _ e] at ho
      exact h.mem d hd' o ho
  · intro d hd'
    by_cases e : d = c
    · subst e
      rw [upd_self]
      exact List.nodup_cons.2 ⟨hn, h.nd d hc⟩
    · rw [upd_ne _ _ e]; exact h.nd d hd'
  · rw [p2 0 rfl, if_pos rfl]
    exact setBit_lt h.top hc
  · intro y hy hyu i h1 h2
    have hys := h.st hy
    have b1 := hys.lo
    refine p3 i ⟨by omega, ?_, ?_⟩
    · rcases walk_cases h.wk hx hy with e | e | e
      · subst e; rw [hu] at hyu; cases hyu
      · omega
      · omega
    · by_cases h0 : first = 0
      · exact .inl h0
      · obtain ⟨z, hz, ez, hzu, _⟩ := hfs h0
        have c3 := (h.st hz).s1
        have c4 := (h.st hz).s3
        rcases walk_cases h.wk hz hy with e | e | e
        · subst e; rw [hzu] at hyu; cases hyu
        · omega
        · omega
end Cantle
