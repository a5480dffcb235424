import Derived.Test.YtnldmhljggcnpaaImage1
import Derived.Test.YtnldmhljggcnpaaBks
namespace Go.Proofs.Ytnldmhljggcnpaa
set_option linter.unusedSimpArgs false
set_option linter.unusedVariables false
open Go.RowKit Cantle

set_option maxRecDepth 100000 in
set_option maxHeartbeats 400000 in
theorem image_tiles {w : World} {F : Nat → Prop} {v : Value} {l : List Blk} (hr : Rd w F v l.length (bks l)) (n : Int) (h1 : 184 ≤ n) (h2 : n ≤ 16384) :
    Calls Try.prog 91 #[.int .i64 n, v] w fun e w' => e = .returned (.bool (tilesB n l)) ∧ Keep No w w' := by
  by_cases h0 : l.length = 0
  · obtain ⟨A, cap, rfl, _, _, _⟩ := hr
    obtain rfl : l = [] := List.eq_nil_of_length_eq_zero h0
    clear h0
    have hd : tilesB n [] = ((184 : Int) == n) := rfl
    rw [hd]
    simp only [List.length_nil]
    go_enter Try.func91, Try.ntmps91
    go_wp2
    go_loop [5, 10] (fun o i => i = .int .i64 0 ∧ o = .int .i64 184) (fun _ _ => 0)
    case atStart => exact ⟨rfl, rfl⟩
    case round =>
      obtain ⟨rfl, rfl⟩ := hrel
      go_wp2
      go_ret
      exact ⟨rfl, Keep.refl _ _⟩
  obtain ⟨b, o, cap, rfl, hn1, hn2, hF, hb, hc⟩ := hr.cells (by rw [bks_length]; omega)
  have hlen : l.length ≤ 9223372036854775807 := by omega
  generalize hL : l.length = len at *
  have HL := hid hL
  clear hL h0 hn1 hn2
  go_enter Try.func91, Try.ntmps91
  go_wp2
  go_loopw [4, 5, 6, 7, 10] (fun _ x _ _ i wr => ∃ (k : Nat) (p : Int) (pf : Bool), k ≤ len ∧ i = .int .i64 k ∧ x = .int .i64 p ∧ 184 ≤ p ∧ p ≤ n ∧ Keep No w wr ∧ tilesB n l = tilesGo n p pf (l.drop k) ∧ (k = 0 → pf = false) ∧ (∀ j (h : j < l.length), j + 1 = k → pf = !l[j].used)) (fun _ _ _ _ i _ => len - (intOf i).toNat)
  case atStart => exact ⟨0, 184, false, by omega, rfl, rfl, by omega, by omega, Keep.refl _ _, rfl, fun _ => rfl, fun j h e => by omega⟩
  case round =>
    obtain ⟨k, p, pf, hk, rfl, rfl, hp1, hp2, hkw, ht, hpf0, hpf⟩ := hrel
    have HT := hid ht
    have HP := hid hpf
    have HP0 := hid hpf0
    clear ht hpf hpf0
    by_cases hlt : k < len
    · have hj : k < l.length := by rw [HL.out]; exact hlt
      obtain ⟨hc0, hc1, hc2⟩ := Rd.blk (w := w) hc k hj
      have hc0 := hkw.cell (fun q => q) hc0
      have hc1 := hkw.cell (fun q => q) hc1
      have hc2 := hkw.cell (fun q => q) hc2
      have hbw : b < wr.heap.size := Nat.lt_of_lt_of_le hb hkw.size
      generalize hx : l[k]'hj = x at *
      obtain ⟨xo, xs, xu⟩ := x
      simp only at hc0 hc1 hc2
      have hdrop : l.drop k = ⟨xo, xs, xu⟩ :: l.drop (k + 1) := by rw [List.drop_eq_getElem_cons hj, hx]
      rw [hdrop] at HT
      have hfalse : ¬ (xo = p ∧ isSize xs = true ∧ (pf && !xu) = false ∧ p + xs ≤ n) → tilesB n l = false := by
        intro h; rw [HT.out, tilesGo, if_neg (by simpa using h)]
      have htrue : xo = p ∧ isSize xs = true ∧ (pf && !xu) = false ∧ p + xs ≤ n → tilesB n l = tilesGo n (p + xs) (!xu) (l.drop (k + 1)) := by
        intro h; rw [HT.out, tilesGo, if_pos (by simpa using h)]
      have HFA := hid hfalse
      have HTR := hid htrue
      have HX := hid hx
      clear hfalse htrue hdrop hx HT
      by_cases hxo : xo = p
      · subst hxo
        have e1 : (xo != xo) = false := by simp
        by_cases hsz : isSize xs = true
        · have hsb := (isSize_iff xs).1 hsz
          obtain ⟨s1, s2, s3⟩ := hsb
          have hpk : ((pack xs xu : Nat) : Int) ≠ 0 := by rw [pack_some s1 s2 s3]; omega
          have hpk0 : (((pack xs xu : Nat) : Int) == 0) = false := by simpa using hpk
          clear hpk s3
          have hw1 : ((xo : Int) + xs > n) ∨ ¬ ((xo : Int) + xs > n) := by omega
          have hP := tag_Pack xs xu
          generalize pack xs xu = P at *
          have HPK := hid hP
          clear hP
          have hfin : ∀ (hpfu : (pf && !xu) = false), True := fun _ => trivial
          by_cases hpu : (pf && !xu) = true
          · -- two free ones
            have hk0 : k ≠ 0 := fun h => by rw [HP0.out h] at hpu; simp at hpu
            obtain ⟨m, rfl⟩ : ∃ m, k = m + 1 := ⟨k - 1, by omega⟩
            have hm : m < l.length := by omega
            have hpm := HP.out m hm rfl
            obtain rfl : xu = false := by cases xu <;> simp at hpu ⊢
            have hpt : pf = true := by simpa using hpu
            have hmu : (l[m]'hm).used = false := by rw [hpt] at hpm; cases h : (l[m]'hm).used <;> simp [h] at hpm ⊢
            have hcm := hkw.cell (fun q => q) (Rd.blk (w := w) hc m hm).2.2
            rw [hmu] at hcm
            have hres := HFA.out (fun h => by rw [h.2.2.1] at hpu; cases hpu)
            have HR := hid hres
            clear hpm hmu hpt hres hpu hw1 hsz
            go_wp2_with fail
            refine (HPK.out _).mono ?_; rintro e w' ⟨rfl, rfl⟩
            go_wp2
            go_ret
            exact ⟨by rw [HR.out]; rfl, hkw.thenNo (keep_alloc _ _)⟩
          · have hpu' : (pf && !xu) = false := by simpa using hpu
            have hprev : ∀ m, k = m + 1 → xu = false → pf = false ∧ ∃ hm : m < l.length, (l[m]'hm).used = true := by
              intro m e hu
              subst hu
              have hpff : pf = false := by simpa using hpu'
              have hm : m < l.length := by omega
              refine ⟨hpff, hm, ?_⟩
              have := HP.out m hm e.symm
              rw [hpff] at this
              simpa using this.symm
            by_cases hgt : n < xo + xs
            · have hres := HFA.out (fun h => by omega)
              have HR := hid hres
              clear hres hw1 hsz HTR HFA
              rcases Nat.eq_zero_or_pos k with hk0 | hk0
              · subst hk0
                simp only [Nat.zero_mul, Nat.add_zero] at hc0 hc1 hc2
                go_wp2_with fail
                refine (HPK.out _).mono ?_; rintro e w' ⟨rfl, rfl⟩
                go_wp2
                go_ret
                exact ⟨by rw [HR.out]; rfl, hkw.thenNo (keep_alloc _ _)⟩
              · obtain ⟨m, rfl⟩ : ∃ m, k = m + 1 := ⟨k - 1, by omega⟩
                cases xu with
                | true =>
                  go_wp2_with fail
                  refine (HPK.out _).mono ?_; rintro e w' ⟨rfl, rfl⟩
                  go_wp2
                  go_ret
                  exact ⟨by rw [HR.out]; rfl, hkw.thenNo (keep_alloc _ _)⟩
                | false =>
                  obtain ⟨_, hm, hmu⟩ := hprev m rfl rfl
                  have hcm := hkw.cell (fun q => q) (Rd.blk (w := w) hc m hm).2.2
                  rw [hmu] at hcm
                  clear hprev hmu hpu'
                  go_wp2_with fail
                  refine (HPK.out _).mono ?_; rintro e w' ⟨rfl, rfl⟩
                  go_wp2
                  go_ret
                  exact ⟨by rw [HR.out]; rfl, hkw.thenNo (keep_alloc _ _)⟩
            · have hres := HTR.out ⟨rfl, hsz, hpu', by omega⟩
              have HR := hid hres
              clear hres hw1 hsz HTR HFA
              have hrel : (∃ (k' : Nat) (p : Int) (pf : Bool), k' ≤ len ∧ ((k : Int) + 1 = k') ∧ xo + xs = p ∧ 184 ≤ p ∧ p ≤ n ∧ tilesB n l = tilesGo n p pf (l.drop k') ∧ (k' = 0 → pf = false) ∧ (∀ j (h : j < l.length), j + 1 = k' → pf = !l[j].used)) :=
                ⟨k + 1, xo + xs, !xu, by omega, by omega, rfl, by omega, by omega, HR.out, fun h => by omega, fun j h e => by
                  obtain rfl : j = k := by omega
                  rw [HX.out]⟩
              have HREL := hid hrel
              clear hrel
              rcases Nat.eq_zero_or_pos k with hk0 | hk0
              · subst hk0
                simp only [Nat.zero_mul, Nat.add_zero] at hc0 hc1 hc2
                go_wp2_with fail
                refine (HPK.out _).mono ?_; rintro e w' ⟨rfl, rfl⟩
                go_wp2
                obtain ⟨k', p, pf', g1, g2, g3, g4, g5, g6⟩ := HREL.out
                refine ⟨⟨k', p, pf', g1, by rw [← g2]; rfl, by rw [g3], g4, g5, hkw.thenNo (keep_alloc _ _), g6⟩, by simp [intOf]; omega⟩
              · obtain ⟨m, rfl⟩ : ∃ m, k = m + 1 := ⟨k - 1, by omega⟩
                cases xu with
                | true =>
                  go_wp2_with fail
                  refine (HPK.out _).mono ?_; rintro e w' ⟨rfl, rfl⟩
                  go_wp2
                  obtain ⟨k', p, pf', g1, g2, g3, g4, g5, g6⟩ := HREL.out
                  refine ⟨⟨k', p, pf', g1, by rw [← g2]; rfl, by rw [g3], g4, g5, hkw.thenNo (keep_alloc _ _), g6⟩, by simp [intOf]; omega⟩
                | false =>
                  obtain ⟨_, hm, hmu⟩ := hprev m rfl rfl
                  have hcm := hkw.cell (fun q => q) (Rd.blk (w := w) hc m hm).2.2
                  rw [hmu] at hcm
                  clear hprev hmu hpu'
                  go_wp2_with fail
                  refine (HPK.out _).mono ?_; rintro e w' ⟨rfl, rfl⟩
                  go_wp2
                  obtain ⟨k', p, pf', g1, g2, g3, g4, g5, g6⟩ := HREL.out
                  refine ⟨⟨k', p, pf', g1, by rw [← g2]; rfl, by rw [g3], g4, g5, hkw.thenNo (keep_alloc _ _), g6⟩, by simp [intOf]; omega⟩
        · have hpk : pack xs xu = 0 := by unfold pack; rw [if_neg hsz]
          have hP := tag_Pack xs xu
          rw [hpk] at hP
          have HPK := hid hP
          have hres := HFA.out (fun h => hsz h.2.1)
          have HR := hid hres
          clear hres hpk hP
          go_wp2_with fail
          refine (HPK.out _).mono ?_; rintro e w' ⟨rfl, rfl⟩
          go_wp2
          go_ret
          exact ⟨by rw [HR.out]; rfl, hkw.thenNo (keep_alloc _ _)⟩
      · have e1 : (xo != p) = true := by simpa [bne_iff_ne] using hxo
        have hres := HFA.out (fun h => hxo h.1)
        have HR := hid hres
        clear hres
        go_wp2
        go_ret
        exact ⟨by rw [HR.out]; rfl, hkw.thenNo (keep_alloc _ _)⟩
    · obtain rfl : k = len := by omega
      have hd : l.drop k = [] := List.drop_eq_nil_of_le (by rw [HL.out]; exact Nat.le_refl _)
      rw [hd] at HT
      have hres : tilesB n l = (p == n) := HT.out
      have HR := hid hres
      clear hd hres
      go_wp2
      go_ret
      exact ⟨by rw [HR.out]; rfl, hkw⟩
end Go.Proofs.Ytnldmhljggcnpaa
