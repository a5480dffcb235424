import Derived.Test.YtnldmhljggcnpaaSl
namespace Go.Proofs.Ytnldmhljggcnpaa
set_option linter.unusedSimpArgs false
set_option linter.unusedVariables false
open Go.RowKit Cantle

/-- a piece of bytes that are read -/
theorem Rd.piece {w : World} {F : Nat → Prop} {b o cap : Nat} {l : List UInt8} (h2 : cap ≤ 9223372036854775807) (hF : F b) (hb : b < w.heap.size)
    (hc : ∀ j u, (bv l)[j]? = some u → w.cell? ⟨b, o + j, none⟩ = some u) (lo n : Nat) (h1 : lo + n ≤ l.length) (hl : l.length ≤ cap) :
    Rd w F (.slice (some ⟨b, o + lo, none⟩) n (cap - lo)) ((l.drop lo).take n).length (bv ((l.drop lo).take n)) := by
  have hlen : ((l.drop lo).take n).length = n := by rw [List.length_take, List.length_drop]; omega
  refine ⟨some ⟨b, o + lo, none⟩, cap - lo, by rw [hlen], by omega, by omega, fun _ => ⟨b, o + lo, rfl, hF, hb, fun j u hu => ?_⟩⟩
  rw [Nat.add_assoc]
  apply hc
  rw [bv, List.getElem?_map] at hu ⊢
  have hj : j < n := by
    rcases Nat.lt_or_ge j n with h | h
    · exact h
    · rw [List.getElem?_eq_none (by rw [hlen]; exact h)] at hu; simp at hu
  rw [List.getElem?_take, if_pos hj, List.getElem?_drop] at hu
  exact hu

theorem Rd.head {w : World} {F : Nat → Prop} {b o cap : Nat} {l : List UInt8} (h2 : cap ≤ 9223372036854775807) (hF : F b) (hb : b < w.heap.size)
    (hc : ∀ j u, (bv l)[j]? = some u → w.cell? ⟨b, o + j, none⟩ = some u) (n : Nat) (h1 : n ≤ l.length) (hl : l.length ≤ cap) :
    Rd w F (.slice (some ⟨b, o, none⟩) n cap) (l.take n).length (bv (l.take n)) := by
  have := Rd.piece h2 hF hb hc 0 n (by omega) hl
  simpa using this
theorem info_img : (Try.prog.info? 29).map (·.size) = some 3 := by kernel_rfl
theorem get_done {R : Ending → World → Prop} {tmps : Array Value} {wx : World} {B0 : Nat} {a b c e : Value} {cs : Array Value} (hg : wx.heap[B0]? = some (.cells cs 29 (0, 0))) (hs : cs.size = 3)
    (hp : tmps.getD 2 undef = .pointer (some ⟨B0, 0, none⟩)) (he : tmps.getD 3 undef = e)
    (hR : Keep (fun i => i = B0) wx (((wx.setCell ⟨B0, 0, none⟩ a).setCell ⟨B0, 1, none⟩ b).setCell ⟨B0, 2, none⟩ c) → R (.returned (.tuple #[.agg #[a, b, c], e])) (((wx.setCell ⟨B0, 0, none⟩ a).setCell ⟨B0, 1, none⟩ b).setCell ⟨B0, 2, none⟩ c)) :
    bodyPost Try.prog Try.f19 R .ret ⟨tmps, []⟩ (((wx.setCell ⟨B0, 0, none⟩ a).setCell ⟨B0, 1, none⟩ b).setCell ⟨B0, 2, none⟩ c) := by
  have hW : (((wx.setCell ⟨B0, 0, none⟩ a).setCell ⟨B0, 1, none⟩ b).setCell ⟨B0, 2, none⟩ c).heap[B0]? = some (.cells #[a, b, c] 29 (0, 0)) := by
    rw [setCell_blk (setCell_blk (setCell_blk hg 0 a) 1 b) 2 c]
    match cs, hs with
    | ⟨[x, y, z]⟩, _ => rfl
  have hp' : tmps[2]?.getD undef = .pointer (some ⟨B0, 0, none⟩) := by simpa using hp
  have he' : tmps[3]?.getD undef = e := by simpa using he
  refine bodyPost_ret (v := .tuple #[.agg #[a, b, c], e]) ?_ rfl (hR (((Keep.setCell (S := fun i => i = B0) _ _ _ rfl).trans (Keep.setCell _ _ _ rfl)).trans (Keep.setCell _ _ _ rfl)))
  have hl := run_loadVar_row (P := Try.prog) _ B0 29 29 #[a, b, c] (0, 0) _ hW Try.underlying29 rfl info_img
  simp [results, Try.results19, hp', he', asAddr, hl]

set_option maxHeartbeats 2000000 in
set_option maxRecDepth 100000 in
theorem image_Get_3a {w : World} {F : Nat → Prop} {v : Value} {b : List UInt8} (hr : Rd w F v b.length (bv b)) (h28 : b.length < 28) :
    Calls Try.prog 19 #[v] w fun e w' => e = .returned (.tuple #[.agg #[.int .i64 0, .slice none 0 0, .slice none 0 0], errV 3]) ∧ Keep No w w' := by
  obtain ⟨A, cap, rfl, h1, h2, h3⟩ := hr
  have hd : decide ((b.length : Int) < 28) = true := by simp; omega
  generalize b.length = len at *
  go_enter Try.func19, Try.ntmps19
  go_wp2
  go_quiet (fail)
  go_wp2
  exact get_done (heap_alloc_new w _) rfl rfl rfl fun k => ⟨rfl, ((keep_alloc w _).thenNo (Keep.drewN _ _ _)).then k (fun i hi e => by omega)⟩
theorem box3 {w : World} {g : Nat} {x y z : Value} {e : TypeId} (h : w.heap[g]? = some (.cells #[x, y, z] e (0, 0))) :
    w.cell? ⟨g, 0, none⟩ = some x ∧ w.cell? ⟨g, 1, none⟩ = some y ∧ w.cell? ⟨g, 2, none⟩ = some z ∧ w.frozen? ⟨g, 0, none⟩ = false ∧ w.frozen? ⟨g, 1, none⟩ = false ∧ w.frozen? ⟨g, 2, none⟩ = false ∧ g < w.heap.size :=
  ⟨(cell_blk h 0).trans rfl, (cell_blk h 1).trans rfl, (cell_blk h 2).trans rfl, frozen_blk h 0, frozen_blk h 1, frozen_blk h 2, lt_blk h⟩
def GetPost : GetR → World → Ending → World → Prop
  | .err c, w, e, w' => e = .returned (.tuple #[.agg #[.int .i64 0, .slice none 0 0, .slice none 0 0], errV c]) ∧ Keep No w w'
  | .ok n l d, w, e, w' => ∃ vb vd, e = .returned (.tuple #[.agg #[.int .i64 n, vb, vd], .nilIface]) ∧ Keep No w w' ∧ Rd w' (fun i => w.heap.size ≤ i) vb l.length (bks l) ∧ RdD w' (fun i => w.heap.size ≤ i) vd d

/-- what holds ahead of each round over the tags -/
def L1 (w5 wr : World) (BM size many k : Nat) (tags : List UInt8) (vB : Value) (bl : List Blk) (P D : Int) : Prop :=
  wr.heap[BM]? = some (.cells #[.int .i64 size, vB, .slice none 0 0] 29 (0, 0)) ∧ OwnK wr vB bl ∧ bl.length = k ∧ Keep No w5 wr ∧ (∀ i, vB.ownBlock = some i → BM < i) ∧
  184 ≤ P ∧ P ≤ 184 + 16384 * k ∧ 0 ≤ D ∧ D ≤ 16384 * k ∧ D = dataLen bl ∧ blocksOf many tags 184 = (blocksOf (many - k) (tags.drop (8 * k)) P).map (bl ++ ·)
theorem L1.next {w5 wr w' : World} {BM size many k : Nat} {tags : List UInt8} {vB : Value} {bl : List Blk} {P D : Int} (h : L1 w5 wr BM size many k tags vB bl P D) (hk : k < many) {s : Nat} {u : Bool}
    (hu : unpack (le ((tags.drop (8 * k)).take 8)) = some (s, u)) {g cap : Nat} (hw : w'.heap[BM]? = some (.cells #[.int .i64 size, .slice (some ⟨g, 0, none⟩) (bl.length + 1) cap, .slice none 0 0] 29 (0, 0)))
    (ho : OwnK w' (.slice (some ⟨g, 0, none⟩) (bl.length + 1) cap) (bl ++ [⟨P, s, u⟩])) (hkp : Keep No w5 w') (hg : BM < g) (D' : Int) (hD : D' = D + if u then (s : Int) - 16 else 0) :
    L1 w5 w' BM size many (k + 1) tags (.slice (some ⟨g, 0, none⟩) (bl.length + 1) cap) (bl ++ [⟨P, s, u⟩]) (P + s) D' := by
  obtain ⟨h1, h2, h3, h4, h5, h6, h7, h8, h9, h10, h11⟩ := h
  have hs := (isSize_iff _).1 (unpack_some hu).1
  refine ⟨hw, ho, by rw [List.length_append, h3]; rfl, hkp, fun i hi => by have : g = i := Option.some.inj hi; omega, by omega, by omega, ?_, ?_, ?_, ?_⟩
  · rw [hD]; split <;> omega
  · rw [hD]; split <;> omega
  · rw [dataLen_append, hD, h10]; simp [dataLen]
  · rw [h11, show many - k = (many - (k + 1)) + 1 from by omega, blocksOf_some hu, Option.map_map, List.drop_drop, show 8 * k + 8 = 8 * (k + 1) from by omega]
    congr 1
    funext r
    simp

theorem bytes_Clone2 {w : World} {F : Nat → Prop} {v : Value} {l : List UInt8} (hr : Rd w F v l.length (bv l)) (hm : l.length ≤ 140737488355328) :
    Calls Try.prog 92 #[v] w fun e w' => ∃ A c, e = .returned (.slice A l.length c) ∧ NewO w w' (.slice A l.length c) l :=
  (bytes_Clone hr hm).mono fun e w' ⟨v', h1, h2⟩ => by
    obtain ⟨A, c, e2, _⟩ := h2.own.rd
    subst e2
    exact ⟨A, c, h1, h2⟩
/-- what holds ahead of each round over the blocks -/
def L2 (w w11 wz : World) (F : Nat → Prop) (BM size : Nat) (vB : Value) (bl : List Blk) (rest : List UInt8) (k : Nat) (r vD : Value) (dl : List (List UInt8)) (rem : List UInt8) : Prop :=
  wz.heap[BM]? = some (.cells #[.int .i64 size, vB, vD] 29 (0, 0)) ∧ OwnD wz (fun j => w11.heap.size ≤ j) vD dl ∧ Keep (fun i => i = BM) w11 wz ∧ (∀ i, vD.ownBlock = some i → w11.heap.size ≤ i) ∧
  Rd w F r rem.length (bv rem) ∧ cutData bl rest = dl ++ cutData (bl.drop k) rem ∧ (rem.length : Int) = dataLen (bl.drop k) + 8 ∧ dl.length ≤ k

set_option maxHeartbeats 4000000 in
set_option maxRecDepth 100000 in
theorem image_Get_28 {w : World} {F : Nat → Prop} {v : Value} {b : List UInt8} (hr : Rd w F v b.length (bv b)) (h28 : 28 ≤ b.length) (hmx : b.length ≤ 1000000) :
    Calls Try.prog 19 #[v] w (GetPost (getL b) w) := by
  obtain ⟨g, o, cap, rfl, h1, h2, hF, hg, hc⟩ := hr.cells (by rw [bv_length]; omega)
  have hg0 := hg
  have hd : decide ((b.length : Int) < 28) = false := by simp; omega
  have hcap : 28 ≤ cap := by omega
  have hcap8 : (8 : Int) ≤ (cap : Int) := by omega
  have hcap24 : (24 : Int) ≤ (cap : Int) := by omega
  have hR8 : ∀ wx, Keep No w wx → Rd wx F (.slice (some ⟨g, o, none⟩) 8 cap) (b.take 8).length (bv (b.take 8)) := fun wx k => (Rd.head h2 hF hg hc 8 (by omega) h1).keepNo k
  have hR24 : ∀ wx, Keep No w wx → Rd wx F (.slice (some ⟨g, o, none⟩) 24 cap) (b.take 24).length (bv (b.take 24)) := fun wx k => (Rd.head h2 hF hg hc 24 (by omega) h1).keepNo k
  have hRb : ∀ wx, Keep No w wx → Rd wx F (.slice (some ⟨g, o, none⟩) b.length cap) b.length (bv b) := fun wx k => hr.keepNo k
  have H8 := hid hR8
  have H24 := hid hR24
  have Hb := hid hRb
  clear hR8 hR24 hRb hr
  generalize hL : b.length = len at *
  have HL := hid hL
  clear hL
  have k0 := keep_alloc w (.cells #[.int .i64 0, .slice none 0 0, .slice none 0 0] 29)
  have hB0 := heap_alloc_new w (.cells #[.int .i64 0, .slice none 0 0, .slice none 0 0] 29)
  by_cases hbeg : b.take 8 = beginL
  · have hdb : decide (b.take 8 = beginL) = true := by simpa using hbeg
    have HE : ∀ {wx va}, Keep No w wx → Rd wx (fun _ => True) va beginL.length (bv beginL) → Calls Try.prog 85 #[.slice (some ⟨g, o, none⟩) 8 cap, va] wx fun e w' => e = .returned (.bool true) ∧ wx = w' := by
      intro wx va k ha
      have := bytes_Equal (H8.out wx k) ha
      rwa [hdb] at this
    have HE2 := hid (fun wx va => @HE wx va)
    clear HE hdb
    go_enter Try.func19, Try.ntmps19
    go_upto_region 1 with fail
    go_cut [30] (fun q wx => q = .bool false ∧ Keep No (w.alloc (.cells #[.int .i64 0, .slice none 0 0, .slice none 0 0] 29)) wx)
    case first =>
      go_region_held3 (fun _ => True) (trivial)
        (first
          | (go_at_call 86; refine (image_begin _).mono ?_; rintro e wa ⟨va, rfl, hA⟩)
          | (go_at_call 85; refine (HE2.out _ _ ((k0.thenNo (Keep.drew _ _)).thenNo hA.keep) (hA.rd.mono (fun _ _ _ => trivial))).mono ?_; rintro e wb ⟨rfl, rfl⟩))
      all_goals
        go_wp2_with fail
        go_meet
        case rel => exact ⟨rfl, (Keep.drew _ _).trans hA.keep⟩
    case rest =>
      obtain ⟨rfl, kc⟩ := hcut
      have kw := k0.thenNo kc
      have hBc := kc.heap (fun q => q) hB0
      generalize hBn : w.heap.size = B at *
      have hb' : ∀ wx, Keep No w wx → Rd wx F (.slice (some ⟨g, o, none⟩) len cap) b.length (bv b) := fun wx k => by rw [HL.out]; exact Hb.out _ k
      have Hb' := hid hb'
      clear hb'
      have hs24 := image_sound (H24.out _ kw) (Hb'.out _ kw)
      have hwl : ((List.take 24 b).length) = 24 := by rw [List.length_take, HL.out]; omega
      rw [hwl] at hs24
      by_cases hsum : getN b 24 4 = some (crcSum (b.take 24))
      · rw [show decide (getN b 24 4 = some (crcSum (b.take 24))) = true from by simpa using hsum] at hs24
        have HS24 := hid hs24
        clear hs24
        go_wp2_with fail
        refine HS24.out.mono ?_; rintro e w2 ⟨rfl, k2⟩
        have kw2 := kw.thenNo k2
        have H := word_Get (Hb'.out _ kw2) 8
        rw [show getN b 8 8 = some (le ((b.drop 8).take 8)) from by unfold getN; rw [if_pos (by rw [HL.out]; omega)]] at H
        have H' := word_Get (Hb'.out _ kw2) 16
        rw [show getN b 16 8 = some (le ((b.drop 16).take 8)) from by unfold getN; rw [if_pos (by rw [HL.out]; omega)]] at H'
        generalize hSZ : le ((b.drop 8).take 8) = size at *
        generalize hMN : le ((b.drop 16).take 8) = many at *
        simp only [getV] at H H'
        have HA := hid H
        have HB := hid H'
        have HSZ := hid hSZ
        have HMN := hid hMN
        clear H H' hSZ hMN
        go_wp2_with fail
        refine HA.out.mono ?_; rintro e w3 ⟨rfl, rfl⟩
        go_wp2_with fail
        refine HB.out.mono ?_; rintro e w3 ⟨rfl, rfl⟩
        have hres : getL b = getL2 b size many := by
          unfold getL; rw [if_neg (by rw [HL.out]; rintro (h | h); omega; exact h hbeg), if_neg (fun h => h hsum), HSZ.out, HMN.out]
        have HR1 := hid hres
        have kw2' := hid kw2
        clear hres hsum HS24 kw2
        obtain ⟨q0, q1, q2, f0, f1, f2, fl⟩ := box3 (k2.heap (fun q => q) hBc)
        have kfin : ∀ {wx}, Keep (fun i => i = B) w2 wx → Keep No w wx := fun k => kw2'.out.then k (fun i hi e => by omega)
        have KFIN := hid (fun wx => @kfin wx)
        clear kfin
        by_cases hsz : 16384 < size
        ·
          have hres : getL b = .err 3 := by rw [HR1.out]; unfold getL2; rw [if_pos (.inl hsz)]
          have HR := hid hres
          have hszI : (16384 : Int) < (size : Int) := by omega
          have hszD : decide ((16384 : Int) < (size : Int)) = true := decide_eq_true hszI
          clear hres
          go_wp2
          refine get_done (k2.heap (fun q => q) hBc) rfl rfl rfl fun k => ?_
          rw [HR.out]
          exact ⟨rfl, KFIN.out _ k⟩
        have hszi : IntKind.i64.wrap (size : Int) = size := by rw [IntKind.wrap_i64]; omega
        have hlng := image_long (size : Int) w2
        by_cases hlg : longB size = true
        · rw [hlg] at hlng
          have HLNG := hid hlng
          clear hlng
          have hlen4 : IntKind.u64.wrap (len : Int) = len := by rw [IntKind.wrap_u64]; omega
          by_cases hmn : 1024 < many
          ·
            have hres : getL b = .err 3 := by rw [HR1.out]; unfold getL2; rw [if_pos (.inr (.inr (.inl hmn)))]
            have HR := hid hres
            clear hres
            go_wp2_with fail
            refine HLNG.out.mono ?_; rintro e w4 ⟨rfl, rfl⟩
            go_wp2
            refine get_done (k2.heap (fun q => q) hBc) rfl rfl rfl fun k => ?_
            rw [HR.out]
            exact ⟨rfl, KFIN.out _ k⟩
          by_cases hbl : len < 28 + 8 * many + 4
          ·
            have hres : getL b = .err 3 := by rw [HR1.out]; unfold getL2; rw [if_pos (.inr (.inr (.inr (by rw [HL.out]; exact hbl))))]
            have HR := hid hres
            clear hres
            have hbl2 : (len : Int) < 28 + 8 * (many : Int) + 4 := by omega
            go_wp2_with fail
            refine HLNG.out.mono ?_; rintro e w4 ⟨rfl, rfl⟩
            go_wp2
            refine get_done (k2.heap (fun q => q) hBc) rfl rfl rfl fun k => ?_
            rw [HR.out]
            exact ⟨rfl, KFIN.out _ k⟩
          have hres : getL b = getL2b b size many := by
            have hneg : ¬ (16384 < size ∨ longB size = false ∨ 1024 < many ∨ b.length < 28 + 8 * many + 4) := by
              rintro (h | h | h | h)
              · exact hsz h
              · rw [hlg] at h; cases h
              · exact hmn h
              · rw [HL.out] at h; exact hbl h
            rw [HR1.out]; unfold getL2; rw [if_neg hneg]
          have HR2 := hid hres
          have hbl2 : 28 + 8 * (many : Int) + 4 ≤ (len : Int) := by omega
          have hmn2 : (many : Int) ≤ 1024 := by omega
          have hszI : ¬ ((16384 : Int) < (size : Int)) := by omega
          have hmnI : ¬ ((1024 : Int) < (many : Int)) := by omega
          have hblI : ¬ ((len : Int) < 28 + 8 * (many : Int) + 4) := by omega
          clear hres hsz hmn hbl
          go_wp2_with fail
          refine HLNG.out.mono ?_; rintro e w4 ⟨rfl, rfl⟩
          go_upto_region 9 with fail
          have hw1 : IntKind.u64.wrap (8 * (many : Int)) = 8 * (many : Int) := by rw [IntKind.wrap_u64]; omega
          have hw2 : IntKind.u64.wrap (28 + 8 * (many : Int)) = 28 + 8 * (many : Int) := by rw [IntKind.wrap_u64]; omega
          have hw3 : IntKind.u64.wrap (28 + 8 * (many : Int) + 4) = 28 + 8 * (many : Int) + 4 := by rw [IntKind.wrap_u64]; omega
          have ht1 : (28 + 8 * (many : Int)).toNat = 28 + 8 * many := by omega
          have ht2 : (28 + 8 * (many : Int) + 4).toNat = 28 + 8 * many + 4 := by omega
          have hcb1 : 28 + 8 * (many : Int) ≤ (cap : Int) := by omega
          have hcb2 : 28 + 8 * (many : Int) + 4 ≤ (cap : Int) := by omega
          have hcn : ¬ (cap = 28) := by omega
          have htag : Rd w F (.slice (some ⟨g, o + 28, none⟩) (8 * many) (cap - 28)) ((b.drop 28).take (8 * many)).length (bv ((b.drop 28).take (8 * many))) :=
            Rd.piece h2 hF (by rw [hBn]; exact hg0) hc 28 (8 * many) (by rw [HL.out]; omega) (by rw [HL.out]; exact h1)
          have hrest : Rd w F (.slice (some ⟨g, o + (28 + 8 * many + 4), none⟩) (len - (28 + 8 * many + 4)) (cap - (28 + 8 * many + 4))) (len - (28 + 8 * many + 4)) (bv (b.drop (28 + 8 * many + 4))) := by
            have := Rd.piece h2 hF (by rw [hBn]; exact hg0) hc (28 + 8 * many + 4) (len - (28 + 8 * many + 4)) (by rw [HL.out]; omega) (by rw [HL.out]; exact h1)
            have e : (b.drop (28 + 8 * many + 4)).take (len - (28 + 8 * many + 4)) = b.drop (28 + 8 * many + 4) := List.take_of_length_le (by rw [List.length_drop, HL.out]; exact Nat.le_refl _)
            rw [e] at this
            rwa [List.length_drop, HL.out] at this
          have hrest0 : cap = 28 + 8 * many + 4 → Rd w F (.slice (some ⟨g, o, none⟩) (len - (28 + 8 * many + 4)) (cap - (28 + 8 * many + 4))) (len - (28 + 8 * many + 4)) (bv (b.drop (28 + 8 * many + 4))) := by
            intro e
            have hz : len - (28 + 8 * many + 4) = 0 := by omega
            have hd0 : b.drop (28 + 8 * many + 4) = [] := List.drop_eq_nil_of_le (by rw [HL.out]; omega)
            rw [hd0]
            exact ⟨_, _, rfl, by omega, by omega, fun h => absurd rfl h⟩
          have HTAG := hid htag
          have HREST := hid hrest
          have HREST0 := hid hrest0
          clear htag hrest hrest0
          go_cut [8, 9] (fun t r wx => t = .slice (some ⟨g, o + 28, none⟩) (8 * many) (cap - 28) ∧ (∃ rc ra, r = .slice ra (len - (28 + 8 * many + 4)) rc) ∧ Rd w F r (len - (28 + 8 * many + 4)) (bv (b.drop (28 + 8 * many + 4))) ∧ Keep No w2 wx)
          case first =>
            by_cases hce : cap = 28 + 8 * many + 4
            · have hR := hid (HREST0.out hce)
              go_quiet (fail)
              go_wp2_with fail
              go_meet
              case rel => exact ⟨by congr 1; omega, ⟨_, _, rfl⟩, by have := hR.out; rwa [show cap - (28 + 8 * many + 4) = 0 from by omega] at this, Keep.drewN _ _ _⟩
            · go_quiet (fail)
              go_wp2_with fail
              go_meet
              case rel => exact ⟨rfl, ⟨_, _, rfl⟩, HREST.out, Keep.drewN _ _ _⟩
          case rest =>
            obtain ⟨rfl, ⟨rc, ra, rfl⟩, hrr, kq⟩ := hcut
            have kwq := kw2'.out.thenNo kq
            have hBq := (k2.thenNo kq).heap (fun q => q) hBc
            clear hw1 hw2 hw3 ht1 ht2 hcb1 hcb2 HREST HREST0
            have htag := HTAG.out.keepNo kwq
            have hb28 : Rd wc F (.slice (some ⟨g, o + 28, none⟩) (len - 28) (cap - 28)) (b.drop 28).length (bv (b.drop 28)) := by
              have := Rd.piece h2 hF (by rw [hBn]; exact hg0) hc 28 (len - 28) (by rw [HL.out]; omega) (by rw [HL.out]; exact h1)
              have e : (b.drop 28).take (len - 28) = b.drop 28 := List.take_of_length_le (by rw [List.length_drop, HL.out]; exact Nat.le_refl _)
              rw [e] at this
              exact this.keepNo kwq
            have hsd := image_sound htag hb28
            have htl : ((b.drop 28).take (8 * many)).length = 8 * many := by rw [List.length_take, List.length_drop, HL.out]; omega
            rw [htl] at hsd htag
            have HTG1 := hid (show Rd w F (.slice (some ⟨g, o + 28, none⟩) (8 * many) (cap - 28)) (8 * many) (bv ((b.drop 28).take (8 * many))) by have := HTAG.out; rwa [htl] at this)
            have HTG := hid htag
            have HTLn := hid htl
            clear htag hb28 HTAG htl
            generalize hTG : (b.drop 28).take (8 * many) = tags at *
            by_cases hts : getN (b.drop 28) (8 * many) 4 = some (crcSum tags)
            · rw [show decide (getN (b.drop 28) (8 * many) 4 = some (crcSum tags)) = true from by simpa using hts] at hsd
              have HSD := hid hsd
              have hres : getL b = match blocksOf many tags 184 with
                  | none => .err 3
                  | some l => getL3 b size l (b.drop (28 + 8 * many + 4)) := by
                rw [HR2.out]; unfold getL2b; rw [hTG, if_neg (fun h => h hts)]; rfl
              have HR3 := hid hres
              have HTG0 := hid hTG
              clear hsd hres hts hTG
              go_wp2_with fail
              refine HSD.out.mono ?_; rintro e w5 ⟨rfl, k5⟩
              have kw5 := kwq.thenNo k5
              have hB5 := k5.heap (fun q => q) hBq
              have htg' : ∀ wx, Keep No w wx → Rd wx F (.slice (some ⟨g, o + 28, none⟩) (8 * many) (cap - 28)) tags.length (bv tags) := fun wx k => by rw [HTLn.out]; exact (HTG1.out).keepNo k
              have HTG2 := hid htg'
              have hBl := lt_blk hB5
              clear htg' HTG
              go_wp2
              generalize hBM : w5.heap.size = BM at *
              go_loopw [11, 12, 96] (fun p dt i wr => ∃ (k : Nat) (vB : Value) (bl : List Blk) (P D : Int), k ≤ many ∧ i = .int .u64 k ∧ p = .int .i64 P ∧ dt = .int .i64 D ∧ L1 w5 wr BM size many k tags vB bl P D) (fun _ _ i _ => many - (intOf i).toNat)
              case atStart => exact ⟨0, .slice none 0 0, [], 184, 0, Nat.zero_le _, rfl, rfl, rfl, by rw [← hBM]; exact heap_alloc_new w5 _, OwnK.nil _, rfl, keep_alloc _ _, fun i h => by simp [Value.ownBlock] at h, by omega, by omega, by omega, by omega, rfl, by simp⟩
              case round =>
                obtain ⟨k, vB, bl, P, D, hk, rfl, rfl, rfl, hl1⟩ := hrel
                have hl1' := hl1
                obtain ⟨m1, m2, m3, m4, m5, m6, m7, m8, m9, m10, m11⟩ := hl1'
                have kwr := kw5.thenNo m4
                have hBr := m4.heap (fun q => q) hB5
                have HL1 := hid hl1
                have M5 := hid m5
                have M3 := hid m3
                clear hl1 m10 m11 m5 m3
                by_cases hlt : k < many
                · have H := word_Get (HTG2.out _ kwr) (8 * k)
                  rw [show getN tags (8 * k) 8 = some (le ((tags.drop (8 * k)).take 8)) from by unfold getN; rw [if_pos (by rw [HTLn.out]; omega)], show ((8 * k : Nat) : Int) = 8 * (k : Int) from by omega] at H
                  have hx64 : le ((tags.drop (8 * k)).take 8) < 18446744073709551616 := by
                    refine Nat.lt_of_lt_of_le (le_lt _) (Nat.le_trans (Nat.pow_le_pow_right (by decide) ?_) (show 256 ^ 8 ≤ 18446744073709551616 by decide))
                    rw [List.length_take]; exact Nat.min_le_left _ _
                  have HU := tag_Unpack _ hx64 wr
                  have hUn : ∀ s u, unpack (le ((tags.drop (8 * k)).take 8)) = some (s, u) → unpack (le ((tags.drop (8 * k)).take 8)) = some (s, u) := fun _ _ h => h
                  generalize hX : le ((tags.drop (8 * k)).take 8) = X at *
                  simp only [getV] at H
                  have HH := hid H
                  have HX := hid hX
                  have HX64 := hid hx64
                  clear H hX hx64 hUn
                  obtain ⟨q0, q1, q2, f0, f1, f2, fl⟩ := box3 hBr
                  obtain ⟨p0, p1, p2, e0, e1, e2, el⟩ := box3 m1
                  cases hun : unpack X with
                  | none =>
                    rw [hun] at HU
                    simp only [unpackV] at HU
                    have HUU := hid HU
                    have hres : getL b = .err 3 := by
                      rw [HR3.out, HL1.out.2.2.2.2.2.2.2.2.2.2, show many - k = (many - k - 1) + 1 from by omega, blocksOf_none (by rw [HX.out]; exact hun)]; rfl
                    have HR := hid hres
                    clear HU hun hres
                    go_wp2_with fail
                    refine HH.out.mono ?_; rintro e w7 ⟨rfl, rfl⟩
                    go_wp2_with fail
                    refine HUU.out.mono ?_; rintro e w7 ⟨rfl, rfl⟩
                    go_wp2
                    refine get_done hBr rfl rfl rfl fun k => ?_
                    rw [HR.out]
                    exact ⟨rfl, kwr.then k (fun i hi e => by omega)⟩
                  | some su =>
                    obtain ⟨s, u⟩ := su
                    have hs2 := (isSize_iff _).1 (unpack_some hun).1
                    have hs2a : (32 : Int) ≤ (s : Int) := hs2.1
                    have hs2b : (s : Int) ≤ 16384 := hs2.2.1
                    rw [hun] at HU
                    simp only [unpackV] at HU
                    have HUU := hid HU
                    have HUN := hid hun
                    clear HU hun hs2
                    obtain ⟨gg, gcap, w8, ha1, ha2, ha3, ha4, ha5⟩ := append_blk m2 ⟨P, s, u⟩ (by rw [M3.out]; omega) 22
                    have hBM8 : w8.heap[BM]? = _ := ha3.heap (fun e => by have := M5.out _ e; omega) m1
                    obtain ⟨r0, r1, r2, i0, i1, i2, il⟩ := box3 hBM8
                    have KP : Keep No w5 (w8.setCell ⟨BM, 1, none⟩ (.slice (some ⟨gg, 0, none⟩) (bl.length + 1) gcap)) :=
                      (m4.then ha3 (fun i hi e => by have := M5.out i e; omega)).then (Keep.setCell (S := fun i => i = BM) _ _ _ rfl) (fun i hi e => by omega)
                    have HG : BM < gg := by
                      rcases ha4 with h | h
                      · exact M5.out _ h
                      · omega
                    have HO : OwnK (w8.setCell ⟨BM, 1, none⟩ (.slice (some ⟨gg, 0, none⟩) (bl.length + 1) gcap)) (.slice (some ⟨gg, 0, none⟩) (bl.length + 1) gcap) (bl ++ [⟨P, s, u⟩]) :=
                      ha2.keep (Keep.setCell (S := fun i => i = BM) _ _ _ rfl) (fun i h e => by have : gg = i := Option.some.inj h; omega)
                    have NX := HL1.out.next hlt (by rw [HX.out]; exact HUN.out) (setCell_blk hBM8 1 _) HO KP HG
                    have HNX := hid NX
                    clear NX ha2 ha3 ha4 ha5
                    cases u with
                    | true =>
                      go_wp2_with fail
                      refine HH.out.mono ?_; rintro e w7 ⟨rfl, rfl⟩
                      go_wp2_with fail
                      refine HUU.out.mono ?_; rintro e w7 ⟨rfl, rfl⟩
                      go_wp2_with (at_builtin; refine Lib.wpList_append_run _ rfl (.tmp 117) (.tmp 122) 22 22 rfl _ _ rfl rfl _ _ ha1 ?_)
                      exact ⟨⟨k + 1, _, _, _, _, by omega, rfl, rfl, rfl, HNX.out _ rfl⟩, by simp [intOf]; omega⟩
                    | false =>
                      go_wp2_with fail
                      refine HH.out.mono ?_; rintro e w7 ⟨rfl, rfl⟩
                      go_wp2_with fail
                      refine HUU.out.mono ?_; rintro e w7 ⟨rfl, rfl⟩
                      go_wp2_with (at_builtin; refine Lib.wpList_append_run _ rfl (.tmp 117) (.tmp 122) 22 22 rfl _ _ rfl rfl _ _ ha1 ?_)
                      exact ⟨⟨k + 1, _, _, _, _, by omega, rfl, rfl, rfl, HNX.out _ (by simp)⟩, by simp [intOf]; omega⟩
                · obtain rfl : many = k := by omega
                  have hres : getL b = getL3 b size bl (b.drop (28 + 8 * many + 4)) := by
                    rw [HR3.out, HL1.out.2.2.2.2.2.2.2.2.2.2, Nat.sub_self]; simp [blocksOf]
                  have HR4 := hid hres
                  have hDL := hid HL1.out.2.2.2.2.2.2.2.2.2.1
                  obtain ⟨Dn, rfl⟩ := Int.eq_ofNat_of_zero_le m8
                  obtain ⟨q0, q1, q2, f0, f1, f2, fl⟩ := box3 hBr
                  obtain ⟨p0, p1, p2, e0, e1, e2, el⟩ := box3 m1
                  obtain ⟨AB, cB, hvB, hcB⟩ : ∃ A c, vB = .slice A bl.length c ∧ bl.length ≤ c := by obtain ⟨A, c, e, h, _⟩ := m2.rd; exact ⟨A, c, e, h⟩
                  subst hvB
                  have hrd := m2.rd
                  have hlg3 := (longB_iff _).1 hlg
                  have HTI := hid (image_tiles hrd size hlg3.1 hlg3.2.1)
                  have hrr5 := hrr.keepNo kwr
                  generalize hrest : b.drop (28 + 8 * many + 4) = rest at *
                  have hrl : rest.length = len - (28 + 8 * many + 4) := by rw [← hrest, List.length_drop, HL.out]
                  generalize hrlg : len - (28 + 8 * many + 4) = rl at *
                  have HRL := hid hrl
                  have hrl6 : rl ≤ 1000000 := by omega
                  have hbln := M3.out
                  have HBLN := hid hbln
                  have HRR := hid hrr
                  clear hres hrd hlg3 hrl hrest hrlg hrr hbln
                  have hres3 : ∀ (h : tilesB size bl = false ∨ (rl : Int) ≠ (Dn : Int) + 8), getL b = .err 3 := by
                    intro h; rw [HR4.out]; unfold getL3; rw [if_pos (by rw [HRL.out, ← hDL.out]; exact h)]
                  have HR5 := hid hres3
                  clear hres3
                  by_cases hti : tilesB size bl = true
                  · rw [hti] at HTI
                    by_cases hd8 : (rl : Int) = (Dn : Int) + 8
                    · have hd8' : ((rl : Int) != (Dn : Int) + 8) = false := by simp [bne, hd8]
                      obtain ⟨g', o', cap', e', hrc1, hrc2, hF', hg', hcr⟩ := hrr5.cells (by rw [bv_length, HRL.out]; omega)
                      injection e' with e1' e2' e3'
                      subst e1'
                      subst e3'
                      clear e2'
                      have hDrl : Dn ≤ rl := by omega
                      have hr1 := Rd.head hrc2 hF' hg' hcr Dn (by rw [HRL.out]; exact hDrl) (by rw [HRL.out]; exact hrc1)
                      have hr2 : Rd wr F (.slice (some ⟨g', o', none⟩) rl rc) rest.length (bv rest) := by rw [HRL.out]; exact hrr5
                      have hb1 : Rd w F (.slice (some ⟨g, o, none⟩) (len - 4) cap) (b.take (len - 4)).length (bv (b.take (len - 4))) := Rd.head h2 hF (by rw [hBn]; exact hg0) hc (len - 4) (by rw [HL.out]; omega) (by rw [HL.out]; exact h1)
                      have hb2 := Hb'.out _ kwr
                      have HS1 : ∀ wx, Keep No wr wx → Calls Try.prog 87 #[.slice (some ⟨g', o', none⟩) Dn rc, .slice (some ⟨g', o', none⟩) rl rc] wx fun e w' => e = .returned (.bool (decide (getN rest Dn 4 = some (crcSum (rest.take Dn))))) ∧ Keep No wx w' := fun wx k => by
                        have := image_sound (hr1.keepNo k) (hr2.keepNo k)
                        rwa [show (rest.take Dn).length = Dn from by rw [List.length_take, HRL.out]; omega] at this
                      have HS2 : ∀ wx, Keep No wr wx → Calls Try.prog 87 #[.slice (some ⟨g, o, none⟩) (len - 4) cap, .slice (some ⟨g, o, none⟩) len cap] wx fun e w' => e = .returned (.bool (decide (getN b (len - 4) 4 = some (crcSum (b.take (len - 4)))))) ∧ Keep No wx w' := fun wx k => by
                        have := image_sound (hb1.keepNo (kwr.thenNo k)) (hb2.keepNo k)
                        rwa [show (b.take (len - 4)).length = len - 4 from by rw [List.length_take, HL.out]; omega] at this
                      have hDrc : (Dn : Int) ≤ (rc : Int) := by omega
                      have hl4 : ((len : Int) - 4).toNat = len - 4 := by omega
                      have hl4c : (len : Int) - 4 ≤ (cap : Int) := by omega
                      have HHS1 := hid HS1
                      have HHS2 := hid HS2
                      have HR1' := hid hr1
                      have hcrH := hid hcr
                      clear HS1 HS2 hr1 hr2 hb1 hb2 hcr
                      have hres9 : ∀ (h : getN rest Dn 4 ≠ some (crcSum (rest.take Dn)) ∨ getN b (len - 4) 4 ≠ some (crcSum (b.take (len - 4)))), getL b = .err 9 := by
                        intro h; rw [HR4.out]; unfold getL3
                        rw [if_neg (by rw [HRL.out, ← hDL.out, hti]; rintro (h | h); cases h; exact h hd8), if_pos (by rw [← hDL.out, Int.toNat_natCast, HL.out]; exact h)]
                      have hresok : getN rest Dn 4 = some (crcSum (rest.take Dn)) → getN b (len - 4) 4 = some (crcSum (b.take (len - 4))) → getL b = .ok size bl (cutData bl rest) := by
                        intro ha hb; rw [HR4.out]; unfold getL3
                        rw [if_neg (by rw [HRL.out, ← hDL.out, hti]; rintro (h | h); cases h; exact h hd8), if_neg (by rw [← hDL.out, Int.toNat_natCast, HL.out]; rintro (h | h); exact h ha; exact h hb)]
                      have HR9 := hid hres9
                      have HROK := hid hresok
                      have HD8 := hid hd8
                      clear hres9 hresok HR5 hd8
                      go_wp2_with fail
                      refine HTI.out.mono ?_; rintro e w9 ⟨rfl, k9⟩
                      go_wp2_with fail
                      by_cases hs1 : getN rest Dn 4 = some (crcSum (rest.take Dn))
                      · have H1 := HHS1.out w9 k9
                        rw [show decide (getN rest Dn 4 = some (crcSum (rest.take Dn))) = true from by simpa using hs1] at H1
                        refine H1.mono ?_; rintro e w10 ⟨rfl, k10⟩
                        clear H1
                        go_wp2_with fail
                        by_cases hs2 : getN b (len - 4) 4 = some (crcSum (b.take (len - 4)))
                        · have H2 := HHS2.out w10 (k9.thenNo k10)
                          rw [show decide (getN b (len - 4) 4 = some (crcSum (b.take (len - 4)))) = true from by simpa using hs2] at H2
                          refine H2.mono ?_; rintro e w11 ⟨rfl, k11⟩
                          have HR := hid (HROK.out hs1 hs2)
                          clear H2 HR9 HROK HHS1 HHS2 hs1 hs2 HR4 HR3
                          have K := (k9.thenNo k10).thenNo k11
                          have hM11 := K.heap (fun q => q) m1
                          have hR11 := K.heap (fun q => q) hBr
                          have K11 := kwr.thenNo K
                          have hrdB := m2.rd.keepNo K
                          have hBMl : BM < w11.heap.size := lt_blk hM11
                          have hvBlt : ∀ i, (Value.slice AB bl.length cB).ownBlock = some i → BM < i ∧ i < w11.heap.size := fun i h => ⟨M5.out i h, Nat.lt_of_lt_of_le (m2.lt i h) K.size⟩
                          have HVB := hid hvBlt
                          obtain ⟨p0, p1, p2, e0, e1, e2, el⟩ := box3 hM11
                          have hszs := hid (fun x hx => tilesGo_size hti x hx)
                          have hrst : Rd w F (.slice (some ⟨g', o', none⟩) rl rc) rest.length (bv rest) := by
                            rw [HRL.out]
                            exact HRR.out
                          have hd0 : (rest.length : Int) = dataLen bl + 8 := by rw [HRL.out, ← hDL.out]; exact HD8.out
                          have HL20 : L2 w w11 w11 F BM size (.slice AB bl.length cB) bl rest 0 (.slice (some ⟨g', o', none⟩) rl rc) (.slice none 0 0) [] rest :=
                            ⟨hM11, OwnD.nil _ _, Keep.refl _ _, fun i h => by simp [Value.ownBlock] at h, hrst, by simp, by simpa using hd0, Nat.le_refl _⟩
                          have HHL2 := hid HL20
                          clear hvBlt hti HTI hd0 HL20 hrst q0 q1 q2 f0 f1 f2
                          go_wp2
                          go_loopw [9, 170] (fun r i wz => ∃ (k : Nat) (r' vD : Value) (dl : List (List UInt8)) (rem : List UInt8), r' = r ∧ k ≤ bl.length ∧ i = .int .i64 k ∧ L2 w w11 wz F BM size (.slice AB bl.length cB) bl rest k r' vD dl rem) (fun _ i _ => bl.length - (intOf i).toNat)
                          case atStart => exact ⟨0, _, _, _, _, rfl, Nat.zero_le _, rfl, HHL2.out⟩
                          case round =>
                            obtain ⟨k, r, vD, dl, rem, rfl, hk, rfl, hl2⟩ := hrel
                            have hl2' := hl2
                            obtain ⟨n1, n2, n3, n4, n5, n6, n7, n8⟩ := hl2'
                            have N4 := hid n4
                            have N6 := hid n6
                            have N7 := hid n7
                            have kz := K11.then n3 (fun i hi e => by omega)
                            have hRz := n3.heap (fun e => by omega) hR11
                            have hrdz := hrdB.keep n3 (fun i hi e => by have := HVB.out i hi; omega)
                            obtain ⟨s0, s1, s2, t0, t1, t2, tl⟩ := box3 n1
                            clear n4 n6 n7 hl2
                            by_cases hlt : k < bl.length
                            · obtain ⟨gB, oB, cB', eB, _, _, hFB, hgB, hcB'⟩ := hrdz.cells (by rw [bks_length]; omega)
                              injection eB with eB1 eB2 eB3
                              subst eB1
                              obtain ⟨hc0, hc1, hc2⟩ := Rd.blk (w := _) hcB' k hlt
                              have hdrop : bl.drop k = bl[k] :: bl.drop (k + 1) := List.drop_eq_getElem_cons hlt
                              have hsx := (isSize_iff _).1 (hszs.out _ (List.getElem_mem hlt))
                              have hbln : bl.length ≤ 9223372036854775807 := by have := HBLN.out; omega
                              generalize hx : bl[k]'hlt = x at *
                              obtain ⟨xo, xs, xu⟩ := x
                              obtain ⟨xn, rfl⟩ : ∃ xn : Nat, xs = (xn : Int) + 16 := ⟨(xs - 16).toNat, by simp only at hsx; omega⟩
                              simp only at hc0 hc1 hc2 hsx
                              obtain ⟨hsx1, hsx2, _⟩ := hsx
                              have N6' := hid (show cutData bl rest = dl ++ cutData (⟨xo, (xn : Int) + 16, xu⟩ :: bl.drop (k + 1)) rem by rw [← hdrop]; exact N6.out)
                              have N7' := hid (show (rem.length : Int) = (if xu then ((xn : Int) + 16) - 16 else 0) + dataLen (bl.drop (k + 1)) + 8 by rw [N7.out, hdrop, dataLen_cons])
                              clear hcB' hdrop hx eB2 eB3 hrdz N6 N7
                              cases xu with
                              | false =>
                                have N6'' := hid (show cutData bl rest = dl ++ cutData (bl.drop (k + 1)) rem by have := N6'.out; simpa [cutData] using this)
                                have N7'' := hid (show (rem.length : Int) = dataLen (bl.drop (k + 1)) + 8 by have := N7'.out; simpa using this)
                                clear N6' N7'
                                go_wp2
                                refine ⟨⟨k + 1, _, vD, dl, rem, rfl, by omega, rfl, ?_, ?_, n3.thenNo (keep_alloc _ _), N4.out, n5, N6''.out, N7''.out, by omega⟩, by simp [intOf]; omega⟩
                                · exact (keep_alloc _ _).heap (fun q => q) n1
                                · exact n2.keep (keep_alloc _ _) (fun _ _ q => q)
                              | true =>
                                have hdn := dataLen_nonneg (l := bl.drop (k + 1)) (fun x hx => hszs.out x (List.mem_of_mem_drop hx))
                                have hxn : xn + 8 ≤ rem.length := by have := N7'.out; simp at this; omega
                                obtain ⟨g2, o2, c2, rfl, d1, d2, hF2, hg2, hcc⟩ := n5.cells (by rw [bv_length]; omega)
                                have hHead := (Rd.head d2 hF2 hg2 hcc xn (by omega) d1)
                                have hlx : (rem.take xn).length = xn := by rw [List.length_take]; omega
                                have hTail : Rd w F (.slice (some ⟨g2, o2 + xn, none⟩) (rem.length - xn) (c2 - xn)) (rem.drop xn).length (bv (rem.drop xn)) := by
                                  have := Rd.piece d2 hF2 hg2 hcc xn (rem.length - xn) (by omega) d1
                                  rwa [List.take_of_length_le (by rw [List.length_drop]; exact Nat.le_refl _)] at this
                                have N6'' := hid (show cutData bl rest = (dl ++ [rem.take xn]) ++ cutData (bl.drop (k + 1)) (rem.drop xn) by have := N6'.out; simpa [cutData] using this)
                                have N7'' := hid (show ((rem.drop xn).length : Int) = dataLen (bl.drop (k + 1)) + 8 by have := N7'.out; rw [List.length_drop]; simp at this; omega)
                                have kzz := kz.thenNo (keep_alloc wr (.cells #[.int .i64 xo, .int .i64 ((xn : Int) + 16), .bool true] 57))
                                have CL := hid (fun wx (kx : Keep No w wx) => bytes_Clone2 (hHead.keepNo kx) (by rw [hlx]; omega))
                                rw [hlx] at CL
                                have HTail := hid hTail
                                have HLX := hid hlx
                                have hsub : IntKind.i64.wrap ((xn : Int) + 16 - 16) = (xn : Int) := by rw [IntKind.wrap_i64]; omega
                                have hwx : IntKind.i64.wrap (xn : Int) = (xn : Int) := by rw [IntKind.wrap_i64]; omega
                                have hxc : (xn : Int) ≤ (c2 : Int) := by omega
                                have hcx : ¬ (c2 = xn) := by omega
                                have hxr : (xn : Int) ≤ (rem.length : Int) := by omega
                                have hbx := heap_alloc_new wr (.cells #[.int .i64 xo, .int .i64 ((xn : Int) + 16), .bool true] 57)
                                have hBMr : BM < wr.heap.size := tl
                                have hw11 : w11.heap.size ≤ wr.heap.size := n3.size
                                have hdl : dl.length ≤ 1000000 := by have := HBLN.out; omega
                                have HDL := hid hdl
                                clear hHead hTail hdn N6' N7' hlx hdl
                                go_wp2
                                go_region_law (first
                                  | (go_simp; go_at_call 92; refine (CL.out _ (kzz.thenNo (Keep.drew _ _))).mono ?_; rintro e wq ⟨Aq, cq, rfl, hq⟩
                                     have KQ : Keep No wr wq := ((keep_alloc wr _).thenNo (Keep.drew _ _)).thenNo hq.keep
                                     obtain ⟨a0, a1, a2, b0, b1, b2, al⟩ := box3 (KQ.heap (fun q => q) n1)
                                     obtain ⟨c0, c1, c3, d0, d1', d2', dl'⟩ := box3 (((Keep.drew No _).thenNo hq.keep).heap (fun q => q) hbx))
                                  | (obtain ⟨gg, gcap, w8, ha1, ha2, ha3, ha4, ha5⟩ := append_sl (n2.keep KQ (fun _ _ q => q)) (hq.rd.mono (fun i _ hi => ⟨by simp at hi; omega, fun e => by have := n2.lt i e; simp at hi; omega⟩)) HLX.out.symm HDL.out 23
                                     refine step_append_run rfl (.tmp 177) (.tmp 184) 23 23 rfl _ _ rfl rfl _ _ ha1 ?_
                                     have hBM8 : w8.heap[BM]? = _ := ha3.heap (fun e => by have := N4.out _ e; omega) (KQ.heap (fun q => q) n1)
                                     have hBX8 : w8.heap[wr.heap.size]? = _ := ha3.heap (fun e => by have := n2.lt _ e; omega) (((Keep.drew No _).thenNo hq.keep).heap (fun q => q) hbx)
                                     obtain ⟨a0, a1, a2, b0, b1, b2, al⟩ := box3 hBM8
                                     obtain ⟨c0, c1, c3, d0, d1', d2', dl'⟩ := box3 ((Keep.setCell (S := fun i => i = BM) w8 ⟨BM, 2, none⟩ (.slice (some ⟨gg, 0, none⟩) (dl.length + 1) gcap) rfl).heap (fun e => by omega) hBX8)))
                                all_goals
                                  have KW : Keep (fun i => vD.ownBlock = some i) wr w8 := KQ.no.trans ha3
                                  have hgg : w11.heap.size ≤ gg := by
                                    rcases ha4 with h | h
                                    · exact N4.out _ h
                                    · have := KQ.size; omega
                                  go_wp2
                                  refine ⟨⟨k + 1, _, .slice (some ⟨gg, 0, none⟩) (dl.length + 1) gcap, dl ++ [rem.take xn], rem.drop xn, rfl, by omega, rfl, ?_, ?_, ?_, fun i h => by have : gg = i := Option.some.inj h; omega, ?_, N6''.out, N7''.out, by rw [List.length_append]; simp; omega⟩, by simp [intOf]; omega⟩
                                  · exact setCell_blk hBM8 2 _
                                  · exact ha2.keep (Keep.setCell (S := fun i => i = BM) _ _ _ rfl) (fun i h e => by rcases h with h | h; (have : gg = i := Option.some.inj h; omega); (have : w11.heap.size ≤ i := h; omega))
                                  · exact (n3.then KW (fun i hi e => by have := N4.out _ e; omega)).trans (Keep.setCell _ _ _ rfl)
                                  · exact HTail.out
                            · obtain rfl : bl.length = k := by omega
                              obtain ⟨y0, y1, y2, z0, z1, z2, zl⟩ := box3 hRz
                              obtain ⟨AD, cD, hvD⟩ : ∃ A c, vD = .slice A dl.length c := by
                                obtain ⟨vs, h, _⟩ := n2
                                obtain ⟨A, c, e, _⟩ := Rd.ofOwn h
                                exact ⟨A, c, e⟩
                              subst hvD
                              have hcut : cutData bl rest = dl := by rw [N6.out, List.drop_eq_nil_of_le (Nat.le_refl _)]; simp [cutData]
                              have HCUT := hid hcut
                              clear hcut
                              go_wp2
                              refine get_done hRz rfl rfl rfl fun k => ?_
                              rw [HR.out, HCUT.out]
                              refine ⟨_, _, rfl, kz.then k (fun i hi e => by omega), ?_, ?_⟩
                              · exact (hrdz.keep k (fun i hi e => by have := HVB.out i hi; omega)).mono (fun i _ hi => by have := HVB.out i hi; omega)
                              · exact ((n2.keep k (fun i hi e => by
                                  rcases hi with hi | hi
                                  · have := N4.out i hi; omega
                                  · omega)).rd (fun i hi => N4.out i hi)).mono (fun i _ hi => by omega)
                        ·
                          have H2 := HHS2.out w10 (k9.thenNo k10)
                          rw [show decide (getN b (len - 4) 4 = some (crcSum (b.take (len - 4)))) = false from by simpa using hs2] at H2
                          refine H2.mono ?_; rintro e w11 ⟨rfl, k11⟩
                          have HR := hid (HR9.out (.inr hs2))
                          have hB9 := ((k9.thenNo k10).thenNo k11).heap (fun q => q) hBr
                          obtain ⟨q0, q1, q2, f0, f1, f2, fl⟩ := box3 hB9
                          clear H2 HR9 HROK hs2
                          go_wp2
                          refine get_done hB9 rfl rfl rfl fun k => ?_
                          rw [HR.out]
                          exact ⟨rfl, (kwr.thenNo ((k9.thenNo k10).thenNo k11)).then k (fun i hi e => by omega)⟩
                      ·
                        have H1 := HHS1.out w9 k9
                        rw [show decide (getN rest Dn 4 = some (crcSum (rest.take Dn))) = false from by simpa using hs1] at H1
                        refine H1.mono ?_; rintro e w10 ⟨rfl, k10⟩
                        have HR := hid (HR9.out (.inl hs1))
                        have hB9 := (k9.thenNo k10).heap (fun q => q) hBr
                        obtain ⟨q0, q1, q2, f0, f1, f2, fl⟩ := box3 hB9
                        clear H1 HR9 HROK hs1
                        go_wp2
                        refine get_done hB9 rfl rfl rfl fun k => ?_
                        rw [HR.out]
                        exact ⟨rfl, (kwr.thenNo (k9.thenNo k10)).then k (fun i hi e => by omega)⟩
                    ·
                      have hd8' : ((rl : Int) != (Dn : Int) + 8) = true := by simpa [bne_iff_ne] using hd8
                      have HR := hid (HR5.out (.inr hd8))
                      clear HR5
                      go_wp2_with fail
                      refine HTI.out.mono ?_; rintro e w9 ⟨rfl, k9⟩
                      have hB9 := k9.heap (fun q => q) hBr
                      obtain ⟨q0, q1, q2, f0, f1, f2, fl⟩ := box3 hB9
                      go_wp2
                      refine get_done hB9 rfl rfl rfl fun k => ?_
                      rw [HR.out]
                      exact ⟨rfl, (kwr.thenNo k9).then k (fun i hi e => by omega)⟩
                  ·
                    have hti' : tilesB size bl = false := by simpa using hti
                    rw [hti'] at HTI
                    have HR := hid (HR5.out (.inl hti'))
                    clear HR5
                    go_wp2_with fail
                    refine HTI.out.mono ?_; rintro e w9 ⟨rfl, k9⟩
                    have hB9 := k9.heap (fun q => q) hBr
                    obtain ⟨q0, q1, q2, f0, f1, f2, fl⟩ := box3 hB9
                    go_wp2
                    refine get_done hB9 rfl rfl rfl fun k => ?_
                    rw [HR.out]
                    exact ⟨rfl, (kwr.thenNo k9).then k (fun i hi e => by omega)⟩
            ·
              rw [show decide (getN (b.drop 28) (8 * many) 4 = some (crcSum tags)) = false from by simpa using hts] at hsd
              have HSD := hid hsd
              have hres : getL b = .err 9 := by rw [HR2.out]; unfold getL2b; rw [hTG, if_pos hts]
              have HR := hid hres
              clear hsd hres hts hTG
              go_wp2_with fail
              refine HSD.out.mono ?_; rintro e w5 ⟨rfl, k5⟩
              obtain ⟨q0, q1, q2, f0, f1, f2, fl⟩ := box3 (k5.heap (fun q => q) hBq)
              go_wp2
              refine get_done (k5.heap (fun q => q) hBq) rfl rfl rfl fun k => ?_
              rw [HR.out]
              exact ⟨rfl, (kwq.thenNo k5).then k (fun i hi e => by omega)⟩
        ·
          have hlg' : longB size = false := by simpa using hlg
          rw [hlg'] at hlng
          have HLNG := hid hlng
          have hres : getL b = .err 3 := by rw [HR1.out]; unfold getL2; rw [if_pos (.inr (.inl hlg'))]
          have HR := hid hres
          clear hres hlng hlg
          go_wp2_with fail
          refine HLNG.out.mono ?_; rintro e w4 ⟨rfl, rfl⟩
          go_wp2
          refine get_done (k2.heap (fun q => q) hBc) rfl rfl rfl fun k => ?_
          rw [HR.out]
          exact ⟨rfl, KFIN.out _ k⟩
      ·
        rw [show decide (getN b 24 4 = some (crcSum (b.take 24))) = false from by simpa using hsum] at hs24
        have HS24 := hid hs24
        have hres : getL b = .err 9 := by unfold getL; rw [if_neg (by rw [HL.out]; rintro (h | h); omega; exact h hbeg), if_pos hsum]
        have HR := hid hres
        clear hs24 hres
        go_wp2_with fail
        refine HS24.out.mono ?_; rintro e w2 ⟨rfl, k2⟩
        obtain ⟨q0, q1, q2, f0, f1, f2, fl⟩ := box3 (k2.heap (fun q => q) hBc)
        go_wp2
        refine get_done (k2.heap (fun q => q) hBc) rfl rfl rfl fun k => ?_
        rw [HR.out]
        exact ⟨rfl, (kw.thenNo k2).then k (fun i hi e => by omega)⟩
  ·
    have hres : getL b = .err 3 := by unfold getL; rw [if_pos (.inr hbeg)]
    have hdb : decide (b.take 8 = beginL) = false := by simpa using hbeg
    have HE : ∀ {wx va}, Keep No w wx → Rd wx (fun _ => True) va beginL.length (bv beginL) → Calls Try.prog 85 #[.slice (some ⟨g, o, none⟩) 8 cap, va] wx fun e w' => e = .returned (.bool false) ∧ wx = w' := by
      intro wx va k ha
      have := bytes_Equal (H8.out wx k) ha
      rwa [hdb] at this
    have HE2 := hid (fun wx va => @HE wx va)
    have HR := hid hres
    clear HE hdb hres
    go_enter Try.func19, Try.ntmps19
    go_upto_region 1 with fail
    go_cut [30] (fun q wx => q = .bool true ∧ Keep No (w.alloc (.cells #[.int .i64 0, .slice none 0 0, .slice none 0 0] 29)) wx)
    case first =>
      go_region_held3 (fun _ => True) (trivial)
        (first
          | (go_at_call 86; refine (image_begin _).mono ?_; rintro e wa ⟨va, rfl, hA⟩)
          | (go_at_call 85; refine (HE2.out _ _ ((k0.thenNo (Keep.drew _ _)).thenNo hA.keep) (hA.rd.mono (fun _ _ _ => trivial))).mono ?_; rintro e wb ⟨rfl, rfl⟩))
      all_goals
        go_wp2_with fail
        go_meet
        case rel => exact ⟨rfl, (Keep.drew _ _).trans hA.keep⟩
    case rest =>
      obtain ⟨rfl, kc⟩ := hcut
      have kw := k0.thenNo kc
      obtain ⟨q0, q1, q2, f0, f1, f2, fl⟩ := box3 (kc.heap (fun q => q) hB0)
      go_wp2
      refine get_done (kc.heap (fun q => q) hB0) rfl rfl rfl fun k => ?_
      rw [HR.out]
      exact ⟨rfl, kw.then k (fun i hi e => by omega)⟩

theorem image_Get {w : World} {F : Nat → Prop} {v : Value} {b : List UInt8} (hr : Rd w F v b.length (bv b)) (hmx : b.length ≤ 1000000) :
    Calls Try.prog 19 #[v] w (GetPost (getL b) w) := by
  by_cases h : b.length < 28
  · have : getL b = .err 3 := by unfold getL; rw [if_pos (.inl h)]
    rw [this]
    exact image_Get_3a hr h
  · exact image_Get_28 hr (by omega) hmx
end Go.Proofs.Ytnldmhljggcnpaa
