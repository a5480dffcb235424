import Derived.Test.YtnldmhljggcnpaaWord2
import Derived.Laws.BitsAllLaws
namespace Go.Proofs.Ytnldmhljggcnpaa
set_option linter.unusedSimpArgs false
set_option linter.unusedVariables false
open Go.RowKit Cantle

/-! ### a byte of a row of one's own is turned -/
theorem Rd.takeB {w : World} {F : Nat → Prop} {A : Option Addr} {n c k : Nat} {l : List UInt8} (h : Rd w F (.slice A n c) n (bv l)) (hl : l.length = n) (hk : k ≤ n) : Rd w F (.slice A k c) k (bv (l.take k)) := by
  obtain ⟨A', c', e, h1, h2, h3⟩ := h
  cases e
  refine ⟨A, c, rfl, by omega, h2, fun hne => ?_⟩
  obtain ⟨b, o, e, hF, hb, hc⟩ := h3 (fun e => hne (by
    have : l = [] := by simpa [bv] using e
    rw [this]; simp [bv]))
  refine ⟨b, o, e, hF, hb, fun j u hj => hc j u ?_⟩
  rw [bv, List.map_take, List.getElem?_take] at hj
  split at hj
  · exact hj
  · cases hj
theorem OwnB.setByte {w : World} {g n cap : Nat} {l : List UInt8} (h : OwnB w (.slice (some ⟨g, 0, none⟩) n cap) l) (hl : l.length = n) (j : Nat) (x : UInt8) :
    OwnB (w.setCell ⟨g, j, none⟩ (.int .u8 (x.toNat : Int))) (.slice (some ⟨g, 0, none⟩) n cap) (l.set j x) ∧ Keep (fun i => i = g) w (w.setCell ⟨g, j, none⟩ (.int .u8 (x.toNat : Int))) := by
  subst hl
  have hst := (World.ownsRow.stored (w := w) h j (.int .u8 (x.toNat : Int))).1
  refine ⟨?_, Keep.setCell w ⟨g, j, none⟩ _ rfl⟩
  have e : bv (l.set j x) = (bv l).set j (.int .u8 (x.toNat : Int)) := by rw [bv, List.map_set]; rfl
  unfold OwnB
  rw [e, List.length_set]
  exact hst
theorem OwnB.cellAt {w : World} {g n cap : Nat} {l : List UInt8} (h : OwnB w (.slice (some ⟨g, 0, none⟩) n cap) l) (hl : l.length = n) (j : Nat) (hj : j < l.length) : w.cell? ⟨g, j, none⟩ = some (.int .u8 ((l[j]).toNat : Int)) ∧ w.frozen? ⟨g, j, none⟩ = false := by
  subst hl
  have := World.ownsRow.cells (g := g) h rfl j _ (bv_get? l j hj)
  rw [addr_add, Nat.zero_add] at this
  exact ⟨this, World.ownsRow.frozenAt h j⟩
theorem OwnB.somewhere {w : World} {v : Value} {l : List UInt8} (h : OwnB w v l) (hl : 0 < l.length) : ∃ g cap, v = .slice (some ⟨g, 0, none⟩) l.length cap ∧ l.length ≤ cap := by
  rcases h.2 with ⟨_, e⟩ | ⟨g, cap, cur, e, _, _, h1, _⟩
  · omega
  · exact ⟨g, cap, e, h1⟩
theorem xor_byte (u : UInt8) {y : Nat} (hy : y < 256) : ∃ x : UInt8, bits .xor .u8 ((u.toNat : Nat) : Int) ((y : Nat) : Int) = ((x.toNat : Nat) : Int) ∧ x.toNat = u.toNat ^^^ y := by
  have hu : u.toNat < 256 := u.toNat_lt
  have hx : u.toNat ^^^ y < 256 := Nat.xor_lt_two_pow (n := 8) hu hy
  have e : (UInt8.ofNat (u.toNat ^^^ y)).toNat = u.toNat ^^^ y := by
    rw [UInt8.toNat_ofNat']
    exact Nat.mod_eq_of_lt hx
  refine ⟨UInt8.ofNat (u.toNat ^^^ y), ?_, e⟩
  rw [u8_xor_nat _ _ hu hy, e]
theorem xor_back {u x : UInt8} {y : Nat} (h : x.toNat = u.toNat ^^^ y) : u.toNat = x.toNat ^^^ y := by rw [h, Nat.xor_assoc, Nat.xor_self, Nat.xor_zero]
theorem xor_same {u x : UInt8} {y : Nat} (h : x.toNat = u.toNat ^^^ y) (hy : y ≠ 0) : x ≠ u := by
  intro e
  subst e
  apply hy
  have : x.toNat ^^^ x.toNat = x.toNat ^^^ (x.toNat ^^^ y) := by rw [← h]
  rw [Nat.xor_self, ← Nat.xor_assoc, Nat.xor_self, Nat.zero_xor] at this
  exact this.symm
end Go.Proofs.Ytnldmhljggcnpaa
