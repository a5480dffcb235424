import Derived.Test.YtnldmhljggcnpaaRows
import Derived.WalkKit
import Derived.WalkSpells
import Derived.WalkLawsBesides
import Derived.Deep.QuietTactic
import Derived.BigQuiet
import Derived.Below
import Derived.Deep.AppendLies
import Derived.Deep.AppendSrc
import Derived.Laws.CopyOwn
import Derived.Maps.AppendAt
import Derived.LaidEql
import Derived.Lib.AppendZeros
import Derived.Laws.OwnMore
/-! Words on memory that all contracts of this seat use: what a call leaves as it was; rows of cells; an arena. -/
namespace Go.Proofs.Ytnldmhljggcnpaa
set_option linter.unusedSimpArgs false
set_option linter.unusedVariables false
open Go.RowKit

theorem hid {p : Prop} (h : p) : RowKit.Hid p := h

theorem maxLen_le {n : Nat} (h : n ≤ maxLen) : n ≤ 9223372036854775807 := by unfold maxLen at h; omega

/-! ### What a call leaves as it was -/
/-- All blocks that were there, but those of S, are as they were; the streams too. -/
structure Keep (S : Nat → Prop) (w w' : World) : Prop where
  os : w'.os = w.os
  tape : w'.tape = w.tape
  output : w'.output = w.output
  size : w.heap.size ≤ w'.heap.size
  block : ∀ i, i < w.heap.size → ¬ S i → w'.heap[i]? = w.heap[i]?
/-- no block at all -/
def No : Nat → Prop := fun _ => False

theorem Keep.refl (S : Nat → Prop) (w : World) : Keep S w w := ⟨rfl, rfl, rfl, Nat.le_refl _, fun _ _ _ => rfl⟩
theorem Keep.trans {S : Nat → Prop} {a b c : World} (h : Keep S a b) (k : Keep S b c) : Keep S a c :=
  ⟨k.os.trans h.os, k.tape.trans h.tape, k.output.trans h.output, Nat.le_trans h.size k.size, fun i hi hs => (k.block i (Nat.lt_of_lt_of_le hi h.size) hs).trans (h.block i hi hs)⟩
theorem Keep.mono {S S' : Nat → Prop} {a b : World} (h : Keep S a b) (hs : ∀ i, i < a.heap.size → S i → S' i) : Keep S' a b :=
  ⟨h.os, h.tape, h.output, h.size, fun i hi hn => h.block i hi (fun q => hn (hs i hi q))⟩
/-- one step behind another, of which the second may touch what is new besides -/
theorem Keep.then {S S' : Nat → Prop} {a b c : World} (h : Keep S a b) (k : Keep S' b c) (hs : ∀ i, i < a.heap.size → S' i → S i) : Keep S a c :=
  ⟨k.os.trans h.os, k.tape.trans h.tape, k.output.trans h.output, Nat.le_trans h.size k.size,
    fun i hi hn => (k.block i (Nat.lt_of_lt_of_le hi h.size) (fun q => hn (hs i hi q))).trans (h.block i hi hn)⟩
theorem Keep.no {S : Nat → Prop} {a b : World} (h : Keep No a b) : Keep S a b := h.mono fun _ _ q => q.elim
theorem Keep.thenNo {S : Nat → Prop} {a b c : World} (h : Keep S a b) (k : Keep No b c) : Keep S a c := h.then k (fun _ _ q => q.elim)
theorem Keep.ofBelow {a b : World} (h : Below a.heap.size a b) : Keep No a b := ⟨h.os, h.tape, h.output, h.size, fun i hi _ => h.block i hi⟩
theorem Keep.toBelow {a b : World} (h : Keep No a b) : Below a.heap.size a b := ⟨h.os, h.tape, h.output, h.size, fun i hi => h.block i hi (fun q => q)⟩
theorem Keep.below {B : Nat} {S : Nat → Prop} {w0 a b : World} (h0 : Below B w0 a) (h : Keep S a b) (hB : B ≤ a.heap.size) (hs : ∀ i, S i → B ≤ i) : Below B w0 b :=
  h0.trans ⟨h.os, h.tape, h.output, h.size, fun i hi => h.block i (by omega) (fun q => by have := hs i q; omega)⟩
theorem Keep.alloc (S : Nat → Prop) (w : World) (o : Obj) : Keep S w (w.alloc o) := ⟨rfl, rfl, rfl, by simp, fun i hi _ => Below.heap_alloc _ _ _ hi⟩
theorem Keep.drew (S : Nat → Prop) (w : World) : Keep S w w.drew := ⟨rfl, rfl, rfl, Nat.le_refl _, fun _ _ _ => rfl⟩
theorem Keep.drewN (S : Nat → Prop) (w : World) (n : Nat) : Keep S w (w.drewN n) := ⟨rfl, rfl, rfl, Nat.le_refl _, fun _ _ _ => rfl⟩
theorem Keep.setCell {S : Nat → Prop} (w : World) (a : Addr) (v : Value) (h : S a.block) : Keep S w (w.setCell a v) :=
  ⟨rfl, rfl, rfl, by simp [World.setCell], fun i _ hs => Below.heap_setCell _ _ _ _ (fun e => hs (e ▸ h))⟩
theorem Keep.setRow {S : Nat → Prop} (w : World) (g : Nat) (c : Array Value) (h : S g) : Keep S w (w.setRow g c) :=
  ⟨rfl, rfl, rfl, by simp [World.setRow], fun i _ hs => setRow_other w g i c (fun e => hs (e ▸ h))⟩
theorem Keep.grown {S : Nat → Prop} {w w' : World} {row : Option Nat} (h : w.grownBy w' row) (hr : ∀ k, row = some k → S k) : Keep S w w' :=
  ⟨h.os, h.tape, h.output, h.size, fun i hi hs => h.block i hi (fun e => hs (hr i e.symm))⟩
theorem Keep.cell {S : Nat → Prop} {w w' : World} (h : Keep S w w') {a : Addr} {v : Value} (hs : ¬ S a.block) (hc : w.cell? a = some v) : w'.cell? a = some v :=
  (World.cell?_of_block (h.block a.block (World.block_lt_of_cell? w a hc) hs)).trans hc
theorem Keep.heap {S : Nat → Prop} {w w' : World} (h : Keep S w w') {i : Nat} {o : Obj} (hs : ¬ S i) (hc : w.heap[i]? = some o) : w'.heap[i]? = some o :=
  (h.block i (Array.getElem?_eq_some_iff.1 hc).1 hs).trans hc
theorem Keep.owns {S : Nat → Prop} {w w' : World} (h : Keep S w w') {base : Nat} {e : TypeId} {size n : Nat} {v : Value} {xs : List Value}
    (hs : ∀ k, v.ownBlock = some k → ¬ S k) (ho : w.ownsRow base e size v n xs) : w'.ownsRow base e size v n xs := by
  refine ⟨ho.1, ?_⟩
  rcases ho.2 with hn | ⟨g, cap, cur, rfl, hb, hg, r⟩
  · exact .inl hn
  · exact .inr ⟨g, cap, cur, rfl, hb, h.heap (hs g (by simp [Value.ownBlock])) hg, r⟩

/-! ### Cells of a block -/
theorem cell_blk {w : World} {g : Nat} {cs : Array Value} {e : TypeId} {f : Nat × Nat} (h : w.heap[g]? = some (.cells cs e f)) (o : Nat) : w.cell? ⟨g, o, none⟩ = cs[o]? := by
  simp [World.cell?, h]
theorem frozen_blk {w : World} {g : Nat} {cs : Array Value} {e : TypeId} (h : w.heap[g]? = some (.cells cs e (0, 0))) (o : Nat) : w.frozen? ⟨g, o, none⟩ = false := by
  simp [World.frozen?, h]
theorem lt_blk {w : World} {g : Nat} {o : Obj} (h : w.heap[g]? = some o) : g < w.heap.size := (Array.getElem?_eq_some_iff.1 h).1
theorem addr_add (g o j : Nat) : (⟨g, o, none⟩ : Addr).add j = ⟨g, o + j, none⟩ := by unfold Addr.add; split <;> simp_all
theorem setCell_blk {w : World} {g : Nat} {cs : Array Value} {e : TypeId} {f : Nat × Nat} (h : w.heap[g]? = some (.cells cs e f)) (o : Nat) (v : Value) :
    (w.setCell ⟨g, o, none⟩ v).heap[g]? = some (.cells (cs.setIfInBounds o v) e f) := by
  simp [World.setCell, Array.getElem?_modify, h]

/-! ### Slices that are read -/
/-- The slice v has n elements, whose cells are cs; its block, if it has elements, is one of F. -/
def Rd (w : World) (F : Nat → Prop) (v : Value) (n : Nat) (cs : List Value) : Prop :=
  ∃ A cap, v = .slice A n cap ∧ n ≤ cap ∧ cap ≤ 9223372036854775807 ∧ (cs ≠ [] → ∃ b o, A = some ⟨b, o, none⟩ ∧ F b ∧ b < w.heap.size ∧ ∀ j u, cs[j]? = some u → w.cell? ⟨b, o + j, none⟩ = some u)
theorem Rd.keep {S F : Nat → Prop} {w w' : World} {v : Value} {n : Nat} {cs : List Value} (h : Rd w F v n cs) (k : Keep S w w') (hs : ∀ i, F i → ¬ S i) : Rd w' F v n cs := by
  obtain ⟨A, cap, rfl, h1, h2, h3⟩ := h
  refine ⟨A, cap, rfl, h1, h2, fun hn => ?_⟩
  obtain ⟨b, o, e, hF, hb, hc⟩ := h3 hn
  exact ⟨b, o, e, hF, Nat.lt_of_lt_of_le hb k.size, fun j u hj => k.cell (hs b hF) (hc j u hj)⟩
theorem Rd.keepNo {F : Nat → Prop} {w w' : World} {v : Value} {n : Nat} {cs : List Value} (h : Rd w F v n cs) (k : Keep No w w') : Rd w' F v n cs := h.keep k (fun _ _ q => q)
theorem Rd.mono {F F' : Nat → Prop} {w : World} {v : Value} {n : Nat} {cs : List Value} (h : Rd w F v n cs) (hf : ∀ i, i < w.heap.size → F i → F' i) : Rd w F' v n cs := by
  obtain ⟨A, cap, rfl, h1, h2, h3⟩ := h
  refine ⟨A, cap, rfl, h1, h2, fun hn => ?_⟩
  obtain ⟨b, o, e, hF, hb, hc⟩ := h3 hn
  exact ⟨b, o, e, hf b hb hF, hb, hc⟩
theorem Rd.nil (w : World) (F : Nat → Prop) : Rd w F (.slice none 0 0) 0 [] := ⟨none, 0, rfl, Nat.le_refl _, by omega, fun h => absurd rfl h⟩
theorem Rd.ofOwn {w : World} {base : Nat} {e : TypeId} {size n : Nat} {v : Value} {xs : List Value} (h : w.ownsRow base e size v n xs) : Rd w (fun i => v.ownBlock = some i) v n xs := by
  rcases h.2 with ⟨rfl, rfl⟩ | ⟨g, cap, cur, rfl, hb, hg, h1, h2, h3, h4⟩
  · have : xs = [] := List.eq_nil_of_length_eq_zero (by simpa using h.1)
    subst this
    exact ⟨none, 0, rfl, Nat.le_refl _, by omega, fun h => absurd rfl h⟩
  · refine ⟨some ⟨g, 0, none⟩, cap, rfl, h1, by unfold maxLen at h2; omega, fun _ => ⟨g, 0, rfl, rfl, lt_blk hg, fun j u hj => ?_⟩⟩
    have := h.cells (g := g) rfl j u hj
    rwa [addr_add] at this
/-- The slice that is cut out of it: elements of one cell. -/
theorem Rd.cells {w : World} {F : Nat → Prop} {v : Value} {n : Nat} {cs : List Value} (h : Rd w F v n cs) (hn : 0 < cs.length) :
    ∃ b o cap, v = .slice (some ⟨b, o, none⟩) n cap ∧ n ≤ cap ∧ cap ≤ 9223372036854775807 ∧ F b ∧ b < w.heap.size ∧ ∀ j u, cs[j]? = some u → w.cell? ⟨b, o + j, none⟩ = some u := by
  obtain ⟨A, cap, rfl, h1, h2, h3⟩ := h
  obtain ⟨b, o, rfl, hF, hb, hc⟩ := h3 (List.ne_nil_of_length_pos hn)
  exact ⟨b, o, cap, rfl, h1, h2, hF, hb, hc⟩

/-! ### Values -/
def byteV (x : UInt8) : Value := .int .u8 (x.toNat : Int)
/-- bytes as cells -/
def bv (l : List UInt8) : List Value := l.map byteV
theorem bv_length (l : List UInt8) : (bv l).length = l.length := by simp [bv]
theorem bv_append (a b : List UInt8) : bv (a ++ b) = bv a ++ bv b := by simp [bv]
theorem bv_one (l : List UInt8) : ∀ u ∈ bv l, u.oneCell' = true := by
  intro u hu
  simp only [bv, List.mem_map] at hu
  obtain ⟨x, _, rfl⟩ := hu
  rfl
theorem bv_get? (l : List UInt8) (j : Nat) (h : j < l.length) : (bv l)[j]? = some (.int .u8 ((l[j]).toNat : Int)) := by
  rw [bv, List.getElem?_map, List.getElem?_eq_getElem h]; rfl
theorem bv_get (l : List UInt8) (j : Nat) (h : j < (bv l).length) : (bv l)[j] = .int .u8 ((l[j]'(by simpa [bv] using h)).toNat : Int) := by simp [bv, byteV]
/-- an error: its number; 0: none -/
def errV : Nat → Value
  | 0 => .nilIface
  | n + 1 => .iface 136 (.int .i64 ((n + 1 : Nat) : Int))

/-! ### An arena -/
structure ArS where
  base : Nat
  cap : Nat
  b : List UInt8
/-- what an arena's calls may write: its struct, and the row of its bytes -/
def Fp (p : Nat) (V : Value) : Nat → Prop := fun i => i = p ∨ V.ownBlock = some i
structure Ar (w : World) (p : Nat) (V : Value) (s : ArS) : Prop where
  hp : w.heap[p]? = some (.cells #[.int .u64 (s.base : Int), .int .i64 (s.cap : Int), V] 188 (0, 0))
  hq : w.ownsRow 0 5 1 V s.b.length (bv s.b)
  ne : V.ownBlock ≠ some p
  base_le : s.base ≤ 2 ^ 62
  cap_le : s.cap ≤ 16384
  len_le : s.b.length ≤ s.cap
theorem Ar.keep {S : Nat → Prop} {w w' : World} {p : Nat} {V : Value} {s : ArS} (h : Ar w p V s) (k : Keep S w w') (hs : ∀ i, Fp p V i → ¬ S i) : Ar w' p V s :=
  ⟨k.heap (hs p (.inl rfl)) h.hp, k.owns (fun i hi => hs i (.inr hi)) h.hq, h.ne, h.base_le, h.cap_le, h.len_le⟩
theorem Ar.keepNo {w w' : World} {p : Nat} {V : Value} {s : ArS} (h : Ar w p V s) (k : Keep No w w') : Ar w' p V s := h.keep k (fun _ _ q => q)
theorem Ar.c0 {w : World} {p : Nat} {V : Value} {s : ArS} (h : Ar w p V s) : w.cell? ⟨p, 0, none⟩ = some (.int .u64 (s.base : Int)) := (cell_blk h.hp 0).trans rfl
theorem Ar.c1 {w : World} {p : Nat} {V : Value} {s : ArS} (h : Ar w p V s) : w.cell? ⟨p, 1, none⟩ = some (.int .i64 (s.cap : Int)) := (cell_blk h.hp 1).trans rfl
theorem Ar.c2 {w : World} {p : Nat} {V : Value} {s : ArS} (h : Ar w p V s) : w.cell? ⟨p, 2, none⟩ = some V := (cell_blk h.hp 2).trans rfl
theorem Ar.fz {w : World} {p : Nat} {V : Value} {s : ArS} (h : Ar w p V s) (o : Nat) : w.frozen? ⟨p, o, none⟩ = false := frozen_blk h.hp o
theorem Ar.lt {w : World} {p : Nat} {V : Value} {s : ArS} (h : Ar w p V s) : ∀ i, Fp p V i → i < w.heap.size := by
  intro i hi
  rcases hi with rfl | hi
  · exact lt_blk h.hp
  · exact (h.hq.lt i hi).2
theorem Ar.form {w : World} {p : Nat} {V : Value} {s : ArS} (h : Ar w p V s) : ∃ A cap, V = .slice A s.b.length cap ∧ s.b.length ≤ cap := by
  rcases h.hq.2 with ⟨rfl, h0⟩ | ⟨g, cap, cur, rfl, _, _, h1, _⟩
  · exact ⟨none, 0, by rw [h0], by omega⟩
  · exact ⟨_, _, rfl, h1⟩
/-! ### make -/
/-- n bytes, all 0, as a row -/
def zb (n : Nat) : Array Value := (bv (List.replicate n 0)).toArray
theorem zb_size (n : Nat) : (zb n).size = n := by simp [zb, bv]
theorem info_u8 : (Try.prog.info? 5).map (fun i => (i.zero, i.size, i.bytes)) = some (some (.int .u8 0), 1, 1) := by kernel_rfl
theorem info_int : (Try.prog.info? 3).map (fun i => (i.zero, i.size, i.bytes)) = some (some (.int .i64 0), 1, 8) := by kernel_rfl
theorem mk_bytes (n : Nat) (hn : n ≤ 281474976710656) (w : World) :
    (Instr.makeSlice 24 (.int .i64 (n : Int)) (.int .i64 (n : Int))).run Try.prog w = .ok (.slice (some ⟨w.heap.size, 0, none⟩) n n) (w.alloc (.cells (zb n) 5)) := by
  obtain ⟨i0, hi, hz0, hz1, hz2⟩ := info_parts info_u8
  have hr := run_make (P := Try.prog) w 24 5 i0 (.int .u8 0) Try.underlying24 hi hz0 .i64 .i64 n n (by omega) (Int.le_refl _) (by rw [hz2]; omega) (by omega)
  have e : madeCells (Value.cells (.int .u8 0)) n = zb n := by
    apply Array.toList_inj.1
    show (madeCells #[_] n).toList = _
    rw [toList_madeCells_one, zb, bv, List.map_replicate]
    rfl
  rw [hr, hz1, Int.toNat_natCast, Nat.mul_one, e]
theorem owns_alloc (w : World) (base : Nat) (hb : base ≤ w.heap.size) (e : TypeId) (cs : Array Value) (n : Nat) (hn : cs.size = n) (hm : n ≤ maxLen) :
    (w.alloc (.cells cs e)).ownsRow base e 1 (.slice (some ⟨w.heap.size, 0, none⟩) n n) n cs.toList :=
  ⟨by simp [hn], .inr ⟨w.heap.size, n, cs, rfl, hb, heap_alloc_new w _, Nat.le_refl _, hm, by rw [Nat.mul_one]; exact hn, by rw [Nat.mul_one, ← hn, ← Array.length_toList]; exact List.take_length⟩⟩
theorem keep_alloc (w : World) (o : Obj) : Keep No w (w.alloc o) := Keep.alloc _ _ _
/-- new bytes: in a row of their own -/
structure NewB (w w' : World) (v : Value) (l : List UInt8) : Prop where
  keep : Keep No w w'
  own : w'.ownsRow w.heap.size 5 1 v l.length (bv l)
theorem NewB.rd {w w' : World} {v : Value} {l : List UInt8} (h : NewB w w' v l) : Rd w' (fun i => w.heap.size ≤ i) v l.length (bv l) :=
  (Rd.ofOwn h.own).mono fun i _ hi => (h.own.lt i hi).1
theorem newB_alloc (w : World) (cs : Array Value) (l : List UInt8) (h : cs.toList = bv l) (hm : l.length ≤ maxLen) :
    NewB w (w.alloc (.cells cs 5)) (.slice (some ⟨w.heap.size, 0, none⟩) l.length l.length) l := by
  have hs : cs.size = l.length := by rw [← Array.length_toList, h, bv_length]
  refine ⟨keep_alloc _ _, ?_⟩
  rw [← h]
  exact owns_alloc w _ (Nat.le_refl _) _ cs l.length hs hm
/-! ### append -/
theorem append_none {P : Program} (w : World) (base : Nat) (t ty e : TypeId) (i : TypeInfo) (size : Nat) (ht : P.underlying t = some (.slice e)) (hi : P.info? e = some i)
    (v : Value) (n : Nat) (xs : List Value) (hown : w.ownsRow base e size v n xs) (c : Nat) :
    (Builtin.append_ #[t, t] ty #[v, .slice none 0 c]).run P w = .ok v w := by
  rcases hown.2 with ⟨rfl, rfl⟩ | ⟨g, cap, cur, rfl, _, _, hnc, _⟩
  · simp [Builtin.append_, run_underlying ht, sizeOf, typeInfo, hi, Builtin.lenOf, Builtin.firstCells]
  · simp [Builtin.append_, run_underlying ht, sizeOf, typeInfo, hi, Builtin.lenOf, Builtin.firstCells, hnc, storeCells]
/-- what comes of an append onto a row of one's own -/
structure App (w w' : World) (base : Nat) (e : TypeId) (size : Nat) (v v' : Value) (n : Nat) (xs : List Value) : Prop where
  own : w'.ownsRow base e size v' n xs
  keep : Keep (fun i => v.ownBlock = some i) w w'
  lies : ∀ k, v'.ownBlock = some k → v.ownBlock = some k ∨ w.heap.size ≤ k
theorem append_own {P : Program} (w : World) (base : Nat) (t ty e : TypeId) (i : TypeInfo) (z : Value) (size bytes : Nat) (ht : P.underlying t = some (.slice e)) (hi : P.info? e = some i) (hz : i.zero = some z)
    (hsize : i.size = size) (hby : i.bytes = bytes) (hzs : z.cells.size = size) (hsz : 0 < size)
    (v : Value) (n : Nat) (xs : List Value) (hown : w.ownsRow base e size v n xs) (F : Nat → Prop) (x : Value) (m : Nat) (news : List Value) (hx : Rd w F x m news) (hl : news.length = m * size) (h1 : ∀ u ∈ news, u.oneCell' = true)
    (h63 : n + m ≤ maxLen) (hbytes : (n + m) * bytes ≤ 140737488355328) (hbase : base ≤ w.heap.size) :
    ∃ v' w', (Builtin.append_ #[t, t] ty #[v, x]).run P w = .ok v' w' ∧ App w w' base e size v v' (n + m) (xs ++ news) := by
  obtain ⟨A, cap, rfl, hc1, hc2, hc3⟩ := hx
  cases A with
  | none =>
    have hn : news = [] := by
      by_cases h : news = []
      · exact h
      · obtain ⟨b, o, h, _⟩ := hc3 h; cases h
    subst hn
    obtain rfl : m = 0 := by
      rcases Nat.mul_eq_zero.1 hl.symm with h | h
      · exact h
      · omega
    refine ⟨v, w, append_none w base t ty e i size ht hi v n xs hown cap, ?_, Keep.refl _ _, fun k h => .inl h⟩
    rwa [List.append_nil]
  | some a =>
    have hnews : ∀ j u, news[j]? = some u → w.cell? (a.add j) = some u := by
      intro j u hu
      have hne : news ≠ [] := by intro h; subst h; simp at hu
      obtain ⟨b, o, he, _, _, hc⟩ := hc3 hne
      obtain rfl := Option.some.inj he
      rw [addr_add]; exact hc j u hu
    obtain ⟨v', w', hr, h2, h3, _, h5⟩ := run_append_own_at (P := P) w base t ty e i z size bytes ht hi hz hsize hby hzs hsz v n xs hown a m cap news hl hnews h1 h63 hbytes hbase
    refine ⟨v', w', hr, h2, Keep.grown h3 (fun k h => h), fun k hk => ?_⟩
    rcases h5 with h5 | h5
    · rw [h5] at hk; exact .inl hk
    · rw [h5] at hk
      have := Option.some.inj hk
      exact .inr (by omega)
/-- bytes behind bytes -/
def OwnB (w : World) (v : Value) (l : List UInt8) : Prop := w.ownsRow 0 5 1 v l.length (bv l)
theorem append_bytes {w : World} {v : Value} {l : List UInt8} (ho : OwnB w v l) {F : Nat → Prop} {x : Value} {l2 : List UInt8} (hx : Rd w F x l2.length (bv l2)) (hm : l.length + l2.length ≤ 140737488355328) (ty : TypeId) :
    ∃ v' w', (Builtin.append_ #[24, 24] ty #[v, x]).run Try.prog w = .ok v' w' ∧ OwnB w' v' (l ++ l2) ∧ Keep (fun i => v.ownBlock = some i) w w' ∧ (∀ k, v'.ownBlock = some k → v.ownBlock = some k ∨ w.heap.size ≤ k) := by
  obtain ⟨i0, hi, hz0, hz1, hz2⟩ := info_parts info_u8
  obtain ⟨v', w', hr, h⟩ := append_own (P := Try.prog) w 0 24 ty 5 i0 (.int .u8 0) 1 1 Try.underlying24 hi hz0 hz1 hz2 rfl (by decide) v _ _ ho F x _ _ hx (by rw [bv_length, Nat.mul_one]) (bv_one _) (by unfold maxLen; omega) (by omega) (Nat.zero_le _)
  refine ⟨v', w', hr, ?_, h.keep, h.lies⟩
  have := h.own
  unfold OwnB
  rwa [bv_append, List.length_append]
theorem OwnB.rd {w : World} {v : Value} {l : List UInt8} (h : OwnB w v l) : Rd w (fun i => v.ownBlock = some i) v l.length (bv l) := Rd.ofOwn h
theorem OwnB.keep {S : Nat → Prop} {w w' : World} {v : Value} {l : List UInt8} (h : OwnB w v l) (k : Keep S w w') (hs : ∀ i, v.ownBlock = some i → ¬ S i) : OwnB w' v l := k.owns hs h
theorem OwnB.keepNo {w w' : World} {v : Value} {l : List UInt8} (h : OwnB w v l) (k : Keep No w w') : OwnB w' v l := h.keep k (fun _ _ q => q)
theorem OwnB.lt {w : World} {v : Value} {l : List UInt8} (h : OwnB w v l) : ∀ k, v.ownBlock = some k → k < w.heap.size := fun k hk => (World.ownsRow.lt h k hk).2
theorem OwnB.nil (w : World) : OwnB w (.slice none 0 0) [] := World.ownsRow_nil w 0 _ 1
theorem NewB.ownB {w w' : World} {v : Value} {l : List UInt8} (h : NewB w w' v l) : OwnB w' v l := by
  refine ⟨h.own.1, ?_⟩
  rcases h.own.2 with h | ⟨g, cap, cur, hv, _, r⟩
  · exact .inl h
  · exact .inr ⟨g, cap, cur, hv, Nat.zero_le _, r⟩
theorem NewB.ge {w w' : World} {v : Value} {l : List UInt8} (h : NewB w w' v l) : ∀ k, v.ownBlock = some k → w.heap.size ≤ k := fun k hk => (h.own.lt k hk).1
/-- an append of which the run is known, as a step of a region that draws its order -/
theorem step_append_run {P : Program} {ops : Array Oper} {o : Oper} {a : Act} {w : World} {K : Act → World → Prop} {Q : Exit → Act → World → Prop} {E : Prop} (hgd : o.guard = none) (s x : Operand) (t tn : TypeId)
    (ho : o.op = .call { callee := .builtin .append, args := #[s, x], argTypes := #[t, tn] }) (vs vx : Value) (hs : a.eval s = vs) (hx : a.eval x = vx)
    (v' : Value) (w' : World) (hr : (Builtin.append_ #[t, tn] o.type #[vs, vx]).run P w = .ok v' w') (h : K (a.put o.dst v') w') :
    if Region.wanted o (yielded ops a.tmps) = true then Oper.wp P o a w K Q else E := by
  rw [if_pos (by simp [Region.wanted, hgd])]
  exact Lib.wp_append_run w s x t tn ho vs vx hs hx v' w' hr h
end Go.Proofs.Ytnldmhljggcnpaa
