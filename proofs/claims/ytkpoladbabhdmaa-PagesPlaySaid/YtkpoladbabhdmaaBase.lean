/- Words for what the calls do to memory: bytes of a slice, blocks that stay, maps from int. Conditions: none. -/
import Derived.Test.YtkpoladbabhdmaaProg
import Derived.WalkKit
import Derived.WalkSpells
import Derived.WalkLawsBesides
import Derived.Lib.Hide
import Derived.Maps.RangeRun
namespace Go.Proofs.Ytkpoladbabhdmaa
open Go.RowKit
open Go.ChangeMaps (setBlock)

abbrev Bytes := List UInt8
/-- a byte as a cell holds it -/
def byte (x : UInt8) : Value := .int .u8 (x.toNat : Int)
theorem byte_def (x : UInt8) : byte x = .int .u8 (x.toNat : Int) := rfl
theorem byte_inj {x y : UInt8} (h : byte x = byte y) : x = y := by
  simp only [byte, Value.int.injEq, true_and] at h
  exact UInt8.toNat_inj.1 (by omega)

/-- What was there has not turned but for the blocks of S; bytes never turn. -/
structure Upd (S : List Nat) (w w' : World) : Prop where
  os : w'.os = w.os
  tape : w'.tape = w.tape
  output : w'.output = w.output
  size : w.heap.size ≤ w'.heap.size
  block : ∀ k, k < w.heap.size → k ∉ S → w'.heap[k]? = w.heap[k]?
  byteb : ∀ (k : Nat) (c : Array Value) (fz : Nat × Nat), w.heap[k]? = some (Obj.cells c 5 fz) → w'.heap[k]? = w.heap[k]?

theorem lt_of_heap {w : World} {k : Nat} {o : Obj} (h : w.heap[k]? = some o) : k < w.heap.size := (Array.getElem?_eq_some_iff.1 h).1

theorem Upd.refl (S : List Nat) (w : World) : Upd S w w := ⟨rfl, rfl, rfl, Nat.le_refl _, fun _ _ _ => rfl, fun _ _ _ _ => rfl⟩

theorem Upd.trans {S S' : List Nat} {a b c : World} (h : Upd S a b) (k : Upd S' b c) (hs : ∀ x ∈ S', x ∈ S ∨ a.heap.size ≤ x) : Upd S a c := by
  refine ⟨k.os.trans h.os, k.tape.trans h.tape, k.output.trans h.output, Nat.le_trans h.size k.size, fun x hx hn => ?_, fun x cs fz hx => ?_⟩
  · rw [k.block x (Nat.lt_of_lt_of_le hx h.size) (fun hm => (hs x hm).elim (fun h1 => hn h1) (fun h1 => by omega))]
    exact h.block x hx hn
  · have h1 := h.byteb x cs fz hx
    rw [k.byteb x cs fz (h1.trans hx), h1]

theorem Upd.mono {S S' : List Nat} {a b : World} (h : Upd S a b) (hs : ∀ x ∈ S, x ∈ S' ∨ a.heap.size ≤ x) : Upd S' a b := by
  refine ⟨h.os, h.tape, h.output, h.size, fun x hx hn => h.block x hx (fun hm => (hs x hm).elim (fun h1 => hn h1) (fun h1 => by omega)), h.byteb⟩

theorem Upd.drew {S : List Nat} {a w : World} (h : Upd S a w) : Upd S a w.drew := ⟨h.os, h.tape, h.output, h.size, h.block, h.byteb⟩

theorem heap_alloc_lt (w : World) (o : Obj) {k : Nat} (h : k < w.heap.size) : (w.alloc o).heap[k]? = w.heap[k]? := by
  show (w.heap.push o)[k]? = _
  rw [Array.getElem?_push, if_neg (by omega)]
theorem heap_alloc_new' (w : World) (o : Obj) : (w.alloc o).heap[w.heap.size]? = some o := by
  show (w.heap.push o)[w.heap.size]? = _
  rw [Array.getElem?_push, if_pos rfl]
theorem size_alloc (w : World) (o : Obj) : (w.alloc o).heap.size = w.heap.size + 1 := by
  show (w.heap.push o).size = _
  simp
theorem heap_setCell_ne (w : World) (a : Addr) (v : Value) {k : Nat} (h : k ≠ a.block) : (w.setCell a v).heap[k]? = w.heap[k]? := Below.heap_setCell w a v k h
theorem heap_setCell_eq (w : World) (b o : Nat) (v : Value) {c : Array Value} {e : TypeId} {fz : Nat × Nat} (h : w.heap[b]? = some (.cells c e fz)) :
    (w.setCell ⟨b, o, none⟩ v).heap[b]? = some (.cells (c.setIfInBounds o v) e fz) := by
  simp [World.setCell, Array.getElem?_modify, h]
theorem size_setCell (w : World) (a : Addr) (v : Value) : (w.setCell a v).heap.size = w.heap.size := by simp [World.setCell]
theorem heap_setBlock_ne (w : World) (b : Nat) (o : Obj) {k : Nat} (h : k ≠ b) : (setBlock w b o).heap[k]? = w.heap[k]? := by
  simp [setBlock, Ne.symm h]
theorem heap_setBlock_eq (w : World) (b : Nat) (o : Obj) (h : b < w.heap.size) : (setBlock w b o).heap[b]? = some o := by
  simp [setBlock, h]
theorem size_setBlock (w : World) (b : Nat) (o : Obj) : (setBlock w b o).heap.size = w.heap.size := by simp [setBlock]

theorem Upd.alloc {S : List Nat} {a w : World} (h : Upd S a w) (o : Obj) : Upd S a (w.alloc o) := by
  refine h.trans (S' := []) ⟨rfl, rfl, rfl, by rw [size_alloc]; omega, fun k hk _ => heap_alloc_lt w o hk, fun k c fz hk => heap_alloc_lt w o (lt_of_heap hk)⟩ (by simp)

/-- one block written -/
theorem Upd.one {a : World} {b : Nat} {a' : World} (hos : a'.os = a.os) (htp : a'.tape = a.tape) (hou : a'.output = a.output) (hsz : a'.heap.size = a.heap.size)
    (hne : ∀ k, k ≠ b → a'.heap[k]? = a.heap[k]?) (hb : ∀ (c : Array Value) (fz : Nat × Nat), a.heap[b]? ≠ some (Obj.cells c 5 fz)) : Upd [b] a a' := by
  refine ⟨hos, htp, hou, by omega, fun k _ hn => hne k (by simpa using hn), fun k c fz hk => hne k ?_⟩
  rintro rfl
  exact hb c fz hk

theorem Upd.setCell {S : List Nat} {a w : World} (h : Upd S a w) {b o : Nat} (v : Value) (hb : b ∈ S ∨ a.heap.size ≤ b)
    (hn : a.heap.size ≤ b ∨ ∀ (c : Array Value) (fz : Nat × Nat), a.heap[b]? ≠ some (Obj.cells c 5 fz)) : Upd S a (w.setCell ⟨b, o, none⟩ v) := by
  refine ⟨h.os, h.tape, h.output, by rw [size_setCell]; exact h.size, fun k hk hkn => ?_, fun k c fz hk => ?_⟩
  · rw [heap_setCell_ne _ _ _ (by rintro rfl; exact hb.elim (fun h1 => hkn h1) (fun h1 => by omega))]
    exact h.block k hk hkn
  · rw [heap_setCell_ne _ _ _ (by rintro rfl; exact hn.elim (fun h1 => by have := lt_of_heap hk; omega) (fun h1 => h1 c fz hk))]
    exact h.byteb k c fz hk

theorem Upd.setBlock {S : List Nat} {a w : World} (h : Upd S a w) {b : Nat} (o : Obj) (hb : b ∈ S ∨ a.heap.size ≤ b)
    (hn : a.heap.size ≤ b ∨ ∀ (c : Array Value) (fz : Nat × Nat), a.heap[b]? ≠ some (Obj.cells c 5 fz)) : Upd S a (setBlock w b o) := by
  refine ⟨h.os, h.tape, h.output, by rw [size_setBlock]; exact h.size, fun k hk hkn => ?_, fun k c fz hk => ?_⟩
  · rw [heap_setBlock_ne _ _ _ (by rintro rfl; exact hb.elim (fun h1 => hkn h1) (fun h1 => by omega))]
    exact h.block k hk hkn
  · rw [heap_setBlock_ne _ _ _ (by rintro rfl; exact hn.elim (fun h1 => by have := lt_of_heap hk; omega) (fun h1 => h1 c fz hk))]
    exact h.byteb k c fz hk

/-- behind the kit's laws on append, make -/
theorem Upd.grown {S : List Nat} {a w w' : World} {row : Option Nat} (h : Upd S a w) (hg : w.grownBy w' row) (hb : ∀ k, row = some k → k ∈ S ∨ a.heap.size ≤ k)
    (hn : ∀ k, row = some k → a.heap.size ≤ k ∨ ∀ (c : Array Value) (fz : Nat × Nat), a.heap[k]? ≠ some (Obj.cells c 5 fz)) : Upd S a w' := by
  refine ⟨hg.os.trans h.os, hg.tape.trans h.tape, hg.output.trans h.output, Nat.le_trans h.size hg.size, fun k hk hkn => ?_, fun k c fz hk => ?_⟩
  · rw [hg.block k (Nat.lt_of_lt_of_le hk h.size) (fun e => (hb k e.symm).elim (fun h1 => hkn h1) (fun h1 => by omega))]
    exact h.block k hk hkn
  · have hlt := lt_of_heap hk
    rw [hg.block k (Nat.lt_of_lt_of_le hlt h.size) (fun e => (hn k e.symm).elim (fun h1 => by omega) (fun h1 => h1 c fz hk))]
    exact h.byteb k c fz hk

theorem Upd.below {S : List Nat} {B : Nat} {a w : World} (h : Upd S a w) (hB : B ≤ a.heap.size) (hs : ∀ k ∈ S, B ≤ k) : Below B a w :=
  ⟨h.os, h.tape, h.output, h.size, fun k hk => h.block k (by omega) (fun hm => by have := hs k hm; omega)⟩

theorem Upd.kept {S : List Nat} {a w : World} (h : Upd S a w) {k : Nat} {o : Obj} (hk : a.heap[k]? = some o) (hn : k ∉ S) : w.heap[k]? = some o :=
  (h.block k (lt_of_heap hk) hn).trans hk

/-! ### bytes -/

/-- v is a slice of no element -/
def Empty (v : Value) : Prop := ∃ a cap, v = .slice a 0 cap ∧ cap ≤ maxLen
theorem Empty.nil : Empty (.slice none 0 0) := ⟨none, 0, rfl, Nat.zero_le _⟩

/-- v is a slice of bytes that read l -/
def BytesV (w : World) (v : Value) (l : Bytes) : Prop :=
  (Empty v ∧ l = []) ∨
    ∃ g off cap, v = .slice (some ⟨g, off, none⟩) l.length cap ∧ l.length ≤ cap ∧ cap ≤ maxLen ∧ ∀ i b, l[i]? = some b → w.cell? ⟨g, off + i, none⟩ = some (byte b)

/-- v is a slice at the head of a block of bytes of our own; nil only where l is empty -/
def BytesO (w : World) (v : Value) (l : Bytes) : Prop := w.ownsRow 0 5 1 v l.length (l.map byte)

theorem ownsRow_same {w w' : World} {base e size n : Nat} {v : Value} {xs : List Value} (h : w.ownsRow base e size v n xs) (hs : ∀ k, v.ownBlock = some k → w'.heap[k]? = w.heap[k]?) : w'.ownsRow base e size v n xs := by
  refine ⟨h.1, ?_⟩
  rcases h.2 with hn | ⟨g, cap, cur, rfl, hb, hgg, rest⟩
  · exact .inl hn
  · exact .inr ⟨g, cap, cur, rfl, hb, (hs g rfl).trans hgg, rest⟩

theorem ownsRow_upd {S : List Nat} {w w' : World} {base e size n : Nat} {v : Value} {xs : List Value} (h : w.ownsRow base e size v n xs) (hu : Upd S w w') (hs : ∀ k, v.ownBlock = some k → k ∉ S) : w'.ownsRow base e size v n xs :=
  ownsRow_same h fun k hk => hu.block k (h.lt k hk).2 (hs k hk)

theorem ownsRow_base {w : World} {base base' e size n : Nat} {v : Value} {xs : List Value} (h : w.ownsRow base e size v n xs) (hb : ∀ k, v.ownBlock = some k → base' ≤ k) : w.ownsRow base' e size v n xs := by
  refine ⟨h.1, ?_⟩
  rcases h.2 with hn | ⟨g, cap, cur, rfl, _, hgg, rest⟩
  · exact .inl hn
  · exact .inr ⟨g, cap, cur, rfl, hb g rfl, hgg, rest⟩

theorem BytesO.upd {S : List Nat} {w w' : World} {v : Value} {l : Bytes} (h : BytesO w v l) (hu : Upd S w w') : BytesO w' v l := by
  refine ⟨h.1, ?_⟩
  rcases h.2 with hn | ⟨g, cap, cur, rfl, hb, hgg, rest⟩
  · exact .inl hn
  · exact .inr ⟨g, cap, cur, rfl, hb, (hu.byteb g cur _ hgg).trans hgg, rest⟩

theorem BytesO.view {w : World} {v : Value} {l : Bytes} (h : BytesO w v l) : BytesV w v l := by
  rcases h.2 with ⟨rfl, h0⟩ | ⟨g, cap, cur, rfl, _, hgg, hnc, hcm, hcs, htk⟩
  · exact .inl ⟨.nil, List.eq_nil_of_length_eq_zero h0⟩
  · refine .inr ⟨g, 0, cap, rfl, hnc, hcm, fun i b hi => ?_⟩
    have h1 : (l.map byte)[i]? = some (byte b) := by simp [hi]
    rw [← htk, List.getElem?_take] at h1
    split at h1
    · simpa [World.cell?, hgg] using h1
    · cases h1

theorem BytesV.same {w w' : World} {v : Value} {l : Bytes} (h : BytesV w v l) (hs : ∀ g, v.ownBlock = some g → l ≠ [] → w'.heap[g]? = w.heap[g]?) : BytesV w' v l := by
  rcases h with h | ⟨g, off, cap, rfl, h1, h2, h3⟩
  · exact .inl h
  · refine .inr ⟨g, off, cap, rfl, h1, h2, fun i b hi => ?_⟩
    rw [World.cell?_of_block (w := w) (a := ⟨g, off + i, none⟩) (hs g rfl (by rintro rfl; simp at hi))]
    exact h3 i b hi

/-- the block of a view that is not empty lies -/
theorem BytesV.lt {w : World} {v : Value} {l : Bytes} (h : BytesV w v l) : ∀ g, v.ownBlock = some g → l ≠ [] → g < w.heap.size := by
  intro g hg hne
  rcases h with ⟨_, rfl⟩ | ⟨g', off, cap, rfl, h1, h2, h3⟩
  · exact absurd rfl hne
  · cases hg
    cases l with
    | nil => exact absurd rfl hne
    | cons x l => exact World.block_lt_of_cell? w _ (h3 0 x rfl)

theorem BytesV.upd {S : List Nat} {w w' : World} {v : Value} {l : Bytes} (h : BytesV w v l) (hu : Upd S w w') (hs : ∀ g, v.ownBlock = some g → l ≠ [] → g ∉ S) : BytesV w' v l :=
  h.same fun g hg hne => hu.block g (h.lt g hg hne) (hs g hg hne)

theorem BytesV.shape {w : World} {v : Value} {l : Bytes} (h : BytesV w v l) : ∃ a cap, v = .slice a l.length cap ∧ l.length ≤ cap ∧ cap ≤ maxLen := by
  rcases h with ⟨⟨a, cap, rfl, hc⟩, rfl⟩ | ⟨g, off, cap, rfl, h1, h2, _⟩
  · exact ⟨a, cap, rfl, Nat.zero_le _, hc⟩
  · exact ⟨_, cap, rfl, h1, h2⟩

theorem oneCell_byte (l : Bytes) : ∀ u ∈ l.map byte, u.oneCell' = true := by
  intro u hu
  obtain ⟨x, _, rfl⟩ := List.mem_map.1 hu
  rfl

end Go.Proofs.Ytkpoladbabhdmaa
