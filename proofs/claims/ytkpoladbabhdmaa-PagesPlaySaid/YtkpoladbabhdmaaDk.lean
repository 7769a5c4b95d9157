/- The disk as plain data, and what it is in memory. Conditions: none. -/
import Derived.Test.YtkpoladbabhdmaaMaps
namespace Go.Proofs.Ytkpoladbabhdmaa
open Go.RowKit
open Go.ChangeMaps (setBlock)

/-- each sector's last write -/
def last (l : List (Int × Bytes)) : Int → Option Bytes := l.foldl (fun f p => put f p.1 (some p.2)) (fun _ => none)
theorem last_nil : last [] = fun _ => none := rfl
theorem last_snoc (l : List (Int × Bytes)) (p : Int × Bytes) : last (l ++ [p]) = put (last l) p.1 (some p.2) := by
  simp [last, List.foldl_append]

/-- all writes that count, one behind the other; those ahead of 'lasts' last -/
structure Dk where
  size : Int
  all : List (Int × Bytes)
  lasts : Nat
  fuse : Int
  down : Bool
  a0 : Int
  a1 : Int
  a2 : Int

structure Dk.Wf (D : Dk) : Prop where
  s0 : 0 ≤ D.size
  s1 : D.size ≤ 65536
  f0 : -1 ≤ D.fuse
  f1 : D.fuse ≤ 9223372036854775807
  la : D.lasts ≤ D.all.length
  wr : ∀ p ∈ D.all, p.2.length = 256 ∧ 0 ≤ p.1 ∧ p.1 < D.size

/-- the cells of a write list: a number and a slice each -/
def pcells (ps : List (Int × Value × Bytes)) : List Value := ps.flatMap fun p => [.int .i64 p.1, p.2.1]
theorem length_pcells (ps : List (Int × Value × Bytes)) : (pcells ps).length = ps.length * 2 := by
  induction ps with
  | nil => rfl
  | cons p ps ih => simp [pcells] at ih ⊢; omega

def dcells (D : Dk) (bn bl : Nat) (pv : Value) : Array Value :=
  #[.int .i64 D.size, .map (some bn), .map (some bl), pv, .int .i64 D.fuse, .bool D.down, .int .i64 D.a0, .int .i64 D.a1, .int .i64 D.a2]

/-- block b is the program's disk D; F: its blocks that may turn -/
def DiskAt (w : World) (b : Nat) (D : Dk) (F : List Nat) : Prop :=
  D.Wf ∧ ∃ bn bl pv es1 c1 es2 c2 ps,
    w.heap[b]? = some (.cells (dcells D bn bl pv) 125 (0, 0)) ∧
    w.heap[bn]? = some (.map es1 c1) ∧ MOk (BytesO w) es1 c1 (last D.all) ∧
    w.heap[bl]? = some (.map es2 c2) ∧ MOk (BytesO w) es2 c2 (last (D.all.take D.lasts)) ∧
    w.ownsRow 0 129 2 pv ps.length (pcells ps) ∧ (∀ p ∈ ps, BytesO w p.2.1 p.2.2) ∧ ps.map (fun p => (p.1, p.2.2)) = D.all.drop D.lasts ∧
    bn ≠ bl ∧ F = b :: bn :: bl :: pv.ownBlock.toList

theorem DiskAt.lt {w : World} {b : Nat} {D : Dk} {F : List Nat} (h : DiskAt w b D F) : ∀ k ∈ F, k < w.heap.size := by
  obtain ⟨_, bn, bl, pv, es1, c1, es2, c2, ps, h1, h2, _, h3, _, h4, _, _, _, rfl⟩ := h
  intro k hk
  simp only [List.mem_cons, Option.mem_toList] at hk
  rcases hk with rfl | rfl | rfl | hk
  · exact lt_of_heap h1
  · exact lt_of_heap h2
  · exact lt_of_heap h3
  · exact (h4.lt k hk).2

theorem DiskAt.self {w : World} {b : Nat} {D : Dk} {F : List Nat} (h : DiskAt w b D F) : b ∈ F := by
  obtain ⟨_, bn, bl, pv, es1, c1, es2, c2, ps, _, _, _, _, _, _, _, _, _, rfl⟩ := h
  simp

/-- none of the disk's blocks is one of bytes -/
theorem DiskAt.nobyte {w : World} {b : Nat} {D : Dk} {F : List Nat} (h : DiskAt w b D F) : ∀ k ∈ F, ∀ (c : Array Value) (fz : Nat × Nat), w.heap[k]? ≠ some (.cells c 5 fz) := by
  obtain ⟨_, bn, bl, pv, es1, c1, es2, c2, ps, h1, h2, _, h3, _, h4, _, _, _, rfl⟩ := h
  intro k hk c fz
  simp only [List.mem_cons, Option.mem_toList] at hk
  rcases hk with rfl | rfl | rfl | hk
  · rw [h1]; simp
  · rw [h2]; simp
  · rw [h3]; simp
  · rcases h4.2 with ⟨rfl, _⟩ | ⟨g, cap, cur, rfl, _, hg, _⟩
    · cases hk
    · cases hk; rw [hg]; simp

/-- what does not touch its blocks leaves the disk as it was -/
theorem DiskAt.upd {w w' : World} {b : Nat} {D : Dk} {F S : List Nat} (h : DiskAt w b D F) (hu : Upd S w w') (hd : ∀ k ∈ F, k ∉ S) : DiskAt w' b D F := by
  obtain ⟨hw, bn, bl, pv, es1, c1, es2, c2, ps, h1, h2, h3, h4, h5, h6, h7, h8, h9, rfl⟩ := h
  refine ⟨hw, bn, bl, pv, es1, c1, es2, c2, ps, hu.kept h1 (hd _ (by simp)), hu.kept h2 (hd _ (by simp)), h3.mono fun v l hv => hv.upd hu, hu.kept h4 (hd _ (by simp)), h5.mono fun v l hv => hv.upd hu, ?_, fun p hp => (h7 p hp).upd hu, h8, h9, rfl⟩
  exact ownsRow_upd h6 hu fun k hk => hd k (by simp [hk])

end Go.Proofs.Ytkpoladbabhdmaa
