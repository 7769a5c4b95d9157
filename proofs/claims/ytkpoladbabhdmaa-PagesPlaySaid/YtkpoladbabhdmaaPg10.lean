/- The pages' Open, where all is as it may be. Conditions: as it says. -/
import Derived.Test.YtkpoladbabhdmaaPg6
namespace Go.Proofs.Ytkpoladbabhdmaa
open Go.RowKit

/-- the states of new pages of which the first k of L are kept -/
def keepIs (count : Nat) (L : List Nat) (k : Nat) : List Int := (L.take k).foldl (fun is n => is.set n 1) (List.replicate count 0)
theorem foldl_set_len (L : List Nat) : ∀ is : List Int, (L.foldl (fun is n => is.set n 1) is).length = is.length := by
  induction L with
  | nil => intro is; rfl
  | cons n L ih => intro is; rw [List.foldl_cons, ih, List.length_set]
theorem keepIs_len (count : Nat) (L : List Nat) (k : Nat) : (keepIs count L k).length = count := by rw [keepIs, foldl_set_len, List.length_replicate]
theorem keepIs_succ {count : Nat} {L : List Nat} {k n : Nat} (h : L[k]? = some n) : keepIs count L (k + 1) = (keepIs count L k).set n 1 := by
  unfold keepIs
  rw [List.take_add_one, h, Option.toList_some, List.foldl_append]
  rfl
theorem foldl_set_no (L : List Nat) (m : Nat) : ∀ is : List Int, m ∉ L → (L.foldl (fun is n => is.set n 1) is)[m]? = is[m]? := by
  induction L with
  | nil => intro is _; rfl
  | cons n L ih =>
    intro is hm
    simp only [List.mem_cons, not_or] at hm
    rw [List.foldl_cons, ih _ hm.2, List.getElem?_set, if_neg (Ne.symm hm.1)]
theorem keepIs_at {count : Nat} {L : List Nat} (hn : L.Nodup) {k n : Nat} (h : L[k]? = some n) (hc : n < count) : (keepIs count L k)[n]? = some 0 := by
  have hno : n ∉ L.take k := by
    intro hm
    obtain ⟨j, hj⟩ := List.mem_iff_getElem?.1 hm
    rw [List.getElem?_take] at hj
    split at hj
    · rename_i hjk
      obtain ⟨hjl, hje⟩ := List.getElem?_eq_some_iff.1 hj
      obtain ⟨hkl, hke⟩ := List.getElem?_eq_some_iff.1 h
      unfold List.Nodup at hn
      rw [List.pairwise_iff_getElem] at hn
      exact hn j k hjl hkl hjk (by rw [hje, hke])
    · cases hj
  unfold keepIs
  rw [foldl_set_no _ _ _ hno, List.getElem?_replicate, if_pos hc]

theorem Try.info153 : (Try.prog.info? 153).map (fun i => (i.zero, i.size, i.bytes)) = some (some (.int .i64 0), 1, 8) := by kernel_rfl

/-- the states of new pages, in memory -/
def zrow (n : Nat) : Array Value := ((List.replicate n 0).map gint).toArray

theorem make149 (w : World) (n : Nat) (h : n ≤ 100000) : (Instr.makeSlice 149 (.int .i64 (n : Int)) (.int .i64 (n : Int))).run Try.prog w = .ok (.slice (some ⟨w.heap.size, 0, none⟩) n n) (w.alloc (.cells (zrow n) 153)) := by
  obtain ⟨i, hi, hz, hsize, hby⟩ := info_parts Try.info153
  have h := run_make (P := Try.prog) w 149 153 i (.int .i64 0) Try.underlying149 hi hz .i64 .i64 (n : Int) (n : Int) (by omega) (Int.le_refl _) (by rw [hby]; omega) (by omega)
  have e : madeCells (Value.int .i64 0).cells n = ((List.replicate n 0).map gint).toArray := by
    refine Array.toList_inj.1 ?_
    have e1 : (Value.int .i64 0).cells = #[.int .i64 0] := rfl
    rw [e1, toList_madeCells_one]
    simp [gint]
  rw [h, hsize, Nat.mul_one, Int.toNat_natCast, e]
  rfl

def KeepV (w : World) (kv : Value) (L : List Nat) : Prop :=
  (kv = .slice none 0 0 ∧ L = []) ∨ ∃ g cap, kv = .slice (some ⟨g, 0, none⟩) L.length cap ∧ ∀ (j y : Nat), L[j]? = some y → w.cell? ⟨g, j, none⟩ = some (.int .i64 (y : Int))

/-- what lies there behind Open -/
def OpenedTo (D : Dk) (d from_ count pool : Nat) (L : List Nat) (w0 : World) (l : List Thing) (w : World) (e : Ending) (w' : World) : Prop :=
  ∃ (C : PC) (us : Value), C.d = d ∧ C.from_ = from_ ∧ C.pool = pool ∧ e = .returned (.tuple #[.pointer (some ⟨C.p, 0, none⟩), .int .i64 0]) ∧ Owns w0 (pth C ⟨D, keepIs count L L.length, [], false⟩ us l) w' ∧ Keeps w w'

theorem own_pnew {w0 w : World} {l : List Thing} {d : Nat} {D : Dk} (h : Owns w0 (disk d D :: l) w) (from_ count pool : Nat) :
    Owns w0 (pth ⟨w.heap.size + 1 + 1, d, w.heap.size, w.heap.size + 1, from_, pool⟩ ⟨D, List.replicate count 0, [], false⟩ (.slice none 0 0) l)
      (((w.alloc (.cells (zrow count) 153)).alloc (.map #[] 0)).alloc (.cells #[.pointer (some ⟨d, 0, none⟩), .int .i64 (from_ : Int), .int .i64 (pool : Int), .slice (some ⟨w.heap.size, 0, none⟩) count count, .map (some (w.heap.size + 1)), .slice none 0 0, .bool false] 152)) := by
  have h1 := own_row_new h ((List.replicate count 0).map gint).toArray 153 (by decide)
  have h2 := h1.add (T := mapT (w.heap.size + 1) []) (w' := (w.alloc (.cells ((List.replicate count 0).map gint).toArray 153)).alloc (.map #[] 0))
    ⟨[w.heap.size + 1], ⟨#[], 0, by rw [← size_alloc w (.cells ((List.replicate count 0).map gint).toArray 153)]; exact heap_alloc_new' _ _, MOk.empty, rfl⟩, (Upd.refl [] _).alloc _, by simp⟩
  have h3 := own_row_new h2 #[.pointer (some ⟨d, 0, none⟩), .int .i64 (from_ : Int), .int .i64 (pool : Int), .slice (some ⟨w.heap.size, 0, none⟩) count count, .map (some (w.heap.size + 1)), .slice none 0 0, .bool false] 152 (by decide)
  rw [size_alloc, size_alloc] at h3
  have h4 := h3.add (T := intsT (.slice none 0 0) []) ⟨[], ⟨World.ownsRow_nil _ 0 3 1, rfl⟩, Upd.refl [] _, by simp⟩
  refine h4.pick (fun i => match i with | 0 => 1 | 1 => 3 | 2 => 2 | 3 => 0 | i + 4 => i + 4) (fun i T hT => ?_) (fun i j _ _ hij => ?_)
  · match i, hT with
    | 0, hT =>
      simp only [pth, List.getElem?_cons_zero] at hT
      simp only [List.getElem?_cons_succ, List.getElem?_cons_zero]
      rw [← hT]
      simp [pgcells]
    | 1, hT => exact hT
    | 2, hT => exact hT
    | 3, hT => exact hT
    | i + 4, hT => exact hT
  · match i, j, hij with
    | 0, 0, _ => rfl
    | 1, 1, _ => rfl
    | 2, 2, _ => rfl
    | 3, 3, _ => rfl
    | i + 4, j + 4, h => omega
    | 0, 1, h => simp at h
    | 0, 2, h => simp at h
    | 0, 3, h => simp at h
    | 1, 0, h => simp at h
    | 1, 2, h => simp at h
    | 1, 3, h => simp at h
    | 2, 0, h => simp at h
    | 2, 1, h => simp at h
    | 2, 3, h => simp at h
    | 3, 0, h => simp at h
    | 3, 1, h => simp at h
    | 3, 2, h => simp at h
    | 0, j + 4, h => simp at h
    | 1, j + 4, h => simp at h
    | 2, j + 4, h => simp at h
    | 3, j + 4, h => simp at h
    | i + 4, 0, h => simp at h
    | i + 4, 1, h => simp at h
    | i + 4, 2, h => simp at h
    | i + 4, 3, h => simp at h

end Go.Proofs.Ytkpoladbabhdmaa
