/- Slices of slices of bytes; a sector that begins with given bytes. Conditions: as each says. -/
import Derived.Test.YtkpoladbabhdmaaMeta10
import Derived.Laws.CopyOwn
namespace Go.Proofs.Ytkpoladbabhdmaa
open Go.RowKit

/-- v is a slice of slices of bytes that read l -/
def RowsV (w : World) (v : Value) (l : List Bytes) : Prop :=
  (Empty v ∧ l = []) ∨ ∃ g off cap, v = .slice (some ⟨g, off, none⟩) l.length cap ∧ l.length ≤ cap ∧ cap ≤ maxLen ∧ ∀ i b, l[i]? = some b → ∃ x, w.cell? ⟨g, off + i, none⟩ = some x ∧ BytesV w x b

theorem RowsV.shape {w : World} {v : Value} {l : List Bytes} (h : RowsV w v l) : ∃ a cap, v = .slice a l.length cap ∧ l.length ≤ cap ∧ cap ≤ maxLen := by
  rcases h with ⟨⟨a, cap, rfl, hc⟩, rfl⟩ | ⟨g, off, cap, rfl, h1, h2, _⟩
  · exact ⟨a, cap, rfl, Nat.zero_le _, hc⟩
  · exact ⟨_, cap, rfl, h1, h2⟩

theorem RowsV.upd {w w' : World} {v : Value} {l : List Bytes} (h : RowsV w v l) (hu : Upd [] w w') : RowsV w' v l := by
  rcases h with h | ⟨g, off, cap, rfl, h1, h2, h3⟩
  · exact .inl h
  · refine .inr ⟨g, off, cap, rfl, h1, h2, fun i b hi => ?_⟩
    obtain ⟨x, hx, hb⟩ := h3 i b hi
    exact ⟨x, by rw [World.cell?_of_block (w := w) (a := ⟨g, off + i, none⟩) (hu.block g (World.block_lt_of_cell? w _ hx) (by simp))]; exact hx, hb.upd hu (by simp)⟩

theorem RowsV.at_ {w : World} {a : Option Addr} {n cap : Nat} {l : List Bytes} (h : RowsV w (.slice a n cap) l) {k : Nat} {b : Bytes} (hk : l[k]? = some b) :
    ∃ g off x c, a = some ⟨g, off, none⟩ ∧ w.cell? ⟨g, off + k, none⟩ = some (.slice x b.length c) ∧ BytesV w (.slice x b.length c) b ∧ b.length ≤ maxLen := by
  rcases h with ⟨_, rfl⟩ | ⟨g, off, c, he, h1, h2, h3⟩
  · simp at hk
  · obtain ⟨x, hx, hb⟩ := h3 k b hk
    obtain ⟨xa, xc, rfl, h4, h5⟩ := hb.shape
    cases he
    exact ⟨g, off, xa, xc, rfl, hx, hb, Nat.le_trans h4 h5⟩

theorem BytesV.lasting {w0 w : World} {v : Value} {p : Bytes} (h : BytesV w0 v p) : Lasting w0 w v p := fun _ _ ho _ => h.upd ho.mine (by simp)

/-- 256 bytes that begin with l -/
def padded (l : Bytes) : Bytes := l.take 256 ++ List.replicate (256 - l.length) 0
theorem padded_len (l : Bytes) : (padded l).length = 256 := by simp [padded]; omega

theorem splice_zeros (l : Bytes) : splice (zeros.map byte) 0 ((l.take 256).map byte) = (padded l).map byte := by
  simp only [splice, padded, zeros, List.take_zero, List.nil_append, Nat.zero_add, List.map_append, List.map_replicate, List.drop_replicate, List.length_map, List.length_take]
  congr 2
  omega

theorem wpList_pad {ops : Array Oper} {rest : List Oper} {o : Oper} {a : Act} {Q : Exit → Act → World → Prop} (hgd : o.guard = none) (d s : Operand)
    (ho : o.op = .call { callee := .builtin .copy, args := #[d, s], argTypes := #[33, 33] }) {wb w : World} {g : Nat} (hU : Upd [] wb w) (hg : w.heap[g]? = some (.cells (bcells zeros) 5)) (hle : wb.heap.size ≤ g)
    {x : Option Addr} {c : Nat} {l : Bytes} (hx : BytesV w (.slice x l.length c) l) (hd : a.eval d = .slice (some ⟨g, 0, none⟩) 256 256) (hs : a.eval s = .slice x l.length c)
    (h : ∀ w', BytesO w' (.slice (some ⟨g, 0, none⟩) 256 256) (padded l) → Upd [] wb w' → wpList Try.prog ops Q rest (a.put o.dst (goInt ((l.take 256).map byte).length)) w') :
    wpList Try.prog ops Q (o :: rest) a w := by
  refine wpList_copy_splice hgd d s 33 33 ho 5 Try.underlying33 (by kernel_rfl) (some ⟨g, 0, none⟩) x 256 256 l.length c hd hs g 0 (zeros.map byte) 5 hg ((l.take 256).map byte) (by simp [Nat.min_comm]) (fun hpos => ⟨rfl, ?_⟩)
    (by rw [List.length_map, List.length_take, List.length_map, zeros_len]; omega) (oneCell_byte _) wb.heap.size wb (hU.below (Nat.le_refl _) (by simp)) hle ?_
  · have hl : 0 < l.length := by rw [List.length_map, List.length_take] at hpos; omega
    rcases hx with ⟨_, rfl⟩ | ⟨g', off, cap, he, h1, h2, h3⟩
    · simp at hl
    · cases he
      refine ⟨_, rfl, fun j v hj => ?_⟩
      rw [List.getElem?_map, List.getElem?_take] at hj
      split at hj
      · cases hlj : l[j]? with
        | none => rw [hlj] at hj; cases hj
        | some y =>
          rw [hlj] at hj
          cases hj
          rw [Addr.add_lit]
          exact h3 j y hlj
      · cases hj
  · intro w' hg' hb'
    have hg' := hg'.out
    rw [splice_zeros] at hg'
    refine h w' ⟨by simp, .inr ⟨g, 256, _, by rw [padded_len], Nat.zero_le _, hg', by rw [padded_len]; exact Nat.le_refl _, by unfold maxLen; omega, by simp [padded_len], List.take_of_length_le (by simp)⟩⟩ (Upd.of_below hb')

end Go.Proofs.Ytkpoladbabhdmaa
