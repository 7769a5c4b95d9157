/- Slices of slices of bytes of our own, which are appended to. Conditions: as each says. -/
import Derived.Test.YtkpoladbabhdmaaJrn2
namespace Go.Proofs.Ytkpoladbabhdmaa
open Go.RowKit

/-- v is a slice of our own of slices of bytes that read L and that never turn -/
def RowsO (w : World) (v : Value) (L : List Bytes) : Prop :=
  ∃ xs : List Value, w.ownsRow 0 33 1 v L.length xs ∧ ∀ (i : Nat) (b : Bytes), L[i]? = some b → ∃ x, xs[i]? = some x ∧ BytesV w x b ∧ InBytes w x

theorem RowsO.shape {w : World} {v : Value} {L : List Bytes} (h : RowsO w v L) : ∃ a cap, v = .slice a L.length cap ∧ L.length ≤ cap ∧ cap ≤ maxLen := by
  obtain ⟨xs, h, _⟩ := h; exact ownsRow_shape h

theorem RowsO.view {w : World} {v : Value} {L : List Bytes} (h : RowsO w v L) : RowsV w v L := by
  obtain ⟨xs, h1, h2⟩ := h
  rcases h1.2 with ⟨rfl, h0⟩ | ⟨g, cap, cur, rfl, _, hgg, hnc, hcm, hcs, htk⟩
  · exact .inl ⟨.nil, List.eq_nil_of_length_eq_zero h0⟩
  · refine .inr ⟨g, 0, cap, rfl, hnc, hcm, fun i b hi => ?_⟩
    obtain ⟨x, hx, hb, _⟩ := h2 i b hi
    refine ⟨x, ?_, hb⟩
    have := World.ownsRow.cells h1 (g := g) rfl i x hx
    rwa [Addr.add_lit] at this

theorem RowsO.upd {S : List Nat} {w w' : World} {v : Value} {L : List Bytes} (h : RowsO w v L) (hu : Upd S w w') (hs : ∀ k, v.ownBlock = some k → k ∉ S) : RowsO w' v L := by
  obtain ⟨xs, h1, h2⟩ := h
  refine ⟨xs, ownsRow_upd h1 hu hs, fun i b hi => ?_⟩
  obtain ⟨x, hx, hb, hi⟩ := h2 i b hi
  exact ⟨x, hx, hb.keep hi hu.keeps, hi.keep hu.keeps⟩

def rowsT (v : Value) (L : List Bytes) : Thing :=
  ⟨fun w F => RowsO w v L ∧ F = v.ownBlock.toList,
   fun w F h k hk => by obtain ⟨⟨xs, h, _⟩, rfl⟩ := h; exact (h.lt k (by simpa using hk)).2,
   fun w F h k hk c fz => by
     obtain ⟨⟨xs, h, _⟩, rfl⟩ := h
     rcases h.2 with ⟨rfl, _⟩ | ⟨g, cap, cur, rfl, _, hg, _⟩
     · simp [Value.ownBlock] at hk
     · simp [Value.ownBlock] at hk; subst hk; rw [hg]; simp,
   fun w w' F S h hu hd => by obtain ⟨h, rfl⟩ := h; exact ⟨h.upd hu (fun k hk => hd k (by simp [hk])), rfl⟩⟩

theorem own_rows {w0 w : World} {l : List Thing} {v : Value} {L : List Bytes} (h : Owns w0 l w) (i : Nat) (hi : l[i]? = some (rowsT v L)) : RowsO w v L := by
  obtain ⟨F, h1, _⟩ := h.at_ i hi; exact h1.1

theorem own_rows_nil {w0 w : World} {l : List Thing} (h : Owns w0 l w) : Owns w0 (rowsT (.slice none 0 0) [] :: l) w :=
  h.add ⟨[], ⟨⟨[], World.ownsRow_nil w 0 33 1, by simp⟩, rfl⟩, Upd.refl [] w, by simp⟩

theorem Try.info33 : (Try.prog.info? 33).map (fun i => (i.zero, i.size, i.bytes)) = some (some (.slice none 0 0), 1, 24) := by kernel_rfl

/-- what an append of one leaves -/
def Pushes (v x : Value) (n : Nat) (ty : TypeId) (a' : Option Addr) (c' : Nat) (w w' : World) : Prop :=
  (Builtin.append_ #[66, 66] ty #[v, .slice (some ⟨w.heap.size, 0, none⟩) 1 1]).run Try.prog (w.alloc (.cells #[x] 33)) = .ok (.slice a' n c') w'

theorem own_rows_push {w0 w : World} {l : List Thing} {v x : Value} {L : List Bytes} {b : Bytes} (h : Owns w0 l w) (i : Nat) (hi : l[i]? = some (rowsT v L)) (hx : BytesV w x b) (hxi : InBytes w x) (hlen : L.length ≤ 1000000) (ty : TypeId) :
    ∃ a' c' w', Pushes v x (L.length + 1) ty a' c' w w' ∧ Owns w0 (l.set i (rowsT (.slice a' (L.length + 1) c') (L ++ [b]))) w' ∧ Keeps w w' := by
  have hone : ∀ u ∈ [x], u.oneCell' = true := by
    intro u hu
    simp at hu; subst hu
    obtain ⟨a, c, rfl, _, _⟩ := hx.shape
    rfl
  have hu1 := (Upd.refl [] w).alloc (.cells #[x] 33)
  have h1 := h.upd hu1
  have hrow := heap_alloc_new' w (.cells #[x] 33)
  have hx1 := hx.upd hu1 (by simp)
  have hxi1 := hxi.keep hu1.keeps
  have hk1 := hu1.keeps
  have hsz := size_alloc w (.cells #[x] 33)
  unfold Pushes
  generalize w.alloc (.cells #[x] 33) = w1 at *
  obtain ⟨F, ⟨⟨xs, ho, hel⟩, hF⟩, hF0, ht⟩ := h1.at_ i hi
  obtain ⟨v', w', hr, ho', hg, hm⟩ := run_append_here (P := Try.prog) w1 66 ty 33 Try.underlying66 Try.info33 rfl (by decide) v L.length xs ho ⟨w.heap.size, 0, none⟩ 1 1 [x] rfl
    (fun j u hu => by
      rw [Addr.add_lit]
      match j, hu with
      | 0, hu => simp at hu; subst hu; exact cell_of_heap hrow rfl
      | j + 1, hu => simp at hu) hone (by unfold maxLen; omega) (by omega)
  obtain ⟨a', c', rfl, _, _⟩ := ownsRow_shape ho'
  have hu' : Upd F w1 w' := (Upd.refl F w1).grown hg (fun k hk => .inl (by rw [hF]; simp [hk])) (fun k hk => .inr (fun c fz => by
    rcases ho.2 with ⟨rfl, _⟩ | ⟨g, cap, cur, rfl, _, hgg, _⟩
    · cases hk
    · cases hk; rw [hgg]; simp))
  refine ⟨a', c', w', hr, ?_, hk1.trans hu'.keeps⟩
  refine ht w' (rowsT (.slice a' (L.length + 1) c') (L ++ [b])) ⟨(Value.slice a' (L.length + 1) c').ownBlock.toList, ⟨⟨xs ++ [x], ?_, fun j y hj => ?_⟩, rfl⟩, hu', fun k hk => ?_⟩
  · rw [List.length_append]; exact ho'
  · rw [List.getElem?_append] at hj
    split at hj
    · rename_i hjl
      obtain ⟨u, hu, hb, hib⟩ := hel j y hj
      refine ⟨u, ?_, hb.keep hib hu'.keeps, hib.keep hu'.keeps⟩
      rw [List.getElem?_append_left (List.getElem?_eq_some_iff.1 hu).1]; exact hu
    · rename_i hjl
      have hxl : xs.length = L.length := by have := ho.1; simpa using this
      have h0 : j - L.length = 0 := by
        cases hz : j - L.length with
        | zero => rfl
        | succ m => rw [hz] at hj; simp at hj
      rw [h0] at hj; simp at hj; subst hj
      refine ⟨x, ?_, hx1.keep hxi1 hu'.keeps, hxi1.keep hu'.keeps⟩
      rw [List.getElem?_append_right (by omega), hxl, h0]; rfl
  · rw [Option.mem_toList] at hk
    rcases hm with hm | ⟨r, hm, hr⟩
    · rw [hm] at hk; exact .inl (by rw [hF]; simp [hk])
    · rw [hm] at hk; cases hk; exact .inr hr

end Go.Proofs.Ytkpoladbabhdmaa
