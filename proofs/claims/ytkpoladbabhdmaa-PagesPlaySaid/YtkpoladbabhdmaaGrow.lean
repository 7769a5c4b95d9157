/- Bytes that are appended to, whatever they are; pieces of bytes. Conditions: as each says. -/
import Derived.Test.YtkpoladbabhdmaaMeta3
namespace Go.Proofs.Ytkpoladbabhdmaa
open Go.RowKit

/-- append of whatever bytes onto whatever bytes of our own -/
theorem run_append_any (w : World) {v x : Value} {l m : Bytes} (hb : BytesO w v l) (hx : BytesV w x m) (ty : TypeId) (hn : l.length + m.length ≤ 100000000) :
    ∃ v' w', (Builtin.append_ #[33, 33] ty #[v, x]).run Try.prog w = .ok v' w' ∧ BytesO w' v' (l ++ m) ∧ w.grownBy w' v.ownBlock ∧ Moved w v v' := by
  have hb' : w.ownsRow 0 5 1 v l.length (l.map byte) := hb
  have here : ∀ (ad : Addr) (cap : Nat), x = .slice (some ad) m.length cap → (∀ (j : Nat) (u : Value), (m.map byte)[j]? = some u → w.cell? (ad.add j) = some u) →
      ∃ v' w', (Builtin.append_ #[33, 33] ty #[v, x]).run Try.prog w = .ok v' w' ∧ BytesO w' v' (l ++ m) ∧ w.grownBy w' v.ownBlock ∧ Moved w v v' := by
    rintro ad cap rfl hc
    obtain ⟨v', w', hr, h2, h3, h4⟩ := run_append_here (P := Try.prog) w 33 ty 5 Try.underlying33 Try.info5 rfl (by decide) v l.length (l.map byte) hb' ad m.length cap (m.map byte) (by simp)
      hc (oneCell_byte m) (by unfold maxLen; omega) (by omega)
    refine ⟨v', w', hr, ?_, h3, h4⟩
    show w'.ownsRow 0 5 1 v' (l ++ m).length ((l ++ m).map byte)
    rw [List.length_append, List.map_append]
    exact h2
  rcases hx with ⟨⟨a, cap, hxe, hc⟩, rfl⟩ | ⟨g, off, cap, hxe, _, _, hc⟩
  · cases a with
    | some a => exact here a cap hxe (by simp)
    | none =>
      subst hxe
      obtain ⟨i, hi, hz, hsize, hby⟩ := info_parts Try.info5
      rcases hb.2 with ⟨rfl, h00⟩ | ⟨g, gc, cur, rfl, hbg, hg, hnc, hcm, hcs, htake⟩
      · refine ⟨.slice none 0 0, w, ?_, by simpa using hb, ⟨rfl, rfl, rfl, Nat.le_refl _, fun _ _ _ => rfl⟩, .inl rfl⟩
        simp [Builtin.append_, run_underlying Try.underlying33, sizeOf, typeInfo, hi, Builtin.lenOf, Builtin.firstCells]
      · refine ⟨.slice (some ⟨g, 0, none⟩) l.length gc, w, ?_, by simpa using hb, ⟨rfl, rfl, rfl, Nat.le_refl _, fun _ _ _ => rfl⟩, .inl rfl⟩
        simp [Builtin.append_, run_underlying Try.underlying33, sizeOf, typeInfo, hi, Builtin.lenOf, Builtin.firstCells, hnc, storeCells]
  · refine here ⟨g, off, none⟩ cap hxe fun j u hu => ?_
    simp only [List.getElem?_map, Option.map_eq_some_iff] at hu
    obtain ⟨y, hy, rfl⟩ := hu
    rw [Addr.add_lit]; exact hc j y hy

theorem Grows.nil (w : World) : Grows w w (.slice none 0 0) [] := ⟨.nil w, Upd.refl [] w, by intro g hg; cases hg⟩
theorem Grows.shape {w0 w : World} {v : Value} {l : Bytes} (h : Grows w0 w v l) : ∃ a c, v = .slice a l.length c := by
  obtain ⟨a, c, e, _, _⟩ := h.1.view.shape; exact ⟨a, c, e⟩

/-- what an append leaves -/
def Appends (w0 w : World) (v x : Value) (l : Bytes) (ty : TypeId) (a' : Option Addr) (c' : Nat) (w' : World) : Prop :=
  (Builtin.append_ #[33, 33] ty #[v, x]).run Try.prog w = .ok (.slice a' l.length c') w' ∧ Grows w0 w' (.slice a' l.length c') l

theorem Grows.append {w0 w : World} {v x : Value} {l m : Bytes} (h : Grows w0 w v l) (hx : BytesV w x m) (ty : TypeId) (hn : l.length + m.length ≤ 100000000) :
    ∃ a' c' w', Appends w0 w v x (l ++ m) ty a' c' w' := by
  obtain ⟨v', w', h1, h2, h3, h4⟩ := run_append_any w h.1 hx ty hn
  have hg := h.ran h2 h3 h4
  obtain ⟨a, c, rfl⟩ := hg.shape
  exact ⟨a, c, w', h1, hg⟩

/-- append of one byte that is laid out in a block of its own -/
theorem Grows.append1 {w0 w : World} {v : Value} {l : Bytes} (h : Grows w0 w v l) (x : UInt8) (ty : TypeId) (hn : l.length + 1 ≤ 100000000) :
    ∃ a' c' w', Appends w0 (w.alloc (.cells #[byte x] 5)) v (.slice (some ⟨w.heap.size, 0, none⟩) 1 1) (l ++ [x]) ty a' c' w' :=
  (h.alloc _).append (byte_new w x) ty hn

/-- what a run of append leaves, as a step of a region that draws its order -/
theorem step_append_ran {P : Program} (w : World) {ops : Array Oper} {o : Oper} {a : Act} {K : Act → World → Prop} {Q : Exit → Act → World → Prop} {E : Prop} (hgd : o.guard = none) (s x : Operand) (t t' : TypeId)
    (ho : o.op = .call { callee := .builtin .append, args := #[s, x], argTypes := #[t, t'] }) {v vx : Value} (hs : a.eval s = v) (hx : a.eval x = vx) {v' : Value} {w' : World}
    (hr : (Builtin.append_ #[t, t'] o.type #[v, vx]).run P w = .ok v' w') (h : K (a.put o.dst v') w') :
    if Region.wanted o (yielded ops a.tmps) = true then Oper.wp P o a w K Q else E := by
  have hw : Region.wanted o (yielded ops a.tmps) = true := by simp [Region.wanted, hgd]
  rw [if_pos hw]
  unfold Oper.wp execOp
  simp only [ho, resolve, invoke, builtin, Sem.run_bind, Sem.run_pure, Result.andThen_ok, List.map_toArray, List.map_cons, List.map_nil, hs, hx, hr]
  exact h

/-- a piece of bytes -/
theorem BytesV.sub {w : World} {g off n c : Nat} {l : Bytes} (h : BytesV w (.slice (some ⟨g, off, none⟩) n c) l) {i k : Nat} (hk : i + k ≤ l.length) :
    BytesV w (.slice (some ⟨g, off + i, none⟩) k (c - i)) ((l.drop i).take k) := by
  have hlen : ((l.drop i).take k).length = k := by rw [List.length_take, List.length_drop]; omega
  rcases h with ⟨⟨a, cap, he, hc⟩, rfl⟩ | ⟨g', off', cap, he, h1, h2, h3⟩
  · cases he
    simp at hk
    obtain ⟨rfl, rfl⟩ := hk
    exact .inl ⟨⟨_, _, rfl, by omega⟩, by simp⟩
  · cases he
    refine .inr ⟨g, off + i, c - i, by rw [hlen], by omega, by omega, fun j b hj => ?_⟩
    rw [List.getElem?_take] at hj
    split at hj
    · rw [List.getElem?_drop] at hj
      have := h3 _ b hj
      rwa [Nat.add_assoc]
    · cases hj

/-- a byte of a row of our own is written -/
theorem bcells_set (l : Bytes) (i : Nat) (x : UInt8) : (bcells l).setIfInBounds i (byte x) = bcells (l.set i x) := by
  simp [bcells, List.map_set]

theorem bytesO_of {w : World} {g : Nat} {l : Bytes} {n : Nat} (h : w.heap[g]? = some (.cells (bcells l) 5)) (hn : l.length = n) (hl : n ≤ maxLen) : BytesO w (.slice (some ⟨g, 0, none⟩) n n) l := by
  subst hn
  exact ⟨by simp, .inr ⟨g, l.length, bcells l, rfl, Nat.zero_le _, h, Nat.le_refl _, hl, by simp [bcells], by simp only [bcells]; exact List.take_of_length_le (by simp)⟩⟩

theorem bcells_at {l : Bytes} {i : Nat} (h : i < l.length) : ∃ x, l[i]? = some x ∧ (bcells l)[i]? = some (byte x) :=
  ⟨l[i], List.getElem?_eq_getElem h, by simp [bcells, h]⟩

end Go.Proofs.Ytkpoladbabhdmaa
