/- The arguments of the statements, read as data: slices of bools, of bytes, of structs. Conditions: none. -/
import Derived.Test.YtkpoladbabhdmaaRow
import Derived.Test.YtkpoladbabhdmaaLaw6b
import Derived.Deep.Slices
namespace Go.Proofs.Ytkpoladbabhdmaa
open Go.ChangeShapes Go.WideShapes Go.ChangeAt Go.RowKit Go.Deep

theorem list_of {α : Type} {Q : Nat → α → Prop} : ∀ (n : Nat), (∀ i, i < n → ∃ o, Q i o) → ∃ l : List α, l.length = n ∧ ∀ i o, l[i]? = some o → Q i o
  | 0, _ => ⟨[], rfl, by simp⟩
  | n + 1, h => by
    obtain ⟨l, hl, hq⟩ := list_of n (fun i hi => h i (by omega))
    obtain ⟨o, ho⟩ := h n (by omega)
    refine ⟨l ++ [o], by simp [hl], fun i x hx => ?_⟩
    rw [List.getElem?_append] at hx
    split at hx
    · exact hq i x hx
    · rename_i hi
      rw [hl] at hi hx
      by_cases h0 : i - n = 0
      · rw [h0] at hx; simp at hx; subst hx
        have : i = n := by omega
        subst this; exact ho
      · rw [List.getElem?_eq_none (by simp; omega)] at hx; cases hx

section
variable {H : Type} {enc : TypeId × Value → H} {W : World} {sp : Nat → Bool} {fuel : Nat}

/-- a slice of whatever elements of k cells -/
theorem open_any {t e : TypeId} (ht : Try.prog.underlying t = some (.slice e)) {k : Nat} (hk : Try.prog.cellsOf e = k) (hk0 : 0 < k) {v : Value} {x : DataW H × List MemPlace} (h : DataW.trod enc Try.prog W 0 sp true fuel t [v] = some x) :
    ∃ len cap a, v = .slice a len cap ∧ len ≤ cap ∧ cap ≤ maxLen ∧ (0 < len → ∃ g off, a = some ⟨g, off, none⟩ ∧ ∀ i, i < len → ∃ (cs : List Value) (n : Nat) (y : DataW H × List MemPlace), cs.length = k ∧
      (∀ j, j < k → W.cell? ⟨g, off + (i * k + j), none⟩ = cs[j]?) ∧ DataW.trod enc Try.prog W 0 sp true n e cs = some y) := by
  rcases open_slice ht h with ⟨hcs, _⟩ | ⟨a, len, cap, m, n, D, Pl, hcs, _, hl, hm, hmm, _, hi⟩
  · simp at hcs; subst hcs
    exact ⟨0, 0, none, rfl, Nat.le_refl _, Nat.zero_le _, by omega⟩
  · simp at hcs; subst hcs
    refine ⟨len, cap, some a, rfl, hl, hm, fun h0 => ?_⟩
    have hlm : len ≤ m := by rw [hmm]; split <;> omega
    rw [hk] at hi
    have hsp : a.spot = none := by
      obtain ⟨cs', hc, _⟩ := hi 0 (by omega)
      obtain ⟨_, hlen, hcell⟩ := World.cells?_some hc
      have h1 := hcell 0 hk0
      rw [List.getElem?_eq_getElem (by omega)] at h1
      obtain ⟨_, _, _, _, hs⟩ := World.shape?_of_cell? h1
      simpa [Addr.add] using hs
    obtain ⟨g, off, s⟩ := a
    simp only at hsp
    subst hsp
    refine ⟨g, off, rfl, fun i hil => ?_⟩
    obtain ⟨cs', hc, ht'⟩ := hi i (by omega)
    obtain ⟨_, hlen, hcell⟩ := World.cells?_some hc
    refine ⟨cs', n, _, hlen, fun j hj => ?_, ht'⟩
    have := hcell j hj
    rwa [Addr.add_lit, Addr.add_lit, Nat.add_assoc] at this

theorem Try.cells4 : Try.prog.cellsOf 4 = 1 := by kernel_rfl
theorem Try.cells5 : Try.prog.cellsOf 5 = 1 := by kernel_rfl
theorem Try.cells32 : Try.prog.cellsOf 32 = 4 := by kernel_rfl
theorem Try.cells3 : Try.prog.cellsOf 3 = 1 := by kernel_rfl
theorem Try.cells23 : Try.prog.cellsOf 23 = 1 := by kernel_rfl
theorem Try.cells33 : Try.prog.cellsOf 33 = 1 := by kernel_rfl

theorem open_bools {v : Value} {x : DataW H × List MemPlace} (h : DataW.trod enc Try.prog W 0 sp true fuel 23 [v] = some x) : ∃ l, BoolsV W v l := by
  obtain ⟨len, cap, a, rfl, h1, h2, h3⟩ := open_any Try.underlying23 Try.cells4 (by omega) h
  by_cases h0 : 0 < len
  · obtain ⟨g, off, rfl, hi⟩ := h3 h0
    obtain ⟨l, hl, hq⟩ := list_of (Q := fun i (b : Bool) => W.cell? ⟨g, off + i, none⟩ = some (.bool b)) len (fun i hil => by
      obtain ⟨cs, n, y, hc, hcell, ht⟩ := hi i hil
      obtain ⟨b, rfl, _⟩ := DataW.trod_bool Try.underlying4 ht
      exact ⟨b, by have := hcell 0 (by omega); simpa using this⟩)
    exact ⟨l, .inr ⟨g, off, cap, by rw [hl], by omega, h2, hq⟩⟩
  · obtain rfl : len = 0 := by omega
    exact ⟨[], .inl ⟨⟨a, cap, rfl, h2⟩, rfl⟩⟩

theorem open_bytes {v : Value} {x : DataW H × List MemPlace} (h : DataW.trod enc Try.prog W 0 sp true fuel 33 [v] = some x) : ∃ l, BytesV W v l := by
  obtain ⟨len, cap, a, rfl, h1, h2, h3⟩ := open_any Try.underlying33 Try.cells5 (by omega) h
  by_cases h0 : 0 < len
  · obtain ⟨g, off, rfl, hi⟩ := h3 h0
    obtain ⟨l, hl, hq⟩ := list_of (Q := fun i (b : UInt8) => W.cell? ⟨g, off + i, none⟩ = some (byte b)) len (fun i hil => by
      obtain ⟨cs, n, y, hc, hcell, ht⟩ := hi i hil
      obtain ⟨b, rfl, _, hw⟩ := DataW.trod_int Try.underlying5 ht
      have hb := bounds_u8 hw
      refine ⟨u8 b, ?_⟩
      rw [byte_u8]
      have := hcell 0 (by omega)
      simp only [Nat.mul_one, Nat.add_zero, List.getElem?_cons_zero] at this
      rw [this]
      congr 2
      omega)
    exact ⟨l, .inr ⟨g, off, cap, by rw [hl], by omega, h2, hq⟩⟩
  · obtain rfl : len = 0 := by omega
    exact ⟨[], .inl ⟨⟨a, cap, rfl, h2⟩, rfl⟩⟩

theorem bounds_int {n : Int} (h : (Lit.int .i64 n).wf = true) : int64 n := by
  have := bounds_i64 h; unfold int64; omega

/-- a field of one cell of a struct that is read -/
theorem field_at {e : TypeId} {fs : Array Field} (he : Try.prog.underlying e = some (.struct fs)) {cs : List Value} {n : Nat} {y : DataW H × List MemPlace} (h : DataW.trod enc Try.prog W 0 sp true n e cs = some y)
    (j : Nat) {f : Field} (hf : fs[j]? = some f) {o : Nat} (ho : f.offset = o) {u : TypeId} (hu : f.type = u) (hc : Try.prog.cellsOf u = 1) {c : Value} (hcs : cs[o]? = some c) : ∃ m z, DataW.trod enc Try.prog W 0 sp true m u [c] = some z := by
  obtain ⟨xs, m, _, _, hlen, hxl, hg⟩ := DataW.trod_struct he h
  have h1 := hg j f hf
  rw [ho, hu, hc] at h1
  obtain ⟨hol, hoe⟩ := List.getElem?_eq_some_iff.1 hcs
  have h2 : (cs.drop o).take 1 = [c] := by rw [List.drop_eq_getElem_cons hol, hoe]; rfl
  have h3 : j < xs.length := by rw [hxl]; exact (Array.getElem?_eq_some_iff.1 hf).1
  rw [h2, List.getElem?_eq_getElem h3] at h1
  exact ⟨m, _, h1⟩

theorem open_ops6 {v : Value} {x : DataW H × List MemPlace} (h : DataW.trod enc Try.prog W 0 sp true fuel 22 [v] = some x) : ∃ l, OpsV W v l := by
  obtain ⟨len, cap, a, rfl, h1, h2, h3⟩ := open_any Try.underlying22 Try.cells32 (by omega) h
  by_cases h0 : 0 < len
  · obtain ⟨g, off, rfl, hi⟩ := h3 h0
    obtain ⟨l, hl, hq⟩ := list_of (Q := fun i (o : Op6) => Op6At W g (off + i * 4) o) len (fun i hil => by
      obtain ⟨cs, n, y, hc, hcell, ht⟩ := hi i hil
      match cs, hc with
      | [c0, c1, c2, c3], _ =>
        obtain ⟨_, _, k0⟩ := field_at Try.underlying32 ht 0 rfl rfl rfl Try.cells3 (c := c0) rfl
        obtain ⟨_, _, k1⟩ := field_at Try.underlying32 ht 1 rfl rfl rfl Try.cells3 (c := c1) rfl
        obtain ⟨_, _, k2⟩ := field_at Try.underlying32 ht 2 rfl rfl rfl Try.cells3 (c := c2) rfl
        obtain ⟨_, _, k3⟩ := field_at Try.underlying32 ht 3 rfl rfl rfl Try.cells23 (c := c3) rfl
        obtain ⟨n0, e0, _, w0⟩ := DataW.trod_int Try.underlying3 k0
        obtain ⟨n1, e1, _, w1⟩ := DataW.trod_int Try.underlying3 k1
        obtain ⟨n2, e2, _, w2⟩ := DataW.trod_int Try.underlying3 k2
        obtain ⟨b, hb⟩ := open_bools k3
        simp at e0 e1 e2
        subst e0 e1 e2
        have q0 := hcell 0 (by omega)
        have q1 := hcell 1 (by omega)
        have q2 := hcell 2 (by omega)
        have q3 := hcell 3 (by omega)
        rw [← Nat.add_assoc] at q0 q1 q2 q3
        exact ⟨⟨n0, n1, n2, b⟩, bounds_int w0, bounds_int w1, bounds_int w2, q0, q1, q2, c3, q3, hb⟩)
    exact ⟨l, .inr ⟨g, off, cap, by rw [hl], by omega, h2, hq⟩⟩
  · obtain rfl : len = 0 := by omega
    exact ⟨[], .inl ⟨⟨a, cap, rfl, h2⟩, rfl⟩⟩

end
end Go.Proofs.Ytkpoladbabhdmaa
