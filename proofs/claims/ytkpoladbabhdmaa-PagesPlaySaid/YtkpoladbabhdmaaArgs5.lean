/- The scripts of layer 10, read as data. Conditions: none. -/
import Derived.Test.YtkpoladbabhdmaaArgs
import Derived.Test.YtkpoladbabhdmaaLaw10
namespace Go.Proofs.Ytkpoladbabhdmaa
open Go.ChangeShapes Go.WideShapes Go.ChangeAt Go.RowKit Go.Deep

theorem Try.cells102 : Try.prog.cellsOf 102 = 3 := by kernel_rfl

section
variable {H : Type} {enc : TypeId × Value → H} {W : World} {sp : Nat → Bool} {fuel : Nat}

theorem open_ops10 {v : Value} {x : DataW H × List MemPlace} (h : DataW.trod enc Try.prog W 0 sp true fuel 96 [v] = some x) : ∃ l, Ops10V W v l := by
  obtain ⟨len, cap, a, rfl, h1, h2, h3⟩ := open_any Try.underlying96 Try.cells102 (by omega) h
  by_cases h0 : 0 < len
  · obtain ⟨g, off, rfl, hi⟩ := h3 h0
    obtain ⟨l, hl, hq⟩ := list_of (Q := fun i (o : Op10) => Op10At W g (off + i * 3) o) len (fun i hil => by
      obtain ⟨cs, n, y, hc, hcell, ht⟩ := hi i hil
      match cs, hc with
      | [c0, c1, c2], _ =>
        obtain ⟨_, _, k0⟩ := field_at Try.underlying102 ht 0 rfl rfl rfl Try.cells3 (c := c0) rfl
        obtain ⟨_, _, k1⟩ := field_at Try.underlying102 ht 1 rfl rfl rfl Try.cells3 (c := c1) rfl
        obtain ⟨_, _, k2⟩ := field_at Try.underlying102 ht 2 rfl rfl rfl Try.cells3 (c := c2) rfl
        obtain ⟨n0, e0, _, w0⟩ := DataW.trod_int Try.underlying3 k0
        obtain ⟨n1, e1, _, w1⟩ := DataW.trod_int Try.underlying3 k1
        obtain ⟨n2, e2, _, w2⟩ := DataW.trod_int Try.underlying3 k2
        simp at e0 e1 e2
        subst e0 e1 e2
        have q0 := hcell 0 (by omega)
        have q1 := hcell 1 (by omega)
        have q2 := hcell 2 (by omega)
        rw [← Nat.add_assoc] at q0 q1 q2
        exact ⟨⟨n0, n1, n2⟩, bounds_int w0, bounds_int w1, bounds_int w2, q0, q1, q2⟩)
    exact ⟨l, .inr ⟨g, off, cap, by rw [hl], by omega, h2, hq⟩⟩
  · obtain rfl : len = 0 := by omega
    exact ⟨[], .inl ⟨⟨a, cap, rfl, h2⟩, rfl⟩⟩

end
end Go.Proofs.Ytkpoladbabhdmaa
