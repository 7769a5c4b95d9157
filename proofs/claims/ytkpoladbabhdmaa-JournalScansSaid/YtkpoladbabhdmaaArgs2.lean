/- The arguments of the statements, read as data: two bytes, slices of slices of bytes. Conditions: none. -/
import Derived.Test.YtkpoladbabhdmaaArgs
import Derived.Test.YtkpoladbabhdmaaMeta11
import Derived.WideKeyPair
namespace Go.Proofs.Ytkpoladbabhdmaa
open Go.ChangeShapes Go.WideShapes Go.ChangeAt Go.RowKit Go.Deep

theorem arr64 : Go.WideMaps.ArrKey Try.prog 64 5 2 := ⟨Try.underlying64, by kernel_rfl, by kernel_rfl, by kernel_rfl⟩

theorem u8_of {n : Int} (h : (Lit.int .u8 n).wf = true) : n = ((u8 n).toNat : Int) := by
  have := bounds_u8 h
  rw [u8_toNat]; omega

section
variable {H : Type} {enc : TypeId × Value → H} {W : World} {sp : Nat → Bool} {fuel : Nat}

set_option maxRecDepth 100000 in
theorem open_two {r : Reach} {b0 : Nat} {v : Value} {d : DataW H} {ps : List MemPlace} (hval : Value.okWide Try.prog W r b0 64 v) (hd : DataW.Trod enc Try.prog W 0 sp true 64 v d ps) :
    ∃ x y : UInt8, v = .agg #[.int .u8 (x.toNat : Int), .int .u8 (y.toNat : Int)] := by
  obtain ⟨a, b, rfl, _, _, wa, wb⟩ := Go.WideMaps.open_pair arr64 Try.underlying5 hval hd
  refine ⟨u8 a, u8 b, ?_⟩
  rw [← u8_of wa, ← u8_of wb]

theorem open_rows {v : Value} {x : DataW H × List MemPlace} (h : DataW.trod enc Try.prog W 0 sp true fuel 66 [v] = some x) : ∃ l, RowsV W v l := by
  obtain ⟨len, cap, a, rfl, h1, h2, h3⟩ := open_any Try.underlying66 Try.cells33 (by omega) h
  by_cases h0 : 0 < len
  · obtain ⟨g, off, rfl, hi⟩ := h3 h0
    obtain ⟨l, hl, hq⟩ := list_of (Q := fun i (b : Bytes) => ∃ x, W.cell? ⟨g, off + i, none⟩ = some x ∧ BytesV W x b) len (fun i hil => by
      obtain ⟨cs, n, y, hc, hcell, ht⟩ := hi i hil
      match cs, hc with
      | [c], _ =>
        obtain ⟨b, hb⟩ := open_bytes ht
        refine ⟨b, c, ?_, hb⟩
        have := hcell 0 (by omega)
        simpa using this)
    exact ⟨l, .inr ⟨g, off, cap, by rw [hl], by omega, h2, hq⟩⟩
  · obtain rfl : len = 0 := by omega
    exact ⟨[], .inl ⟨⟨a, cap, rfl, h2⟩, rfl⟩⟩

end
end Go.Proofs.Ytkpoladbabhdmaa
