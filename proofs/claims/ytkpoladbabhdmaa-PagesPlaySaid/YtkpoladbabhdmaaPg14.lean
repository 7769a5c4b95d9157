/- PagesLost, plain: how much an act writes. Conditions: none. -/
import Derived.Test.YtkpoladbabhdmaaPg13
namespace Go.Proofs.Ytkpoladbabhdmaa
open Go.RowKit

def PS.len (S : PS) : Nat := S.D.all.length

theorem len_alloc {C : PC} {S S' : PS} {n en : Int} (hr : AllocR C S S' n en) : S'.len ≤ S.len + 4 := by
  rcases hr with ⟨_, rfl, _⟩ | ⟨_, _, rfl, _⟩ | ⟨_, k, f, _, _, _, _, _, hp⟩
  · omega
  · omega
  · have := (PS.put_len C S f).1
    rcases hp with ⟨_, rfl, _⟩ | ⟨_, rfl, _⟩ <;> exact this

theorem len_puts {C : PC} {S S' : PS} {n en : Int} {b : Bytes} (hr : PutR C S S' n b en) : S'.len ≤ S.len + 4 := by
  rcases hr with ⟨_, rfl, _⟩ | ⟨_, _, rfl, _⟩ | ⟨_, k, f, _, _, _, _, _, rfl, _⟩
  · omega
  · omega
  · exact (PS.put_len C S f).1

theorem len_frees {S S' : PS} {n en : Int} (hr : FreeR S S' n en) : S'.len ≤ S.len + 4 := by
  rcases hr with ⟨_, rfl, _⟩ | ⟨_, _, _, rfl, _⟩ | ⟨_, k, _, ⟨_, rfl⟩ | ⟨_, rfl⟩, _⟩
  · omega
  · omega
  · exact Nat.le_add_right _ _
  · exact Nat.le_add_right _ _

theorem len_gets {C : PC} {S S' : PS} {n en : Int} {b : Bytes} (hr : GetR C S S' n b en) : S'.len ≤ S.len + 4 := by
  rcases hr with ⟨_, rfl, _⟩ | ⟨_, _, _, rfl, _⟩ | ⟨_, _, k, _, _, ⟨j, f, _, _, rfl, _⟩ | ⟨_, _, rfl, _⟩ | ⟨_, _, x, f, _, _, _, rfl, _⟩⟩
  · omega
  · omega
  · exact Nat.le_add_right _ _
  · exact Nat.le_add_right _ _
  · exact (PS.put_len C { S with D := { S.D with a0 := x } } f).1

theorem len_flush {C : PC} : ∀ (r i : Nat) (S : PS), (flush C r i S).1.len ≤ S.len + 4 * r
  | 0, _, _ => Nat.le_refl _
  | r + 1, i, S => by
    unfold flush
    cases hf : S.fs[i]? with
    | none => exact Nat.le_add_right _ _
    | some f =>
      simp only
      have h := (pwr_size (C.base f.n) f.b 4 0 S.D).2
      split
      · split
        · have := len_flush (C := C) r (i + 1) { S with D := (pwr (C.base f.n) f.b 4 0 S.D).1, fs := S.fs.set i { f with dirty := false } }
          have e : ({ S with D := (pwr (C.base f.n) f.b 4 0 S.D).1, fs := S.fs.set i { f with dirty := false } } : PS).len ≤ S.len + 4 := h
          omega
        · show (pwr (C.base f.n) f.b 4 0 S.D).1.all.length ≤ S.D.all.length + 4 * (r + 1)
          omega
      · have := len_flush (C := C) r (i + 1) S
        omega

theorem len_flushes (C : PC) (S : PS) : (S.flush C).1.len ≤ S.len + 4 * S.fs.length := by
  unfold PS.flush
  split
  · exact Nat.le_add_right _ _
  · exact len_flush _ _ _

end Go.Proofs.Ytkpoladbabhdmaa
