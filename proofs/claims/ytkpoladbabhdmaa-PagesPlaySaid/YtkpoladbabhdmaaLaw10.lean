/- The scripts of layer 10 in memory. Conditions: none. -/
import Derived.Test.YtkpoladbabhdmaaLaw6b
namespace Go.Proofs.Ytkpoladbabhdmaa
open Go.RowKit

structure Op10 where
  kind : Int
  n : Int
  m : Int

/-- one act of a script lies at an address -/
def Op10At (w : World) (g off : Nat) (o : Op10) : Prop :=
  int64 o.kind ∧ int64 o.n ∧ int64 o.m ∧ w.cell? ⟨g, off, none⟩ = some (.int .i64 o.kind) ∧ w.cell? ⟨g, off + 1, none⟩ = some (.int .i64 o.n) ∧ w.cell? ⟨g, off + 2, none⟩ = some (.int .i64 o.m)

def Ops10V (w : World) (v : Value) (l : List Op10) : Prop :=
  (Empty v ∧ l = []) ∨
    ∃ g off cap, v = .slice (some ⟨g, off, none⟩) l.length cap ∧ l.length ≤ cap ∧ cap ≤ maxLen ∧ ∀ (i : Nat) (o : Op10), l[i]? = some o → Op10At w g (off + i * 3) o

theorem Ops10V.shape {w : World} {v : Value} {l : List Op10} (h : Ops10V w v l) : ∃ a cap, v = .slice a l.length cap ∧ l.length ≤ cap ∧ cap ≤ maxLen := by
  rcases h with ⟨⟨a, cap, rfl, hc⟩, rfl⟩ | ⟨g, off, cap, rfl, h1, h2, _⟩
  · exact ⟨a, cap, rfl, Nat.zero_le _, hc⟩
  · exact ⟨_, cap, rfl, h1, h2⟩

theorem Op10At.upd {w w' : World} {g off : Nat} {o : Op10} (h : Op10At w g off o) (hu : Upd [] w w') : Op10At w' g off o := by
  obtain ⟨h1, h2, h3, h4, h5, h6⟩ := h
  have hg := World.block_lt_of_cell? w _ h4
  have e : ∀ i, w'.cell? ⟨g, i, none⟩ = w.cell? ⟨g, i, none⟩ := fun i => World.cell?_of_block (w := w) (a := ⟨g, i, none⟩) (hu.block g hg (by simp))
  exact ⟨h1, h2, h3, by rw [e]; exact h4, by rw [e]; exact h5, by rw [e]; exact h6⟩

theorem Ops10V.upd {w w' : World} {v : Value} {l : List Op10} (h : Ops10V w v l) (hu : Upd [] w w') : Ops10V w' v l := by
  rcases h with h | ⟨g, off, cap, rfl, h1, h2, h3⟩
  · exact .inl h
  · exact .inr ⟨g, off, cap, rfl, h1, h2, fun i o hi => (h3 i o hi).upd hu⟩

theorem Ops10V.at_ {w : World} {a : Option Addr} {n cap : Nat} {l : List Op10} (h : Ops10V w (.slice a n cap) l) {k : Nat} {o : Op10} (hk : l[k]? = some o) :
    ∃ g off, a = some ⟨g, off, none⟩ ∧ Op10At w g (off + k * 3) o := by
  rcases h with ⟨_, rfl⟩ | ⟨g, off, c, he, _, _, h3⟩
  · simp at hk
  · cases he; exact ⟨g, off, rfl, h3 k o hk⟩

end Go.Proofs.Ytkpoladbabhdmaa
