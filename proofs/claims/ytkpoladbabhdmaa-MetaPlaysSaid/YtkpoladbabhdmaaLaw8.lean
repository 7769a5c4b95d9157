/- The scripts of layer 8 as data; the contract of few. Conditions: as each says. -/
import Derived.Test.YtkpoladbabhdmaaMeta17
namespace Go.Proofs.Ytkpoladbabhdmaa
open Go.RowKit

structure Op8 where
  kind : Int
  n : Int
  b : Bytes
  keep : List Bool

/-- one act of a script lies at an address -/
def Op8At (w : World) (g off : Nat) (o : Op8) : Prop :=
  int64 o.kind ∧ int64 o.n ∧ w.cell? ⟨g, off, none⟩ = some (.int .i64 o.kind) ∧ w.cell? ⟨g, off + 1, none⟩ = some (.int .i64 o.n) ∧
    (∃ bv, w.cell? ⟨g, off + 2, none⟩ = some bv ∧ BytesV w bv o.b) ∧ ∃ kv, w.cell? ⟨g, off + 3, none⟩ = some kv ∧ BoolsV w kv o.keep

/-- v is a script -/
def Ops8V (w : World) (v : Value) (l : List Op8) : Prop :=
  (Empty v ∧ l = []) ∨
    ∃ g off cap, v = .slice (some ⟨g, off, none⟩) l.length cap ∧ l.length ≤ cap ∧ cap ≤ maxLen ∧ ∀ i o, l[i]? = some o → Op8At w g (off + i * 4) o

theorem Ops8V.shape {w : World} {v : Value} {l : List Op8} (h : Ops8V w v l) : ∃ a cap, v = .slice a l.length cap ∧ l.length ≤ cap ∧ cap ≤ maxLen := by
  rcases h with ⟨⟨a, cap, rfl, hc⟩, rfl⟩ | ⟨g, off, cap, rfl, h1, h2, _⟩
  · exact ⟨a, cap, rfl, Nat.zero_le _, hc⟩
  · exact ⟨_, cap, rfl, h1, h2⟩

theorem Op8At.upd {w w' : World} {g off : Nat} {o : Op8} (h : Op8At w g off o) (hu : Upd [] w w') : Op8At w' g off o := by
  obtain ⟨a, b, h1, h2, ⟨bv, h3, h4⟩, kv, h5, h6⟩ := h
  have hg : g < w.heap.size := World.block_lt_of_cell? w _ h1
  have hc : ∀ o, w'.cell? ⟨g, o, none⟩ = w.cell? ⟨g, o, none⟩ := fun o => World.cell?_of_block (a := ⟨g, o, none⟩) (hu.block g hg (by simp))
  exact ⟨a, b, by rw [hc]; exact h1, by rw [hc]; exact h2, ⟨bv, by rw [hc]; exact h3, h4.upd hu (by simp)⟩, kv, by rw [hc]; exact h5, h6.upd hu (by simp)⟩

theorem Ops8V.upd {w w' : World} {v : Value} {l : List Op8} (h : Ops8V w v l) (hu : Upd [] w w') : Ops8V w' v l := by
  rcases h with h | ⟨g, off, cap, rfl, h1, h2, h3⟩
  · exact .inl h
  · exact .inr ⟨g, off, cap, rfl, h1, h2, fun i o hi => (h3 i o hi).upd hu⟩

/-- the act at a place -/
theorem Ops8V.at_ {w : World} {a : Option Addr} {n cap : Nat} {l : List Op8} (h : Ops8V w (.slice a n cap) l) {k : Nat} {o : Op8} (hk : l[k]? = some o) :
    ∃ g off ba bc ka kc, a = some ⟨g, off, none⟩ ∧ int64 o.n ∧ w.cell? ⟨g, off + k * 4, none⟩ = some (.int .i64 o.kind) ∧ w.cell? ⟨g, off + k * 4 + 1, none⟩ = some (.int .i64 o.n) ∧
      w.cell? ⟨g, off + k * 4 + 2, none⟩ = some (.slice ba o.b.length bc) ∧ w.cell? ⟨g, off + k * 4 + 3, none⟩ = some (.slice ka o.keep.length kc) ∧
      BytesV w (.slice ba o.b.length bc) o.b ∧ BoolsV w (.slice ka o.keep.length kc) o.keep ∧ o.b.length ≤ maxLen ∧ o.keep.length ≤ maxLen ∧ g < w.heap.size := by
  rcases h with ⟨_, rfl⟩ | ⟨g, off, c, he, h1, h2, h3⟩
  · simp at hk
  · obtain ⟨_, hn, q0, q1, ⟨bv, q2, hb⟩, kv, q3, hkv⟩ := h3 k o hk
    obtain ⟨ba, bc, rfl, h4, h5⟩ := hb.shape
    obtain ⟨ka, kc, rfl, h6, h7⟩ := hkv.shape
    cases he
    exact ⟨g, off, ba, bc, ka, kc, rfl, hn, q0, q1, q2, q3, hb, hkv, Nat.le_trans h4 h5, Nat.le_trans h6 h7, World.block_lt_of_cell? w _ q0⟩

def Few (m n : Nat) (w : World) (e : Ending) (w' : World) : Prop := ∃ x, e = .returned (.bool x) ∧ (x = true → n ≤ m) ∧ w = w'

set_option maxRecDepth 100000 in
set_option maxHeartbeats 400000 in
theorem few8_any {w : World} {v : Value} {l : List Op8} (h : Ops8V w v l) : Calls Try.prog 40 #[v] w (Few 40 l.length w) := by
  obtain ⟨a, c, rfl, hc, hm⟩ := h.shape
  have hb1 : l.length ≤ 9223372036854775807 := by unfold maxLen at hm; omega
  have H := Lib.hid h
  clear hm hc h
  go_enter Try.func40, Try.ntmps40
  go_wp2_with (fail)
  go_loop [3] (fun i => ∃ k : Nat, k ≤ l.length ∧ i = .int .i64 k) (fun i => l.length - (intOf i).toNat)
  case atStart => exact ⟨0, Nat.zero_le _, rfl⟩
  case round =>
    obtain ⟨k, hk, rfl⟩ := hrel
    by_cases hlt : k < l.length
    · by_cases h100 : k < 100
      · obtain ⟨o, ho⟩ : ∃ o, l[k]? = some o := ⟨l[k], List.getElem?_eq_getElem hlt⟩
        obtain ⟨g, off, ba, bc, ka, kc, rfl, -, -, -, q2, q3, -, -, hbl, hkl, -⟩ := H.out.at_ ho
        have hbb : o.b.length ≤ 9223372036854775807 := by unfold maxLen at hbl; omega
        have hkb : o.keep.length ≤ 9223372036854775807 := by unfold maxLen at hkl; omega
        clear ho H hbl hkl
        by_cases hbig : 1000 < o.b.length
        · go_wp2_with (fail)
          go_ret
          exact ⟨false, rfl, by simp, rfl⟩
        · by_cases hbk : 1000 < o.keep.length
          · go_wp2_with (fail)
            go_ret
            exact ⟨false, rfl, by simp, rfl⟩
          · go_wp2_with (fail)
            go_round
            case rel => exact ⟨k + 1, by omega, by go_num⟩
            case measure => simp [intOf]; omega
      · go_wp2_with (fail)
        go_ret
        exact ⟨decide (l.length ≤ 40), by simp; omega, by simp, rfl⟩
    · go_wp2_with (fail)
      go_ret
      exact ⟨decide (l.length ≤ 40), by simp; omega, by simp, rfl⟩

/-! ### how long the list of writes gets -/
theorem Dk.saved_len (D : Dk) (G : Int) (p : Bytes) : (D.saved G p).all.length ≤ D.all.length + 1 := by
  have h1 := D.sync_len
  have h2 := D.sync.write_len (G % 2) (headSec G p)
  have h3 := (D.saveW G p).sync_len
  have h4 : (D.saveW G p).all.length ≤ D.all.length + 1 := by unfold Dk.saveW; omega
  unfold Dk.saved
  split
  · omega
  · split
    · omega
    · split
      · omega
      · split <;> omega

theorem Dk.opened_len (D : Dk) : D.opened.all.length = D.all.length := by
  unfold Dk.opened
  split
  · rfl
  · rw [Dk.read_len, Dk.read_len]

end Go.Proofs.Ytkpoladbabhdmaa
