/- The scripts of layer 6 as data; the contract of few. Conditions: as each says. -/
import Derived.Test.YtkpoladbabhdmaaLaw6a
namespace Go.Proofs.Ytkpoladbabhdmaa
open Go.RowKit

structure Op6 where
  kind : Int
  n : Int
  m : Int
  keep : List Bool

def int64 (n : Int) : Prop := -9223372036854775808 ≤ n ∧ n ≤ 9223372036854775807

/-- one act of a script lies at an address -/
def Op6At (w : World) (g off : Nat) (o : Op6) : Prop :=
  int64 o.kind ∧ int64 o.n ∧ int64 o.m ∧ w.cell? ⟨g, off, none⟩ = some (.int .i64 o.kind) ∧ w.cell? ⟨g, off + 1, none⟩ = some (.int .i64 o.n) ∧ w.cell? ⟨g, off + 2, none⟩ = some (.int .i64 o.m) ∧
    ∃ kv, w.cell? ⟨g, off + 3, none⟩ = some kv ∧ BoolsV w kv o.keep

/-- v is a script -/
def OpsV (w : World) (v : Value) (l : List Op6) : Prop :=
  (Empty v ∧ l = []) ∨
    ∃ g off cap, v = .slice (some ⟨g, off, none⟩) l.length cap ∧ l.length ≤ cap ∧ cap ≤ maxLen ∧ ∀ i o, l[i]? = some o → Op6At w g (off + i * 4) o

theorem OpsV.shape {w : World} {v : Value} {l : List Op6} (h : OpsV w v l) : ∃ a cap, v = .slice a l.length cap ∧ l.length ≤ cap ∧ cap ≤ maxLen := by
  rcases h with ⟨⟨a, cap, rfl, hc⟩, rfl⟩ | ⟨g, off, cap, rfl, h1, h2, _⟩
  · exact ⟨a, cap, rfl, Nat.zero_le _, hc⟩
  · exact ⟨_, cap, rfl, h1, h2⟩

/-- what lies below B stays -/
def Old (B : Nat) (w w' : World) : Prop := ∀ k, k < B → w'.heap[k]? = w.heap[k]?

theorem Upd.old {S : List Nat} {B : Nat} {w w' : World} (h : Upd S w w') (hB : B ≤ w.heap.size) (hs : ∀ k ∈ S, B ≤ k) : Old B w w' :=
  fun k hk => h.block k (by omega) (fun hm => by have := hs k hm; omega)

theorem BoolsV.old {B : Nat} {w w' : World} {v : Value} {l : List Bool} (h : BoolsV w v l) (hB : w.heap.size ≤ B) (ho : Old B w w') : BoolsV w' v l := by
  have hlt := h.lt
  rcases h with h | ⟨g, off, cap, rfl, h1, h2, h3⟩
  · exact .inl h
  · refine .inr ⟨g, off, cap, rfl, h1, h2, fun i b hi => ?_⟩
    have hne : l ≠ [] := by rintro rfl; simp at hi
    rw [World.cell?_of_block (w := w) (a := ⟨g, off + i, none⟩) (ho g (by have := hlt g rfl hne; omega))]
    exact h3 i b hi

theorem Op6At.old {B : Nat} {w w' : World} {g off : Nat} {o : Op6} (h : Op6At w g off o) (hB : w.heap.size ≤ B) (ho : Old B w w') : Op6At w' g off o := by
  obtain ⟨a, b, c, h1, h2, h3, kv, h4, h5⟩ := h
  have hg : g < B := Nat.lt_of_lt_of_le (World.block_lt_of_cell? w _ h1) hB
  have hc : ∀ o, w'.cell? ⟨g, o, none⟩ = w.cell? ⟨g, o, none⟩ := fun o => World.cell?_of_block (a := ⟨g, o, none⟩) (ho g hg)
  exact ⟨a, b, c, by rw [hc]; exact h1, by rw [hc]; exact h2, by rw [hc]; exact h3, kv, by rw [hc]; exact h4, h5.old hB ho⟩

theorem OpsV.old {B : Nat} {w w' : World} {v : Value} {l : List Op6} (h : OpsV w v l) (hB : w.heap.size ≤ B) (ho : Old B w w') : OpsV w' v l := by
  rcases h with h | ⟨g, off, cap, rfl, h1, h2, h3⟩
  · exact .inl h
  · exact .inr ⟨g, off, cap, rfl, h1, h2, fun i o hi => (h3 i o hi).old hB ho⟩

def FewPost (n : Nat) (w : World) (e : Ending) (w' : World) : Prop := ∃ x, e = .returned (.bool x) ∧ (x = true → n ≤ 60) ∧ w = w'

set_option maxRecDepth 100000 in
set_option maxHeartbeats 400000 in
theorem few6_any {w : World} {v : Value} {l : List Op6} (h : OpsV w v l) : Calls Try.prog 20 #[v] w (FewPost l.length w) := by
  obtain ⟨a, c, hv, hc, hm⟩ := h.shape
  have hb1 : l.length ≤ 9223372036854775807 := by unfold maxLen at hm; omega
  have HV := Lib.hid hv
  have H := Lib.hid h
  rw [hv]
  clear hm hc hv h
  go_enter Try.func20, Try.ntmps20
  go_wp2_with (fail)
  go_loop [3] (fun i => ∃ k : Nat, k ≤ l.length ∧ i = .int .i64 k) (fun i => l.length - (intOf i).toNat)
  case atStart => exact ⟨0, Nat.zero_le _, rfl⟩
  case round =>
    obtain ⟨k, hk, rfl⟩ := hrel
    by_cases hlt : k < l.length
    · by_cases h100 : k < 100
      · obtain ⟨o, ho⟩ : ∃ o, l[k]? = some o := ⟨l[k], List.getElem?_eq_getElem hlt⟩
        have hO := H.out
        rcases hO with ⟨_, h0⟩ | ⟨g, off, cap, hg, _, _, hat⟩
        · subst h0; simp at hlt
        obtain ⟨_, _, _, _, _, _, kv, hkc, hkv⟩ := hat k o ho
        obtain ⟨ka, kc, rfl, hkl, hkm⟩ := hkv.shape
        have ea : a = some ⟨g, off, none⟩ := by have := HV.out; rw [hg] at this; cases this; rfl
        subst ea
        have hkb : o.keep.length ≤ 9223372036854775807 := by unfold maxLen at hkm; omega
        clear hat hg hkv ho HV
        by_cases hbig : 1000 < o.keep.length
        · go_wp2_with (fail)
          go_ret
          exact ⟨false, rfl, by simp, rfl⟩
        · go_wp2_with (fail)
          go_round
          case rel => exact ⟨k + 1, by omega, by go_num⟩
          case measure => simp [intOf]; omega
      · go_wp2_with (fail)
        go_ret
        exact ⟨decide (l.length ≤ 60), by simp; omega, by simp, rfl⟩
    · go_wp2_with (fail)
      go_ret
      exact ⟨decide (l.length ≤ 60), by simp; omega, by simp, rfl⟩

end Go.Proofs.Ytkpoladbabhdmaa
