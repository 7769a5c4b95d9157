/- Scripts of layer 7: few, record, play, Front. Conditions: as each says. -/
import Derived.Test.YtkpoladbabhdmaaJrn9
import Derived.Test.YtkpoladbabhdmaaJplay
namespace Go.Proofs.Ytkpoladbabhdmaa
open Go.RowKit

structure Op7 where
  kind : Int
  n : Int
  b : Bytes

/-- one act of a script lies at an address -/
def Op7At (w : World) (g off : Nat) (o : Op7) : Prop :=
  int64 o.kind ∧ int64 o.n ∧ w.cell? ⟨g, off, none⟩ = some (.int .i64 o.kind) ∧ w.cell? ⟨g, off + 1, none⟩ = some (.int .i64 o.n) ∧ ∃ bv, w.cell? ⟨g, off + 2, none⟩ = some bv ∧ BytesV w bv o.b

/-- v is a script -/
def Ops7V (w : World) (v : Value) (l : List Op7) : Prop :=
  (Empty v ∧ l = []) ∨
    ∃ g off cap, v = .slice (some ⟨g, off, none⟩) l.length cap ∧ l.length ≤ cap ∧ cap ≤ maxLen ∧ ∀ i o, l[i]? = some o → Op7At w g (off + i * 3) o

theorem Ops7V.shape {w : World} {v : Value} {l : List Op7} (h : Ops7V w v l) : ∃ a cap, v = .slice a l.length cap ∧ l.length ≤ cap ∧ cap ≤ maxLen := by
  rcases h with ⟨⟨a, cap, rfl, hc⟩, rfl⟩ | ⟨g, off, cap, rfl, h1, h2, _⟩
  · exact ⟨a, cap, rfl, Nat.zero_le _, hc⟩
  · exact ⟨_, cap, rfl, h1, h2⟩

theorem Op7At.upd {w w' : World} {g off : Nat} {o : Op7} (h : Op7At w g off o) (hu : Upd [] w w') : Op7At w' g off o := by
  obtain ⟨a, b, h1, h2, bv, h3, h4⟩ := h
  have hg : g < w.heap.size := World.block_lt_of_cell? w _ h1
  have hc : ∀ o, w'.cell? ⟨g, o, none⟩ = w.cell? ⟨g, o, none⟩ := fun o => World.cell?_of_block (a := ⟨g, o, none⟩) (hu.block g hg (by simp))
  exact ⟨a, b, by rw [hc]; exact h1, by rw [hc]; exact h2, bv, by rw [hc]; exact h3, h4.upd hu (by simp)⟩

theorem Ops7V.upd {w w' : World} {v : Value} {l : List Op7} (h : Ops7V w v l) (hu : Upd [] w w') : Ops7V w' v l := by
  rcases h with h | ⟨g, off, cap, rfl, h1, h2, h3⟩
  · exact .inl h
  · exact .inr ⟨g, off, cap, rfl, h1, h2, fun i o hi => (h3 i o hi).upd hu⟩

theorem Ops7V.at_ {w : World} {a : Option Addr} {n cap : Nat} {l : List Op7} (h : Ops7V w (.slice a n cap) l) {k : Nat} {o : Op7} (hk : l[k]? = some o) :
    ∃ g off ba bc, a = some ⟨g, off, none⟩ ∧ int64 o.n ∧ w.cell? ⟨g, off + k * 3, none⟩ = some (.int .i64 o.kind) ∧ w.cell? ⟨g, off + k * 3 + 1, none⟩ = some (.int .i64 o.n) ∧
      w.cell? ⟨g, off + k * 3 + 2, none⟩ = some (.slice ba o.b.length bc) ∧ BytesV w (.slice ba o.b.length bc) o.b ∧ o.b.length ≤ maxLen ∧ g < w.heap.size := by
  rcases h with ⟨_, rfl⟩ | ⟨g, off, c, he, h1, h2, h3⟩
  · simp at hk
  · obtain ⟨_, hn, q0, q1, bv, q2, hb⟩ := h3 k o hk
    obtain ⟨ba, bc, rfl, h4, h5⟩ := hb.shape
    cases he
    exact ⟨g, off, ba, bc, rfl, hn, q0, q1, q2, hb, Nat.le_trans h4 h5, World.block_lt_of_cell? w _ q0⟩

def Few7 (l : List Op7) (w : World) (e : Ending) (w' : World) : Prop := ∃ x, e = .returned (.bool x) ∧ (x = true → l.length ≤ 30 ∧ ∀ (i : Nat) (o : Op7), l[i]? = some o → o.b.length ≤ 9000) ∧ w = w'

set_option maxRecDepth 100000 in
set_option maxHeartbeats 400000 in
theorem few7_any {w : World} {v : Value} {l : List Op7} (h : Ops7V w v l) : Calls Try.prog 54 #[v] w (Few7 l w) := by
  obtain ⟨a, c, rfl, hc, hm⟩ := h.shape
  have hb1 : l.length ≤ 9223372036854775807 := by unfold maxLen at hm; omega
  have H := Lib.hid h
  clear hm hc h
  go_enter Try.func54, Try.ntmps54
  go_wp2_with (fail)
  go_loop [3] (fun i => ∃ k : Nat, k ≤ l.length ∧ i = .int .i64 k ∧ ∀ (i : Nat) (o : Op7), i < k → l[i]? = some o → o.b.length ≤ 9000) (fun i => l.length - (intOf i).toNat)
  case atStart => exact ⟨0, Nat.zero_le _, rfl, fun i o hi => by omega⟩
  case round =>
    obtain ⟨k, hk, rfl, hall⟩ := hrel
    have HA := Lib.hid hall
    clear hall
    by_cases hlt : k < l.length
    · by_cases h100 : k < 100
      · obtain ⟨o, ho⟩ : ∃ o, l[k]? = some o := ⟨l[k], List.getElem?_eq_getElem hlt⟩
        have HOO := Lib.hid ho
        obtain ⟨g, off, ba, bc, rfl, -, -, -, q2, -, hbl, -⟩ := H.out.at_ ho
        have hbb : o.b.length ≤ 9223372036854775807 := by unfold maxLen at hbl; omega
        clear ho H hbl
        by_cases hbig : 9000 < o.b.length
        · go_wp2_with (fail)
          go_ret
          exact ⟨false, rfl, by simp, rfl⟩
        · go_wp2_with (fail)
          go_round
          case rel => exact ⟨k + 1, by omega, by go_num, fun i o' hi hio => by
            by_cases hik : i = k
            · subst hik
              have := HOO.out
              rw [hio] at this; cases this; omega
            · exact HA.out i o' (by omega) hio⟩
          case measure => simp [intOf]; omega
      · go_wp2_with (fail)
        go_ret
        exact ⟨decide (l.length ≤ 30), by simp; omega, fun h => by exfalso; simp at h; omega, rfl⟩
    · obtain rfl : k = l.length := by omega
      go_wp2_with (fail)
      go_ret
      exact ⟨decide (l.length ≤ 30), by simp; omega, fun h => ⟨by simpa using h, fun i o hio => HA.out i o (List.getElem?_eq_some_iff.1 hio).1 hio⟩, rfl⟩

/-- some bytes, not too many -/
def SomeBytes (w : World) (e : Ending) (w' : World) : Prop := ∃ r : Bytes, r.length ≤ 9000 ∧ MadeBytes r w e w'

set_option maxRecDepth 100000 in
set_option maxHeartbeats 1000000 in
theorem record7_any {w : World} {kd n : Int} (hn : int64 n) {ba : Option Addr} {bc : Nat} {b : Bytes} (hb : BytesV w (.slice ba b.length bc) b) (hbb : b.length ≤ 9000) :
    Calls Try.prog 93 #[.agg #[.int .i64 kd, .int .i64 n, .slice ba b.length bc]] w (SomeBytes w) := by
  obtain ⟨n0, n1⟩ := hn
  have hU := (Upd.refl [] w).alloc (.cells #[.int .i64 kd, .int .i64 n, .slice ba b.length bc] 147)
  have hrow := heap_alloc_new' w (.cells #[.int .i64 kd, .int .i64 n, .slice ba b.length bc] 147)
  have hb1 := hb.upd hU (by simp)
  have HU := Lib.hid hU
  have HR := Lib.hid hrow
  have HB := Lib.hid hb1
  clear hU hrow hb1 hb
  go_enter Try.func93, Try.ntmps93
  go_wp2_with (fail)
  generalize w.alloc (.cells #[.int .i64 kd, .int .i64 n, .slice ba b.length bc] 147) = w1 at HU HR HB ⊢
  have hx1 : w.heap.size < w1.heap.size := lt_of_heap HR.out
  go_loopw [3, 4] (fun s i wr => ∃ (k m : Nat) (l : Bytes) (a : Option Addr) (c : Nat), k ≤ 60 ∧ i = .int .i64 (k : Int) ∧ m = l.length ∧ m ≤ 9000 ∧ s = .slice a m c ∧ Grows w1 wr (.slice a m c) l) (fun _ i _ => 60 - (intOf i).toNat)
  case atStart => exact ⟨0, 0, [], none, 0, by omega, rfl, rfl, by omega, rfl, Grows.nil w1⟩
  case round =>
    obtain ⟨k, m, l, a, c, hk, rfl, hm, hm9, rfl, hg⟩ := hrel
    have hrow := (hg.2.1.block w.heap.size hx1 (by simp)).trans HR.out
    have c1 := cell_of_heap hrow (o := 1) rfl
    have c2 := cell_of_heap hrow (o := 2) rfl
    have hlr := lt_of_heap hrow
    have hfin : SomeBytes w (.returned (.slice a m c)) wr := ⟨l, by omega, _, rfl, hg.1, HU.out.trans hg.2.1 (by simp), fun g hg' => Nat.le_trans HU.out.size (hg.2.2 g hg')⟩
    have HF := Lib.hid hfin
    have HM := Lib.hid hm
    have HG := Lib.hid hg
    clear hfin hm hg hrow
    by_cases h1 : (k : Int) < n
    · by_cases h2 : k < 60
      · by_cases h3 : m + b.length ≤ 9000
        · obtain ⟨a2, c2', w2, r2, g2⟩ := HG.out.append (HB.out.upd HG.out.2.1 (by simp)) 33 (by rw [← HM.out]; omega)
          have hl2 : (l ++ b).length = m + b.length := by rw [List.length_append, ← HM.out]
          rw [hl2] at r2 g2
          have R2 := Lib.hid r2
          have G2 := Lib.hid g2
          have HL2 := Lib.hid hl2
          clear r2 g2 hl2
          go_wp2_with (at_builtin; refine wpList_append_ran _ rfl _ _ 33 33 rfl rfl rfl R2.out ?_)
          go_roundw
          case rel => exact ⟨k + 1, m + b.length, l ++ b, a2, c2', by omega, by go_num, HL2.out.symm, h3, rfl, G2.out⟩
          case measure => simp only [intOf]; omega
        · go_wp2_with (fail)
          go_ret
          exact HF.out
      · go_wp2_with (fail)
        go_ret
        exact HF.out
    · go_wp2_with (fail)
      go_ret
      exact HF.out

set_option maxRecDepth 100000 in
set_option maxHeartbeats 1000000 in
/-- a list that begins with another one -/
theorem front_true {w : World} {v1 v2 : Value} {A B : List Bytes} (h1 : RowsV w v1 A) (h2 : RowsV w v2 B) (hle : B.length ≤ A.length) (hfr : ∀ (i : Nat) (b : Bytes), B[i]? = some b → A[i]? = some b) :
    Calls Try.prog 56 #[v1, v2] w (Returns (.bool true) (Upd [] w)) := by
  obtain ⟨a1, c1, rfl, hc1, hm1⟩ := h1.shape
  obtain ⟨a2, c2, rfl, hc2, hm2⟩ := h2.shape
  have hb1 : A.length ≤ 9223372036854775807 := by unfold maxLen at hm1; omega
  have H1 := Lib.hid h1
  have H2 := Lib.hid h2
  have HFR := Lib.hid hfr
  have hdd : decide (A.length < B.length) = false := decide_eq_false (by omega)
  clear h1 h2 hfr hc1 hm1 hc2 hm2
  go_enter Try.func56, Try.ntmps56
  go_wp2_with (fail)
  go_loopw [5] (fun i wr => ∃ k : Nat, k ≤ B.length ∧ i = .int .i64 (k : Int) ∧ Upd [] w wr) (fun i _ => B.length - (intOf i).toNat)
  case atStart => exact ⟨0, Nat.zero_le _, rfl, Upd.refl [] w⟩
  case round =>
    obtain ⟨k, hk, rfl, hU⟩ := hrel
    by_cases hlt : k < B.length
    · obtain ⟨b, hb⟩ : ∃ b, B[k]? = some b := ⟨B[k], List.getElem?_eq_getElem hlt⟩
      obtain ⟨g1, o1, x1, d1, rfl, q1, r1, m1⟩ := (H1.out.upd hU).at_ (HFR.out k b hb)
      obtain ⟨g2, o2, x2, d2, rfl, q2, r2, m2⟩ := (H2.out.upd hU).at_ hb
      have hl1 := World.block_lt_of_cell? wr _ q1
      have hl2 := World.block_lt_of_cell? wr _ q2
      have hka : k < A.length := by omega
      have HUd := Lib.hid (hU.trans (Upd.refl [] wr).drew (by simp))
      have hsm := same_any (r1.upd (Upd.refl [] wr).drew (by simp)) (r2.upd (Upd.refl [] wr).drew (by simp))
      rw [decide_eq_true (Eq.refl b)] at hsm
      have HSM := Lib.hid hsm
      have hS : ∀ w' : World, Upd [] wr w' → w'.cell? ⟨g1, o1 + k, none⟩ = some (.slice x1 b.length d1) ∧ w'.cell? ⟨g2, o2 + k, none⟩ = some (.slice x2 b.length d2) := fun w' hu =>
        ⟨by rw [World.cell?_of_block (w := wr) (a := ⟨g1, o1 + k, none⟩) (hu.block g1 hl1 (by simp))]; exact q1, by rw [World.cell?_of_block (w := wr) (a := ⟨g2, o2 + k, none⟩) (hu.block g2 hl2 (by simp))]; exact q2⟩
      have HS := Lib.hid hS
      clear hU r1 r2 m1 m2 hsm hb hS
      go_wp2_with (fail)
      go_region_held3 (fun w' => w'.cell? ⟨g1, o1 + k, none⟩ = some (.slice x1 b.length d1) ∧ w'.cell? ⟨g2, o2 + k, none⟩ = some (.slice x2 b.length d2)) (first | exact ⟨q1, q2⟩ | exact HS.out _ (by assumption))
        (first | (go_at_call 27; refine HSM.out.mono ?_; rintro e w4 ⟨rfl, hu4⟩; have hu5 : Upd [] wr w4 := ((Upd.refl [] wr).drew).trans hu4 (by simp)))
      have HU4 := Lib.hid (HUd.out.trans hu4 (by simp))
      clear hu4 hu5 q1 q2
      go_wp2_with (fail)
      go_roundw
      case rel => exact ⟨k + 1, by omega, by go_num, HU4.out⟩
      case measure => simp [intOf]; omega
    · have HU := Lib.hid hU
      clear hU
      go_wp2_with (fail)
      go_ret
      exact ⟨rfl, HU.out⟩

end Go.Proofs.Ytkpoladbabhdmaa
