/- The reference's pages in memory; the contracts of its is, Get, Put, Free, Settle, Count. Conditions: as each says. -/
import Derived.Test.YtkpoladbabhdmaaPl1
namespace Go.Proofs.Ytkpoladbabhdmaa
open Go.RowKit

structure RC where
  r : Nat
  ib : Nat
  bb : Nat

/-- a block of slices of bytes that never turn -/
def brows (bb : Nat) (B : List Bytes) : Thing :=
  ⟨fun w F => ∃ vs : List Value, w.heap[bb]? = some (.cells vs.toArray 33 (0, 0)) ∧ vs.length = B.length ∧ (∀ (i : Nat) (b : Bytes), B[i]? = some b → ∃ v, vs[i]? = some v ∧ BytesV w v b ∧ InBytes w v) ∧ F = [bb],
   fun w F h k hk => by obtain ⟨vs, h1, _, _, rfl⟩ := h; simp at hk; subst hk; exact lt_of_heap h1,
   fun w F h k hk c fz => by obtain ⟨vs, h1, _, _, rfl⟩ := h; simp at hk; subst hk; rw [h1]; simp,
   fun w w' F S h hu hd => by
     obtain ⟨vs, h1, h2, h3, rfl⟩ := h
     refine ⟨vs, hu.kept h1 (hd bb (by simp)), h2, fun i b hi => ?_, rfl⟩
     obtain ⟨v, g1, g2, g3⟩ := h3 i b hi
     exact ⟨v, g1, g2.keep g3 hu.keeps, g3.keep hu.keeps⟩⟩

def rth (R : RC) (is : List Int) (B : List Bytes) (l : List Thing) : List Thing :=
  row R.r #[.slice (some ⟨R.ib, 0, none⟩) is.length is.length, .slice (some ⟨R.bb, 0, none⟩) is.length is.length] 114 (by decide) :: row R.ib (is.map gint).toArray 3 (by decide) :: brows R.bb B :: l

section
variable {w0 w : World} {l : List Thing} {R : RC} {is : List Int} {B : List Bytes}

theorem own_rp (h : Owns w0 (rth R is B l) w) : w.cell? ⟨R.r, 0, none⟩ = some (.slice (some ⟨R.ib, 0, none⟩) is.length is.length) ∧ w.cell? ⟨R.r, 1, none⟩ = some (.slice (some ⟨R.bb, 0, none⟩) is.length is.length) ∧ R.r < w.heap.size ∧
    (∀ o, w.frozen? ⟨R.ib, o, none⟩ = false) ∧ R.ib < w.heap.size := by
  have h1 := own_row h 0 rfl
  have h2 := own_row h 1 rfl
  exact ⟨cell_of_heap h1 rfl, cell_of_heap h1 rfl, lt_of_heap h1, fun o => free_of_heap h2, lt_of_heap h2⟩

theorem own_ris (h : Owns w0 (rth R is B l) w) {k : Nat} {x : Int} (hx : is[k]? = some x) : w.cell? ⟨R.ib, k, none⟩ = some (.int .i64 x) := by
  have h1 := own_row h 1 rfl
  exact cell_of_heap h1 (by simp [hx, gint])

theorem own_ris_set (h : Owns w0 (rth R is B l) w) (k : Nat) (x : Int) : Owns w0 (rth R (is.set k x) B l) (w.setCell ⟨R.ib, k, none⟩ (.int .i64 x)) ∧ Keeps w (w.setCell ⟨R.ib, k, none⟩ (.int .i64 x)) := by
  have r1 := own_row h 1 rfl
  have h1 := own_row_set h 1 rfl k (.int .i64 x)
  have e1 : (is.map gint).toArray.setIfInBounds k (.int .i64 x) = ((is.set k x).map gint).toArray := by rw [List.setIfInBounds_toArray, List.map_set]; rfl
  refine ⟨?_, ((Upd.refl [R.ib] w).setCell (o := k) _ (.inl (by simp)) (.inr (by intro c fz; rw [r1]; simp))).keeps⟩
  rw [e1] at h1
  unfold rth
  rw [List.length_set]
  exact h1

theorem own_brow (h : Owns w0 (rth R is B l) w) : (∀ o, w.frozen? ⟨R.bb, o, none⟩ = false) ∧ R.bb < w.heap.size ∧ ∀ (k : Nat) (b : Bytes), B[k]? = some b → ∃ a c, w.cell? ⟨R.bb, k, none⟩ = some (.slice a b.length c) ∧ BytesV w (.slice a b.length c) b ∧ InBytes w (.slice a b.length c) := by
  obtain ⟨F, ⟨vs, h1, h2, h3, _⟩, _⟩ := h.at_ 2 rfl
  refine ⟨fun o => free_of_heap h1, lt_of_heap h1, fun k b hb => ?_⟩
  obtain ⟨v, g1, g2, g3⟩ := h3 k b hb
  obtain ⟨a, c, rfl, _, _⟩ := g2.shape
  exact ⟨a, c, cell_of_heap h1 (by simp [g1]), g2, g3⟩

theorem own_brow_set (h : Owns w0 (rth R is B l) w) (k : Nat) {v : Value} {b : Bytes} (hv : BytesV w v b) (hi : InBytes w v) : Owns w0 (rth R is (B.set k b) l) (w.setCell ⟨R.bb, k, none⟩ v) ∧ Keeps w (w.setCell ⟨R.bb, k, none⟩ v) := by
  obtain ⟨F, ⟨vs, h1, h2, h3, rfl⟩, _, ht⟩ := h.at_ 2 rfl
  have hu : Upd [R.bb] w (w.setCell ⟨R.bb, k, none⟩ v) := (Upd.refl _ _).setCell _ (.inl (by simp)) (.inr (by intro c fz; rw [h1]; simp))
  refine ⟨ht _ (brows R.bb (B.set k b)) ⟨[R.bb], ⟨vs.set k v, ?_, by simp [h2], fun i y hy => ?_, rfl⟩, hu, fun k hk => .inl hk⟩, hu.keeps⟩
  · rw [heap_setCell_eq _ _ _ _ h1, List.setIfInBounds_toArray]
  · rw [List.getElem?_set] at hy ⊢
    split at hy
    · rename_i hik
      subst hik
      rw [if_pos rfl]
      split at hy
      · rename_i hil
        cases hy
        rw [if_pos (by omega)]
        exact ⟨v, rfl, hv.keep hi hu.keeps, hi.keep hu.keeps⟩
      · cases hy
    · rename_i hik
      rw [if_neg hik]
      obtain ⟨u, g1, g2, g3⟩ := h3 i y hy
      exact ⟨u, g1, g2.keep g3 hu.keeps, g3.keep hu.keeps⟩

/-- what a page is -/
def atI (is : List Int) (n : Int) : Int := if 0 ≤ n ∧ n < (is.length : Int) then is.getD n.toNat 0 else 0

theorem atI_nat {n x : Int} (h : atI is n = x) (hx : x ≠ 0) : ∃ k : Nat, n = (k : Int) ∧ is[k]? = some x := by
  unfold atI at h
  split at h
  · rename_i h1
    have hk : n.toNat < is.length := by omega
    refine ⟨n.toNat, by omega, ?_⟩
    rw [List.getElem?_eq_getElem hk, ← h]
    simp [List.getD, List.getElem?_eq_getElem hk]
  · exact absurd h.symm hx

theorem atI_of {n : Int} {k : Nat} {x : Int} (hn : n = (k : Int)) (hk : is[k]? = some x) : atI is n = x := by
  have hkl := (List.getElem?_eq_some_iff.1 hk).1
  unfold atI
  rw [if_pos (by omega), hn, Int.toNat_natCast]
  simp [List.getD, hk]

set_option maxRecDepth 100000 in
set_option maxHeartbeats 1000000 in
theorem own_ratis (h : Owns w0 (rth R is B l) w) (n : Int) : Calls Try.prog 119 #[.pointer (some ⟨R.r, 0, none⟩), .int .i64 n] w fun e w' => e = .returned (.int .i64 (atI is n)) ∧ w = w' := by
  obtain ⟨r0, -, -, -, -⟩ := own_rp h
  by_cases h0 : 0 ≤ n
  · by_cases h1 : n < (is.length : Int)
    · obtain ⟨k, rfl⟩ : ∃ k : Nat, n = (k : Int) := ⟨n.toNat, by omega⟩
      obtain ⟨x, hx⟩ : ∃ x, is[k]? = some x := ⟨_, List.getElem?_eq_getElem (by omega)⟩
      have hc := own_ris h hx
      have HA := Lib.hid (atI_of rfl hx)
      clear h hx
      go_enter Try.func119, Try.ntmps119
      go_wp2_with (fail)
      go_ret
      exact ⟨by rw [HA.out]; rfl, rfl⟩
    · have HA : Hid (atI is n = 0) := Lib.hid (by unfold atI; rw [if_neg (by omega)])
      clear h
      go_enter Try.func119, Try.ntmps119
      go_wp2_with (fail)
      go_ret
      exact ⟨by rw [HA.out]; rfl, rfl⟩
  · have HA : Hid (atI is n = 0) := Lib.hid (by unfold atI; rw [if_neg (by omega)])
    clear h
    go_enter Try.func119, Try.ntmps119
    go_wp2_with (fail)
    go_ret
    exact ⟨by rw [HA.out]; rfl, rfl⟩

/-- what the reference's functions leave -/
def RTo (R : RC) (is : List Int) (B : List Bytes) (v : Value) (w0 : World) (l : List Thing) (w : World) (e : Ending) (w' : World) : Prop := e = .returned v ∧ Owns w0 (rth R is B l) w' ∧ Keeps w w'

def RGetsTo (is : List Int) (B : List Bytes) (n : Int) (w : World) (e : Ending) (w' : World) : Prop :=
  ∃ a len c b en, e = .returned (.tuple #[.slice a len c, .int .i64 en]) ∧ BytesV w (.slice a len c) b ∧ InBytes w (.slice a len c) ∧ RGet is B n b en ∧ w = w'

set_option maxRecDepth 100000 in
set_option maxHeartbeats 1000000 in
theorem own_rget (h : Owns w0 (rth R is B l) w) (hB : B.length = is.length) (n : Int) : Calls Try.prog 102 #[.pointer (some ⟨R.r, 0, none⟩), .int .i64 n] w (RGetsTo is B n w) := by
  obtain ⟨-, r1, -, -, -⟩ := own_rp h
  have his := own_ratis h n
  have HIS := Lib.hid his
  clear his
  by_cases hat : atI is n = 1 ∨ atI is n = 2
  · obtain ⟨k, hn, hk⟩ : ∃ k : Nat, n = (k : Int) ∧ (is[k]? = some 1 ∨ is[k]? = some 2) := by
      rcases hat with h1 | h1
      · obtain ⟨k, e, hx⟩ := atI_nat h1 (by omega); exact ⟨k, e, .inl hx⟩
      · obtain ⟨k, e, hx⟩ := atI_nat h1 (by omega); exact ⟨k, e, .inr hx⟩
    subst hn
    have hkl : k < is.length := by rcases hk with hk | hk <;> exact (List.getElem?_eq_some_iff.1 hk).1
    obtain ⟨b, hb⟩ : ∃ b, B[k]? = some b := ⟨_, List.getElem?_eq_getElem (by omega)⟩
    obtain ⟨-, -, hcell⟩ := own_brow h
    obtain ⟨a, c, hc, hbv, hbi⟩ := hcell k b hb
    have HF : Hid (RGetsTo is B (k : Int) w (.returned (.tuple #[.slice a b.length c, .int .i64 0])) w) := Lib.hid ⟨a, _, c, b, 0, rfl, hbv, hbi, .inr ⟨k, rfl, hk, hb, rfl⟩, rfl⟩
    clear h hcell hbv hbi hb hk hB
    go_enter Try.func102, Try.ntmps102
    go_wp2_with (fail)
    refine HIS.out.mono ?_
    rintro e w' ⟨rfl, rfl⟩
    rcases hat with h1 | h1
    · rw [h1]
      go_wp2_with (fail)
      go_ret2
      exact HF.out
    · rw [h1] at HIS ⊢
      go_wp2_with (fail)
      refine HIS.out.mono ?_
      rintro e w' ⟨rfl, rfl⟩
      go_wp2_with (fail)
      go_ret2
      exact HF.out
  · have h1 : (atI is n != 1) = true := by rw [bne_iff_ne]; exact fun h => hat (.inl h)
    have h2 : (atI is n != 2) = true := by rw [bne_iff_ne]; exact fun h => hat (.inr h)
    have HF : Hid (RGetsTo is B n w (.returned (.tuple #[.slice none 0 0, .int .i64 1])) w) := Lib.hid ⟨none, 0, 0, [], 1, rfl, (nil_bytes w).1, (nil_bytes w).2, .inl ⟨fun k hn => ⟨fun hk => hat (.inl (atI_of hn hk)), fun hk => hat (.inr (atI_of hn hk))⟩, rfl, rfl⟩, rfl⟩
    clear h hat hB r1
    generalize atI is n = an at HIS h1 h2
    go_enter Try.func102, Try.ntmps102
    go_wp2_with (fail)
    refine HIS.out.mono ?_
    rintro e w' ⟨rfl, rfl⟩
    go_wp2_with (fail)
    refine HIS.out.mono ?_
    rintro e w' ⟨rfl, rfl⟩
    go_wp2_with (fail)
    go_ret2
    exact HF.out

def RFreesTo (R : RC) (is : List Int) (B : List Bytes) (n : Int) (w0 : World) (l : List Thing) (w : World) (e : Ending) (w' : World) : Prop := ∃ is' en, RTo R is' B (.int .i64 en) w0 l w e w' ∧ RFree is is' n en

set_option maxRecDepth 100000 in
set_option maxHeartbeats 1000000 in
theorem own_rfree (h : Owns w0 (rth R is B l) w) (n : Int) : Calls Try.prog 103 #[.pointer (some ⟨R.r, 0, none⟩), .int .i64 n] w (RFreesTo R is B n w0 l w) := by
  obtain ⟨r0, -, -, rz, rlt⟩ := own_rp h
  have his := own_ratis h n
  have HIS := Lib.hid his
  clear his
  by_cases h2 : atI is n = 2
  · obtain ⟨k, rfl, hk⟩ := atI_nat h2 (by omega)
    have hkl := (List.getElem?_eq_some_iff.1 hk).1
    have hc := own_ris h hk
    have hz := rz k
    obtain ⟨q1, q2⟩ := own_ris_set h k 0
    have HF : Hid (RFreesTo R is B (k : Int) w0 l w (.returned (.int .i64 0)) (w.setCell ⟨R.ib, k, none⟩ (.int .i64 0))) := Lib.hid ⟨_, 0, ⟨rfl, q1, q2⟩, .inr ⟨k, rfl, rfl, .inl ⟨hk, rfl⟩⟩⟩
    rw [h2] at HIS
    clear h q1 q2 hk h2 rz
    go_enter Try.func103, Try.ntmps103
    go_wp2_with (fail)
    refine HIS.out.mono ?_
    rintro e w' ⟨rfl, rfl⟩
    go_wp2_with (fail)
    go_ret
    exact HF.out
  · by_cases h1 : atI is n = 1
    · obtain ⟨k, rfl, hk⟩ := atI_nat h1 (by omega)
      have hkl := (List.getElem?_eq_some_iff.1 hk).1
      have hc := own_ris h hk
      have hz := rz k
      obtain ⟨q1, q2⟩ := own_ris_set h k 3
      have HF : Hid (RFreesTo R is B (k : Int) w0 l w (.returned (.int .i64 0)) (w.setCell ⟨R.ib, k, none⟩ (.int .i64 3))) := Lib.hid ⟨_, 0, ⟨rfl, q1, q2⟩, .inr ⟨k, rfl, rfl, .inr ⟨hk, rfl⟩⟩⟩
      rw [h1] at HIS
      clear h q1 q2 hk h1 h2 rz
      go_enter Try.func103, Try.ntmps103
      go_wp2_with (fail)
      refine HIS.out.mono ?_
      rintro e w' ⟨rfl, rfl⟩
      go_wp2_with (fail)
      go_ret
      exact HF.out
    · have k1 : (atI is n == 1) = false := by rw [beq_eq_false_iff_ne]; exact h1
      have k2 : (atI is n == 2) = false := by rw [beq_eq_false_iff_ne]; exact h2
      have HF : Hid (RFreesTo R is B n w0 l w (.returned (.int .i64 1)) w) := Lib.hid ⟨is, 1, ⟨rfl, h, Keeps.refl w⟩, .inl ⟨fun k hn => ⟨fun hk => h1 (atI_of hn hk), fun hk => h2 (atI_of hn hk)⟩, rfl, rfl⟩⟩
      clear h h1 h2 rz rlt r0
      generalize atI is n = an at HIS k1 k2
      go_enter Try.func103, Try.ntmps103
      go_wp2_with (fail)
      refine HIS.out.mono ?_
      rintro e w' ⟨rfl, rfl⟩
      go_wp2_with (fail)
      go_ret
      exact HF.out

theorem app_nil (w : World) {x : Value} {m : Bytes} (hx : BytesV w x m) (ty : TypeId) {n : Nat} (hn : m.length = n) (hb : n ≤ 100000000) :
    ∃ a' c' w', (Builtin.append_ #[33, 33] ty #[.slice none 0 0, x]).run Try.prog w = .ok (.slice a' n c') w' ∧ BytesO w' (.slice a' n c') m ∧ Upd [] w w' := by
  obtain ⟨v', w', hr, hbo, hg, hm⟩ := run_append_any w (.nil w) hx ty (by simp; omega)
  rw [List.nil_append] at hbo
  obtain ⟨a', c', hv', _, _⟩ := hbo.view.shape
  rw [hn] at hv'
  subst hv'
  exact ⟨a', c', w', hr, hbo, (Upd.refl [] w).grown hg (fun k hk => by cases hk) (fun k hk => by cases hk)⟩

def RPutsTo (R : RC) (is : List Int) (B : List Bytes) (n : Int) (b : Bytes) (w0 : World) (l : List Thing) (w : World) (e : Ending) (w' : World) : Prop := ∃ B' en, RTo R is B' (.int .i64 en) w0 l w e w' ∧ RPut is B B' n b en

set_option maxRecDepth 100000 in
set_option maxHeartbeats 1000000 in
theorem own_rput (h : Owns w0 (rth R is B l) w) (hB : B.length = is.length) (n : Int) {v : Value} {b : Bytes} (hv : BytesV w v b) (hb : b.length = 1024) :
    Calls Try.prog 101 #[.pointer (some ⟨R.r, 0, none⟩), .int .i64 n, v] w (RPutsTo R is B n b w0 l w) := by
  obtain ⟨va, vc, rfl, _, _⟩ := hv.shape
  rw [hb] at hv ⊢
  have his := own_ratis h n
  have HIS := Lib.hid his
  clear his
  by_cases h2 : atI is n = 2
  · obtain ⟨k, rfl, hk⟩ := atI_nat h2 (by omega)
    have hkl := (List.getElem?_eq_some_iff.1 hk).1
    obtain ⟨a', c', w2, hr, hbo, hu⟩ := app_nil w hv 33 hb (by omega)
    have hO2 := h.upd hu
    obtain ⟨-, r1, rlt, -, -⟩ := own_rp hO2
    obtain ⟨bz, blt, hcell⟩ := own_brow hO2
    obtain ⟨y, hy⟩ : ∃ y, B[k]? = some y := ⟨_, List.getElem?_eq_getElem (by omega)⟩
    obtain ⟨ya, yc, hc, -, -⟩ := hcell k y hy
    have hz := bz k
    obtain ⟨q1, q2⟩ := own_brow_set hO2 k hbo.view hbo.inp
    have HF : Hid (RPutsTo R is B (k : Int) b w0 l w (.returned (.int .i64 0)) (w2.setCell ⟨R.bb, k, none⟩ (.slice a' 1024 c'))) := Lib.hid ⟨_, 0, ⟨rfl, q1, hu.keeps.trans q2⟩, .inr ⟨k, rfl, hk, rfl, rfl⟩⟩
    rw [h2] at HIS
    have HR := Lib.hid hr
    clear h q1 q2 hk h2 bz hcell hbo hu hO2 hr hv hb hy hB
    go_enter Try.func101, Try.ntmps101
    go_wp2_with (fail)
    refine HIS.out.mono ?_
    rintro e w' ⟨rfl, rfl⟩
    go_wp2_with (at_builtin; refine wpList_append_ran _ rfl _ _ 33 33 rfl rfl rfl HR.out ?_)
    go_ret
    exact HF.out
  · have k2 : (atI is n != 2) = true := by rw [bne_iff_ne]; exact h2
    have HF : Hid (RPutsTo R is B n b w0 l w (.returned (.int .i64 1)) w) := Lib.hid ⟨B, 1, ⟨rfl, h, Keeps.refl w⟩, .inl ⟨fun k hn hk => h2 (atI_of hn hk), rfl, rfl⟩⟩
    clear h h2 hv hb
    generalize atI is n = an at HIS k2
    go_enter Try.func101, Try.ntmps101
    go_wp2_with (fail)
    refine HIS.out.mono ?_
    rintro e w' ⟨rfl, rfl⟩
    go_wp2_with (fail)
    go_ret
    exact HF.out

set_option maxRecDepth 100000 in
set_option maxHeartbeats 2000000 in
theorem own_rsettle (h : Owns w0 (rth R is B l) w) (hl : is.length ≤ 100000) : Calls Try.prog 104 #[.pointer (some ⟨R.r, 0, none⟩)] w (RTo R (settle is) B (.tuple #[]) w0 l w) := by
  have H := Lib.hid h
  clear h
  go_enter Try.func104, Try.ntmps104
  go_wp2_with (fail)
  go_loopw [2] (fun x wr => ∃ k : Nat, k ≤ is.length ∧ x = .int .i64 (k : Int) ∧ Owns w0 (rth R (settleTo is k) B l) wr ∧ Keeps w wr) (fun x _ => is.length - (intOf x).toNat)
  case atStart => exact ⟨0, Nat.zero_le _, rfl, by rw [settleTo_zero]; exact H.out, Keeps.refl w⟩
  case round =>
    obtain ⟨k, hk, rfl, hO, hkp⟩ := hrel
    obtain ⟨r0, -, rlt, rz, rilt⟩ := own_rp hO
    rw [settleTo_len] at r0
    have hz := rz k
    by_cases hlt : k < is.length
    · obtain ⟨x, hx⟩ : ∃ x, is[k]? = some x := ⟨_, List.getElem?_eq_getElem hlt⟩
      have hc := own_ris hO (settleTo_at hx)
      have hsu := settleTo_succ hx
      have HX := Lib.hid hx
      clear hx rz
      by_cases h2 : x = 2
      · subst h2
        obtain ⟨q1, q2⟩ := own_ris_set hO k 1
        have HQ : Hid (Owns w0 (rth R (settleTo is (k + 1)) B l) (wr.setCell ⟨R.ib, k, none⟩ (.int .i64 1))) := Lib.hid (by rw [hsu]; exact q1)
        have HK := Lib.hid (hkp.trans q2)
        clear q1 q2 hO hkp hsu
        go_wp2_with (fail)
        go_roundw
        case rel => exact ⟨k + 1, by omega, by go_num, HQ.out, HK.out⟩
        case measure => simp only [intOf]; omega
      · have k2 : (x == 2) = false := by rw [beq_eq_false_iff_ne]; exact h2
        by_cases h3 : x = 3
        · subst h3
          obtain ⟨q1, q2⟩ := own_ris_set hO k 0
          have HQ : Hid (Owns w0 (rth R (settleTo is (k + 1)) B l) (wr.setCell ⟨R.ib, k, none⟩ (.int .i64 0))) := Lib.hid (by rw [hsu]; exact q1)
          have HK := Lib.hid (hkp.trans q2)
          clear q1 q2 hO hkp hsu k2 h2
          go_wp2_with (fail)
          go_roundw
          case rel => exact ⟨k + 1, by omega, by go_num, HQ.out, HK.out⟩
          case measure => simp only [intOf]; omega
        · have k3 : (x == 3) = false := by rw [beq_eq_false_iff_ne]; exact h3
          have e : settleTo is (k + 1) = settleTo is k := by
            rw [hsu]
            have e1 : settle1 x = x := by unfold settle1; rw [if_neg h2, if_neg h3]
            rw [e1]
            apply List.ext_getElem?
            intro j
            rw [List.getElem?_set]
            split
            · rename_i hj
              subst hj
              rw [settleTo_at HX.out, if_pos (by rw [settleTo_len]; exact hlt)]
            · rfl
          have HQ : Hid (Owns w0 (rth R (settleTo is (k + 1)) B l) wr) := Lib.hid (by rw [e]; exact hO)
          have HK := Lib.hid hkp
          clear hO hkp hsu h2 h3 e
          go_wp2_with (fail)
          go_roundw
          case rel => exact ⟨k + 1, by omega, by go_num, HQ.out, HK.out⟩
          case measure => simp only [intOf]; omega
    · obtain rfl : k = is.length := by omega
      have HF : Hid (RTo R (settle is) B (.tuple #[]) w0 l w (.returned (.tuple #[])) wr) := Lib.hid ⟨rfl, by rw [← settleTo_all]; exact hO, hkp⟩
      clear hO hkp rz
      go_wp2_with (fail)
      (try simp only [Exit.inBlock, Exit.then])
      refine bodyPost_ret (results_none rfl _ _ _) rfl ?_
      exact HF.out

theorem count_succ {is : List Int} {k : Nat} {x : Int} (h : is[k]? = some x) (m : Int) : (is.take (k + 1)).count m = (is.take k).count m + if x = m then 1 else 0 := by
  rw [List.take_add_one, h, List.count_append]
  congr 1
  simp [List.count_cons]

set_option maxRecDepth 100000 in
set_option maxHeartbeats 1000000 in
theorem own_rcount (h : Owns w0 (rth R is B l) w) (hl : is.length ≤ 100000) (m : Int) : Calls Try.prog 72 #[.pointer (some ⟨R.r, 0, none⟩), .int .i64 m] w fun e w' => e = .returned (.int .i64 (is.count m : Int)) ∧ w = w' := by
  obtain ⟨r0, -, -, -, -⟩ := own_rp h
  have hle : ∀ k, (is.take k).count m ≤ k := fun k => Nat.le_trans List.count_le_length (by rw [List.length_take]; omega)
  have HLE := Lib.hid hle
  have H := Lib.hid h
  clear h hle
  go_enter Try.func72, Try.ntmps72
  go_wp2_with (fail)
  go_loopw [5, 6] (fun n i wr => ∃ k : Nat, k ≤ is.length ∧ i = .int .i64 (k : Int) ∧ (∃ c : Nat, c = (is.take k).count m ∧ c ≤ k ∧ n = .int .i64 (c : Int)) ∧ wr = w) (fun _ i _ => is.length - (intOf i).toNat)
  case atStart => exact ⟨0, Nat.zero_le _, rfl, ⟨0, by simp, Nat.zero_le _, rfl⟩, rfl⟩
  case round =>
    obtain ⟨k, hk, rfl, ⟨c, hc, hck, rfl⟩, rfl⟩ := hrel
    by_cases hlt : k < is.length
    · obtain ⟨x, hx⟩ : ∃ x, is[k]? = some x := ⟨_, List.getElem?_eq_getElem hlt⟩
      have hcx := own_ris H.out hx
      have hcs := count_succ hx m
      rw [← hc] at hcs
      have HCS := Lib.hid hcs
      clear hx hc hcs
      by_cases hxm : x = m
      · subst hxm
        go_wp2_with (fail)
        go_roundw
        case rel => exact ⟨k + 1, by omega, by go_num, ⟨c + 1, by rw [HCS.out, if_pos rfl], by omega, by go_num⟩, trivial⟩
        case measure => simp only [intOf]; omega
      · have hxm' : (x == m) = false := by rw [beq_eq_false_iff_ne]; exact hxm
        have HX := Lib.hid hxm
        clear hxm
        go_wp2_with (fail)
        go_roundw
        case rel => exact ⟨k + 1, by omega, by go_num, ⟨c, by rw [HCS.out, if_neg HX.out]; rfl, by omega, rfl⟩, trivial⟩
        case measure => simp only [intOf]; omega
    · obtain rfl : k = is.length := by omega
      rw [List.take_length] at hc
      have HC := Lib.hid hc
      clear hc
      go_wp2_with (fail)
      go_ret
      exact ⟨by rw [HC.out]; rfl, rfl⟩
end

end Go.Proofs.Ytkpoladbabhdmaa
