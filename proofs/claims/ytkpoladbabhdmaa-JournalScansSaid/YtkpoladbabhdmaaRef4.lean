/- The contract of the reference's Read. Conditions: as each says. -/
import Derived.Test.YtkpoladbabhdmaaRef3
import Derived.Test.YtkpoladbabhdmaaLaw6a
namespace Go.Proofs.Ytkpoladbabhdmaa
open Go.RowKit

theorem Upd.of_below {w w' : World} (h : Below w.heap.size w w') : Upd [] w w' :=
  ⟨h.os, h.tape, h.output, h.size, fun k hk _ => h.block k hk, fun k _ _ hk => h.block k (lt_of_heap hk)⟩

theorem splice_all (l m : List Value) (h : l.length = m.length) : splice l 0 m = m := by simp [splice, ← h]

theorem last_step (l : List (Int × Bytes)) (n : Int) (k : Nat) (p : Int × Bytes) (hp : l[k]? = some p) (hs : last l n = last (l.take (k + 1)) n) :
    (p.1 = n → last l n = some p.2) ∧ (p.1 ≠ n → last l n = last (l.take k) n) := by
  have e : l.take (k + 1) = l.take k ++ [p] := by rw [List.take_add_one, hp]; rfl
  rw [e, last_snoc] at hs
  constructor
  · intro h; rw [hs]; simp [put, h]
  · intro h; rw [hs]; unfold put; rw [if_neg (fun e => h e.symm)]

def RReadAs (w : World) (b : Nat) (D' : Dk) (F : List Nat) (l : Bytes) (en : Int) (e : Ending) (w' : World) : Prop :=
  ∃ v, e = .returned (.tuple #[v, .int .i64 en]) ∧ BytesO w' v l ∧ RefAt w' b D' F ∧ Upd F w w' ∧ ∀ g, v.ownBlock = some g → w.heap.size ≤ g

set_option maxHeartbeats 400000 in
theorem rread_down {b : Nat} {w : World} {D : Dk} {F : List Nat} (h : RefAt w b D F) (hd : D.down = true) (n : Int) :
    Calls Try.prog 78 #[.pointer (some ⟨b, 0, none⟩), .int .i64 n] w fun e w' => e = .returned (.tuple #[.slice none 0 0, .int .i64 7]) ∧ w = w' := by
  obtain ⟨pa, pc, -, -, -, -, hc, -⟩ := h.fields
  go_enter Try.func78, Try.ntmps78
  go_wp2_with (fail)
  go_ret2
  exact ⟨rfl, rfl⟩

set_option maxHeartbeats 400000 in
theorem rread_bad {b : Nat} {w : World} {D : Dk} {F : List Nat} (h : RefAt w b D F) (hd : D.down = false) {n : Int} (hb : ¬ (0 ≤ n ∧ n < D.size)) :
    Calls Try.prog 78 #[.pointer (some ⟨b, 0, none⟩), .int .i64 n] w fun e w' => e = .returned (.tuple #[.slice none 0 0, .int .i64 1]) ∧ w = w' := by
  obtain ⟨pa, pc, hc0, -, -, -, hc, -⟩ := h.fields
  by_cases h0 : n < 0
  · clear hb
    go_enter Try.func78, Try.ntmps78
    go_wp2_with (fail)
    go_ret2
    exact ⟨rfl, rfl⟩
  · have h1 : D.size ≤ n := by omega
    clear hb
    go_enter Try.func78, Try.ntmps78
    go_wp2_with (fail)
    go_ret2
    exact ⟨rfl, rfl⟩

set_option maxRecDepth 100000 in
set_option maxHeartbeats 1000000 in
theorem rread_ok {b : Nat} {w : World} {D : Dk} {F : List Nat} (h : RefAt w b D F) (hd : D.down = false) {n : Int} (h0 : 0 ≤ n) (h1 : n < D.size) :
    Calls Try.prog 78 #[.pointer (some ⟨b, 0, none⟩), .int .i64 n] w (RReadAs w b D.read0 F (D.sec n) 0) := by
  have hwf := h.1
  obtain ⟨pa, pc, hc0, -, -, -, hc, hc5, -, -, hm⟩ := h.fields
  have hz5 := h.free 5
  have hmk := make256
  have hu2 : RefAt ((w.setCell ⟨b, 5, none⟩ (.int .i64 (wrap64 (D.a0 + 1)))).drew) b D.read0 F ∧ Upd F w ((w.setCell ⟨b, 5, none⟩ (.int .i64 (wrap64 (D.a0 + 1)))).drew) := by
    obtain ⟨_, pv, ps, g1, g6, g7, g8, rfl⟩ := h
    have hu : Upd (b :: pv.ownBlock.toList) w (w.setCell ⟨b, 5, none⟩ (.int .i64 (wrap64 (D.a0 + 1)))) := (Upd.refl _ w).setCell _ (.inl (by simp)) (.inr (by intro c fz; rw [g1]; simp))
    refine ⟨⟨⟨hwf.s0, hwf.s1, hwf.f0, hwf.f1, hwf.la, hwf.wr⟩, pv, ps, ?_, ?_, fun p hp => (g7 p hp).upd hu.drew, g8, rfl⟩, hu.drew⟩
    · exact heap_setCell_eq w b 5 _ g1
    · refine ownsRow_same (w' := (w.setCell ⟨b, 5, none⟩ (.int .i64 (wrap64 (D.a0 + 1))))) g6 fun k hk => heap_setCell_ne _ _ _ ?_
      rintro rfl
      rcases g6.2 with ⟨rfl, _⟩ | ⟨g, cap, cur, rfl, _, hg, _⟩
      · cases hk
      · cases hk; rw [g1] at hg; simp at hg
  generalize hw2 : (w.setCell ⟨b, 5, none⟩ (.int .i64 (wrap64 (D.a0 + 1)))).drew = w2 at hu2
  obtain ⟨hD2, hU2⟩ := hu2
  have hU3 : Upd [] w2 (w2.alloc (.cells (bcells zeros) 5)) := (Upd.refl [] w2).alloc _
  have hg3 : (w2.alloc (.cells (bcells zeros) 5)).heap[w2.heap.size]? = some (.cells (zeros.map byte).toArray 5 (0, 0)) := heap_alloc_new' w2 (.cells (bcells zeros) 5)
  have hD3 : RefAt (w2.alloc (.cells (bcells zeros) 5)) b D.read0 F := hD2.upd hU3 (by simp)
  generalize hw3 : w2.alloc (.cells (bcells zeros) 5) = w3 at hU3 hg3 hD3
  have hD3' := hD3
  obtain ⟨_, pv, ps, g1, g6, g7, g8, hF⟩ := hD3'
  have hl : ps.length = D.all.length := by have := congrArg List.length g8; simpa [Dk.read0] using this
  obtain ⟨pa3, pc3, hpv, _, _⟩ := ownsRow_shape g6
  have hc1 : w3.cell? ⟨b, 1, none⟩ = some (.slice pa3 ps.length pc3) := by rw [← hpv]; exact cell_of_heap g1 rfl
  have hbig : ps.length ≤ 9223372036854775807 := by unfold maxLen at hm; omega
  have hc12 : w2.cell? ⟨b, 1, none⟩ = some (.slice pa3 ps.length pc3) := by
    have hb2 : b < w2.heap.size := hD2.lt b hD2.self
    rw [← World.cell?_of_block (w := w2) (a := ⟨b, 1, none⟩) (w' := w3)]
    · exact hc1
    · exact hU3.block b hb2 (by simp)
  have hlt2 : b < w2.heap.size := hD2.lt b hD2.self
  have HW2 := Lib.hid hw2
  have HW3 := Lib.hid hw3
  have HG3 := Lib.hid hg3
  have H6 := Lib.hid g6
  have H7 := Lib.hid g7
  have H8 := Lib.hid g8
  have HD3 := Lib.hid hD3
  have HD2 := Lib.hid hD2
  have HPV := Lib.hid hpv
  have HPL := Lib.hid hl
  have HU2 := Lib.hid hU2
  have HU3 := Lib.hid hU3
  have HWF := Lib.hid hwf
  clear hw2 hw3 hg3 g1 g6 g7 g8 hD3 hpv hl hU2 hU3 hD2 hF h hm hwf
  go_enter Try.func78, Try.ntmps78
  go_wp2_with (fail)
  go_region
  rw [HW2.out]
  clear hc0 hc hc5 hz5
  go_wp2_with (fail)
  go_loopw [7] (fun i wr => ∃ (k : Nat) (j : Int), k ≤ ps.length ∧ i = .int .i64 j ∧ j = (k : Int) - 1 ∧ wr = w3 ∧ last D.all n = last (D.all.take k) n) (fun i _ => (intOf i + 1).toNat)
  case atStart =>
    exact ⟨ps.length, _, Nat.le_refl _, rfl, by go_num, HW3.out, by rw [HPL.out, List.take_length]⟩
  case round =>
    clear hc12
    obtain ⟨k, j, hk, rfl, hi, rfl, hs⟩ := hrel
    have HS := Lib.hid hs
    clear hs
    cases k with
    | zero =>
      have hj : j < 0 := by omega
      clear hi
      have hfin : RReadAs w b D.read0 F (D.sec n) 0 (.returned (.tuple #[.slice (some ⟨w2.heap.size, 0, none⟩) 256 256, .int .i64 0])) wr := by
        have hz : D.sec n = zeros := by
          have := HS.out
          simp [last] at this
          simp [Dk.sec, last, this]
        rw [hz]
        refine ⟨_, rfl, ?_, HD3.out, HU2.out.trans HU3.out (by simp), fun g hg => by cases hg; exact HU2.out.size⟩
        rw [← HW3.out]
        exact bytesO_new w2 zeros zeros_le
      have HF := Lib.hid hfin
      clear hfin
      go_wp2_with (fail)
      go_ret2
      exact HF.out
    | succ m =>
      obtain rfl : j = (m : Int) := by omega
      clear hi
      have hlt : m < ps.length := hk
      obtain ⟨p, hp⟩ : ∃ p, ps[m]? = some p := ⟨ps[m], List.getElem?_eq_getElem hlt⟩
      have hpD : D.all[m]? = some (p.1, p.2.2) := by
        have e := H8.out
        have e : ps.map (fun p => (p.1, p.2.2)) = D.all := e
        rw [← e]; simp [hp]
      obtain ⟨hst1, hst2⟩ := last_step D.all n m _ hpD HS.out
      have hlen : p.2.2.length = 256 := (HWF.out.wr _ (List.mem_of_getElem? hpD)).1
      obtain ⟨hp1, hp2⟩ := pcells_at ps m p hp
      have hpB := H7.out p (List.mem_of_getElem? hp)
      obtain ⟨g, hg⟩ : ∃ g, pv = .slice (some ⟨g, 0, none⟩) ps.length pc3 := by
        rcases H6.out.2 with ⟨rfl, h0⟩ | ⟨g, cap, cur, he, _⟩
        · omega
        · rw [HPV.out] at he; cases he; exact ⟨g, HPV.out⟩
      have hpa : pa3 = some ⟨g, 0, none⟩ := by have := HPV.out; rw [hg] at this; cases this; rfl
      subst hpa
      have hcell1 : wr.cell? ⟨g, m * 2, none⟩ = some (.int .i64 p.1) := by
        have := H6.out.cells (g := g) (by rw [hg]; rfl) _ _ hp1; rwa [Addr.add_lit, Nat.zero_add] at this
      by_cases hn : p.1 = n
      · obtain ⟨g3, cap3, hv3⟩ := hpB.head (by omega)
        have hcell2 : wr.cell? ⟨g, m * 2 + 1, none⟩ = some (.slice (some ⟨g3, 0, none⟩) p.2.2.length cap3) := by
          have := H6.out.cells (g := g) (by rw [hg]; rfl) _ _ hp2; rw [hv3] at this; rwa [Addr.add_lit, Nat.zero_add] at this
        have hnews : ∀ (j : Nat) (u : Value), (p.2.2.map byte)[j]? = some u → wr.cell? ((⟨g3, 0, none⟩ : Addr).add j) = some u := by
          intro j u hu
          exact hpB.cells (g := g3) (by rw [hv3]; rfl) j u hu
        have hcp : (p.2.2.map byte).length = Nat.min p.2.2.length 256 := by rw [hlen]; simp [hlen]
        have hfit : 0 + (p.2.2.map byte).length ≤ (zeros.map byte).length := by simp [hlen, zeros]
        have hfin : ∀ w', w'.heap[w2.heap.size]? = some (.cells (splice (zeros.map byte) 0 (p.2.2.map byte)).toArray 5 (0, 0)) → Below w2.heap.size w2 w' →
            RReadAs w b D.read0 F (D.sec n) 0 (.returned (.tuple #[.slice (some ⟨w2.heap.size, 0, none⟩) 256 256, .int .i64 0])) w' := by
          intro w' hg' hb'
          have hsec : D.sec n = p.2.2 := by simp [Dk.sec, hst1 hn]
          rw [splice_all _ _ (by simp [hlen, zeros])] at hg'
          rw [hsec]
          have hu' := Upd.of_below hb'
          refine ⟨_, rfl, ?_, HD2.out.upd hu' (by simp), HU2.out.trans hu' (by simp), fun g hg => by cases hg; exact HU2.out.size⟩
          exact ⟨by simp, .inr ⟨_, 256, _, by rw [hlen], Nat.zero_le _, hg', by simp [hlen], by unfold maxLen; omega, by simp [hlen], List.take_of_length_le (by simp)⟩⟩
        have hone := oneCell_byte p.2.2
        have hB : Below w2.heap.size w2 wr := HU3.out.below (Nat.le_refl _) (by simp)
        have hle := HU2.out.size
        have HN := Lib.hid hnews
        have HC := Lib.hid hcp
        have HFI := Lib.hid hfit
        have HO := Lib.hid hone
        have HFN := Lib.hid hfin
        have HB := Lib.hid hB
        have HLE := Lib.hid hle
        have HLN := Lib.hid hlen
        clear hnews hcp hfit hone hfin hB hle hst1 hst2 hp hpD hlen hp1 hp2 hpB hv3 hg
        go_wp2_with (with_reducible refine wpList_copy_splice rfl (.tmp 52) (.tmp 60) 33 33 rfl 5 Try.underlying33 (by decide) (some ⟨w2.heap.size, 0, none⟩) (some ⟨g3, 0, none⟩) 256 256 p.2.2.length cap3 rfl rfl w2.heap.size 0 (zeros.map byte) 5 HG3.out (p.2.2.map byte) HC.out (fun _ => ⟨rfl, _, rfl, HN.out⟩) HFI.out HO.out w2.heap.size w2 HB.out (Nat.le_refl _) ?_)
        intro w' hg' hb'
        have HF := Lib.hid (HFN.out w' hg' hb')
        clear hg' hb'
        go_wp2_with (fail)
        go_ret2
        exact HF.out
      · have HS2 := Lib.hid (hst2 hn)
        have hne : (p.1 == n) = false := by simp [hn]
        clear hst1 hst2 hp hpD hlen hp1 hp2 hpB hg
        go_wp2_with (fail)
        go_roundw
        case rel => exact ⟨m, _, by omega, rfl, by go_num, trivial, HS2.out⟩
        case measure => simp only [intOf]; omega

theorem rread_any {b : Nat} {w : World} {D : Dk} {F : List Nat} (h : RefAt w b D F) (n : Int) :
    Calls Try.prog 78 #[.pointer (some ⟨b, 0, none⟩), .int .i64 n] w (RReadAs w b (D.read n) F (D.readB n) (D.readE n)) := by
  cases hd : D.down with
  | true =>
    refine (rread_down h hd n).mono fun e w' ⟨he, hw⟩ => ?_
    subst hw
    exact ⟨.slice none 0 0, by rw [he]; simp [Dk.readE, hd], by simp [Dk.readB, hd]; exact .nil _, by simp [Dk.read, hd]; exact h, Upd.refl F _, by intro g hg; cases hg⟩
  | false =>
    by_cases hb : 0 ≤ n ∧ n < D.size
    · refine (rread_ok h hd hb.1 hb.2).mono fun e w' ⟨v, he, h1, h2, h3, h4⟩ => ?_
      exact ⟨v, by rw [he]; simp [Dk.readE, hd, hb], by simp [Dk.readB, hd, hb]; exact h1, by simp [Dk.read, hd, hb]; exact h2, h3, h4⟩
    · refine (rread_bad h hd hb).mono fun e w' ⟨he, hw⟩ => ?_
      subst hw
      exact ⟨.slice none 0 0, by rw [he]; simp [Dk.readE, hd, hb], by simp [Dk.readB, hd, hb]; exact .nil _, by simp [Dk.read, hd, hb]; exact h, Upd.refl F _, by intro g hg; cases hg⟩

end Go.Proofs.Ytkpoladbabhdmaa
