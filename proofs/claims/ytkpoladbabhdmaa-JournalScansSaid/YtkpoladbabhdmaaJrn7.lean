/- The program's record: what lies at a place of an area. Conditions: as each says. -/
import Derived.Test.YtkpoladbabhdmaaJrn6
import Derived.Test.YtkpoladbabhdmaaMeta2
namespace Go.Proofs.Ytkpoladbabhdmaa
open Go.RowKit

/-- what is found, if anything -/
def RecGives (o : Option Bytes) (d : Nat) (D : Dk) (i : Nat) (w0 : World) (l : List Thing) (w : World) (e : Ending) (w' : World) : Prop :=
  (∃ x, Owns w0 (l.set i (disk d { D with a0 := x })) w') ∧ Keeps w w' ∧
    ((o = none ∧ e = .returned (.tuple #[.slice none 0 0, .int .i64 0, .int .i64 0])) ∨
     (∃ b v, o = some b ∧ e = .returned (.tuple #[v, .int .i64 (jparts b.length : Int), .int .i64 0]) ∧ BytesO w' v b ∧ 0 < b.length ∧ b.length ≤ 8000 ∧ ∀ g, v.ownBlock = some g → w.heap.size ≤ g))

theorem jcol_len (rd : Nat → Bytes) : ∀ k, (jcol rd k).length ≤ k * 65535
  | 0 => by simp [jcol]
  | k + 1 => by
    have h := jcol_len rd k
    have h2 := num16_lt (rd k) 20
    rw [jcol_succ, List.length_append]
    have : (secPiece (rd k)).length ≤ 65535 := by unfold secPiece; rw [List.length_take]; omega
    omega

theorem num16_two {l : Bytes} {i : Nat} {x y : UInt8} (hx : l[i]? = some x) (hy : l[i + 1]? = some y) : beNum [x, y] = num16 l i := by
  unfold num16
  have hi : i < l.length := (List.getElem?_eq_some_iff.1 hx).1
  have hi1 : i + 1 < l.length := (List.getElem?_eq_some_iff.1 hy).1
  have e : (l.drop i).take 2 = [x, y] := by
    rw [List.drop_eq_getElem_cons hi, List.drop_eq_getElem_cons hi1]
    rw [List.getElem?_eq_getElem hi] at hx
    rw [List.getElem?_eq_getElem hi1] at hy
    cases hx; cases hy
    rfl
  rw [e]

theorem parts8000 : jparts 8000 = 35 := by decide

set_option maxRecDepth 100000 in
set_option maxHeartbeats 8000000 in
theorem own_record {w0 w : World} {l : List Thing} {d : Nat} {D : Dk} (h : Owns w0 l w) (i : Nat) (hi : l[i]? = some (disk d D)) (hd : D.down = false) {f E : Int} {c at_ num : Nat} (hf0 : 0 ≤ f) (hfc : f + (c : Int) ≤ D.size) (ha : at_ ≤ c) (hnum : num ≤ 65536) :
    Calls Try.prog 88 #[.pointer (some ⟨d, 0, none⟩), .int .i64 f, .int .i64 (c : Int), .int .i64 (at_ : Int), .int .u64 E, .int .i64 (num : Int)] w
      (RecGives (recAt (fun p : Nat => D.sec (f + (at_ : Int) + (p : Int))) (c - at_) E at_ num) d D i w0 l w) := by
  obtain ⟨F, hDk, hF0, ht⟩ := h.at_ i hi
  have hDk : DiskAt w d D F := hDk
  have hwf := hDk.1
  have hs1 := hwf.s1
  obtain ⟨rd, hrd⟩ : ∃ rd : Nat → Bytes, rd = fun p : Nat => D.sec (f + (at_ : Int) + (p : Int)) := ⟨_, rfl⟩
  rw [← hrd]
  have hrl : ∀ p, (rd p).length = 256 := fun p => by rw [hrd]; exact Dk.sec_len hwf _
  obtain ⟨P, hP⟩ : ∃ P, P = num16 (rd 0) 18 := ⟨_, rfl⟩
  have hown : ∀ wk, Looked w d wk → (∃ x, Owns w0 (l.set i (disk d { D with a0 := x })) wk) ∧ Keeps w wk := by
    intro wk hk
    obtain ⟨x, h1, h2⟩ := hDk.looked hk
    exact ⟨⟨x, ht wk (disk d { D with a0 := x }) ⟨F, h1, h2, fun k hk => .inl hk⟩⟩, h2.keeps⟩
  have hnone : ∀ wk, Looked w d wk → (∀ b, ¬ IsRec rd (c - at_) E at_ num b) → RecGives (recAt rd (c - at_) E at_ num) d D i w0 l w (.returned (.tuple #[.slice none 0 0, .int .i64 0, .int .i64 0])) wk := by
    intro wk hk hn
    exact ⟨(hown wk hk).1, (hown wk hk).2, .inl ⟨recAt_none hn, rfl⟩⟩
  have hsome : ∀ wk vb b, Looked w d wk → IsRec rd (c - at_) E at_ num b → BytesO wk vb b → (∀ g, vb.ownBlock = some g → w.heap.size ≤ g) → RecGives (recAt rd (c - at_) E at_ num) d D i w0 l w (.returned (.tuple #[vb, .int .i64 (jparts b.length : Int), .int .i64 0])) wk := by
    intro wk vb b hk hb hv hg
    exact ⟨(hown wk hk).1, (hown wk hk).2, .inr ⟨b, vb, recAt_some hb, rfl, hv, hb.ne, hb.le, hg⟩⟩
  have hread : ∀ wk (k : Nat), Looked w d wk → at_ + k < c → Calls Try.prog 25 #[.pointer (some ⟨d, 0, none⟩), .int .i64 (f + (at_ : Int) + (k : Int))] wk (ReadLook wk d (rd k)) := by
    intro wk k hk hlt
    obtain ⟨x, h1, _⟩ := hDk.looked hk
    have := read_look h1 (n := f + (at_ : Int) + (k : Int)) hd (by omega) (by show _ < D.size; omega)
    have e : rd k = ({ D with a0 := x } : Dk).sec (f + (at_ : Int) + (k : Int)) := by rw [hrd]; rfl
    rw [e]; exact this
  have HNO := Lib.hid hnone
  have HSO := Lib.hid hsome
  have HRD := Lib.hid hread
  have HRL := Lib.hid hrl
  have HP := Lib.hid hP
  have HL0 := Lib.hid (Loc.start hDk)
  clear hown hnone hsome hread hrl hP hrd h hDk ht hF0 hwf
  go_enter Try.func88, Try.ntmps88
  go_wp2_with (fail)
  go_loopw [15, 16, 17, 18] (fun vb va ps p wr => ∃ (k q bl : Nat) (ba aa : Option Addr) (bc ac : Nat), p = .int .i64 (k : Int) ∧ ps = .int .i64 (q : Int) ∧ (k = 0 → q = 1) ∧ (0 < k → q = P ∧ 1 ≤ P ∧ P ≤ 35) ∧ k ≤ q ∧ at_ + k ≤ c ∧ (∀ p, p < k → 1 ≤ num16 (rd p) 20 ∧ num16 (rd p) 20 ≤ 234) ∧ bl = (jcol rd k).length ∧
      vb = .slice ba bl bc ∧ va = .slice aa k ac ∧ Loc w d wr (.slice ba bl bc) (jcol rd k) (.slice aa k ac) ((List.range k).map rd)) (fun _ _ _ p _ => 40 - (intOf p).toNat)
  case atStart => exact ⟨0, 1, 0, none, none, 0, 0, rfl, rfl, fun _ => rfl, by omega, by omega, by omega, fun p hp => by omega, rfl, rfl, rfl, HL0.out⟩
  case round =>
    clear HL0
    obtain ⟨k, q, bl, ba, aa, bc, ac, rfl, rfl, hq0, hq1, hkq, hac, hns, hbl, rfl, rfl, hloc⟩ := hrel
    have hq36 : q ≤ 35 := by
      by_cases h0 : k = 0
      · rw [hq0 h0]; omega
      · obtain ⟨h1, h2, h3⟩ := hq1 (by omega); omega
    have hbl2 : bl ≤ k * 65535 := by rw [hbl]; exact jcol_len rd k
    have HQ0 := Lib.hid hq0
    have HQ1 := Lib.hid hq1
    have HNS := Lib.hid hns
    have HBL := Lib.hid hbl
    have HLC := Lib.hid hloc
    clear hq0 hq1 hns hbl hloc
    by_cases hlt : k < q
    · by_cases hroom : c ≤ at_ + k
      · have HF := Lib.hid (HNO.out wr HLC.out.look (by
          intro b hb
          have h1 := hb.fits
          have h2 := hb.pos
          have h3 := hb.parts
          rw [← HP.out] at h3
          by_cases h0 : k = 0
          · omega
          · have := (HQ1.out (by omega)).1; omega))
        go_wp2_with (fail)
        go_ret3
        exact HF.out
      · go_wp2_with (fail)
        refine (HRD.out wr k HLC.out.look (by omega)).mono ?_
        rintro e w3 ⟨v3, rfl, hb3, hl3, hn3⟩
        obtain ⟨g3, cap3, hv3⟩ := hb3.head (by rw [HRL.out]; omega)
        rw [HRL.out] at hv3
        subst hv3
        have hcap3 : 256 ≤ cap3 ∧ cap3 ≤ maxLen := by
          obtain ⟨_, _, he, h1, h2⟩ := hb3.view.shape
          rw [HRL.out] at he h1
          cases he; exact ⟨h1, h2⟩
        obtain ⟨hcap, hcapm⟩ := hcap3
        have hcapi : (cap3 : Int) ≤ 9223372036854775807 := by unfold maxLen at hcapm; omega
        have hlc3 : Loc w d w3 (.slice ba bl bc) (jcol rd k) (.slice aa k ac) ((List.range k).map rd) := HLC.out.read hl3
        have hsn : (Value.slice (some ⟨g3, 0, none⟩) 256 cap3).ownBlock ≠ none := by simp [Value.ownBlock]
        have hsb : (Value.slice (some ⟨g3, 0, none⟩) 256 cap3).ownBlock ≠ (Value.slice ba bl bc).ownBlock := by
          intro e
          have h1 := hn3 g3 rfl
          have h2 := (World.ownsRow.lt HLC.out.bo g3 e.symm).2
          omega
        have hsub : ∀ i, i + 2 ≤ 256 → BytesV w3 (.slice (some ⟨g3, i, none⟩) (256 - i) (cap3 - i)) (((rd k).drop i).take (256 - i)) := by
          intro i hi
          have h1 : BytesV w3 (.slice (some ⟨g3, 0, none⟩) 256 cap3) (rd k) := hb3.view
          have h2 := h1.sub (i := i) (k := 256 - i) (by rw [HRL.out]; omega)
          rwa [Nat.zero_add] at h2
        have hat : ∀ i j, i + j < 256 → (((rd k).drop i).take (256 - i))[j]? = (rd k)[i + j]? := by
          intro i j hij
          rw [List.getElem?_take, if_pos (by omega), List.getElem?_drop]
        have hget : ∀ (i : Nat) (wz : World), i + 2 ≤ 256 → Upd [] w3 wz → Calls Try.prog 111 #[.slice (some ⟨g3, i, none⟩) (256 - i) (cap3 - i)] wz fun e w' => e = .returned (.int .u16 (num16 (rd k) i)) ∧ ∃ n, w' = wz.drewN n := by
          intro i wz hi hu
          obtain ⟨x, hx⟩ : ∃ x, (rd k)[i]? = some x := ⟨_, List.getElem?_eq_getElem (by rw [HRL.out]; omega)⟩
          obtain ⟨y, hy⟩ : ∃ y, (rd k)[i + 1]? = some y := ⟨_, List.getElem?_eq_getElem (by rw [HRL.out]; omega)⟩
          have := get16_any ((hsub i hi).upd hu (by simp)) (x := x) (y := y) (by rw [hat i 0 (by omega)]; exact hx) (by rw [hat i 1 (by omega)]; exact hy)
          rwa [num16_two hx hy] at this
        obtain ⟨n, hn⟩ : ∃ n, n = num16 (rd k) 20 := ⟨_, rfl⟩
        have hn16 : n ≤ 65535 := by rw [hn]; have := num16_lt (rd k) 20; omega
        have hg20 := hget 20 w3 (by omega) (Upd.refl [] w3)
        rw [← hn] at hg20
        have HB3 := Lib.hid hb3
        have HLC3 := Lib.hid hlc3
        have HSN := Lib.hid hsn
        have HSB := Lib.hid hsb
        have HSUB := Lib.hid hsub
        have HGET := Lib.hid hget
        have HG20 := Lib.hid hg20
        have HNN := Lib.hid hn
        clear hb3 hlc3 hsn hsb hsub hget hg20 hn hat hl3 hn3 hcapm
        go_wp2_with (fail)
        refine HG20.out.mono ?_
        rintro e w4 ⟨rfl, nq, rfl⟩
        have hU4 : Upd [] w3 (w3.drewN nq) := ⟨rfl, rfl, rfl, Nat.le_refl _, fun _ _ _ => rfl, fun _ _ _ _ => rfl⟩
        have HU4 := Lib.hid hU4
        clear hU4
        generalize w3.drewN nq = w4 at HU4 ⊢
        by_cases hk0 : k = 0
        · have hk0' : True := trivial
          have hg18 := HGET.out 18 w4 (by omega) HU4.out
          have hp18 : num16 (rd k) 18 = P := by rw [hk0]; exact HP.out.symm
          rw [hp18] at hg18
          have hP16 : P ≤ 65535 := by rw [HP.out]; have := num16_lt (rd 0) 18; omega
          have HG18 := Lib.hid hg18
          obtain ⟨kk, hkk⟩ : ∃ kk : Int, kk = (k : Int) := ⟨_, rfl⟩
          have hkz : kk = 0 := by omega
          rw [← hkk]
          have HKK := Lib.hid hkk
          clear hg18 hp18 hk0 hk0' hkk
          subst hkz
          go_wp2_with (fail)
          refine HG18.out.mono ?_
          rintro e w5 ⟨rfl, nq, rfl⟩
          have hU5 : Upd [] w4 (w4.drewN nq) := ⟨rfl, rfl, rfl, Nat.le_refl _, fun _ _ _ => rfl, fun _ _ _ _ => rfl⟩
          have HUW := Lib.hid (HU4.out.trans hU5 (by simp))
          clear hU5
          by_cases b1 : n < 1
          · have HF := Lib.hid (HNO.out (w4.drewN nq) (HLC3.out.upd0 HUW.out).look (by
              intro b hb
              have hk0 := HKK.out
              have h3 := hb.parts
              rw [← HP.out] at h3
              have hp1 := hb.pos
              have := (hb.n (p := k) (by omega)).1
              rw [← HNN.out] at this; omega))
            go_wp2_with (fail)
            go_ret3
            exact HF.out
          · by_cases b2 : 234 < n
            · have HF := Lib.hid (HNO.out (w4.drewN nq) (HLC3.out.upd0 HUW.out).look (by
                intro b hb
                have hk0 := HKK.out
                have h3 := hb.parts
                rw [← HP.out] at h3
                have hp1 := hb.pos
                have := (hb.n (p := k) (by omega)).2
                rw [← HNN.out] at this; omega))
              go_wp2_with (fail)
              go_ret3
              exact HF.out
            · by_cases b3 : P < 1
              · have HF := Lib.hid (HNO.out (w4.drewN nq) (HLC3.out.upd0 HUW.out).look (by
                  intro b hb
                  have hk0 := HKK.out
                  have h3 := hb.parts
                  rw [← HP.out] at h3
                  have := hb.pos
                  omega))
                go_wp2_with (fail)
                go_ret3
                exact HF.out
              · by_cases b4 : 35 < P
                · have HF := Lib.hid (HNO.out (w4.drewN nq) (HLC3.out.upd0 HUW.out).look (by
                    intro b hb
                    have hk0 := HKK.out
                    have h3 := hb.parts
                    rw [← HP.out] at h3
                    have := hb.pos
                    omega))
                  go_wp2_with (fail)
                  refine (parts_any 8000 (by omega) _).mono ?_
                  rw [parts8000]
                  rintro e w' ⟨rfl, rfl⟩
                  go_wp2_with (fail)
                  go_ret3
                  exact HF.out
                · go_wp2_with (fail)
                  refine (parts_any 8000 (by omega) _).mono ?_
                  rw [parts8000]
                  rintro e w' ⟨rfl, rfl⟩
                  have hlcw := HLC3.out.upd0 HUW.out
                  have hbw := HB3.out.upd HUW.out
                  have hxv : BytesV (w4.drewN nq) (.slice (some ⟨g3, 22, none⟩) n (cap3 - 22)) (secPiece (rd k)) := by
                    have h1 : BytesV (w4.drewN nq) (.slice (some ⟨g3, 0, none⟩) 256 cap3) (rd k) := hbw.view
                    have h2 := h1.sub (i := 22) (k := n) (by rw [HRL.out]; omega)
                    rw [Nat.zero_add] at h2
                    unfold secPiece
                    rw [← HNN.out]; exact h2
                  have hpl : (secPiece (rd k)).length = n := by
                    obtain ⟨_, _, he, _, _⟩ := hxv.shape
                    cases he; rfl
                  obtain ⟨a6, c6, w6, r6, l6, s6, n6⟩ := hlcw.app hxv 33 (by rw [hpl, ← HBL.out]; omega) hbw HSN.out HSB.out
                  rw [hpl, ← HBL.out] at r6 l6 n6
                  obtain ⟨a7, c7, w7, r7, l7⟩ := l6.push s6 HSN.out n6 (by simp; omega) 66
                  have hln : ((List.range k).map rd).length = k := by simp
                  rw [hln] at r7 l7
                  have e1 : jcol rd k ++ secPiece (rd k) = jcol rd (k + 1) := (jcol_succ rd k).symm
                  have e2 : (List.range k).map rd ++ [rd k] = (List.range (k + 1)).map rd := by rw [List.range_succ, List.map_append]; rfl
                  rw [e1, e2] at l7
                  have hnl : bl + n = (jcol rd (k + 1)).length := by rw [jcol_succ, List.length_append, hpl, ← HBL.out]
                  have hns' : ∀ p, p < k + 1 → 1 ≤ num16 (rd p) 20 ∧ num16 (rd p) 20 ≤ 234 := by
                    intro p hp
                    by_cases hpk : p = k
                    · subst hpk; rw [← HNN.out]; omega
                    · exact HNS.out p (by omega)
                  have hadd : (22 : Int) + (n : Int) ≤ (cap3 : Int) := by omega
                  have hnn : (22 + (n : Int)).toNat - 22 = n := by omega
                  have hnn2 : 22 + n - 22 = n := by omega
                  have R6 := Lib.hid r6
                  unfold Pushes at r7
                  have R7 := Lib.hid r7
                  have L7 := Lib.hid l7
                  have HNL := Lib.hid hnl
                  have HNS' := Lib.hid hns'
                  clear hlcw hbw hxv hpl r6 l6 s6 n6 r7 l7 hln e1 e2 hnl hns'
                  go_wp2_with (at_builtin; first | refine wpList_append_ran _ rfl _ _ 33 33 rfl rfl (by first | rfl | (go_simp; done) | (go_simp; omega)) R6.out ?_ | refine wpList_append_ran _ rfl _ _ 66 66 rfl rfl rfl R7.out ?_)
                  go_roundw
                  case rel =>
                    have hk0 := HKK.out
                    exact ⟨k + 1, P, bl + n, a6, a7, c6, c7, (by have := HKK.out; rw [show ((k + 1 : Nat) : Int) = 0 + 1 by omega]; rfl), rfl, by omega, fun _ => ⟨rfl, by omega, by omega⟩, by omega, by omega, HNS'.out, HNL.out, rfl, rfl, L7.out⟩
                  case measure => have hk0 := HKK.out; simp only [intOf]; omega

        · have hk0' : ((k : Int) == 0) = false := by rw [beq_eq_false_iff_ne]; omega
          obtain ⟨hqP, hP1, hP2⟩ := HQ1.out (by omega)
          subst hqP
          have HUW := Lib.hid HU4.out
          by_cases b1 : n < 1
          · have HF := Lib.hid (HNO.out w4 (HLC3.out.upd0 HUW.out).look (by
              intro b hb
              have h3 := hb.parts
              rw [← HP.out] at h3
              have hp1 := hb.pos
              have := (hb.n (p := k) (by omega)).1
              rw [← HNN.out] at this; omega))
            go_wp2_with (fail)
            go_ret3
            exact HF.out
          · by_cases b2 : 234 < n
            · have HF := Lib.hid (HNO.out w4 (HLC3.out.upd0 HUW.out).look (by
                intro b hb
                have h3 := hb.parts
                rw [← HP.out] at h3
                have hp1 := hb.pos
                have := (hb.n (p := k) (by omega)).2
                rw [← HNN.out] at this; omega))
              go_wp2_with (fail)
              go_ret3
              exact HF.out
            · by_cases b3 : q < 1
              · exfalso; omega
              · by_cases b4 : 35 < q
                · exfalso; omega
                · go_wp2_with (fail)
                  refine (parts_any 8000 (by omega) _).mono ?_
                  rw [parts8000]
                  rintro e w' ⟨rfl, rfl⟩
                  have hlcw := HLC3.out.upd0 HUW.out
                  have hbw := HB3.out.upd HUW.out
                  have hxv : BytesV w4 (.slice (some ⟨g3, 22, none⟩) n (cap3 - 22)) (secPiece (rd k)) := by
                    have h1 : BytesV w4 (.slice (some ⟨g3, 0, none⟩) 256 cap3) (rd k) := hbw.view
                    have h2 := h1.sub (i := 22) (k := n) (by rw [HRL.out]; omega)
                    rw [Nat.zero_add] at h2
                    unfold secPiece
                    rw [← HNN.out]; exact h2
                  have hpl : (secPiece (rd k)).length = n := by
                    obtain ⟨_, _, he, _, _⟩ := hxv.shape
                    cases he; rfl
                  obtain ⟨a6, c6, w6, r6, l6, s6, n6⟩ := hlcw.app hxv 33 (by rw [hpl, ← HBL.out]; omega) hbw HSN.out HSB.out
                  rw [hpl, ← HBL.out] at r6 l6 n6
                  obtain ⟨a7, c7, w7, r7, l7⟩ := l6.push s6 HSN.out n6 (by simp; omega) 66
                  have hln : ((List.range k).map rd).length = k := by simp
                  rw [hln] at r7 l7
                  have e1 : jcol rd k ++ secPiece (rd k) = jcol rd (k + 1) := (jcol_succ rd k).symm
                  have e2 : (List.range k).map rd ++ [rd k] = (List.range (k + 1)).map rd := by rw [List.range_succ, List.map_append]; rfl
                  rw [e1, e2] at l7
                  have hnl : bl + n = (jcol rd (k + 1)).length := by rw [jcol_succ, List.length_append, hpl, ← HBL.out]
                  have hns' : ∀ p, p < k + 1 → 1 ≤ num16 (rd p) 20 ∧ num16 (rd p) 20 ≤ 234 := by
                    intro p hp
                    by_cases hpk : p = k
                    · subst hpk; rw [← HNN.out]; omega
                    · exact HNS.out p (by omega)
                  have hadd : (22 : Int) + (n : Int) ≤ (cap3 : Int) := by omega
                  have hnn : (22 + (n : Int)).toNat - 22 = n := by omega
                  have hnn2 : 22 + n - 22 = n := by omega
                  have R6 := Lib.hid r6
                  unfold Pushes at r7
                  have R7 := Lib.hid r7
                  have L7 := Lib.hid l7
                  have HNL := Lib.hid hnl
                  have HNS' := Lib.hid hns'
                  clear hlcw hbw hxv hpl r6 l6 s6 n6 r7 l7 hln e1 e2 hnl hns'
                  go_wp2_with (at_builtin; first | refine wpList_append_ran _ rfl _ _ 33 33 rfl rfl (by first | rfl | (go_simp; done) | (go_simp; omega)) R6.out ?_ | refine wpList_append_ran _ rfl _ _ 66 66 rfl rfl rfl R7.out ?_)
                  go_roundw
                  case rel => exact ⟨k + 1, q, bl + n, a6, a7, c6, c7, by go_num, rfl, by omega, fun _ => ⟨rfl, by omega, by omega⟩, by omega, by omega, HNS'.out, HNL.out, rfl, rfl, L7.out⟩
                  case measure => simp only [intOf]; omega
    · have hk0 : 0 < k := by
        rcases Nat.eq_zero_or_pos k with h | h
        · have := HQ0.out h; omega
        · exact h
      obtain ⟨hqP, hP1, hP2⟩ := HQ1.out hk0
      subst hqP
      obtain rfl : k = q := by omega
      have heq : ∀ b, IsRec rd (c - at_) E at_ num b → b = jcol rd k ∧ jparts b.length = k := by
        intro b hb
        have h1 := hb.parts
        have h2 := hb.eq
        rw [← HP.out] at h1 h2
        exact ⟨h2, h1.symm⟩
      have HEQ := Lib.hid heq
      clear heq hlt
      by_cases hlong : 8000 < bl
      · have HF := Lib.hid (HNO.out wr HLC.out.look (by
          intro b hb
          have h1 := hb.le
          rw [(HEQ.out b hb).1, ← HBL.out] at h1; omega))
        go_wp2_with (fail)
        go_ret3
        exact HF.out
      · have hbl8 : bl ≤ 8000 := by omega
        have hpc := parts_any bl (by omega) wr
        have HPC := Lib.hid hpc
        clear hpc hlong
        by_cases hpq : jparts bl = k
        · have hne : ((jparts bl : Int) != (k : Int)) = false := by simp [hpq]
          have HPQ := Lib.hid hpq
          clear hpq
          go_wp2_with (fail)
          refine HPC.out.mono ?_
          rintro e w' ⟨rfl, rfl⟩
          go_wp2_with (fail)
          obtain ⟨wo, hwo⟩ : ∃ wo, wo = wr := ⟨_, rfl⟩
          go_loopw [94] (fun i wx => ∃ m : Nat, m ≤ k ∧ i = .int .i64 (m : Int) ∧ Loc w d wx (.slice ba bl bc) (jcol rd k) (.slice aa k ac) ((List.range k).map rd) ∧ ∀ p, p < m → rd p = jsec E ((at_ : Int) + (p : Int)) (num : Int) p (jcol rd k)) (fun i _ => k - (intOf i).toNat)
          case atStart => exact ⟨0, Nat.zero_le _, rfl, HLC.out, fun p hp => by omega⟩
          case round =>
            clear hwo
            obtain ⟨m, hm, rfl, hlx, hsec⟩ := hrel
            have HLX := Lib.hid hlx
            have HSE := Lib.hid hsec
            clear hlx hsec
            by_cases hmk : m < k
            · have hrm : ((List.range k).map rd)[m]? = some (rd m) := by simp [hmk]
              obtain ⟨g, off, x, cx, haa, hcx, hbx, _⟩ := HLX.out.rows.rows.at_ hrm
              have hgl := World.block_lt_of_cell? _ _ hcx
              rw [HRL.out] at hcx hbx
              subst haa
              have hsc := jsector_any (E := E) (n := (at_ : Int) + (m : Int)) (r := (num : Int)) (p := m) HLX.out.bo.view (by rw [← HBL.out]; omega) (by rw [← HBL.out, HPQ.out]; exact hmk) (by omega) (by omega) (by omega) (by omega)
              have HSC := Lib.hid hsc
              have HBX := Lib.hid hbx
              clear hsc hbx hrm
              go_wp2_with (fail)
              refine HSC.out.mono ?_
              rintro e w6 ⟨v6, rfl, hb6, hu6, -⟩
              obtain ⟨a6, c6, hv6, _, _⟩ := hb6.view.shape
              rw [jsec_len] at hv6
              subst hv6
              have heqc := equal_any (HBX.out.upd hu6 (by simp)) hb6.view
              have HLX6 := Lib.hid (HLX.out.upd0 hu6)
              have HEC := Lib.hid heqc
              clear heqc hb6 hu6
              go_wp2_with (fail)
              refine HEC.out.mono ?_
              rintro e w' ⟨rfl, rfl⟩
              by_cases hse : rd m = jsec E ((at_ : Int) + (m : Int)) (num : Int) m (jcol rd k)
              · have hdc : decide (rd m = jsec E ((at_ : Int) + (m : Int)) (num : Int) m (jcol rd k)) = true := decide_eq_true hse
                rw [hdc]
                have HSEQ := Lib.hid hse
                clear hdc hse
                go_wp2_with (fail)
                go_roundw
                case rel => exact ⟨m + 1, by omega, by go_num, HLX6.out, fun p hp => by
                  by_cases hpm : p = m
                  · subst hpm; exact HSEQ.out
                  · exact HSE.out p (by omega)⟩
                case measure => simp only [intOf]; omega
              · have hdc : decide (rd m = jsec E ((at_ : Int) + (m : Int)) (num : Int) m (jcol rd k)) = false := decide_eq_false hse
                rw [hdc]
                have HF := Lib.hid (HNO.out w6 HLX6.out.look (by
                  intro b hb
                  obtain ⟨h1, h2⟩ := HEQ.out b hb
                  have h3 := hb.secs m (by omega)
                  rw [h1] at h3
                  exact hse h3))
                clear hdc hse
                go_wp2_with (fail)
                go_ret3
                exact HF.out
            · obtain rfl : m = k := by omega
              have hrec : IsRec rd (c - at_) E at_ num (jcol rd m) := by
                refine ⟨?_, by rw [← HBL.out]; omega, by rw [← HBL.out, HPQ.out]; omega, fun p hp => ?_⟩
                · rw [← HBL.out]
                  rcases Nat.eq_zero_or_pos bl with h | h
                  · have := HPQ.out; rw [h] at this; simp [jparts] at this; omega
                  · exact h
                · rw [← HBL.out, HPQ.out] at hp
                  exact HSE.out p hp
              have hF := HSO.out wr (.slice ba bl bc) (jcol rd m) HLX.out.look hrec HLX.out.bo HLX.out.bn
              rw [← HBL.out, HPQ.out] at hF
              have HF := Lib.hid hF
              clear hF hrec hmk
              go_wp2_with (fail)
              go_ret3
              exact HF.out
        · have hne : ((jparts bl : Int) != (k : Int)) = true := by rw [bne_iff_ne]; omega
          have HF := Lib.hid (HNO.out wr HLC.out.look (by
            intro b hb
            obtain ⟨h1, h2⟩ := HEQ.out b hb
            rw [h1, ← HBL.out] at h2
            exact hpq h2))
          clear hpq
          go_wp2_with (fail)
          refine HPC.out.mono ?_
          rintro e w' ⟨rfl, rfl⟩
          go_wp2_with (fail)
          go_ret3
          exact HF.out

end Go.Proofs.Ytkpoladbabhdmaa
