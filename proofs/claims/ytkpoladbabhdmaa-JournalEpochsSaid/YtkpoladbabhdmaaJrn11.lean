/- play of layer 7. Conditions: as each says. -/
import Derived.Test.YtkpoladbabhdmaaJrn10
namespace Go.Proofs.Ytkpoladbabhdmaa
open Go.RowKit

def Plays (base : List (Int × Bytes)) (size f : Int) (c : Nat) (E : Int) (q d : Nat) (w0 : World) (l : List Thing) (w : World) (e : Ending) (w' : World) : Prop :=
  ∃ (S : JS) (L : List Bytes) (sy : Nat) (v : Value), e = .returned (.tuple #[v, .int .i64 (sy : Int), .bool true]) ∧ PlayI base size f c E S L sy ∧ L.length ≤ 30 ∧ S.D.all.length + 40 < Big ∧ Owns w0 (jthings q d f (c : Int) E S (rowsT v L :: l)) w' ∧ Keeps w w'

theorem PlayI.big {base : List (Int × Bytes)} {size f E : Int} {c : Nat} {S : JS} {L : List Bytes} {sy : Nat} (h : PlayI base size f c E S L sy) (hb : base.length + c + 40 < Big) : S.D.all.length + 40 < Big := by
  obtain ⟨T, _, _, t3, t4⟩ := h.all
  rw [t4, List.length_append, posFrom_len, ← t3]
  have := h.next
  omega

set_option maxRecDepth 100000 in
set_option maxHeartbeats 8000000 in
theorem own_play {w0 w : World} {l : List Thing} {d q : Nat} {base : List (Int × Bytes)} {size f E : Int} {c : Nat} {S0 : JS} (h : Owns w0 (jthings q d f (c : Int) E S0 l) w) (hP : PlayI base size f c E S0 [] 0) (hbig : base.length + c + 40 < Big)
    (hf0 : 0 ≤ f) (hf1 : f ≤ 65536) (hc1 : (c : Int) ≤ 65536) {v : Value} {ops : List Op7} (hops : Ops7V w0 v ops) (h30 : ops.length ≤ 30) (hsh : ∀ (i : Nat) (o : Op7), ops[i]? = some o → o.b.length ≤ 9000) :
    Calls Try.prog 55 #[.pointer (some ⟨d, 0, none⟩), .pointer (some ⟨q, 0, none⟩), v] w (Plays base size f c E q d w0 l w) := by
  obtain ⟨oa, oc, rfl, hoc, hom⟩ := hops.shape
  have hO0 : Owns w0 (jthings q d f (c : Int) E S0 (rowsT (.slice none 0 0) [] :: l)) w := (own_rows_nil h).pick (fun i => match i with | 0 => 1 | 1 => 2 | 2 => 0 | n => n)
    (by
      intro i T h
      match i, h with
      | 0, h => exact h
      | 1, h => exact h
      | 2, h => exact h
      | i + 3, h => simpa [jthings] using h)
    (by
      intro i j _ _ h
      match i, j, h with
      | 0, 0, _ => rfl
      | 0, 1, h => simp at h
      | 0, 2, h => simp at h
      | 0, j + 3, h => simp at h
      | 1, 0, h => simp at h
      | 1, 1, _ => rfl
      | 1, 2, h => simp at h
      | 1, j + 3, h => simp at h
      | 2, 0, h => simp at h
      | 2, 1, h => simp at h
      | 2, 2, _ => rfl
      | 2, j + 3, h => simp at h
      | i + 3, 0, h => simp at h
      | i + 3, 1, h => simp at h
      | i + 3, 2, h => simp at h
      | i + 3, j + 3, h => simpa using h)
  have HOP := Lib.hid hops
  have HSH := Lib.hid hsh
  have HP := Lib.hid hP
  have HO0 := Lib.hid hO0
  have HBG := Lib.hid hbig
  clear hops hsh hP hO0 h hoc hom hbig
  go_enter Try.func55, Try.ntmps55
  go_wp2_with (fail)
  go_loopw [9, 10, 11] (fun lv sv i wr => ∃ (k sy n : Nat) (S : JS) (L : List Bytes) (la : Option Addr) (lc : Nat), k ≤ ops.length ∧ i = .int .i64 (k : Int) ∧ sv = .int .i64 (sy : Int) ∧ n = L.length ∧ n ≤ k ∧ lv = .slice la n lc ∧ PlayI base size f c E S L sy ∧
      Owns w0 (jthings q d f (c : Int) E S (rowsT (.slice la n lc) L :: l)) wr ∧ Keeps w wr) (fun _ _ i _ => ops.length - (intOf i).toNat)
  case atStart => exact ⟨0, 0, 0, S0, [], none, 0, Nat.zero_le _, rfl, rfl, rfl, Nat.le_refl _, rfl, HP.out, HO0.out, Keeps.refl w⟩
  case round =>
    clear HP HO0
    obtain ⟨k, sy, n, S, L, la, lc, hk, rfl, rfl, hn, hnk, rfl, hP, hO, hkp⟩ := hrel
    have HN := Lib.hid hn
    have HP := Lib.hid hP
    have HO := Lib.hid hO
    have HK := Lib.hid hkp
    clear hn hP hO hkp
    by_cases hlt : k < ops.length
    · obtain ⟨o, ho⟩ : ∃ o, ops[k]? = some o := ⟨ops[k], List.getElem?_eq_getElem hlt⟩
      have hb9 := HSH.out k o ho
      obtain ⟨g, off, ba, bc, rfl, hon, q0, q1, q2, hbv, -, hgl⟩ := HOP.out.at_ ho
      obtain ⟨kd, on, ob⟩ := o
      dsimp only at hon q0 q1 q2 hbv hb9
      have hblk := HO.out.1.block g hgl (by simp)
      rw [← World.cell?_of_block (w := w0) (w' := wr) (a := ⟨g, off + k * 3, none⟩) hblk] at q0
      rw [← World.cell?_of_block (w := w0) (w' := wr) (a := ⟨g, off + k * 3 + 1, none⟩) hblk] at q1
      rw [← World.cell?_of_block (w := w0) (w' := wr) (a := ⟨g, off + k * 3 + 2, none⟩) hblk] at q2
      have HBV := Lib.hid (hbv.upd HO.out.mine (by simp))
      have HON := Lib.hid hon
      have hbl := HP.out.big HBG.out
      have HBL := Lib.hid hbl
      clear hbv hon ho hblk hbl
      by_cases k1 : kd = 1
      · subst k1
        go_wp2_with (fail)
        refine (record7_any HON.out HBV.out hb9).mono ?_
        rintro e w2 ⟨r, hr9, v2, rfl, hb2, hu2, -⟩
        obtain ⟨a2, c2, rfl, _, _⟩ := hb2.view.shape
        have HO2 := Lib.hid (HO.out.upd hu2)
        have HB2 := Lib.hid hb2
        have HLA : Hid (Lasting w0 w2 (.slice a2 r.length c2) r) := Lib.hid (fun w' l' _ hk => (hb2.keep hk).view)
        have HK2 := Lib.hid (HK.out.trans hu2.keeps)
        clear hb2 hu2
        go_wp2_with (fail)
        refine (own_japp HO2.out HLA.out hf0 hf1 (by omega) hc1 (by have := HP.out.next; omega) (by have := HP.out.num; have := HN.out; omega) HBL.out).mono ?_
        obtain ⟨R, hR⟩ : ∃ R, R = S.app f (c : Int) E r := ⟨_, rfl⟩
        have hap := HP.out.app r
        rw [← hR] at hap ⊢
        rintro e w3 ⟨rfl, hO3, hk3⟩
        obtain ⟨S3, e3⟩ := R
        dsimp only at hap hO3
        show _
        rcases hap with ⟨he, hP3⟩ | ⟨he, hP3⟩
        · subst he
          obtain ⟨la4, lc4, w4, r4, hO4, hk4⟩ := own_rows_push hO3 2 rfl ((HB2.out.keep hk3).view) (HB2.out.keep hk3).inBytes (by rw [← HN.out]; omega) 66
          rw [← HN.out] at r4 hO4
          unfold Pushes at r4
          have hO4 : Owns w0 (jthings q d f (c : Int) E S3 (rowsT (.slice la4 (n + 1) lc4) (L ++ [r]) :: l)) w4 := hO4
          have R4 := Lib.hid r4
          have HO4 := Lib.hid hO4
          have HP4 := Lib.hid hP3
          have HK4 := Lib.hid (HK2.out.trans (hk3.trans hk4))
          have HN4 : Hid (n + 1 = (L ++ [r]).length) := Lib.hid (by rw [List.length_append, ← HN.out]; rfl)
          clear r4 hO4 hP3 hk3 hk4 hO3 hR
          go_wp2_with (at_builtin; refine wpList_append_ran _ rfl _ _ 66 66 rfl rfl rfl R4.out ?_)
          go_roundw
          case rel => exact ⟨k + 1, sy, n + 1, S3, L ++ [r], la4, lc4, by omega, by go_num, rfl, HN4.out, by omega, rfl, HP4.out, HO4.out, HK4.out⟩
          case measure => simp only [intOf]; omega
        · have hez : (e3 == 0) = false := by simpa using he
          have HO3 := Lib.hid hO3
          have HP3 := Lib.hid hP3
          have HK3 := Lib.hid (HK2.out.trans hk3)
          clear hO3 hP3 hk3 he hR
          go_wp2_with (fail)
          go_roundw
          case rel => exact ⟨k + 1, sy, n, S3, L, la, lc, by omega, by go_num, rfl, HN.out, by omega, rfl, HP3.out, HO3.out, HK3.out⟩
          case measure => simp only [intOf]; omega
      · have e1 : (kd == 1) = false := by simpa using k1
        clear k1
        by_cases k2 : kd = 2
        · subst k2
          go_wp2_with (fail)
          refine (own_jsync HO.out (by have := HBL.out; omega)).mono ?_
          rcases HP.out.sync with ⟨he, hP3⟩ | ⟨he, hP3⟩
          · rw [he]
            rintro e w3 ⟨rfl, hO3, hk3⟩
            rw [← HN.out] at hP3
            have HO3 := Lib.hid hO3
            have HP3 := Lib.hid hP3
            have HK3 := Lib.hid (HK.out.trans hk3)
            clear hO3 hP3 hk3 he
            go_wp2_with (fail)
            go_roundw
            case rel => exact ⟨k + 1, n, n, S.sync, L, la, lc, by omega, by go_num, rfl, HN.out, by omega, rfl, HP3.out, HO3.out, HK3.out⟩
            case measure => simp only [intOf]; omega
          · obtain ⟨e3, he3⟩ : ∃ e3, e3 = S.syncE := ⟨_, rfl⟩
            rw [← he3] at he ⊢
            rintro e w3 ⟨rfl, hO3, hk3⟩
            have hez : (e3 == 0) = false := by simpa using he
            have HO3 := Lib.hid hO3
            have HP3 := Lib.hid hP3
            have HK3 := Lib.hid (HK.out.trans hk3)
            clear hO3 hP3 hk3 he he3
            go_wp2_with (fail)
            go_roundw
            case rel => exact ⟨k + 1, sy, n, S.sync, L, la, lc, by omega, by go_num, rfl, HN.out, by omega, rfl, HP3.out, HO3.out, HK3.out⟩
            case measure => simp only [intOf]; omega
        · have e2 : (kd == 2) = false := by simpa using k2
          clear k2
          by_cases k3 : kd = 3
          · subst k3
            go_wp2_with (fail)
            refine (own_setFuse HO.out 1 rfl on HON.out.2).mono ?_
            rintro e w3 ⟨rfl, hO3, hk3⟩
            have hO3 : Owns w0 (jthings q d f (c : Int) E { S with D := S.D.fused on } (rowsT (.slice la n lc) L :: l)) w3 := hO3
            have HO3 := Lib.hid hO3
            have HP3 := Lib.hid (HP.out.fuse on)
            have HK3 := Lib.hid (HK.out.trans hk3)
            clear hO3 hk3
            go_wp2_with (fail)
            go_roundw
            case rel => exact ⟨k + 1, sy, n, { S with D := S.D.fused on }, L, la, lc, by omega, by go_num, rfl, HN.out, by omega, rfl, HP3.out, HO3.out, HK3.out⟩
            case measure => simp only [intOf]; omega
          · have e3 : (kd == 3) = false := by simpa using k3
            clear k3
            go_wp2_with (fail)
            go_roundw
            case rel => exact ⟨k + 1, sy, n, S, L, la, lc, by omega, by go_num, rfl, HN.out, by omega, rfl, HP.out, HO.out, HK.out⟩
            case measure => simp only [intOf]; omega
    · have hnm := HP.out.num
      rw [← HN.out] at hnm
      have hrc := own_records HO.out 0 rfl
      rw [hnm] at hrc
      have hF : Plays base size f c E q d w0 l w (.returned (.tuple #[.slice la n lc, .int .i64 (sy : Int), .bool true])) wr :=
        ⟨S, L, sy, .slice la n lc, rfl, HP.out, by rw [← HN.out]; omega, HP.out.big HBG.out, HO.out, HK.out⟩
      have HF := Lib.hid hF
      have HRC := Lib.hid hrc
      clear hF hrc hnm
      go_wp2_with (fail)
      refine HRC.out.mono ?_
      rintro e w' ⟨rfl, rfl⟩
      go_wp2_with (fail)
      go_ret3
      exact HF.out

end Go.Proofs.Ytkpoladbabhdmaa
