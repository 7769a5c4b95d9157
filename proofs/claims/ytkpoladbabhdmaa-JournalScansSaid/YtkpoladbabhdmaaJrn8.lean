/- The program's Scan. Conditions: as each says. -/
import Derived.Test.YtkpoladbabhdmaaJrn7
import Derived.Test.YtkpoladbabhdmaaJrn4
namespace Go.Proofs.Ytkpoladbabhdmaa
open Go.RowKit

theorem BytesO.inBytes {w : World} {v : Value} {l : Bytes} (h : BytesO w v l) : InBytes w v := by
  intro g hg
  rcases h.2 with ⟨rfl, _⟩ | ⟨g', cap, cur, rfl, _, hgg, _⟩
  · cases hg
  · cases hg; exact ⟨_, _, hgg⟩

theorem recAt_full {rd : Nat → Bytes} {E : Int} {at_ num : Nat} : recAt rd 0 E at_ num = none :=
  recAt_none fun b hb => by have := hb.fits; have := hb.pos; omega

theorem scanFrom_end {s : Nat → Bytes} {c : Nat} {E : Int} : ∀ (fu A n : Nat), c ≤ A → scanFrom s c E fu A n = []
  | 0, _, _, _ => rfl
  | fu + 1, A, n, h => by
    unfold scanFrom
    rw [show c - A = 0 by omega, recAt_full]

/-- the records of the area that is read -/
def ScanTo (R : List Bytes) (d : Nat) (D : Dk) (i : Nat) (w0 : World) (l : List Thing) (w : World) (e : Ending) (w' : World) : Prop :=
  ∃ v x, e = .returned (.tuple #[v, .int .i64 0]) ∧ Owns w0 (rowsT v R :: l.set i (disk d { D with a0 := x })) w' ∧ Keeps w w'

set_option maxRecDepth 100000 in
theorem own_scan_no {w0 w : World} {l : List Thing} {d : Nat} {D : Dk} (h : Owns w0 l w) (i : Nat) (hi : l[i]? = some (disk d D)) {f c E : Int} (hf : int64 f) (hc : int64 c) (ha : areaB D.size f c = false) :
    Calls Try.prog 46 #[.pointer (some ⟨d, 0, none⟩), .int .i64 f, .int .i64 c, .int .u64 E] w fun e w' => e = .returned (.tuple #[.slice none 0 0, .int .i64 1]) ∧ w = w' := by
  have H := Lib.hid h
  have HA := Lib.hid ha
  clear h ha
  go_enter Try.func46, Try.ntmps46
  go_wp2_with (fail)
  refine (own_area H.out i hi hf hc).mono ?_
  rw [HA.out]
  rintro e w' ⟨rfl, rfl⟩
  go_wp2_with (fail)
  go_ret2
  exact ⟨rfl, rfl⟩

set_option maxRecDepth 100000 in
set_option maxHeartbeats 4000000 in
theorem own_scan {w0 w : World} {l : List Thing} {d : Nat} {D : Dk} (h : Owns w0 l w) (i : Nat) (hi : l[i]? = some (disk d D)) (hd : D.down = false) {f E : Int} {c : Nat} (hf : 0 ≤ f) (hfc : f + (c : Int) ≤ D.size) :
    Calls Try.prog 46 #[.pointer (some ⟨d, 0, none⟩), .int .i64 f, .int .i64 (c : Int), .int .u64 E] w (ScanTo (scanAll (fun j : Nat => D.sec (f + (j : Int))) c E) d D i w0 l w) := by
  have hwf := own_wf h i hi
  have hs1 := hwf.s1
  have ha : areaB D.size f (c : Int) = true := by simp only [areaB, decide_eq_true_eq]; omega
  have hil : i < l.length := (List.getElem?_eq_some_iff.1 hi).1
  have hset : ∀ x, (l.set i (disk d { D with a0 := x }))[i]? = some (disk d { D with a0 := x }) := fun x => by rw [List.getElem?_set, if_pos rfl, if_pos hil]
  obtain ⟨s, hs⟩ : ∃ s : Nat → Bytes, s = fun j : Nat => D.sec (f + (j : Int)) := ⟨_, rfl⟩
  rw [← hs]
  obtain ⟨R, hR⟩ : ∃ R, R = scanAll s c E := ⟨_, rfl⟩
  rw [← hR]
  have hrec : ∀ (L : List Bytes) (v : Value) (x : Int) (wk : World) (A : Nat), Owns w0 (rowsT v L :: l.set i (disk d { D with a0 := x })) wk → A ≤ c → L.length ≤ 65536 →
      Calls Try.prog 88 #[.pointer (some ⟨d, 0, none⟩), .int .i64 f, .int .i64 (c : Int), .int .i64 (A : Int), .int .u64 E, .int .i64 (L.length : Int)] wk
        (RecGives (recAt (fun p => s (A + p)) (c - A) E A L.length) d { D with a0 := x } (i + 1) w0 (rowsT v L :: l.set i (disk d { D with a0 := x })) wk) := by
    intro L v x wk A ho hA hL
    have h1 := own_record (D := { D with a0 := x }) ho (i + 1) (by rw [List.getElem?_cons_succ]; exact hset x) hd hf hfc hA hL (E := E)
    have e : (fun p : Nat => ({ D with a0 := x } : Dk).sec (f + (A : Int) + (p : Int))) = fun p => s (A + p) := by
      funext p
      rw [hs]
      show D.sec _ = D.sec _
      congr 1
      omega
    rw [e] at h1
    exact h1
  have h0 : Owns w0 (rowsT (.slice none 0 0) [] :: l.set i (disk d { D with a0 := D.a0 })) w := by
    have e : l.set i (disk d { D with a0 := D.a0 }) = l := List.ext_getElem? fun j => by
      rw [List.getElem?_set]; split
      · rename_i hij; subst hij; simp [hi]
      · rfl
    rw [e]; exact own_rows_nil h
  have H := Lib.hid h
  have H0 := Lib.hid h0
  have HREC := Lib.hid hrec
  have HR := Lib.hid hR
  have HA := Lib.hid ha
  clear h h0 hrec hR ha hs hwf hset
  go_enter Try.func46, Try.ntmps46
  go_wp2_with (fail)
  refine (own_area H.out i hi (by unfold int64; omega) (by unfold int64; omega)).mono ?_
  rw [HA.out]
  rintro e w' ⟨rfl, rfl⟩
  go_wp2_with (fail)
  go_loopw [10, 11] (fun o a wr => ∃ (A n fu : Nat) (L : List Bytes) (oa : Option Addr) (oc : Nat) (x : Int), a = .int .i64 (A : Int) ∧ A ≤ c ∧ n ≤ A ∧ n = L.length ∧ c - A ≤ fu ∧ o = .slice oa n oc ∧ R = L ++ scanFrom s c E fu A n ∧ Owns w0 (rowsT (.slice oa n oc) L :: l.set i (disk d { D with a0 := x })) wr ∧ Keeps w wr) (fun _ a _ => c - (intOf a).toNat)
  case atStart => exact ⟨0, 0, c, [], none, 0, D.a0, rfl, Nat.zero_le _, Nat.le_refl _, rfl, by omega, rfl, HR.out, H0.out, Keeps.refl w⟩
  case round =>
    clear H0 HR
    obtain ⟨A, n, fu, L, oa, oc, x, rfl, hA, hnA, hn, hfu, rfl, hRe, hO, hkp⟩ := hrel
    have hout : scanFrom s c E fu A n = [] → ScanTo R d D i w0 l w (.returned (.tuple #[.slice oa n oc, .int .i64 0])) wr := by
      intro he
      rw [he, List.append_nil] at hRe
      exact ⟨_, x, rfl, by rw [hRe]; exact hO, hkp⟩
    by_cases hlt : A < c
    · have hrc := HREC.out L _ x wr A hO hA (by omega)
      rw [← hn] at hrc
      obtain ⟨fu', rfl⟩ : ∃ fu', fu = fu' + 1 := ⟨fu - 1, by omega⟩
      have HRC := Lib.hid hrc
      have HN := Lib.hid hn
      have HRE := Lib.hid hRe
      have HK := Lib.hid hkp
      have hnb : n ≤ 65536 := by omega
      clear hrc hn hRe hout hO hkp
      go_wp2_with (fail)
      refine HRC.out.mono ?_
      rintro e w2 ⟨⟨x2, hO2⟩, hk2, hres⟩
      have hO2 : Owns w0 (rowsT (.slice oa n oc) L :: l.set i (disk d { D with a0 := x2 })) w2 := by rw [List.set_cons_succ, List.set_set] at hO2; exact hO2
      rcases hres with ⟨hno, rfl⟩ | ⟨b, vb, hso, rfl, hb, hbp, hb8, -⟩
      · have he : scanFrom s c E (fu' + 1) A n = [] := by unfold scanFrom; rw [hno]
        have hF : ScanTo R d D i w0 l w (.returned (.tuple #[.slice oa n oc, .int .i64 0])) w2 := by
          have h1 := HRE.out
          rw [he, List.append_nil] at h1
          exact ⟨_, x2, rfl, by rw [h1]; exact hO2, HK.out.trans hk2⟩
        have HF := Lib.hid hF
        clear hF he hno hO2 hk2
        go_wp2_with (fail)
        go_ret2
        exact HF.out
      · obtain ⟨ba, bc, rfl, _, _⟩ := hb.view.shape
        have hpp : 1 ≤ jparts b.length ∧ jparts b.length ≤ 35 := ⟨jparts_pos hbp, jparts_le hb8⟩
        have hfit := (recAt_is hso).fits
        obtain ⟨oa3, oc3, w3, r3, hO3, hk3⟩ := own_rows_push hO2 0 rfl hb.view hb.inBytes (by rw [← HN.out]; omega) 66
        rw [← HN.out] at r3 hO3
        have hO3 : Owns w0 (rowsT (.slice oa3 (n + 1) oc3) (L ++ [b]) :: l.set i (disk d { D with a0 := x2 })) w3 := hO3
        unfold Pushes at r3
        obtain ⟨q, hq⟩ : ∃ q, q = jparts b.length := ⟨_, rfl⟩
        have he : scanFrom s c E (fu' + 1) A n = b :: scanFrom s c E fu' (A + q) (n + 1) := by rw [hq]; conv => lhs; unfold scanFrom; rw [hso]
        have hR3 : R = (L ++ [b]) ++ scanFrom s c E fu' (A + q) (n + 1) := by
          have h1 := HRE.out
          rw [he] at h1
          rw [h1]; simp
        have hn3 : n + 1 = (L ++ [b]).length := by rw [List.length_append, ← HN.out]; rfl
        rw [← hq] at hpp hfit ⊢
        obtain ⟨hq1, hq2⟩ := hpp
        have hqz : ((q : Int) == 0) = false := by rw [beq_eq_false_iff_ne]; omega
        have R3 := Lib.hid r3
        have HO3 := Lib.hid hO3
        have HR3 := Lib.hid hR3
        have HN3 := Lib.hid hn3
        have HK3 := Lib.hid (HK.out.trans (hk2.trans hk3))
        clear r3 hO3 hR3 hn3 hk2 hk3 hO2 hb hso he hq
        go_wp2_with (at_builtin; refine wpList_append_ran _ rfl _ _ 66 66 rfl rfl rfl R3.out ?_)
        go_roundw
        case rel => exact ⟨A + q, n + 1, fu', L ++ [b], oa3, oc3, x2, by go_num, by omega, by omega, HN3.out, by omega, rfl, HR3.out, HO3.out, HK3.out⟩
        case measure => simp only [intOf]; omega
    · have HF := Lib.hid (hout (scanFrom_end fu A n (by omega)))
      clear hout hRe hO hkp hn
      go_wp2_with (fail)
      go_ret2
      exact HF.out

end Go.Proofs.Ytkpoladbabhdmaa
