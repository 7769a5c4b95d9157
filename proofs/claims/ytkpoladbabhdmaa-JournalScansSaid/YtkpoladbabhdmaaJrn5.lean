/- The journal: Append. Conditions: as each says. -/
import Derived.Test.YtkpoladbabhdmaaJrn4
namespace Go.Proofs.Ytkpoladbabhdmaa
open Go.RowKit

/-- the writes of an Append, part by part -/
def jw (f E : Int) (b : Bytes) : Nat → Nat → JS → JS × Int
  | 0, _, S => ({ S with num := S.num + 1 }, 0)
  | r + 1, p, S =>
    if S.D.writeE (f + (S.next : Int)) (jsec E S.next S.num p b) = 0 then jw f E b r (p + 1) { S with D := S.D.write (f + (S.next : Int)) (jsec E S.next S.num p b), next := S.next + 1 }
    else ({ S with D := S.D.write (f + (S.next : Int)) (jsec E S.next S.num p b), over := true }, 7)

def JS.app (f c E : Int) (b : Bytes) (S : JS) : JS × Int :=
  if S.over then (S, 7) else if b = [] then (S, 1) else if 8000 < b.length then (S, 3) else if c - (S.next : Int) < (jparts b.length : Int) then (S, 6) else jw f E b (jparts b.length) 0 S

section
variable {w0 w : World} {l : List Thing} {d q : Nat} {f c E : Int}

def JGives (R : JS × Int) (q d : Nat) (f c E : Int) (w0 : World) (l : List Thing) (w : World) (e : Ending) (w' : World) : Prop :=
  e = .returned (.int .i64 R.2) ∧ Owns w0 (jthings q d f c E R.1 l) w' ∧ Keeps w w'

set_option maxRecDepth 100000 in
set_option maxHeartbeats 4000000 in
theorem own_japp {S : JS} (h : Owns w0 (jthings q d f c E S l) w) {v : Value} {b : Bytes} (hv : Lasting w0 w v b) (hf0 : 0 ≤ f) (hf1 : f ≤ 65536) (hc0 : 0 ≤ c) (hc1 : c ≤ 65536)
    (hn : (S.next : Int) ≤ c) (hr : S.num ≤ 65536) (hlen : S.D.all.length + 40 < Big) :
    Calls Try.prog 50 #[.pointer (some ⟨q, 0, none⟩), v] w (JGives (S.app f c E b) q d f c E w0 l w) := by
  obtain ⟨va, vc, rfl, _, hvm⟩ := (hv w _ h (Keeps.refl w)).shape
  have hbl : b.length ≤ 9223372036854775807 := by unfold maxLen at hvm; omega
  obtain ⟨-, -, k2, -, k4, -, k6, hl⟩ := own_jcells h 0 rfl
  have hstay : ∀ en, S.app f c E b = (S, en) → ∀ w', Owns w0 (jthings q d f c E S l) w' → Keeps w w' → JGives (S.app f c E b) q d f c E w0 l w (.returned (.int .i64 en)) w' := by
    intro en he w' ho hk; rw [he]; exact ⟨rfl, ho, hk⟩
  have HS := Lib.hid hstay
  have H := Lib.hid h
  have HV := Lib.hid hv
  clear hstay hv
  by_cases ho : S.over = true
  · have HF := Lib.hid (HS.out 7 (by simp [JS.app, ho]) w h (Keeps.refl w))
    rw [ho] at k6
    clear h k2 k4 ho
    go_enter Try.func50, Try.ntmps50
    go_wp2_with (fail)
    go_ret
    exact HF.out
  · have ho' : S.over = false := by simpa using ho
    rw [ho'] at k6
    have HO := Lib.hid ho'
    clear ho ho'
    by_cases hb0 : b = []
    · have HF := Lib.hid (HS.out 1 (by simp [JS.app, HO.out, hb0]) w h (Keeps.refl w))
      have hbl0 : ((b.length : Int) == 0) = true := by simp [hb0]
      have HB := Lib.hid hb0
      clear h k2 k4 hb0
      go_enter Try.func50, Try.ntmps50
      go_wp2_with (fail)
      go_ret
      exact HF.out
    · have hbp : 0 < b.length := List.length_pos_iff.2 hb0
      have hbl0 : ((b.length : Int) == 0) = false := by rw [beq_eq_false_iff_ne]; omega
      have HB := Lib.hid hb0
      clear hb0
      by_cases hlong : 8000 < b.length
      · have HF := Lib.hid (HS.out 3 (by simp [JS.app, HO.out, HB.out, hlong]) w h (Keeps.refl w))
        clear h k2 k4
        go_enter Try.func50, Try.ntmps50
        go_wp2_with (fail)
        go_ret
        exact HF.out
      · have hsh : b.length ≤ 8000 := by omega
        have HLG := Lib.hid hlong
        have hpp : jparts b.length ≤ 35 ∧ 1 ≤ jparts b.length := by unfold jparts; rw [if_neg (by omega)]; omega
        obtain ⟨hpp1, hpp0⟩ := hpp
        clear h k2 k4 hlong
        by_cases hfull : c - (S.next : Int) < (jparts b.length : Int)
        · have HAP := Lib.hid (show S.app f c E b = (S, 6) by simp [JS.app, HO.out, HB.out, HLG.out, hfull])
          go_enter Try.func50, Try.ntmps50
          go_wp2_with (fail)
          refine (parts_any b.length hbl _).mono ?_
          rintro e w' ⟨rfl, rfl⟩
          go_wp2_with (fail)
          refine (own_room H.out 0 rfl hc0 hc1 (by omega)).mono ?_
          rintro e w' ⟨rfl, nq, rfl⟩
          have HF := Lib.hid (HS.out 6 HAP.out _ (own_drewN H.out nq) (keeps_drewN w nq))
          go_wp2_with (fail)
          go_ret
          exact HF.out
        · have hroom : (S.next : Int) + (jparts b.length : Int) ≤ c := by omega
          obtain ⟨R, hRe⟩ : ∃ R, R = jw f E b (jparts b.length) 0 S := ⟨_, rfl⟩
          have hR : S.app f c E b = R := by rw [hRe]; simp [JS.app, HO.out, HB.out, HLG.out, hfull]
          rw [hR]
          have HRE := Lib.hid hRe
          clear hRe hfull hR HS
          go_enter Try.func50, Try.ntmps50
          go_wp2_with (fail)
          refine (parts_any b.length hbl _).mono ?_
          rintro e w' ⟨rfl, rfl⟩
          go_wp2_with (fail)
          refine (own_room H.out 0 rfl hc0 hc1 (by omega)).mono ?_
          rintro e w' ⟨rfl, nq, rfl⟩
          have HOD := Lib.hid (own_drewN H.out nq)
          have HKD := Lib.hid (keeps_drewN w nq)
          go_wp2_with (fail)
          generalize w.drewN nq = w1 at HOD HKD ⊢
          refine (parts_any b.length hbl _).mono ?_
          rintro e w' ⟨rfl, rfl⟩
          go_wp2_with (fail)
          go_loopw [34] (fun i wr => ∃ (k : Nat) (T : JS), k ≤ jparts b.length ∧ i = .int .i64 (k : Int) ∧ T.over = false ∧ jw f E b (jparts b.length - k) k T = R ∧ (T.next : Int) + (jparts b.length : Int) ≤ c + (k : Int) ∧ T.num ≤ 65536 ∧ T.D.all.length + (jparts b.length - k) < Big ∧ Owns w0 (jthings q d f c E T l) wr ∧ Keeps w wr) (fun i _ => jparts b.length - (intOf i).toNat)
          case atStart => exact ⟨0, S, Nat.zero_le _, rfl, HO.out, HRE.out.symm, by omega, hr, by omega, HOD.out, HKD.out⟩
          case round =>
            clear HO HRE HOD HKD hroom hn hr hlen
            obtain ⟨k, T, hk, rfl, hov, hjw, hnx, hnum, hlen, hO, hkp⟩ := hrel
            obtain ⟨D, next, num, over⟩ := T
            dsimp only at hov hnx hnum hlen
            subst hov
            by_cases hlt : k < jparts b.length
            · obtain ⟨r, hrr⟩ : ∃ r, jparts b.length - k = r + 1 := ⟨jparts b.length - k - 1, by omega⟩
              have hr2 : jparts b.length - (k + 1) = r := by omega
              rw [hrr] at hjw
              have hnx2 : (next : Int) ≤ 65536 := by omega
              have hwadd : IntKind.i64.wrap (f + (next : Int)) = f + (next : Int) := by rw [IntKind.wrap_i64]; omega
              have hOd := hO.upd (Upd.refl [] wr).drew
              have hcl : ∀ L w', Owns w0 (jrow q d f c E next num false :: L) w' → w'.cell? ⟨q, 0, none⟩ = some (.pointer (some ⟨d, 0, none⟩)) ∧ w'.cell? ⟨q, 1, none⟩ = some (.int .i64 f) ∧ w'.cell? ⟨q, 3, none⟩ = some (.int .u64 E) ∧
                  w'.cell? ⟨q, 4, none⟩ = some (.int .i64 (next : Int)) ∧ w'.cell? ⟨q, 5, none⟩ = some (.int .i64 (num : Int)) := by
                intro L w' h
                obtain ⟨a0, a1, -, a3, a4, a5, -, -⟩ := own_jcells h 0 rfl
                exact ⟨a0, a1, a3, a4, a5⟩
              obtain ⟨k0, k1, k3, k4, k5⟩ := hcl _ _ hO
              obtain ⟨-, -, -, -, -, -, -, hlq⟩ := own_jcells hO 0 rfl
              have hbv := HV.out _ _ hOd (hkp.trans ((Upd.refl [] wr).drew).keeps)
              have HCL := Lib.hid hcl
              have HOd := Lib.hid hOd
              have HKP := Lib.hid (hkp.trans ((Upd.refl [] wr).drew).keeps)
              have HBV := Lib.hid hbv
              have HJW := Lib.hid hjw
              have HR2 := Lib.hid hr2
              have HL : Hid (D.all.length < Big) := Lib.hid (by omega)
              have HL2 : Hid (D.all.length + 1 + r < Big) := Lib.hid (by omega)
              have HRR := Lib.hid hrr
              clear hcl hO hOd hkp hbv hjw hr2 hlen hrr
              go_wp2_with (fail)
              go_region_held3 (fun w' => w'.cell? ⟨q, 0, none⟩ = some (.pointer (some ⟨d, 0, none⟩)) ∧ w'.cell? ⟨q, 1, none⟩ = some (.int .i64 f) ∧ w'.cell? ⟨q, 3, none⟩ = some (.int .u64 E) ∧ w'.cell? ⟨q, 4, none⟩ = some (.int .i64 (next : Int)) ∧ w'.cell? ⟨q, 5, none⟩ = some (.int .i64 (num : Int))) (first | exact ⟨k0, k1, k3, k4, k5⟩ | exact HCL.out _ _ (by assumption))
                (first | (go_at_call 92; refine (own_bytes HOd.out (jsector_any (E := E) (n := (next : Int)) (r := (num : Int)) (p := k) HBV.out (by omega) hlt (by omega) (by omega) (by omega) (by omega))).mono ?_; rintro e w3 ⟨v3, rfl, hb3, hO3, hk3, -⟩; obtain ⟨a3, c3, rfl⟩ := (⟨hb3.view.shape.choose, hb3.view.shape.choose_spec.choose, hb3.view.shape.choose_spec.choose_spec.1⟩ : ∃ a c, v3 = .slice a (jsec E next num k b).length c)) | (go_at_call 22; refine (own_write hO3 1 rfl hb3 HL.out).mono ?_; rintro e w4 ⟨rfl, hO4, hk4⟩))
              obtain ⟨D4, hD4⟩ : ∃ D4, D4 = D.write (f + (next : Int)) (jsec E (next : Int) (num : Int) k b) := ⟨_, rfl⟩
              have hl4 := Dk.write_len D (f + (next : Int)) (jsec E (next : Int) (num : Int) k b)
              have hO4 : Owns w0 (jrow q d f c E next num false :: disk d D4 :: l) w4 := by rw [hD4]; exact hO4
              rw [← hD4] at hl4
              have hJW := HJW.out
              simp only [jw] at hJW
              rw [← hD4] at hJW
              obtain ⟨j0, -, -, -, j4, -, j6, hlj⟩ := own_jcells hO4 0 rfl
              have zf := own_jfree hO4 0 rfl
              have zf4 := zf 4
              have zf6 := zf 6
              have hr4 := own_row hO4 0 rfl
              have hkset : ∀ o v, Keeps w4 (w4.setCell ⟨q, o, none⟩ v) := fun o v => Upd.keeps (S := [q]) ((Upd.refl [q] w4).setCell _ (.inl (by simp)) (.inr (by intro c fz; rw [hr4]; simp)))
              obtain ⟨e4, he4⟩ : ∃ e4, e4 = D.writeE (f + (next : Int)) (jsec E (next : Int) (num : Int) k b) := ⟨_, rfl⟩
              rw [← he4] at hJW ⊢
              by_cases hz : e4 = 0
              · rw [if_pos hz] at hJW
                have hO5 : Owns w0 (jthings q d f c E ⟨D4, next + 1, num, false⟩ l) (w4.setCell ⟨q, 4, none⟩ (.int .i64 ((next : Int) + 1))) := own_row_set hO4 0 rfl 4 (.int .i64 ((next : Int) + 1))
                have HO5 := Lib.hid hO5
                have HK5 := Lib.hid ((HKP.out.trans (hk3.trans hk4)).trans (hkset 4 (.int .i64 ((next : Int) + 1))))
                have HJ5 : Hid (jw f E b (jparts b.length - (k + 1)) (k + 1) ⟨D4, next + 1, num, false⟩ = R) := Lib.hid (by rw [HR2.out]; exact hJW)
                have HL5 : Hid (D4.all.length + (jparts b.length - (k + 1)) < Big) := Lib.hid (by rw [HR2.out]; have := HL2.out; omega)
                subst hz
                clear hO5 hO4 hJW hl4 hD4 he4 hkset hr4 zf hk3 hk4 hO3 hb3 hwadd
                go_wp2_with (fail)
                go_roundw
                case rel => exact ⟨k + 1, ⟨D4, next + 1, num, false⟩, by omega, by go_num, rfl, HJ5.out, by dsimp only; omega, hnum, HL5.out, HO5.out, HK5.out⟩
                case measure => simp [intOf]; omega
              · rw [if_neg hz] at hJW
                have hez : (e4 != 0) = true := by simpa using hz
                have hO5 : Owns w0 (jthings q d f c E ⟨D4, next, num, true⟩ l) (w4.setCell ⟨q, 6, none⟩ (.bool true)) := own_row_set hO4 0 rfl 6 (.bool true)
                have hF : JGives R q d f c E w0 l w (.returned (.int .i64 7)) (w4.setCell ⟨q, 6, none⟩ (.bool true)) := by
                  rw [← hJW]
                  exact ⟨rfl, hO5, (HKP.out.trans (hk3.trans hk4)).trans (hkset 6 (.bool true))⟩
                have HF := Lib.hid hF
                clear hF hO5 hO4 hJW hl4 hD4 he4 hkset hr4 zf hk3 hk4 hO3 hb3 hwadd hz
                go_wp2_with (fail)
                go_ret
                exact HF.out
            · obtain rfl : k = jparts b.length := by omega
              rw [Nat.sub_self] at hjw
              simp only [jw] at hjw
              obtain ⟨j0, -, -, -, j4, j5, j6, hlj⟩ := own_jcells hO 0 rfl
              have z5 := own_jfree hO 0 rfl 5
              have hr4 := own_row hO 0 rfl
              have hks : Keeps wr (wr.setCell ⟨q, 5, none⟩ (.int .i64 ((num : Int) + 1))) := Upd.keeps (S := [q]) ((Upd.refl [q] wr).setCell _ (.inl (by simp)) (.inr (by intro c fz; rw [hr4]; simp)))
              have hO5 : Owns w0 (jthings q d f c E ⟨D, next, num + 1, false⟩ l) (wr.setCell ⟨q, 5, none⟩ (.int .i64 ((num : Int) + 1))) := own_row_set hO 0 rfl 5 (.int .i64 ((num : Int) + 1))
              have hF : JGives R q d f c E w0 l w (.returned (.int .i64 0)) (wr.setCell ⟨q, 5, none⟩ (.int .i64 ((num : Int) + 1))) := by
                rw [← hjw]
                exact ⟨rfl, hO5, hkp.trans hks⟩
              have HF := Lib.hid hF
              clear hF hO5 hO hjw hkp hks hr4
              go_wp2_with (fail)
              go_ret
              exact HF.out

end
end Go.Proofs.Ytkpoladbabhdmaa
