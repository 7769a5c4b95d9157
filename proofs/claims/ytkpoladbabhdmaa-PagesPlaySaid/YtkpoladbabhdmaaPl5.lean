/- The law's act: the pages and the reference's answer alike. Conditions: as it says. -/
import Derived.Test.YtkpoladbabhdmaaPl3
import Derived.Test.YtkpoladbabhdmaaPl4
import Derived.Test.YtkpoladbabhdmaaPg14
import Derived.Test.YtkpoladbabhdmaaPgP
import Derived.Test.YtkpoladbabhdmaaLaw10
import Derived.Deep.RegionHeld3
namespace Go.Proofs.Ytkpoladbabhdmaa
open Go.RowKit

section
variable {w0 w : World} {l : List Thing} {C : PC} {S S' : PS} {us : Value} {R : RC} {is : List Int} {B B' : List Bytes}

theorem rth_split (R : RC) (is : List Int) (B : List Bytes) (l : List Thing) : rth R is B l = rth R is B [] ++ l := rfl

theorem own_flip (h : Owns w0 (pth C S us (rth R is B l)) w) : Owns w0 (rth R is B (pth C S us l)) w := by
  rw [pth_split, rth_split] at h
  rw [pth_split, rth_split]
  have h2 : Owns w0 ([] ++ (ph C S us (S.fs.map frameT) ++ (rth R is B [] ++ l))) w := h
  exact h2.perm (List.perm_append_comm_assoc ..)
theorem own_flop (h : Owns w0 (rth R is B (pth C S us l)) w) : Owns w0 (pth C S us (rth R is B l)) w := by
  rw [pth_split, rth_split] at h
  rw [pth_split, rth_split]
  have h2 : Owns w0 ([] ++ (rth R is B [] ++ (ph C S us (S.fs.map frameT) ++ l))) w := h
  exact h2.perm (List.perm_append_comm_assoc ..)
theorem own_unbox {T : Thing} (h : Owns w0 (pth C S us (rth R is B (T :: l))) w) : Owns w0 (pth C S us (rth R is B l)) w := by
  rw [pth_split, rth_split] at h
  rw [pth_split, rth_split]
  rw [← List.append_assoc] at h ⊢
  exact Owns.skip (G := [T]) h
theorem own_box {T : Thing} (h : Owns w0 (T :: pth C S us (rth R is B l)) w) : Owns w0 (pth C S us (rth R is B (T :: l))) w := by
  rw [pth_split, rth_split] at h
  rw [pth_split, rth_split]
  rw [← List.append_assoc] at h ⊢
  exact Owns.perm (A := []) List.perm_middle.symm h
theorem own_boxed {bx : Nat} {c : Array Value} {e : TypeId} {he : e ≠ 5} (h : Owns w0 (pth C S us (rth R is B (row bx c e he :: l))) w) : w.heap[bx]? = some (.cells c e (0, 0)) := by
  rw [pth_split] at h
  exact own_row h.behind 3 rfl

/-- what act leaves -/
def ActTo (C : PC) (S : PS) (R : RC) (w0 : World) (l : List Thing) (e : Ending) (w' : World) : Prop :=
  e = .returned (.bool true) ∧ ∃ (S' : PS) (B' : List Bytes) (us' : Value), PlayI C S' B' ∧ Owns w0 (pth C S' us' (rth R S'.is B' l)) w' ∧ S'.len ≤ S.len + 24 ∧ S'.is.length = S.is.length

theorem RAlloc.len {is' : List Int} {n en : Int} (h : RAlloc is is' B B' n en) : is'.length = is.length := by
  rcases h with ⟨_, rfl, _⟩ | ⟨k, _, _, rfl, _⟩
  · rfl
  · simp
theorem RFree.len {is' : List Int} {n en : Int} (h : RFree is is' n en) : is'.length = is.length := by
  rcases h with ⟨_, rfl, _⟩ | ⟨k, _, _, ⟨_, rfl⟩ | ⟨_, rfl⟩⟩
  · rfl
  · simp
  · simp

set_option maxRecDepth 100000 in
set_option maxHeartbeats 8000000 in
theorem act10_any (h : Owns w0 (pth C S us (rth R S.is B l)) w) (hI : PlayI C S B) (hpool : C.pool ≤ 6) (hisl : S.is.length ≤ 100) (hlen : S.len ≤ 10000) (o : Op10) (on : int64 o.n) :
    Calls Try.prog 71 #[.pointer (some ⟨C.d, 0, none⟩), .pointer (some ⟨C.p, 0, none⟩), .pointer (some ⟨R.r, 0, none⟩), .agg #[.int .i64 o.kind, .int .i64 o.n, .int .i64 o.m]] w (ActTo C S R w0 l) := by
  obtain ⟨kd, pn, pm⟩ := o
  simp only at on
  have hbx : Owns w0 (pth C S us (rth R S.is B (row w.heap.size #[.int .i64 kd, .int .i64 pn, .int .i64 pm] 102 (by decide) :: l))) (w.alloc (.cells #[.int .i64 kd, .int .i64 pn, .int .i64 pm] 102)) :=
    own_box (own_row_new h #[.int .i64 kd, .int .i64 pn, .int .i64 pm] 102 (by decide))
  have hrow : ∀ (S : PS) (us : Value) (is : List Int) (B : List Bytes) (w' : World), Owns w0 (pth C S us (rth R is B (row w.heap.size #[.int .i64 kd, .int .i64 pn, .int .i64 pm] 102 (by decide) :: l))) w' →
      w'.cell? ⟨w.heap.size, 1, none⟩ = some (.int .i64 pn) ∧ w'.cell? ⟨w.heap.size, 2, none⟩ = some (.int .i64 pm) ∧ w.heap.size < w'.heap.size := fun S us is B w' ho =>
    ⟨cell_of_heap (own_boxed ho) rfl, cell_of_heap (own_boxed ho) rfl, lt_of_heap (own_boxed ho)⟩
  have hres : ∀ (S' : PS) (B' : List Bytes) (us' : Value) (w' : World), PlayI C S' B' → Owns w0 (pth C S' us' (rth R S'.is B' (row w.heap.size #[.int .i64 kd, .int .i64 pn, .int .i64 pm] 102 (by decide) :: l))) w' → S'.len ≤ S.len + 24 → S'.is.length = S.is.length → ActTo C S R w0 l (.returned (.bool true)) w' :=
    fun S' B' us' w' h1 h2 h3 h4 => ⟨rfl, S', B', us', h1, own_unbox h2, h3, h4⟩
  have hfl : S.fs.length ≤ 6 := Nat.le_trans hI.pw.full hpool
  have hb4 : S.D.all.length + 4 < Big := by unfold PS.len at hlen; unfold Big; omega
  have hb24 : S.D.all.length + 4 * S.fs.length + 4 < Big := by unfold PS.len at hlen; unfold Big; omega
  have HBX := Lib.hid hbx
  have HROW := Lib.hid hrow
  have HRES := Lib.hid hres
  have HI := Lib.hid hI
  have HFL := Lib.hid hfl
  have HB4 := Lib.hid hb4
  have HB24 := Lib.hid hb24
  have HISL := Lib.hid hisl
  have HLN := Lib.hid hlen
  clear h hbx hrow hres hI hfl hb4 hb24 hpool hisl hlen on
  by_cases k1 : kd = 1
  · subst k1
    have HAL := Lib.hid (own_alloc HBX.out HI.out.pw HB4.out)
    go_enter Try.func71, Try.ntmps71
    go_wp2_with (fail)
    refine HAL.out.mono ?_
    rintro e w5 ⟨S', n5, en, ⟨rfl, ⟨us', hO5⟩, -⟩, hR5⟩
    have HRA := Lib.hid (own_ralloc (own_flip hO5) HI.out.len (by have := HISL.out; omega))
    have HR5 := Lib.hid hR5
    clear hO5 hR5 HAL
    go_wp2_with (fail)
    refine HRA.out.mono ?_
    rintro e w6 ⟨is', B', n6, en6, ⟨rfl, hO6, -⟩, hR6⟩
    obtain ⟨e1, e2, e3, hI6⟩ := HI.out.alloc HR5.out hR6
    subst e1 e2
    have hl6 := hR6.len
    rw [e3] at hO6 hl6
    have HF := Lib.hid (HRES.out S' B' us' w6 hI6 (own_flop hO6) (Nat.le_trans (len_alloc HR5.out) (by omega)) hl6)
    clear hO6 hR6 hI6 hl6 e3 HRA HR5
    go_wp2_with (fail)
    go_ret
    exact HF.out
  by_cases k2 : kd = 2
  · subst k2
    clear k1
    have hOd := HBX.out.upd (Upd.refl [] _).drew
    obtain ⟨c1, c2, c3⟩ := HROW.out _ _ _ _ _ HBX.out
    have HOD := Lib.hid hOd
    clear hOd
    go_enter Try.func71, Try.ntmps71
    go_wp2_with (fail)
    generalize (w.alloc (.cells #[.int .i64 2, .int .i64 pn, .int .i64 pm] 102)) = wb at HOD c1 c2 c3 ⊢
    clear HBX
    go_region_held3 (fun w' => w'.cell? ⟨w.heap.size, 1, none⟩ = some (.int .i64 pn) ∧ w'.cell? ⟨w.heap.size, 2, none⟩ = some (.int .i64 pm)) (first | exact ⟨c1, c2⟩ | exact ⟨(HROW.out _ _ _ _ _ (by assumption)).1, (HROW.out _ _ _ _ _ (by assumption)).2.1⟩ | exact ⟨(HROW.out _ _ _ _ _ (own_flop (by assumption))).1, (HROW.out _ _ _ _ _ (own_flop (by assumption))).2.1⟩)
      (first | (go_at_call 61; have hO5' := hO5; refine (own_bytes hO5' (page_any _ pm)).mono ?_; rintro e w6 ⟨v6, rfl, hb6, hO6, hk6, -⟩; obtain ⟨a6, c6, rfl, _, _⟩ := hb6.view.shape) | (go_at_call 61; refine (own_bytes HOD.out (page_any _ pm)).mono ?_; rintro e w4 ⟨v4, rfl, hb4, hO4, hk4, -⟩; obtain ⟨a4, c4, rfl, _, _⟩ := hb4.view.shape) | (go_at_call 60; refine (own_pagesPut hO4 HI.out.pw HB4.out pn hb4.view (pageOf_len pm)).mono ?_; rintro e w5 ⟨S', en, ⟨rfl, ⟨us', hO5⟩, -⟩, hR5⟩) | (go_at_call 101; refine (own_rput (own_flip hO6) HI.out.len pn hb6.view (pageOf_len pm)).mono ?_; rintro e w7 ⟨B', en7, ⟨rfl, hO7, -⟩, hR7⟩))
    obtain ⟨e1, e2, hI7⟩ := HI.out.puts (pageOf_len pm) hR5 hR7
    subst e1
    rw [e2] at hO7
    have HF := Lib.hid (HRES.out S' B' us' w7 hI7 (own_flop hO7) (Nat.le_trans (len_puts hR5) (by omega)) (by rw [e2]))
    clear hO7 hO6 hO5 hO4 hb6 hb4 hR5 hR7 hI7 e2 hk4 hk6 c1 c2
    have HF : Hid (ActTo C S R w0 l (.returned (.bool (en == en))) w7) := Lib.hid (by rw [beq_self_eq_true]; exact HF.out)
    go_wp2_with (fail)
    go_ret
    exact HF.out
  by_cases k3 : kd = 3
  · subst k3
    clear k1 k2
    have HGE := Lib.hid (own_get HBX.out HI.out.pw HB4.out pn)
    obtain ⟨c1, -, c3⟩ := HROW.out _ _ _ _ _ HBX.out
    have HWF := Lib.hid (own_wf HBX.out 4 rfl)
    go_enter Try.func71, Try.ntmps71
    go_wp2_with (fail)
    refine HGE.out.mono ?_
    rintro e w5 ⟨S', v5, b5, en, ⟨rfl, ⟨us', hO5⟩, -⟩, hb5, hi5, hR5⟩
    obtain ⟨a5, q5, rfl, _, _⟩ := hb5.shape
    obtain ⟨d1, -, d3⟩ := HROW.out _ _ _ _ _ hO5
    have HRG := Lib.hid (own_rget (own_flip hO5) HI.out.len pn)
    have HR5 := Lib.hid hR5
    have HO5 := Lib.hid hO5
    have HB5 := Lib.hid hb5
    clear hO5 hR5 hb5 hi5 HGE c1 c3
    go_wp2_with (fail)
    refine HRG.out.mono ?_
    rintro e w6 ⟨a6, n6, q6, b6, en6, rfl, hb6, hi6, hR6, rfl⟩
    obtain ⟨e1, e2, e3, hI6⟩ := HI.out.gets HWF.out HR5.out hR6
    subst e1
    subst e2
    have hsm := own_returns HO5.out (same_any HB5.out hb6)
    rw [decide_eq_true rfl] at hsm
    have HSM := Lib.hid hsm
    have HI6 := Lib.hid hI6
    have HE3 := Lib.hid e3
    clear hb6 hi6 hR6 hI6 e3 hsm HRG d1 d3
    go_wp2_with (fail)
    refine HSM.out.mono ?_
    rintro e w7 ⟨rfl, hO7, -⟩
    rw [HE3.out] at hO7
    have HF := Lib.hid (HRES.out S' B us' w7 HI6.out hO7 (Nat.le_trans (len_gets HR5.out) (by omega)) (by rw [HE3.out]))
    clear hO7
    go_wp2_with (fail)
    go_ret
    exact HF.out
  by_cases k4 : kd = 4
  · subst k4
    clear k1 k2 k3
    have hOd := HBX.out.upd (Upd.refl [] _).drew
    obtain ⟨c1, -, c3⟩ := HROW.out _ _ _ _ _ HBX.out
    have HOD := Lib.hid hOd
    clear hOd
    go_enter Try.func71, Try.ntmps71
    go_wp2_with (fail)
    generalize (w.alloc (.cells #[.int .i64 4, .int .i64 pn, .int .i64 pm] 102)) = wb at HOD c1 c3 ⊢
    clear HBX
    go_region_held3 (fun w' => w'.cell? ⟨w.heap.size, 1, none⟩ = some (.int .i64 pn)) (first | exact c1 | exact (HROW.out _ _ _ _ _ (by assumption)).1 | exact (HROW.out _ _ _ _ _ (own_flop (by assumption))).1)
      (first | (go_at_call 63; refine (own_free HOD.out HI.out.pw pn).mono ?_; rintro e w5 ⟨S', en, ⟨rfl, ⟨us', hO5⟩, -⟩, hR5⟩) | (go_at_call 103; refine (own_rfree (own_flip hO5) pn).mono ?_; rintro e w7 ⟨is', en7, ⟨rfl, hO7, -⟩, hR7⟩))
    obtain ⟨e1, e2, hI7⟩ := HI.out.frees hR5 hR7
    subst e1
    have hl7 := hR7.len
    rw [e2] at hO7 hl7
    have HF := Lib.hid (HRES.out S' B us' w7 hI7 (own_flop hO7) (Nat.le_trans (len_frees hR5) (by omega)) hl7)
    clear hO7 hO5 hR5 hR7 hI7 e2 c1 hl7
    have HF : Hid (ActTo C S R w0 l (.returned (.bool (en == en))) w7) := Lib.hid (by rw [beq_self_eq_true]; exact HF.out)
    go_wp2_with (fail)
    go_ret
    exact HF.out
  by_cases k5 : kd = 5
  · subst k5
    clear k1 k2 k3 k4
    obtain ⟨f1, f2, f3⟩ := HI.out.flushes
    have hfl := own_flush HBX.out HI.out.pw HB24.out
    rw [f2] at hfl
    have HFL2 := Lib.hid hfl
    have HF1 := Lib.hid f1
    have HF3 := Lib.hid f3
    clear f1 f2 f3 hfl
    go_enter Try.func71, Try.ntmps71
    go_wp2_with (fail)
    refine HFL2.out.mono ?_
    rintro e w5 ⟨rfl, ⟨us', hO5⟩, -⟩
    rw [← HF3.out] at hO5
    have HF := Lib.hid (HRES.out _ B us' w5 HF1.out hO5 (Nat.le_trans (len_flushes C S) (by have := HFL.out; omega)) (by rw [HF3.out]))
    clear hO5
    go_wp2_with (fail)
    go_ret
    exact HF.out
  by_cases k6 : kd = 6
  · subst k6
    clear k1 k2 k3 k4 k5
    obtain ⟨f1, f2, f3⟩ := HI.out.flushes
    have hfl := own_flush HBX.out HI.out.pw HB24.out
    rw [f2] at hfl
    have hfln := len_flushes C S
    have HFL2 := Lib.hid hfl
    have HF1 := Lib.hid f1
    have HF3 := Lib.hid f3
    have HFN := Lib.hid hfln
    clear f1 f2 f3 hfl hfln
    go_enter Try.func71, Try.ntmps71
    go_wp2_with (fail)
    refine HFL2.out.mono ?_
    rintro e w5 ⟨rfl, ⟨us', hO5⟩, -⟩
    rw [← HF3.out] at hO5
    generalize (S.flush C).1 = S5 at HF1 HF3 HFN hO5
    obtain ⟨s1, s2⟩ := HF1.out.synced
    have hsy := own_sync hO5 4 rfl (by have := HFN.out; have := HLN.out; have := HFL.out; unfold PS.len at *; unfold Big; omega)
    rw [s1] at hsy
    have HSY := Lib.hid hsy
    have HS2 := Lib.hid s2
    clear hO5 hsy s1 s2
    go_wp2_with (fail)
    refine HSY.out.mono ?_
    rintro e w6 ⟨rfl, hO6, -⟩
    have hO6 : Owns w0 (pth C { S5 with D := S5.D.sync } us' (rth R S5.is B (row w.heap.size #[.int .i64 6, .int .i64 pn, .int .i64 pm] 102 (by decide) :: l))) w6 := hO6
    have hst := own_psettle hO6 (by show S5.is.length ≤ _; have := HISL.out; rw [HF3.out]; omega)
    have HST := Lib.hid hst
    clear hO6 hst
    go_wp2_with (fail)
    refine HST.out.mono ?_
    rintro e w7 ⟨rfl, hO7, -⟩
    have hrs := own_rsettle (own_flip hO7) (by have := HISL.out; rw [HF3.out]; omega)
    have HRS := Lib.hid hrs
    clear hO7 hrs
    go_wp2_with (fail)
    refine HRS.out.mono ?_
    rintro e w8 ⟨rfl, hO8, -⟩
    have hal : S5.D.sync.all = S5.D.all := HF1.out.calm.sync.2.2.2
    have HF := Lib.hid (HRES.out { S5 with D := S5.D.sync, is := settle S5.is } B us' w8 HS2.out.settled (own_flop hO8) (by show S5.D.sync.all.length ≤ _; rw [hal]; have := HFN.out; have := HFL.out; unfold PS.len at *; omega) (by show (settle S5.is).length = _; rw [← HF3.out]; simp [settle]))
    clear hO8 hal
    go_wp2_with (fail)
    go_ret
    exact HF.out
  · have q1 : (kd == 1) = false := by rw [beq_eq_false_iff_ne]; exact k1
    have q2 : (kd == 2) = false := by rw [beq_eq_false_iff_ne]; exact k2
    have q3 : (kd == 3) = false := by rw [beq_eq_false_iff_ne]; exact k3
    have q4 : (kd == 4) = false := by rw [beq_eq_false_iff_ne]; exact k4
    have q5 : (kd == 5) = false := by rw [beq_eq_false_iff_ne]; exact k5
    have q6 : (kd == 6) = false := by rw [beq_eq_false_iff_ne]; exact k6
    have HF := Lib.hid (HRES.out S B us _ HI.out HBX.out (by omega) rfl)
    clear k1 k2 k3 k4 k5 k6
    go_enter Try.func71, Try.ntmps71
    go_wp2_with (fail)
    go_ret
    exact HF.out
end

end Go.Proofs.Ytkpoladbabhdmaa
