/- Save of the program's meta. Conditions: as each says. -/
import Derived.Test.YtkpoladbabhdmaaMeta5
import Derived.Test.YtkpoladbabhdmaaRefO
namespace Go.Proofs.Ytkpoladbabhdmaa
open Go.RowKit

/-- the write of a Save, and all of it -/
def Dk.saveW (D : Dk) (G : Int) (p : Bytes) : Dk := D.sync.write (G % 2) (headSec G p)
def Dk.saveE (D : Dk) (G : Int) (p : Bytes) : Int :=
  if D.size < 2 ∨ G = 0 then 1 else if 200 < p.length then 3 else
    if D.syncE ≠ 0 then 7 else if D.sync.writeE (G % 2) (headSec G p) ≠ 0 then 7 else if (D.saveW G p).syncE ≠ 0 then 7 else 0
def Dk.saved (D : Dk) (G : Int) (p : Bytes) : Dk :=
  if D.size < 2 ∨ G = 0 then D else if 200 < p.length then D else
    if D.syncE ≠ 0 then D.sync else if D.sync.writeE (G % 2) (headSec G p) ≠ 0 then D.saveW G p else (D.saveW G p).sync

theorem Dk.syncE_or (D : Dk) : D.syncE = 0 ∨ D.syncE = 7 := by
  unfold Dk.syncE
  split
  · exact .inr rfl
  · split
    · exact .inl rfl
    · exact .inr rfl
theorem Dk.burnt_down {D : Dk} (h : D.burns = true) (hd : D.down = false) : D.burnt.down = false := by
  unfold Dk.burns at h
  have h0 : ¬ D.fuse = 0 := by simpa using h
  unfold Dk.burnt
  rw [if_neg h0]
  split <;> exact hd
theorem Dk.sync_up {D : Dk} (h : D.syncE = 0) : D.sync.down = false ∧ D.sync.size = D.size := by
  unfold Dk.syncE at h
  unfold Dk.sync
  split at h
  · cases h
  · rename_i hd
    split at h
    · rename_i hb
      rw [if_neg hd, if_pos hb]
      exact ⟨Dk.burnt_down hb (by simpa using hd), D.burnt_size⟩
    · cases h
theorem Dk.writeE_or {D : Dk} {n : Int} {l : Bytes} (hd : D.down = false) (h0 : 0 ≤ n) (h1 : n < D.size) (hl : l.length = 256) : D.writeE n l = 0 ∨ D.writeE n l = 7 := by
  have ho : D.okArg n l = true := by simp [Dk.okArg, h0, h1, hl]
  unfold Dk.writeE
  rw [hd, ho]
  simp only [Bool.false_eq_true, if_false, if_true]
  split
  · exact .inl rfl
  · exact .inr rfl

/-- bytes that last whatever our own things do -/
def Lasting (w0 w : World) (v : Value) (p : Bytes) : Prop := ∀ w' l', Owns w0 l' w' → Keeps w w' → BytesV w' v p

set_option maxRecDepth 100000 in
set_option maxHeartbeats 4000000 in
theorem own_save_up {w0 w : World} {l : List Thing} {b : Nat} {D : Dk} (h : Owns w0 l w) (i : Nat) (hi : l[i]? = some (disk b D)) {v : Value} {p : Bytes} (hv : Lasting w0 w v p) {G : Int} (h0 : 0 ≤ G) (h1 : G < 18446744073709551616) (hlen : D.all.length + 1 < Big)
    (hok : D.syncE = 0 ∧ (2 ≤ D.size → p.length ≤ 200 → D.sync.writeE (G % 2) (headSec G p) = 0)) :
    Calls Try.prog 37 #[.pointer (some ⟨b, 0, none⟩), .agg #[.int .u64 G, v]] w (Gives (.int .i64 (D.saveE G p)) w0 (l.set i (disk b (D.saved G p))) w) := by
  obtain ⟨pa, pc, rfl, _, hpm⟩ := (hv w l h (Keeps.refl w)).shape
  have hR := own_row_new h #[.int .u64 G, .slice pa p.length pc] 60 (by decide)
  have hk1 : Keeps w (w.alloc (.cells #[.int .u64 G, .slice pa p.length pc] 60)) := ((Upd.refl [] w).alloc _).keeps
  have hi1 : (row w.heap.size #[.int .u64 G, .slice pa p.length pc] 60 (by decide) :: l)[i + 1]? = some (disk b D) := by simpa using hi
  have hpl : p.length ≤ 9223372036854775807 := by unfold maxLen at hpm; omega
  have hil : i < l.length := (List.getElem?_eq_some_iff.1 hi).1
  have hsame : l.set i (disk b D) = l := List.ext_getElem? fun j => by
    rw [List.getElem?_set]; split
    · rename_i hij; subst hij; exact hi.symm
    · rfl
  have hdrop : ∀ c L w', Owns w0 (row w.heap.size c 60 (by decide) :: L) w' → Owns w0 L w' := fun c L w' h => h.pick (fun i => i + 1) (by intro i T h; simpa using h) (by intro i j _ _ h; omega)
  have hcell : ∀ L w', Owns w0 (row w.heap.size #[.int .u64 G, .slice pa p.length pc] 60 (by decide) :: L) w' → w'.cell? ⟨w.heap.size, 0, none⟩ = some (.int .u64 G) ∧ w'.cell? ⟨w.heap.size, 1, none⟩ = some (.slice pa p.length pc) ∧ w.heap.size < w'.heap.size :=
    fun L w' h => ⟨cell_of_heap (own_row h 0 rfl) rfl, cell_of_heap (own_row h 0 rfl) rfl, lt_of_heap (own_row h 0 rfl)⟩
  have HR := Lib.hid hR
  have HK1 := Lib.hid hk1
  have HI1 := Lib.hid hi1
  have HS := Lib.hid hsame
  have HDR := Lib.hid hdrop
  have HC := Lib.hid hcell
  have HV := Lib.hid hv
  have HL := Lib.hid hlen
  have HOK := Lib.hid hok
  clear hok hR hk1 hi1 hsame hdrop hcell hv hlen h
  by_cases hbad : D.size < 2 ∨ G = 0
  · have hE : D.saveE G p = 1 := by simp only [Dk.saveE, if_pos hbad]
    have hF : Gives (.int .i64 (D.saveE G p)) w0 (l.set i (disk b (D.saved G p))) w (.returned (.int .i64 1)) (w.alloc (.cells #[.int .u64 G, .slice pa p.length pc] 60)) := by
      refine ⟨by rw [hE], ?_, HK1.out⟩
      simp only [Dk.saved, if_pos hbad]
      rw [HS.out]; exact HDR.out _ _ _ HR.out
    have HF := Lib.hid hF
    clear hF hE
    by_cases hs : D.size < 2
    · clear hbad
      go_enter Try.func37, Try.ntmps37
      go_wp2_with (fail)
      refine (own_size HR.out (i + 1) HI1.out).mono ?_
      rintro e w' ⟨rfl, rfl⟩
      go_wp2_with (fail)
      go_ret
      exact HF.out
    · obtain rfl : G = 0 := by rcases hbad with h | h; exact absurd h hs; exact h
      clear hbad
      go_enter Try.func37, Try.ntmps37
      go_wp2_with (fail)
      refine (own_size HR.out (i + 1) HI1.out).mono ?_
      rintro e w' ⟨rfl, rfl⟩
      go_wp2_with (fail)
      go_ret
      exact HF.out
  · have hs : 2 ≤ D.size := by omega
    have hG0 : (G == 0) = false := by rw [beq_eq_false_iff_ne]; omega
    by_cases hlong : 200 < p.length
    · have hF : Gives (.int .i64 (D.saveE G p)) w0 (l.set i (disk b (D.saved G p))) w (.returned (.int .i64 3)) (w.alloc (.cells #[.int .u64 G, .slice pa p.length pc] 60)) := by
        refine ⟨by simp only [Dk.saveE, if_neg hbad, if_pos hlong], ?_, HK1.out⟩
        simp only [Dk.saved, if_neg hbad, if_pos hlong]
        rw [HS.out]; exact HDR.out _ _ _ HR.out
      have HF := Lib.hid hF
      clear hF hbad
      go_enter Try.func37, Try.ntmps37
      go_wp2_with (fail)
      refine (own_size HR.out (i + 1) HI1.out).mono ?_
      rintro e w' ⟨rfl, rfl⟩
      go_wp2_with (fail)
      go_ret
      exact HF.out
    · have hsh : p.length ≤ 200 := by omega
      have HBD := Lib.hid hbad
      have HLG := Lib.hid hlong
      clear hbad hlong
      go_enter Try.func37, Try.ntmps37
      go_wp2_with (fail)
      refine (own_size HR.out (i + 1) HI1.out).mono ?_
      rintro e w' ⟨rfl, rfl⟩
      go_wp2_with (fail)
      generalize w.alloc (.cells #[.int .u64 G, .slice pa p.length pc] 60) = w1 at HR HK1 ⊢
      have hOd := HR.out.upd (Upd.refl [] w1).drew
      obtain ⟨c0, c1, hlt⟩ := HC.out _ _ HR.out
      have hkd : Keeps w w1.drew := HK1.out.trans ((Upd.refl [] w1).drew).keeps
      have hc2 : ∀ L w', Owns w0 (row w.heap.size #[.int .u64 G, .slice pa p.length pc] 60 (by decide) :: L) w' → w'.cell? ⟨w.heap.size, 0, none⟩ = some (.int .u64 G) ∧ w'.cell? ⟨w.heap.size, 1, none⟩ = some (.slice pa p.length pc) := fun L w' h => ⟨(HC.out L w' h).1, (HC.out L w' h).2.1⟩
      have HC2 := Lib.hid hc2
      have HOD := Lib.hid hOd
      have HKD := Lib.hid hkd
      clear hc2 hOd hkd
      have hiS : ∀ X, (row w.heap.size #[.int .u64 G, .slice pa p.length pc] 60 (by decide) :: l.set i (disk b X))[i + 1]? = some (disk b X) := fun X => by
        rw [List.getElem?_cons_succ, List.getElem?_set, if_pos rfl, if_pos hil]
      have HIS := Lib.hid hiS
      have hl1 : D.all.length < Big := by have := HL.out; omega
      have hl2 : D.sync.all.length < Big := by rw [Dk.sync_len]; omega
      have hl3 : (D.saveW G p).all.length < Big := by
        have := Dk.write_len D.sync (G % 2) (headSec G p)
        rw [Dk.sync_len] at this
        have h2 := HL.out
        show (D.sync.write (G % 2) (headSec G p)).all.length < Big
        omega
      have HL1 := Lib.hid hl1
      have HL2 := Lib.hid hl2
      have HL3 := Lib.hid hl3
      clear hl1 hl2 hl3 hiS
      have hwm : IntKind.i64.wrap (G.tmod 2) = G % 2 := by rw [Int.tmod_eq_emod_of_nonneg h0, IntKind.wrap_i64]; omega
      have HWM := Lib.hid hwm
      clear hwm
      by_cases e1 : D.syncE = 0
      · by_cases e2 : D.sync.writeE (G % 2) (headSec G p) = 0
        · by_cases e3 : (D.saveW G p).syncE = 0
          · have E1 := Lib.hid e1
            have E2 := Lib.hid (show D.sync.writeE (IntKind.i64.wrap (G.tmod 2)) (headSec G p) = 0 from by rw [HWM.out]; exact e2)
            have E3 := Lib.hid e3
            clear e1 e2 e3
            go_region_held3 (fun w' => w'.cell? ⟨w.heap.size, 0, none⟩ = some (.int .u64 G) ∧ w'.cell? ⟨w.heap.size, 1, none⟩ = some (.slice pa p.length pc)) (first | exact ⟨c0, c1⟩ | exact HC2.out _ _ (by assumption))
              (first | (go_at_call 24; have hO4' := hO4; go_must (refine (own_sync hO4' (i + 1) (HIS.out _) HL3.out).mono ?_; rw [E3.out]; rintro e w5 ⟨rfl, hO5, hk5⟩)) | (go_at_call 24; refine (own_sync HOD.out (i + 1) HI1.out HL1.out).mono ?_; rw [E1.out]; rintro e w2 ⟨rfl, hO2, hk2⟩; have hO2 : Owns w0 (row w.heap.size #[.int .u64 G, .slice pa p.length pc] 60 (by decide) :: l.set i (disk b D.sync)) w2 := hO2) | (go_at_call 81; refine (own_bytes hO2 (sector8_any (HV.out w2 _ (HDR.out _ _ _ hO2) (HKD.out.trans hk2)) hsh)).mono ?_; rintro e w3 ⟨v3, rfl, hb3, hO3, hk3, -⟩; obtain ⟨a3, k3, rfl, _, _⟩ := hb3.view.shape) | (go_at_call 22; go_must (refine (own_write hO3 (i + 1) (HIS.out _) hb3 HL2.out).mono ?_; rw [E2.out]; rintro e w4 ⟨rfl, hO4, hk4⟩; rw [List.set_cons_succ, List.set_set, HWM.out] at hO4; have hO4 : Owns w0 (row w.heap.size #[.int .u64 G, .slice pa p.length pc] 60 (by decide) :: l.set i (disk b (D.saveW G p))) w4 := hO4)))
            have hO5 : Owns w0 (row w.heap.size #[.int .u64 G, .slice pa p.length pc] 60 (by decide) :: l.set i (disk b (D.saveW G p).sync)) w5 := by rw [List.set_cons_succ, List.set_set] at hO5; exact hO5
            have hF : Gives (.int .i64 (D.saveE G p)) w0 (l.set i (disk b (D.saved G p))) w (.returned (.int .i64 0)) w5 := by
              have e2 := E2.out
              rw [HWM.out] at e2
              refine ⟨by simp only [Dk.saveE, if_neg HBD.out, if_neg HLG.out, E1.out, e2, E3.out]; simp, ?_, HKD.out.trans (hk2.trans (hk3.trans (hk4.trans hk5)))⟩
              have es : D.saved G p = (D.saveW G p).sync := by simp only [Dk.saved, if_neg HBD.out, if_neg HLG.out, E1.out, e2]; simp
              rw [es]; exact HDR.out _ _ _ hO5
            have HF := Lib.hid hF
            clear hF hO2 hO3 hO4 hO5 hb3
            go_wp2_with (fail)
            go_ret
            exact HF.out
          · have e3 : (D.saveW G p).syncE = 7 := by rcases (D.saveW G p).syncE_or with h | h; exact absurd h e3; exact h
            have E1 := Lib.hid e1
            have E2 := Lib.hid (show D.sync.writeE (IntKind.i64.wrap (G.tmod 2)) (headSec G p) = 0 from by rw [HWM.out]; exact e2)
            have E3 := Lib.hid e3
            clear e1 e2 e3
            go_region_held3 (fun w' => w'.cell? ⟨w.heap.size, 0, none⟩ = some (.int .u64 G) ∧ w'.cell? ⟨w.heap.size, 1, none⟩ = some (.slice pa p.length pc)) (first | exact ⟨c0, c1⟩ | exact HC2.out _ _ (by assumption))
              (first | (go_at_call 24; have hO4' := hO4; go_must (refine (own_sync hO4' (i + 1) (HIS.out _) HL3.out).mono ?_; rw [E3.out]; rintro e w5 ⟨rfl, hO5, hk5⟩)) | (go_at_call 24; refine (own_sync HOD.out (i + 1) HI1.out HL1.out).mono ?_; rw [E1.out]; rintro e w2 ⟨rfl, hO2, hk2⟩; have hO2 : Owns w0 (row w.heap.size #[.int .u64 G, .slice pa p.length pc] 60 (by decide) :: l.set i (disk b D.sync)) w2 := hO2) | (go_at_call 81; refine (own_bytes hO2 (sector8_any (HV.out w2 _ (HDR.out _ _ _ hO2) (HKD.out.trans hk2)) hsh)).mono ?_; rintro e w3 ⟨v3, rfl, hb3, hO3, hk3, -⟩; obtain ⟨a3, k3, rfl, _, _⟩ := hb3.view.shape) | (go_at_call 22; go_must (refine (own_write hO3 (i + 1) (HIS.out _) hb3 HL2.out).mono ?_; rw [E2.out]; rintro e w4 ⟨rfl, hO4, hk4⟩; rw [List.set_cons_succ, List.set_set, HWM.out] at hO4; have hO4 : Owns w0 (row w.heap.size #[.int .u64 G, .slice pa p.length pc] 60 (by decide) :: l.set i (disk b (D.saveW G p))) w4 := hO4)))
            have hO5 : Owns w0 (row w.heap.size #[.int .u64 G, .slice pa p.length pc] 60 (by decide) :: l.set i (disk b (D.saveW G p).sync)) w5 := by rw [List.set_cons_succ, List.set_set] at hO5; exact hO5
            have hF : Gives (.int .i64 (D.saveE G p)) w0 (l.set i (disk b (D.saved G p))) w (.returned (.int .i64 7)) w5 := by
              have e2 := E2.out
              rw [HWM.out] at e2
              refine ⟨by simp only [Dk.saveE, if_neg HBD.out, if_neg HLG.out, E1.out, e2, E3.out]; simp, ?_, HKD.out.trans (hk2.trans (hk3.trans (hk4.trans hk5)))⟩
              have es : D.saved G p = (D.saveW G p).sync := by simp only [Dk.saved, if_neg HBD.out, if_neg HLG.out, E1.out, e2]; simp
              rw [es]; exact HDR.out _ _ _ hO5
            have HF := Lib.hid hF
            clear hF hO2 hO3 hO4 hO5 hb3
            go_wp2_with (fail)
            go_ret
            exact HF.out
        · exact absurd (HOK.out.2 hs hsh) e2
      · exact absurd HOK.out.1 e1

end Go.Proofs.Ytkpoladbabhdmaa
