/- The pages' lost, of, drop. Conditions: as each says. -/
import Derived.Test.YtkpoladbabhdmaaPg1
namespace Go.Proofs.Ytkpoladbabhdmaa
open Go.RowKit
open Go.ChangeMaps (setBlock)

section
variable {w0 w : World} {l : List Thing} {C : PC} {S : PS} {us : Value}

/-- the cells of the pages' own block -/
theorem own_pg (h : Owns w0 (pth C S us l) w) : w.cell? ⟨C.p, 0, none⟩ = some (.pointer (some ⟨C.d, 0, none⟩)) ∧ w.cell? ⟨C.p, 1, none⟩ = some (.int .i64 (C.from_ : Int)) ∧ w.cell? ⟨C.p, 2, none⟩ = some (.int .i64 (C.pool : Int)) ∧
    w.cell? ⟨C.p, 3, none⟩ = some (.slice (some ⟨C.isb, 0, none⟩) S.is.length S.is.length) ∧ w.cell? ⟨C.p, 4, none⟩ = some (.map (some C.mb)) ∧ w.cell? ⟨C.p, 5, none⟩ = some us ∧ w.cell? ⟨C.p, 6, none⟩ = some (.bool S.over) ∧ C.p < w.heap.size := by
  have h1 := own_row h 0 rfl
  exact ⟨cell_of_heap h1 rfl, cell_of_heap h1 rfl, cell_of_heap h1 rfl, cell_of_heap h1 rfl, cell_of_heap h1 rfl, cell_of_heap h1 rfl, cell_of_heap h1 rfl, lt_of_heap h1⟩
theorem own_pgfree (h : Owns w0 (pth C S us l) w) (o : Nat) : w.frozen? ⟨C.p, o, none⟩ = false := free_of_heap (own_row h 0 rfl)

/-- what a page is -/
def PS.at_ (S : PS) (n : Int) : Int := if 0 ≤ n ∧ n < (S.is.length : Int) then S.is.getD n.toNat 0 else 0

theorem own_is (h : Owns w0 (pth C S us l) w) {k : Nat} {x : Int} (hx : S.is[k]? = some x) : w.cell? ⟨C.isb, k, none⟩ = some (.int .i64 x) := by
  have h1 := own_row h 1 rfl
  exact cell_of_heap h1 (by simp [hx, gint])

set_option maxRecDepth 100000 in
theorem own_lost (h : Owns w0 (pth C S us l) w) : Calls Try.prog 94 #[.pointer (some ⟨C.p, 0, none⟩)] w fun e w' => e = .returned (.bool S.over) ∧ w = w' := by
  obtain ⟨-, -, -, -, -, -, h6, -⟩ := own_pg h
  clear h
  go_enter Try.func94, Try.ntmps94
  go_wp2_with (fail)
  go_ret
  exact ⟨rfl, rfl⟩

set_option maxRecDepth 100000 in
theorem lost_nil (w : World) : Calls Try.prog 94 #[.pointer none] w fun e w' => e = .returned (.bool true) ∧ w = w' := by
  go_enter Try.func94, Try.ntmps94
  go_wp2_with (fail)
  go_ret
  exact ⟨rfl, rfl⟩

set_option maxRecDepth 100000 in
set_option maxHeartbeats 1000000 in
theorem own_of (h : Owns w0 (pth C S us l) w) (n : Int) : Calls Try.prog 97 #[.pointer (some ⟨C.p, 0, none⟩), .int .i64 n] w fun e w' => e = .returned (.int .i64 (S.at_ n)) ∧ w = w' := by
  obtain ⟨-, -, -, h3, -, -, -, -⟩ := own_pg h
  by_cases h0 : 0 ≤ n
  · by_cases h1 : n < (S.is.length : Int)
    · obtain ⟨k, rfl⟩ : ∃ k : Nat, n = (k : Int) := ⟨n.toNat, by omega⟩
      have hk : k < S.is.length := by omega
      obtain ⟨x, hx⟩ : ∃ x, S.is[k]? = some x := ⟨_, List.getElem?_eq_getElem hk⟩
      have hc := own_is h hx
      have ha : S.at_ (k : Int) = x := by
        unfold PS.at_
        rw [if_pos ⟨by omega, by omega⟩]
        simp [List.getD, hx]
      have HA := Lib.hid ha
      clear h ha hx
      go_enter Try.func97, Try.ntmps97
      go_wp2_with (fail)
      go_ret
      exact ⟨by rw [HA.out]; rfl, rfl⟩
    · have ha : S.at_ n = 0 := by unfold PS.at_; rw [if_neg (by omega)]
      have HA := Lib.hid ha
      clear h ha
      go_enter Try.func97, Try.ntmps97
      go_wp2_with (fail)
      go_ret
      exact ⟨by rw [HA.out]; rfl, rfl⟩
  · have ha : S.at_ n = 0 := by unfold PS.at_; rw [if_neg (by omega)]
    have HA := Lib.hid ha
    clear h ha
    go_enter Try.func97, Try.ntmps97
    go_wp2_with (fail)
    go_ret
    exact ⟨by rw [HA.out]; rfl, rfl⟩

def PS.drop (S : PS) (k : Int) : PS := { S with fs := fdrop S.fs k }
/-- the frames that a drop lets go -/
def fgone (fs : List Fr) (k : Int) : List Fr := fs.filter fun f => decide ((f.n : Int) = k)

/-- frames with other numbers: nothing is dropped -/
theorem fdrop_none {fs : List Fr} {k : Int} (h : fmap fs k = none) : fdrop fs k = fs ∧ fgone fs k = [] := by
  have := fmap_none h
  constructor
  · unfold fdrop; rw [List.filter_eq_self]; intro f hf; simpa using this f hf
  · unfold fgone; rw [List.filter_eq_nil_iff]; intro f hf; simpa using this f hf

theorem fdrop_at {fs : List Fr} {k : Int} (hn : FNodup fs) {j : Nat} {f : Fr} (hj : fs[j]? = some f) (hf : (f.n : Int) = k) : fdrop fs k = fs.eraseIdx j ∧ fgone fs k = [f] := by
  induction fs generalizing j with
  | nil => simp at hj
  | cons g fs ih =>
    unfold FNodup at hn
    rw [List.map_cons, List.nodup_cons] at hn
    cases j with
    | zero =>
      simp only [List.getElem?_cons_zero, Option.some.injEq] at hj
      subst hj
      have hno : ∀ x ∈ fs, (x.n : Int) ≠ k := by
        intro x hx he
        refine hn.1 (List.mem_map.2 ⟨x, hx, ?_⟩)
        omega
      constructor
      · unfold fdrop
        rw [List.filter_cons, if_neg (by simpa using hf), List.eraseIdx_zero]
        show List.filter _ fs = fs
        rw [List.filter_eq_self]; intro x hx; simpa using hno x hx
      · unfold fgone
        rw [List.filter_cons, if_pos (by simpa using hf)]
        congr 1
        rw [List.filter_eq_nil_iff]; intro x hx; simpa using hno x hx
    | succ j =>
      simp only [List.getElem?_cons_succ] at hj
      have hg : (g.n : Int) ≠ k := by
        intro he
        refine hn.1 (List.mem_map.2 ⟨f, List.mem_of_getElem? hj, ?_⟩)
        omega
      obtain ⟨i1, i2⟩ := ih hn.2 hj
      constructor
      · unfold fdrop at i1 ⊢
        rw [List.filter_cons, if_pos (by simpa using hg), i1]; rfl
      · unfold fgone at i2 ⊢
        rw [List.filter_cons, if_neg (by simpa using hg), i2]

theorem usedOf_erase (fs : List Fr) (j : Nat) : usedOf (fs.eraseIdx j) = (usedOf fs).eraseIdx j := by
  unfold usedOf
  induction fs generalizing j with
  | nil => rfl
  | cons f fs ih => cases j with
    | zero => rfl
    | succ j => simp [List.eraseIdx_cons_succ, ih]

theorem frames_perm (fs : List Fr) (k : Int) (l : List Thing) : (fs.map frameT ++ l).Perm ((fdrop fs k).map frameT ++ ((fgone fs k).map frameT ++ l)) := by
  rw [← List.append_assoc, ← List.map_append]
  refine List.Perm.append_right l (List.Perm.map frameT ?_)
  have h := (List.filter_append_perm (fun f : Fr => decide ((f.n : Int) ≠ k)) fs).symm
  have e : fgone fs k = fs.filter fun f => !decide ((f.n : Int) ≠ k) := by
    unfold fgone
    congr 1
    funext f
    simp
  rw [e]
  exact h

/-- what a drop leaves -/
def Drops (C : PC) (S : PS) (k : Int) (w0 : World) (l : List Thing) (w : World) (e : Ending) (w' : World) : Prop :=
  e = .returned (.tuple #[]) ∧ (∃ us', Owns w0 (pth C (S.drop k) us' ((fgone S.fs k).map frameT ++ l)) w') ∧ Keeps w w'

set_option maxRecDepth 100000 in
set_option maxHeartbeats 2000000 in
theorem own_pdrop (h : Owns w0 (pth C S us l) w) (hn : FNodup S.fs) (hl : S.fs.length ≤ 1000) (k : Int) : Calls Try.prog 98 #[.pointer (some ⟨C.p, 0, none⟩), .int .i64 k] w (Drops C S k w0 l w) := by
  obtain ⟨-, -, -, -, h4, h5, -, hlt⟩ := own_pg h
  have hz5 := own_pgfree h 5
  obtain ⟨es, c, g1, g2⟩ := own_map h 2 rfl
  have hz : ∀ w, (zeroValue 156).run Try.prog w = .ok (.pointer none) w := fun w => by kernel_rfl
  have hlook := run_look (P := Try.prog) Try.underlying150 Try.underlying3 (hz w) g1 g2 k true
  rcases hlook with ⟨hno, hrun⟩ | ⟨v, b, hso, hv, hrun⟩
  · obtain ⟨d1, d2⟩ := fdrop_none hno
    have hF : Drops C S k w0 l w (.returned (.tuple #[])) w := ⟨rfl, ⟨us, by unfold PS.drop; rw [d1, d2]; exact h⟩, Keeps.refl w⟩
    have HF := Lib.hid hF
    simp only [if_true] at hrun
    clear hF h hno g1 g2 d1 d2
    go_enter Try.func98, Try.ntmps98
    go_wp2_with (fail)
    go_end0
    exact HF.out
  · obtain ⟨j, f, q1, q2, q3, q4⟩ := fmap_some hso
    obtain ⟨d1, d2⟩ := fdrop_at hn q1 q2
    have hj := (List.getElem?_eq_some_iff.1 q1).1
    simp only [if_true] at hrun
    have hjk : (usedOf S.fs)[j]? = some k := by unfold usedOf; rw [List.getElem?_map, q1, ← q2]; rfl
    rcases (own_ints h 3 rfl).block with ⟨_, h0⟩ | ⟨ug, uc, cur, hus, _, _, hum, _, _⟩
    · rw [h0] at hjk; simp at hjk
    rw [usedOf_len] at hus
    subst hus
    have hidx := index_any (w := w) (g := ug) (cap := uc) (usedOf_len S.fs) (by omega) (fun j y hy => (own_ints h 3 rfl).cell hy) k
    have hr : ∀ r, IdxOf (usedOf S.fs) k r → r = (j : Int) := by
      intro r hr
      rcases hr with ⟨m, rfl, m1, m2⟩ | ⟨_, m2⟩
      · rcases Nat.lt_trichotomy m j with hlt' | rfl | hgt
        · exfalso
          obtain ⟨x, hx⟩ : ∃ x, S.fs[m]? = some x := ⟨_, List.getElem?_eq_getElem (by omega)⟩
          refine q4 m x hlt' hx ?_
          unfold usedOf at m1
          rw [List.getElem?_map, hx] at m1
          simpa using m1
        · rfl
        · exact absurd hjk (m2 j hgt)
      · exact absurd hjk (m2 j)
    have hdel := own_delete h 3 rfl (k := j) (by rw [usedOf_len]; exact hj)
    have hmap : MOk PtrV es c (fmap S.fs) := g2
    have H := Lib.hid h
    have HI := Lib.hid hidx
    have HR := Lib.hid hr
    have HD := Lib.hid hdel
    have HD1 := Lib.hid d1
    have HD2 := Lib.hid d2
    have hji : (j : Int) + 1 ≤ 9223372036854775807 := by omega
    clear h hidx hr hdel d1 d2 q1 q2 q3 q4 hso hv g1 g2 hmap hjk hum
    go_enter Try.func98, Try.ntmps98
    go_wp2_with (fail)
    refine HI.out.mono ?_
    rintro e w' ⟨⟨r, rfl, hr⟩, rfl⟩
    obtain rfl := HR.out r hr
    clear hr
    go_wp2_with (fail)
    refine HD.out.mono ?_
    rintro e w2 ⟨ua, uc2, rfl, hO2, hk2⟩
    have hO2 : Owns w0 (row C.p (pgcells C S (.slice (some ⟨ug, 0, none⟩) S.fs.length uc)) 152 (by decide) :: row C.isb (S.is.map gint).toArray 153 (by decide) :: mapT C.mb S.fs :: intsT (.slice ua ((usedOf S.fs).eraseIdx j).length uc2) ((usedOf S.fs).eraseIdx j) :: disk C.d S.D :: (S.fs.map frameT ++ l)) w2 := hO2
    have c5 : w2.cell? ⟨C.p, 5, none⟩ = some (.slice (some ⟨ug, 0, none⟩) S.fs.length uc) := cell_of_heap (own_row hO2 0 rfl) (o := 5) rfl
    have c4 : w2.cell? ⟨C.p, 4, none⟩ = some (.map (some C.mb)) := cell_of_heap (own_row hO2 0 rfl) (o := 4) rfl
    have z5 := free_of_heap (own_row hO2 0 rfl) (o := 5)
    have hlt2 := lt_of_heap (own_row hO2 0 rfl)
    have hO3 : Owns w0 (row C.p (pgcells C S (.slice ua ((usedOf S.fs).eraseIdx j).length uc2)) 152 (by decide) :: row C.isb (S.is.map gint).toArray 153 (by decide) :: mapT C.mb S.fs :: intsT (.slice ua ((usedOf S.fs).eraseIdx j).length uc2) ((usedOf S.fs).eraseIdx j) :: disk C.d S.D :: (S.fs.map frameT ++ l)) (w2.setCell ⟨C.p, 5, none⟩ (.slice ua ((usedOf S.fs).eraseIdx j).length uc2)) := own_row_set hO2 0 rfl 5 _
    obtain ⟨es3, c3, g1, g2⟩ := own_map hO3 2 rfl
    obtain ⟨es4, hdr, g3, -⟩ := run_del (P := Try.prog) (ats := #[150, 3]) rfl Try.underlying150 Try.underlying3 g1 g2 k 0
    have hd1' := HD1.out
    have hd2' := HD2.out
    obtain ⟨hO4, hk4⟩ := own_map_set hO3 2 rfl (fs' := fdrop S.fs k) (by rw [fmap_drop]; exact g3)
    have hO4 : Owns w0 ([row C.p (pgcells C S (.slice ua ((usedOf S.fs).eraseIdx j).length uc2)) 152 (by decide), row C.isb (S.is.map gint).toArray 153 (by decide), mapT C.mb (fdrop S.fs k), intsT (.slice ua ((usedOf S.fs).eraseIdx j).length uc2) ((usedOf S.fs).eraseIdx j), disk C.d S.D] ++ (S.fs.map frameT ++ l)) _ := hO4
    have hO5 := hO4.perm (frames_perm S.fs k l)
    rw [← usedOf_erase, ← hd1'] at hO5
    have hk3 : Keeps w2 (w2.setCell ⟨C.p, 5, none⟩ (.slice ua ((usedOf S.fs).eraseIdx j).length uc2)) := by
      have := own_row hO2 0 rfl
      exact ((Upd.refl [C.p] w2).setCell (o := 5) (.slice ua ((usedOf S.fs).eraseIdx j).length uc2) (.inl (by simp)) (.inr (by intro c fz; rw [this]; simp))).keeps
    have hF : Drops C S k w0 l w (.returned (.tuple #[])) (setBlock (w2.setCell ⟨C.p, 5, none⟩ (.slice ua ((usedOf S.fs).eraseIdx j).length uc2)) C.mb (.map es4 c3)) := by
      refine ⟨rfl, ⟨.slice ua ((usedOf S.fs).eraseIdx j).length uc2, ?_⟩, hk2.trans (hk3.trans hk4)⟩
      rw [← usedOf_erase, ← hd1']
      exact hO5
    have HF := Lib.hid hF
    clear hF hO5 hO4 hk4 hk3 hO3 hO2 hk2 hd1' hd2' g1 g2 g3
    go_wp2_with (fail)
    go_end0
    exact HF.out
end

end Go.Proofs.Ytkpoladbabhdmaa
