/- The pages' Put, Free. Conditions: as each says. -/
import Derived.Test.YtkpoladbabhdmaaPg6
namespace Go.Proofs.Ytkpoladbabhdmaa
open Go.RowKit

theorem BytesO.inp {w : World} {v : Value} {l : Bytes} (h : BytesO w v l) : InBytes w v := by
  intro g hg
  rcases h.2 with ⟨rfl, _⟩ | ⟨g', cap, cur, rfl, _, hgg, _⟩
  · cases hg
  · cases hg; exact ⟨_, _, hgg⟩

section
variable {w0 w : World} {l : List Thing} {C : PC} {S : PS} {us : Value}

theorem at_nat {n x : Int} (h : S.at_ n = x) (hx : x ≠ 0) : ∃ k : Nat, n = (k : Int) ∧ S.is[k]? = some x := by
  unfold PS.at_ at h
  split at h
  · rename_i h1
    have hk : n.toNat < S.is.length := by omega
    refine ⟨n.toNat, by omega, ?_⟩
    rw [List.getElem?_eq_getElem hk, ← h]
    simp [List.getD, List.getElem?_eq_getElem hk]
  · exact absurd h.symm hx

/-- what Put comes to -/
def PutR (C : PC) (S S' : PS) (n : Int) (b : Bytes) (en : Int) : Prop :=
  (S.over = true ∧ S' = S ∧ en = 7) ∨ (S.over = false ∧ S.at_ n ≠ 2 ∧ S' = S ∧ en = 1) ∨
    (S.over = false ∧ ∃ (k : Nat) (f : Fr), n = (k : Int) ∧ S.is[k]? = some 2 ∧ f.n = k ∧ f.b = b ∧ f.dirty = true ∧ S' = (S.put C f).1 ∧ en = if (S.put C f).2 then 0 else 7)

def PutsTo (C : PC) (S : PS) (n : Int) (b : Bytes) (w0 : World) (l : List Thing) (w : World) (e : Ending) (w' : World) : Prop := ∃ S' en, PagesTo C S' (.int .i64 en) w0 l w e w' ∧ PutR C S S' n b en

set_option maxRecDepth 100000 in
set_option maxHeartbeats 2000000 in
theorem own_pagesPut (h : Owns w0 (pth C S us l) w) (hw : PW C S) (hlen : S.D.all.length + 4 < Big) (n : Int) {v : Value} {b : Bytes} (hv : BytesV w v b) (hb : b.length = 1024) :
    Calls Try.prog 60 #[.pointer (some ⟨C.p, 0, none⟩), .int .i64 n, v] w (PutsTo C S n b w0 l w) := by
  obtain ⟨va, vc, rfl, _, _⟩ := hv.shape
  have hl := own_lost h
  cases hov : S.over with
  | true =>
    rw [hov] at hl
    have HF : Hid (PutsTo C S n b w0 l w (.returned (.int .i64 7)) w) := Lib.hid ⟨S, 7, ⟨rfl, ⟨us, h⟩, Keeps.refl w⟩, .inl ⟨hov, rfl, rfl⟩⟩
    have HL := Lib.hid hl
    clear h hl hw hlen hov hv
    go_enter Try.func60, Try.ntmps60
    go_wp2_with (fail)
    refine HL.out.mono ?_
    rintro e w' ⟨rfl, rfl⟩
    go_wp2_with (fail)
    go_ret
    exact HF.out
  | false =>
    rw [hov] at hl
    have hof := own_of h n
    have HL := Lib.hid hl
    have HOF := Lib.hid hof
    have H := Lib.hid h
    have HOV := Lib.hid hov
    have HW := Lib.hid hw
    have HLN := Lib.hid hlen
    have HV := Lib.hid hv
    have HB := Lib.hid hb
    clear h hl hw hlen hov hof hv
    go_enter Try.func60, Try.ntmps60
    go_wp2_with (fail)
    refine HL.out.mono ?_
    rintro e w' ⟨rfl, rfl⟩
    go_wp2_with (fail)
    refine HOF.out.mono ?_
    rintro e w' ⟨rfl, rfl⟩
    by_cases h2 : S.at_ n = 2
    · obtain ⟨k, rfl, hk⟩ := at_nat h2 (by omega)
      rw [h2]
      rw [hb] at HV
      have hcl := clone_any w _ b HV.out (by intro h; rw [h] at hb; simp at hb) (by omega)
      have HCL := Lib.hid hcl
      have HK := Lib.hid hk
      clear hcl hk h2 hb
      go_wp2_with (fail)
      refine HCL.out.mono ?_
      rintro e w3 ⟨v3, rfl, hb3, hu3, hn3⟩
      obtain ⟨a3, c3, hs3, _, _⟩ := hb3.view.shape
      rw [HB.out] at hs3
      subst hs3
      have hO3 := own_frame_new (H.out.upd hu3) hb3.view hb3.inp k true
      obtain ⟨f, hf⟩ : ∃ f : Fr, f = ⟨w3.heap.size, k, .slice a3 1024 c3, b, true⟩ := ⟨_, rfl⟩
      have hO4 : Owns w0 (pth C S us ([frameT f] ++ l)) (w3.alloc (.cells #[.int .i64 (k : Int), .slice a3 1024 c3, .bool true] 158)) := by
        rw [hf]
        rw [pth_split] at hO3 ⊢
        have h3 : Owns w0 ([] ++ (frameT ⟨w3.heap.size, k, .slice a3 1024 c3, b, true⟩ :: (ph C S us (S.fs.map frameT) ++ l))) _ := hO3
        exact h3.perm (l' := ph C S us (S.fs.map frameT) ++ (frameT ⟨w3.heap.size, k, .slice a3 1024 c3, b, true⟩ :: l)) List.perm_middle.symm
      have hput := own_pput hO4 HW.out HOV.out HLN.out
      have hkk : Keeps w (w3.alloc (.cells #[.int .i64 (k : Int), .slice a3 1024 c3, .bool true] 158)) := (hu3.alloc _).keeps
      have hfb : f.blk = w3.heap.size := by rw [hf]
      rw [hfb] at hput
      have hfx : f.n = k ∧ f.b = b ∧ f.dirty = true := by rw [hf]; exact ⟨rfl, rfl, rfl⟩
      have HP := Lib.hid hput
      have HKK := Lib.hid hkk
      have HFX := Lib.hid hfx
      clear hO3 hO4 hb3 hu3 hn3 hf hput hkk hfx hfb
      go_wp2_with (fail)
      refine HP.out.mono ?_
      rintro e w4 ⟨rfl, hO5, hk5⟩
      have hfin : ∀ en, (en = if (S.put C f).2 then 0 else 7) → PutsTo C S (k : Int) b w0 l w (.returned (.int .i64 en)) w4 := fun en he =>
        ⟨_, en, ⟨rfl, hO5, HKK.out.trans hk5⟩, .inr (.inr ⟨HOV.out, k, f, rfl, HK.out, HFX.out.1, HFX.out.2.1, HFX.out.2.2, rfl, he⟩)⟩
      have HFN := Lib.hid hfin
      clear hfin hO5 hk5
      cases hok : (S.put C f).2 with
      | false =>
        rw [hok] at HFN
        clear hok
        go_wp2_with (fail)
        go_ret
        exact HFN.out 7 rfl
      | true =>
        rw [hok] at HFN
        clear hok
        go_wp2_with (fail)
        go_ret
        exact HFN.out 0 rfl
    · have h2' : (S.at_ n != 2) = true := by rw [bne_iff_ne]; exact h2
      have HF : Hid (PutsTo C S n b w0 l w (.returned (.int .i64 1)) w) := Lib.hid ⟨S, 1, ⟨rfl, ⟨us, H.out⟩, Keeps.refl w⟩, .inr (.inl ⟨HOV.out, h2, rfl, rfl⟩)⟩
      generalize S.at_ n = an at h2' ⊢
      clear h2
      go_wp2_with (fail)
      go_ret
      exact HF.out

/-- what Free comes to -/
def FreeR (S S' : PS) (n en : Int) : Prop :=
  (S.over = true ∧ S' = S ∧ en = 7) ∨ (S.over = false ∧ S.at_ n ≠ 1 ∧ S.at_ n ≠ 2 ∧ S' = S ∧ en = 1) ∨
    (S.over = false ∧ ∃ k : Nat, n = (k : Int) ∧ ((S.is[k]? = some 2 ∧ S' = { S with is := S.is.set k 0, fs := fdrop S.fs n }) ∨ (S.is[k]? = some 1 ∧ S' = { S with is := S.is.set k 3, fs := fdrop S.fs n })) ∧ en = 0)

def FreesTo (C : PC) (S : PS) (n : Int) (w0 : World) (l : List Thing) (w : World) (e : Ending) (w' : World) : Prop := ∃ S' en, PagesTo C S' (.int .i64 en) w0 l w e w' ∧ FreeR S S' n en

set_option maxRecDepth 100000 in
set_option maxHeartbeats 2000000 in
theorem own_free (h : Owns w0 (pth C S us l) w) (hw : PW C S) (n : Int) :
    Calls Try.prog 63 #[.pointer (some ⟨C.p, 0, none⟩), .int .i64 n] w (FreesTo C S n w0 l w) := by
  have hl := own_lost h
  cases hov : S.over with
  | true =>
    rw [hov] at hl
    have HF : Hid (FreesTo C S n w0 l w (.returned (.int .i64 7)) w) := Lib.hid ⟨S, 7, ⟨rfl, ⟨us, h⟩, Keeps.refl w⟩, .inl ⟨hov, rfl, rfl⟩⟩
    have HL := Lib.hid hl
    clear h hl hw hov
    go_enter Try.func63, Try.ntmps63
    go_wp2_with (fail)
    refine HL.out.mono ?_
    rintro e w' ⟨rfl, rfl⟩
    go_wp2_with (fail)
    go_ret
    exact HF.out
  | false =>
    rw [hov] at hl
    have hof := own_of h n
    obtain ⟨-, -, -, p3, -, -, -, plt⟩ := own_pg h
    have r1 := own_row h 1 rfl
    have hil := lt_of_heap r1
    have hzx := fun (k : Nat) => (free_of_heap r1 (o := k) : w.frozen? ⟨C.isb, k, none⟩ = false)
    have hstep : ∀ (k : Nat) (x : Int), Calls Try.prog 98 #[.pointer (some ⟨C.p, 0, none⟩), .int .i64 (k : Int)] (w.setCell ⟨C.isb, k, none⟩ (.int .i64 x)) (fun e w' => PagesTo C { S with is := S.is.set k x, fs := fdrop S.fs (k : Int) } (.tuple #[]) w0 l w e w') := by
      intro k x
      obtain ⟨q1, q2⟩ := pth_is_set h (k := k) x
      refine (own_pdrop q1 hw.nodup (Nat.le_trans hw.full hw.few) (k : Int)).mono ?_
      rintro e w' ⟨rfl, ⟨us', ho⟩, hk⟩
      exact ⟨rfl, ⟨us', pth_skip ho⟩, q2.trans hk⟩
    have hfits := hw.fits
    have hsz := hw.size
    have HL := Lib.hid hl
    have HOF := Lib.hid hof
    have H := Lib.hid h
    have HOV := Lib.hid hov
    have HST := Lib.hid hstep
    clear h hl hw hov hof hstep r1
    go_enter Try.func63, Try.ntmps63
    go_wp2_with (fail)
    refine HL.out.mono ?_
    rintro e w' ⟨rfl, rfl⟩
    go_wp2_with (fail)
    refine HOF.out.mono ?_
    rintro e w' ⟨rfl, rfl⟩
    by_cases h2 : S.at_ n = 2
    · obtain ⟨k, rfl, hk⟩ := at_nat h2 (by omega)
      have hkl : k < S.is.length := (List.getElem?_eq_some_iff.1 hk).1
      have hcx : w.cell? ⟨C.isb, k, none⟩ = some (.int .i64 2) := own_is H.out hk
      have hz := hzx k
      rw [h2]
      have HK := Lib.hid hk
      clear hk h2 hzx
      go_wp2_with (fail)
      refine (HST.out k 0).mono ?_
      rintro e w4 ⟨rfl, hO, hkp⟩
      have HF : Hid (FreesTo C S (k : Int) w0 l w (.returned (.int .i64 0)) w4) := Lib.hid ⟨_, 0, ⟨rfl, hO, hkp⟩, .inr (.inr ⟨HOV.out, k, rfl, .inl ⟨HK.out, rfl⟩, rfl⟩)⟩
      clear hO hkp
      go_wp2_with (fail)
      go_ret
      exact HF.out
    · by_cases h1 : S.at_ n = 1
      · obtain ⟨k, rfl, hk⟩ := at_nat h1 (by omega)
        have hkl : k < S.is.length := (List.getElem?_eq_some_iff.1 hk).1
        have hcx : w.cell? ⟨C.isb, k, none⟩ = some (.int .i64 1) := own_is H.out hk
        have hz := hzx k
        rw [h1]
        have HK := Lib.hid hk
        clear hk h2 h1 hzx
        go_wp2_with (fail)
        refine (HST.out k 3).mono ?_
        rintro e w4 ⟨rfl, hO, hkp⟩
        have HF : Hid (FreesTo C S (k : Int) w0 l w (.returned (.int .i64 0)) w4) := Lib.hid ⟨_, 0, ⟨rfl, hO, hkp⟩, .inr (.inr ⟨HOV.out, k, rfl, .inr ⟨HK.out, rfl⟩, rfl⟩)⟩
        clear hO hkp
        go_wp2_with (fail)
        go_ret
        exact HF.out
      · have HF : Hid (FreesTo C S n w0 l w (.returned (.int .i64 1)) w) := Lib.hid ⟨S, 1, ⟨rfl, ⟨us, H.out⟩, Keeps.refl w⟩, .inr (.inl ⟨HOV.out, h1, h2, rfl, rfl⟩)⟩
        have h2' : (S.at_ n == 2) = false := by rw [beq_eq_false_iff_ne]; exact h2
        have h1' : (S.at_ n == 1) = false := by rw [beq_eq_false_iff_ne]; exact h1
        generalize S.at_ n = an at h2' h1' ⊢
        clear h2 h1 hzx
        go_wp2_with (fail)
        go_ret
        exact HF.out
end

end Go.Proofs.Ytkpoladbabhdmaa
