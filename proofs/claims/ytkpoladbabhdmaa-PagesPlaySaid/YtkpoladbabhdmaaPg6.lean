/- The pages' Alloc, Put, Free. Conditions: as each says. -/
import Derived.Test.YtkpoladbabhdmaaPg5
namespace Go.Proofs.Ytkpoladbabhdmaa
open Go.RowKit

def z1k : Bytes := List.replicate 1024 0
theorem z1k_len : z1k.length = 1024 := List.length_replicate

theorem madeBytes (n : Nat) : madeCells (Value.int .u8 0).cells n = bcells (List.replicate n 0) := by
  refine Array.toList_inj.1 ?_
  have e1 : (Value.int .u8 0).cells = #[.int .u8 0] := rfl
  rw [e1, toList_madeCells_one]
  simp [bcells, byte]

theorem make1k (w : World) : (Instr.makeSlice 33 (.int .i64 1024) (.int .i64 1024)).run Try.prog w = .ok (.slice (some ⟨w.heap.size, 0, none⟩) 1024 1024) (w.alloc (.cells (bcells z1k) 5)) := by
  obtain ⟨i, hi, hz, hsize, hby⟩ := info_parts Try.info5
  have h := run_make (P := Try.prog) w 33 5 i (.int .u8 0) Try.underlying33 hi hz .i64 .i64 1024 1024 (by omega) (Int.le_refl _) (by rw [hby]; omega) (by omega)
  have e : (1024 : Int).toNat = 1024 := rfl
  rw [h, hsize, Nat.mul_one, e, madeBytes]
  unfold z1k
  rfl

section
variable {w0 w : World} {l : List Thing} {C : PC} {S : PS} {us : Value}

theorem pth_is_set (h : Owns w0 (pth C S us l) w) {k : Nat} (x : Int) : Owns w0 (pth C { S with is := S.is.set k x } us l) (w.setCell ⟨C.isb, k, none⟩ (.int .i64 x)) ∧ Keeps w (w.setCell ⟨C.isb, k, none⟩ (.int .i64 x)) := by
  have r1 := own_row h 1 rfl
  have h1 := own_row_set h 1 rfl k (.int .i64 x)
  have e1 : (S.is.map gint).toArray.setIfInBounds k (.int .i64 x) = ((S.is.set k x).map gint).toArray := by
    rw [List.setIfInBounds_toArray, List.map_set]; rfl
  have e2 : pgcells C { S with is := S.is.set k x } us = pgcells C S us := by unfold pgcells; simp only [List.length_set]
  refine ⟨?_, ((Upd.refl [C.isb] w).setCell (o := k) _ (.inl (by simp)) (.inr (by intro c fz; rw [r1]; simp))).keeps⟩
  have h2 : Owns w0 (row C.p (pgcells C S us) 152 (by decide) :: row C.isb ((S.is.map gint).toArray.setIfInBounds k (.int .i64 x)) 153 (by decide) :: mapT C.mb S.fs :: intsT us (usedOf S.fs) :: disk C.d S.D :: (S.fs.map frameT ++ l)) (w.setCell ⟨C.isb, k, none⟩ (.int .i64 x)) := h1
  unfold pth
  simp only [e1] at h2
  show Owns w0 (row C.p (pgcells C { S with is := S.is.set k x } us) 152 (by decide) :: _) _
  rw [e2]
  exact h2

/-- what Alloc comes to -/
def AllocR (C : PC) (S S' : PS) (n en : Int) : Prop :=
  (S.over = true ∧ S' = S ∧ n = 0 ∧ en = 7) ∨ (S.over = false ∧ (∀ j : Nat, S.is[j]? ≠ some 0) ∧ S' = S ∧ n = 0 ∧ en = 6) ∨
    (S.over = false ∧ ∃ (k : Nat) (f : Fr), S.is[k]? = some 0 ∧ (∀ j : Nat, j < k → S.is[j]? ≠ some 0) ∧ f.n = k ∧ f.b = z1k ∧ f.dirty = true ∧
      (((S.put C f).2 = false ∧ S' = (S.put C f).1 ∧ n = 0 ∧ en = 7) ∨ ((S.put C f).2 = true ∧ S' = { (S.put C f).1 with is := (S.put C f).1.is.set k 2 } ∧ n = (k : Int) ∧ en = 0)))

def PagesTo (C : PC) (S' : PS) (v : Value) (w0 : World) (l : List Thing) (w : World) (e : Ending) (w' : World) : Prop := e = .returned v ∧ (∃ us', Owns w0 (pth C S' us' l) w') ∧ Keeps w w'

def AllocTo (C : PC) (S : PS) (w0 : World) (l : List Thing) (w : World) (e : Ending) (w' : World) : Prop := ∃ S' n en, PagesTo C S' (.tuple #[.int .i64 n, .int .i64 en]) w0 l w e w' ∧ AllocR C S S' n en

set_option maxRecDepth 100000 in
set_option maxHeartbeats 2000000 in
theorem own_alloc (h : Owns w0 (pth C S us l) w) (hw : PW C S) (hlen : S.D.all.length + 4 < Big) : Calls Try.prog 59 #[.pointer (some ⟨C.p, 0, none⟩)] w (AllocTo C S w0 l w) := by
  have hmk := make1k
  have hl := own_lost h
  obtain ⟨-, -, -, p3, -, -, -, plt⟩ := own_pg h
  cases hov : S.over with
  | true =>
    rw [hov] at hl
    have HF : Hid (AllocTo C S w0 l w (.returned (.tuple #[.int .i64 0, .int .i64 7])) w) := Lib.hid ⟨S, 0, 7, ⟨rfl, ⟨us, h⟩, Keeps.refl w⟩, .inl ⟨hov, rfl, rfl, rfl⟩⟩
    have HL := Lib.hid hl
    clear h hl hw hlen hov
    go_enter Try.func59, Try.ntmps59
    go_wp2_with (fail)
    refine HL.out.mono ?_
    rintro e w' ⟨rfl, rfl⟩
    go_wp2_with (fail)
    go_ret2
    exact HF.out
  | false =>
    rw [hov] at hl
    have hfits := hw.fits
    have hsz := hw.size
    have hisl : S.is.length ≤ 100000 := by omega
    have hidx := index95_any (w := w) (g := C.isb) (cap := S.is.length) (L := S.is) rfl (by omega) (fun j y hy => own_is h hy) 0
    have HL := Lib.hid hl
    have HI := Lib.hid hidx
    have H := Lib.hid h
    have HOV := Lib.hid hov
    have HW := Lib.hid hw
    have HLN := Lib.hid hlen
    clear h hl hw hlen hov hidx
    go_enter Try.func59, Try.ntmps59
    go_wp2_with (fail)
    refine HL.out.mono ?_
    rintro e w' ⟨rfl, rfl⟩
    go_wp2_with (fail)
    refine HI.out.mono ?_
    rintro e w' ⟨⟨r, rfl, hr⟩, rfl⟩
    rcases hr with ⟨k, rfl, hk, hk0⟩ | ⟨rfl, hno⟩
    · have hkl : k < S.is.length := (List.getElem?_eq_some_iff.1 hk).1
      have hO1 := H.out.upd ((Upd.refl [] w).alloc (.cells (bcells z1k) 5))
      have hb1 : BytesO (w.alloc (.cells (bcells z1k) 5)) (.slice (some ⟨w.heap.size, 0, none⟩) 1024 1024) z1k := bytesO_of (heap_alloc_new' _ _) z1k_len (by unfold maxLen; omega)
      have hib : InBytes (w.alloc (.cells (bcells z1k) 5)) (.slice (some ⟨w.heap.size, 0, none⟩) 1024 1024) := by
        intro g hg; cases hg; exact ⟨_, _, heap_alloc_new' _ _⟩
      have hO2 := own_frame_new hO1 hb1.view hib k true
      rw [size_alloc] at hO2
      obtain ⟨f, hf⟩ : ∃ f : Fr, f = ⟨w.heap.size + 1, k, .slice (some ⟨w.heap.size, 0, none⟩) 1024 1024, z1k, true⟩ := ⟨_, rfl⟩
      have hO2' : Owns w0 (pth C S us ([frameT f] ++ l)) ((w.alloc (.cells (bcells z1k) 5)).alloc (.cells #[.int .i64 (k : Int), .slice (some ⟨w.heap.size, 0, none⟩) 1024 1024, .bool true] 158)) := by
        rw [hf]
        rw [pth_split] at hO2 ⊢
        have h3 : Owns w0 ([] ++ (frameT ⟨w.heap.size + 1, k, .slice (some ⟨w.heap.size, 0, none⟩) 1024 1024, z1k, true⟩ :: (ph C S us (S.fs.map frameT) ++ l))) _ := hO2
        exact h3.perm (l' := ph C S us (S.fs.map frameT) ++ (frameT ⟨w.heap.size + 1, k, .slice (some ⟨w.heap.size, 0, none⟩) 1024 1024, z1k, true⟩ :: l)) List.perm_middle.symm
      have hput := own_pput hO2' HW.out HOV.out HLN.out
      have hkk : Keeps w ((w.alloc (.cells (bcells z1k) 5)).alloc (.cells #[.int .i64 (k : Int), .slice (some ⟨w.heap.size, 0, none⟩) 1024 1024, .bool true] 158)) := (((Upd.refl [] w).alloc _).alloc _).keeps
      have hfb : f.blk = w.heap.size + 1 := by rw [hf]
      rw [hfb] at hput
      have hfx : f.n = k ∧ f.b = z1k ∧ f.dirty = true := by rw [hf]; exact ⟨rfl, rfl, rfl⟩
      have HP := Lib.hid hput
      have HKK := Lib.hid hkk
      have HFX := Lib.hid hfx
      have HK := Lib.hid hk
      have HK0 := Lib.hid hk0
      clear hO1 hO2 hO2' hb1 hib hf hput hkk hfx hfb hk hk0
      go_wp2_with (fail)
      refine HP.out.mono ?_
      rintro e w4 ⟨rfl, ⟨us4, hO4⟩, hk4⟩
      obtain ⟨-, -, hpi⟩ := PS.put_len C S f
      cases hok : (S.put C f).2 with
      | false =>
        have HF : Hid (AllocTo C S w0 l w (.returned (.tuple #[.int .i64 0, .int .i64 7])) w4) :=
          Lib.hid ⟨_, 0, 7, ⟨rfl, ⟨us4, hO4⟩, HKK.out.trans hk4⟩, .inr (.inr ⟨HOV.out, k, f, HK.out, HK0.out, HFX.out.1, HFX.out.2.1, HFX.out.2.2, .inl ⟨hok, rfl, rfl, rfl⟩⟩)⟩
        clear hO4 hk4 hok hpi
        go_wp2_with (fail)
        go_ret2
        exact HF.out
      | true =>
        obtain ⟨-, -, -, p34, -, -, -, plt4⟩ := own_pg hO4
        rw [hpi] at p34
        have r1 := own_row hO4 1 rfl
        have hcx : w4.cell? ⟨C.isb, k, none⟩ = some (.int .i64 0) := own_is hO4 (by rw [hpi]; exact HK.out)
        have hzx : w4.frozen? ⟨C.isb, k, none⟩ = false := free_of_heap r1
        have hil := lt_of_heap r1
        obtain ⟨q1, q2⟩ := pth_is_set hO4 (k := k) 2
        have HF : Hid (AllocTo C S w0 l w (.returned (.tuple #[.int .i64 (k : Int), .int .i64 0])) (w4.setCell ⟨C.isb, k, none⟩ (.int .i64 2))) :=
          Lib.hid ⟨_, _, 0, ⟨rfl, ⟨us4, q1⟩, HKK.out.trans (hk4.trans q2)⟩, .inr (.inr ⟨HOV.out, k, f, HK.out, HK0.out, HFX.out.1, HFX.out.2.1, HFX.out.2.2, .inr ⟨hok, rfl, rfl, rfl⟩⟩)⟩
        clear hO4 hk4 hok hpi q1 q2 r1
        go_wp2_with (fail)
        go_ret2
        exact HF.out
    · have HF : Hid (AllocTo C S w0 l w (.returned (.tuple #[.int .i64 0, .int .i64 6])) w) := Lib.hid ⟨S, 0, 6, ⟨rfl, ⟨us, H.out⟩, Keeps.refl w⟩, .inr (.inl ⟨HOV.out, hno, rfl, rfl, rfl⟩)⟩
      clear hno
      go_wp2_with (fail)
      go_ret2
      exact HF.out
end

end Go.Proofs.Ytkpoladbabhdmaa
