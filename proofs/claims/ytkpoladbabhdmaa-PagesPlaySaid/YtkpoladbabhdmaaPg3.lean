/- The pages' write. Conditions: as it says. -/
import Derived.Test.YtkpoladbabhdmaaPg2
import Derived.Test.YtkpoladbabhdmaaGrow
import Derived.Deep.RegionHeld3
namespace Go.Proofs.Ytkpoladbabhdmaa
open Go.RowKit

theorem own_write_in {w0 w : World} {l : List Thing} {b : Nat} {D : Dk} (h : Owns w0 l w) (i : Nat) (hi : l[i]? = some (disk b D)) {n : Int} {v : Value} {x : Bytes} (hv : BytesV w v x) (hb : InBytes w v) (hlen : D.all.length < Big) :
    Calls Try.prog 22 #[.pointer (some ⟨b, 0, none⟩), .int .i64 n, v] w (Gives (.int .i64 (D.writeE n x)) w0 (l.set i (disk b (D.write n x))) w) := by
  obtain ⟨F, h1, h2, h3⟩ := h.at_ i hi
  refine (write_any h1 hv (fun g hg hm => ?_) hlen).mono fun e w' ⟨he, hw⟩ => ⟨he, h3 _ _ hw.turned, hw.keeps⟩
  obtain ⟨c, fz, hc⟩ := hb g hg
  exact (disk b D).nob _ _ h1 _ hm _ _ hc

theorem Dk.write_len1 (D : Dk) (n : Int) (l : Bytes) : (D.write n l).all.length ≤ D.all.length + 1 := by
  unfold Dk.write
  split
  · omega
  · split
    · split
      · simp [Dk.wrote]
      · rw [D.burnt_all]; omega
    · omega

/-- a sector of a page -/
def psec (b : Bytes) (i : Nat) : Bytes := (b.drop (i * 256)).take 256
theorem psec_len {b : Bytes} {i : Nat} (hb : b.length = 1024) (hi : i < 4) : (psec b i).length = 256 := by simp [psec, hb]; omega

/-- r sectors of a page are written, from sector i on; did all go well? -/
def pwr (base : Int) (b : Bytes) : Nat → Nat → Dk → Dk × Bool
  | 0, _, D => (D, true)
  | r + 1, i, D => if D.writeE (base + (i : Int)) (psec b i) = 0 then pwr base b r (i + 1) (D.write (base + (i : Int)) (psec b i)) else (D.write (base + (i : Int)) (psec b i), false)

def PC.base (C : PC) (n : Nat) : Int := (C.from_ : Int) + 4 * (n : Int)

/-- the pages, and what lies behind their disk -/
def ph (C : PC) (S : PS) (us : Value) (A : List Thing) : List Thing :=
  row C.p (pgcells C S us) 152 (by decide) :: row C.isb (S.is.map gint).toArray 153 (by decide) :: mapT C.mb S.fs :: intsT us (usedOf S.fs) :: disk C.d S.D :: A
theorem pth_ph (C : PC) (S : PS) (us : Value) (l : List Thing) : pth C S us l = ph C S us (S.fs.map frameT ++ l) := rfl

theorem own_ph {w0 w : World} {A : List Thing} {C : PC} {S : PS} {us : Value} (h : Owns w0 (ph C S us A) w) : w.cell? ⟨C.p, 0, none⟩ = some (.pointer (some ⟨C.d, 0, none⟩)) ∧ w.cell? ⟨C.p, 1, none⟩ = some (.int .i64 (C.from_ : Int)) ∧
    w.cell? ⟨C.p, 6, none⟩ = some (.bool S.over) ∧ w.frozen? ⟨C.p, 6, none⟩ = false ∧ C.p < w.heap.size := by
  have h1 := own_row h 0 rfl
  exact ⟨cell_of_heap h1 rfl, cell_of_heap h1 rfl, cell_of_heap h1 rfl, free_of_heap h1, lt_of_heap h1⟩
theorem own_phf {w0 w : World} {A : List Thing} {C : PC} {S : PS} {us : Value} {f : Fr} (h : Owns w0 (ph C S us A) w) {i : Nat} (hi : A[i]? = some (frameT f)) : w.cell? ⟨f.blk, 0, none⟩ = some (.int .i64 (f.n : Int)) ∧ w.cell? ⟨f.blk, 1, none⟩ = some f.v ∧
    w.cell? ⟨f.blk, 2, none⟩ = some (.bool f.dirty) ∧ w.frozen? ⟨f.blk, 2, none⟩ = false ∧ f.blk < w.heap.size ∧ BytesV w f.v f.b ∧ InBytes w f.v := by
  obtain ⟨h1, h2, h3⟩ := own_frame h (i + 5) (by simpa [ph] using hi)
  exact ⟨cell_of_heap h1 rfl, cell_of_heap h1 rfl, cell_of_heap h1 rfl, free_of_heap h1, lt_of_heap h1, h2, h3⟩

/-- what the write of a frame leaves: A is what lies behind the disk, at i the frame -/
def PWrote (C : PC) (S : PS) (us : Value) (f : Fr) (i : Nat) (R : Dk × Bool) (w0 : World) (A : List Thing) (w : World) (e : Ending) (w' : World) : Prop :=
  e = .returned (.bool R.2) ∧ Owns w0 (ph C { S with D := R.1, over := S.over || !R.2 } us (A.set i (frameT { f with dirty := f.dirty && !R.2 }))) w' ∧ Keeps w w'

set_option maxRecDepth 100000 in
set_option maxHeartbeats 4000000 in
theorem own_pwrite {w0 w : World} {A : List Thing} {C : PC} {S : PS} {us : Value} {f : Fr} (h : Owns w0 (ph C S us A) w)
    (i : Nat) (hi : A[i]? = some (frameT f)) (hb : f.b.length = 1024) (hov : S.over = false) (hf1 : C.from_ ≤ 100000) (hn1 : f.n ≤ 100000) (hlen : S.D.all.length + 4 < Big) :
    Calls Try.prog 99 #[.pointer (some ⟨C.p, 0, none⟩), .pointer (some ⟨f.blk, 0, none⟩)] w (PWrote C S us f i (pwr (C.base f.n) f.b 4 0 S.D) w0 A w) := by
  obtain ⟨R, hR⟩ : ∃ R, R = pwr (C.base f.n) f.b 4 0 S.D := ⟨_, rfl⟩
  rw [← hR]
  obtain ⟨g, off, cap, hfv, hcap, hcm⟩ : ∃ g off cap, f.v = .slice (some ⟨g, off, none⟩) 1024 cap ∧ 1024 ≤ cap ∧ (cap : Int) ≤ 9223372036854775807 := by
    obtain ⟨-, -, -, -, -, h2, -⟩ := own_phf h hi
    rcases h2 with ⟨_, h0⟩ | ⟨g, off, cap, he, h3, h4, _⟩
    · rw [h0] at hb; simp at hb
    · rw [hb] at he h3; exact ⟨g, off, cap, he, h3, by unfold maxLen at h4; omega⟩
  have hset : ∀ (x : Bool), A.set i (frameT { f with dirty := f.dirty && x }) = A.set i (frameT { f with dirty := f.dirty && x }) := fun _ => rfl
  have hsame : A.set i (frameT { f with dirty := f.dirty && true }) = A := by
    have e : ({ f with dirty := f.dirty && true } : Fr) = f := by cases f; simp
    rw [e]
    exact List.ext_getElem? fun j => by
      rw [List.getElem?_set]; split
      · rename_i hij; subst hij; rw [hi]; split
        · rfl
        · rename_i hlt; exact absurd (List.getElem?_eq_some_iff.1 hi).1 hlt
      · rfl
  have hfin0 : ∀ (D : Dk) (wk : World), R = (D, false) → Owns w0 (ph C { S with D := D, over := true } us A) wk → Keeps w wk → PWrote C S us f i R w0 A w (.returned (.bool false)) wk := by
    intro D wk hr ho hk
    refine ⟨by rw [hr], ?_, hk⟩
    rw [hr, hov]
    show Owns w0 (ph C { S with D := D, over := true } us (A.set i (frameT { f with dirty := f.dirty && true }))) wk
    rw [hsame]; exact ho
  have hfin1 : ∀ (D : Dk) (wk : World), R = (D, true) → Owns w0 (ph C { S with D := D } us A) wk → Keeps w wk → PWrote C S us f i R w0 A w (.returned (.bool true)) (wk.setCell ⟨f.blk, 2, none⟩ (.bool false)) := by
    intro D wk hr ho hk
    obtain ⟨h1, h2⟩ := own_frame_dirty ho (i + 5) (by simpa [ph] using hi) false
    refine ⟨by rw [hr], ?_, hk.trans h2⟩
    rw [hr]
    show Owns w0 (ph C { S with D := D, over := S.over || false } us (A.set i (frameT { f with dirty := f.dirty && false }))) _
    rw [Bool.or_false, Bool.and_false]
    exact h1
  have H := Lib.hid h
  have HI := Lib.hid hi
  have HR := Lib.hid hR
  have HB := Lib.hid hb
  have HF0 := Lib.hid hfin0
  have HF1 := Lib.hid hfin1
  have HFV := Lib.hid hfv
  have HLN := Lib.hid hlen
  have HOV := Lib.hid hov
  obtain ⟨bs, hbs⟩ : ∃ bs : Int, bs = C.base f.n := ⟨_, rfl⟩
  have hbs' : (C.from_ : Int) + 4 * (f.n : Int) = bs := by rw [hbs]; rfl
  have HBS := Lib.hid hbs
  have hbs0 : 0 ≤ bs ∧ bs ≤ 500000 := by omega
  clear h hi hR hb hfin0 hfin1 hfv hlen hset hsame hov hbs
  go_enter Try.func99, Try.ntmps99
  go_wp2_with (fail)
  go_loopw [6] (fun x wr => ∃ (k : Nat) (D : Dk), k ≤ 4 ∧ x = .int .i64 (k : Int) ∧ R = pwr (C.base f.n) f.b (4 - k) k D ∧ Owns w0 (ph C { S with D := D } us A) wr ∧ Keeps w wr ∧ D.all.length ≤ S.D.all.length + k) (fun x _ => 4 - (intOf x).toNat)
  case atStart => exact ⟨0, S.D, by omega, rfl, HR.out, H.out, Keeps.refl w, by omega⟩
  case round =>
    obtain ⟨k, D, hk, rfl, hr, hO, hkp, hln⟩ := hrel
    obtain ⟨c0, c1, c6, z6, hlt0⟩ := own_ph hO
    obtain ⟨k0, k1, k2, z2, hlt1, hbv, hib⟩ := own_phf hO HI.out
    rw [HFV.out] at k1 hbv hib
    by_cases hlt : k < 4
    · obtain ⟨r, hrr⟩ : ∃ r, 4 - k = r + 1 := ⟨3 - k, by omega⟩
      have hsl : BytesV wr (.slice (some ⟨g, off + k * 256, none⟩) 256 (cap - k * 256)) (psec f.b k) := by
        have hbv' : BytesV wr (.slice (some ⟨g, off, none⟩) 1024 cap) f.b := hbv
        exact hbv'.sub (i := k * 256) (k := 256) (by rw [HB.out]; omega)
      have hsb : InBytes wr (.slice (some ⟨g, off + k * 256, none⟩) 256 (cap - k * 256)) := fun x hx => hib x (by simpa [Value.ownBlock] using hx)
      have hw := own_write_in (hO.upd (Upd.refl [] wr).drew) 4 rfl (n := bs + (k : Int)) (hsl.keep hsb ((Upd.refl [] wr).drew).keeps) (hsb.keep ((Upd.refl [] wr).drew).keeps) (by show D.all.length < Big; have := HLN.out; omega)
      rw [hrr] at hr
      have hln' := Dk.write_len1 D (bs + (k : Int)) (psec f.b k)
      unfold pwr at hr
      rw [← HBS.out] at hr
      have HW := Lib.hid hw
      have HKP := Lib.hid hkp
      have HLN' := Lib.hid hln'
      have HLK := Lib.hid hln
      clear hw hkp hln' hln hsl hsb hbv hib hO
      have hs1 : (k * 256 : Nat) ≤ 1024 := by omega
      have hs2 : ((k : Int) + 1) * 256 ≤ (cap : Int) := by omega
      have hcl : ∀ w' : World, Owns w0 ((ph C { S with D := D } us A).set 4 (disk C.d (D.write (bs + (k : Int)) (psec f.b k)))) w' → w'.cell? ⟨C.p, 0, none⟩ = some (.pointer (some ⟨C.d, 0, none⟩)) ∧ w'.cell? ⟨C.p, 1, none⟩ = some (.int .i64 (C.from_ : Int)) ∧ w'.cell? ⟨f.blk, 0, none⟩ = some (.int .i64 (f.n : Int)) ∧ w'.cell? ⟨f.blk, 1, none⟩ = some (.slice (some ⟨g, off, none⟩) 1024 cap) := by
        intro w' ho
        have ho : Owns w0 (ph C { S with D := D.write (bs + (k : Int)) (psec f.b k) } us A) w' := ho
        obtain ⟨e0, e1, -, -, -⟩ := own_ph ho
        obtain ⟨e2, e3, -, -, -, -, -⟩ := own_phf ho HI.out
        rw [HFV.out] at e3
        exact ⟨e0, e1, e2, e3⟩
      have HCL := Lib.hid hcl
      clear hcl
      have hw1 : IntKind.i64.wrap (4 * (f.n : Int)) = 4 * (f.n : Int) := by simp [IntKind.wrap, IntKind.signed, IntKind.bits]; omega
      have hw2 : IntKind.i64.wrap ((C.from_ : Int) + 4 * (f.n : Int)) = bs := by rw [hbs']; simp [IntKind.wrap, IntKind.signed, IntKind.bits]; omega
      have hw7 : IntKind.i64.wrap bs = bs := by simp [IntKind.wrap, IntKind.signed, IntKind.bits]; omega
      have hw3 : IntKind.i64.wrap (bs + (k : Int)) = bs + (k : Int) := by simp [IntKind.wrap, IntKind.signed, IntKind.bits]; omega
      have hw4 : IntKind.i64.wrap ((k : Int) * 256) = (k : Int) * 256 := by simp [IntKind.wrap, IntKind.signed, IntKind.bits]; omega
      have hw5 : IntKind.i64.wrap ((k : Int) + 1) = (k : Int) + 1 := by simp [IntKind.wrap, IntKind.signed, IntKind.bits]; omega
      have hw6 : IntKind.i64.wrap (((k : Int) + 1) * 256) = ((k : Int) + 1) * 256 := by simp [IntKind.wrap, IntKind.signed, IntKind.bits]; omega
      have hs3 : 0 ≤ (k : Int) * 256 := by omega
      have hs4 : (k : Int) * 256 ≤ ((k : Int) + 1) * 256 := by omega
      have hs5 : ((k : Int) * 256).toNat = k * 256 := by omega
      have hs6 : (((k : Int) + 1) * 256).toNat = (k + 1) * 256 := by omega
      have hs7 : ¬ cap = k * 256 := by omega
      have hs8 : (k + 1) * 256 - k * 256 = 256 := by omega
      have hs9 : k * 256 ≤ (k + 1) * 256 := by omega
      have hs10 : (k + 1) * 256 ≤ cap := by omega
      have hs11 : 0 ≤ ((k : Int) + 1) * 256 := by omega
      have hs12 : (k : Int) ≤ (k : Int) + 1 := by omega
      by_cases hE : D.writeE (bs + (k : Int)) (psec f.b k) = 0
      · rw [if_pos hE] at hr
        rw [hE] at HW
        have HR2 := Lib.hid hr
        clear hr hE
        go_wp2_with (fail)
        go_region_held3 (fun w' => w'.cell? ⟨C.p, 0, none⟩ = some (.pointer (some ⟨C.d, 0, none⟩)) ∧ w'.cell? ⟨C.p, 1, none⟩ = some (.int .i64 (C.from_ : Int)) ∧ w'.cell? ⟨f.blk, 0, none⟩ = some (.int .i64 (f.n : Int)) ∧ w'.cell? ⟨f.blk, 1, none⟩ = some (.slice (some ⟨g, off, none⟩) 1024 cap)) (first | exact ⟨c0, c1, k0, k1⟩ | exact HCL.out _ (by assumption))
          (first | (go_at_call 22; refine HW.out.mono ?_; rintro e w4 ⟨rfl, hO4, hk4⟩))
        have hO5 : Owns w0 (ph C { S with D := D.write (bs + (k : Int)) (psec f.b k) } us A) w4 := hO4
        have HO5 := Lib.hid hO5
        have HK5 := Lib.hid (HKP.out.trans (((Upd.refl [] wr).drew).keeps.trans hk4))
        clear hO4 hO5 hk4 c0 c1 c6 z6 hlt0 k0 k1 k2 z2 hlt1 hw1 hw2 hw4 hw5 hw6
        go_wp2_with (fail)
        go_roundw
        case rel =>
          refine ⟨k + 1, D.write (bs + (k : Int)) (psec f.b k), by omega, by go_num, ?_, HO5.out, HK5.out, by have := HLN'.out; have := HLK.out; omega⟩
          rw [HR2.out, ← HBS.out, show 4 - (k + 1) = r by omega]
        case measure => simp only [intOf]; omega
      · rw [if_neg hE] at hr
        have hE' : ((D.writeE (bs + (k : Int)) (psec f.b k)) != 0) = true := by rw [bne_iff_ne]; exact hE
        have HR2 := Lib.hid hr
        generalize D.writeE (bs + (k : Int)) (psec f.b k) = en at HW hE' hE
        clear hr hE
        go_wp2_with (fail)
        go_region_held3 (fun w' => w'.cell? ⟨C.p, 0, none⟩ = some (.pointer (some ⟨C.d, 0, none⟩)) ∧ w'.cell? ⟨C.p, 1, none⟩ = some (.int .i64 (C.from_ : Int)) ∧ w'.cell? ⟨f.blk, 0, none⟩ = some (.int .i64 (f.n : Int)) ∧ w'.cell? ⟨f.blk, 1, none⟩ = some (.slice (some ⟨g, off, none⟩) 1024 cap)) (first | exact ⟨c0, c1, k0, k1⟩ | exact HCL.out _ (by assumption))
          (first | (go_at_call 22; refine HW.out.mono ?_; rintro e w4 ⟨rfl, hO4, hk4⟩))
        have hO5 : Owns w0 (ph C { S with D := D.write (bs + (k : Int)) (psec f.b k) } us A) w4 := hO4
        have e0 := own_row hO5 0 rfl
        have c6' : w4.cell? ⟨C.p, 6, none⟩ = some (.bool S.over) := cell_of_heap e0 rfl
        have z6' := free_of_heap e0 (o := 6)
        have hlt4 := lt_of_heap e0
        have hO6 : Owns w0 (ph C { S with D := D.write (bs + (k : Int)) (psec f.b k), over := true } us A) (w4.setCell ⟨C.p, 6, none⟩ (.bool true)) := own_row_set hO5 0 rfl 6 (.bool true)
        have hk6 : Keeps w4 (w4.setCell ⟨C.p, 6, none⟩ (.bool true)) := ((Upd.refl [C.p] w4).setCell (o := 6) (.bool true) (.inl (by simp)) (.inr (by intro c fz; rw [e0]; simp))).keeps
        have HF := Lib.hid (HF0.out _ _ (by rw [HR2.out]) hO6 (HKP.out.trans (((Upd.refl [] wr).drew).keeps.trans (hk4.trans hk6))))
        clear hO4 hO5 hO6 hk6 hk4 e0 c0 c1 c6 z6 hlt0 k0 k1 k2 z2 hlt1 hw1 hw2 hw4 hw5 hw6
        go_wp2_with (fail)
        go_ret
        exact HF.out
    · obtain rfl : k = 4 := by omega
      have HF := Lib.hid (HF1.out D wr (by rw [hr]; rfl) hO hkp)
      clear hr hO hkp hbv hib c0 c1 c6 z6 hlt0
      go_wp2_with (fail)
      go_ret
      exact HF.out

end Go.Proofs.Ytkpoladbabhdmaa
