/- The reference's Alloc, Open. Conditions: as each says. -/
import Derived.Test.YtkpoladbabhdmaaPl2
import Derived.Test.YtkpoladbabhdmaaPg10
namespace Go.Proofs.Ytkpoladbabhdmaa
open Go.RowKit

def RAllocsTo (R : RC) (is : List Int) (B : List Bytes) (w0 : World) (l : List Thing) (w : World) (e : Ending) (w' : World) : Prop := ∃ is' B' n en, RTo R is' B' (.tuple #[.int .i64 n, .int .i64 en]) w0 l w e w' ∧ RAlloc is is' B B' n en

section
variable {w0 w : World} {l : List Thing} {R : RC} {is : List Int} {B : List Bytes}

/-- a page of noughts is made and stored -/
theorem own_zpage (h : Owns w0 (rth R is B l) w) (k : Nat) :
    Owns w0 (rth R is (B.set k z1k) l) ((w.alloc (.cells (bcells z1k) 5)).setCell ⟨R.bb, k, none⟩ (.slice (some ⟨w.heap.size, 0, none⟩) 1024 1024)) ∧ Keeps w ((w.alloc (.cells (bcells z1k) 5)).setCell ⟨R.bb, k, none⟩ (.slice (some ⟨w.heap.size, 0, none⟩) 1024 1024)) := by
  have hu := (Upd.refl [] w).alloc (.cells (bcells z1k) 5)
  have hb1 : BytesO (w.alloc (.cells (bcells z1k) 5)) (.slice (some ⟨w.heap.size, 0, none⟩) 1024 1024) z1k := bytesO_of (heap_alloc_new' _ _) z1k_len (by unfold maxLen; omega)
  obtain ⟨q1, q2⟩ := own_brow_set (h.upd hu) k hb1.view hb1.inp
  exact ⟨q1, hu.keeps.trans q2⟩

/-- the same, as the walk spells it -/
theorem own_zpage' (h : Owns w0 (rth R is B l) w) (k : Nat) :
    Owns w0 (rth R is (B.set k z1k) l) ((w.setCell ⟨R.bb, k, none⟩ (.slice (some ⟨w.heap.size, 0, none⟩) 1024 1024)).alloc (.cells (bcells z1k) 5)).drew ∧ Keeps w ((w.setCell ⟨R.bb, k, none⟩ (.slice (some ⟨w.heap.size, 0, none⟩) 1024 1024)).alloc (.cells (bcells z1k) 5)).drew := by
  obtain ⟨q1, q2⟩ := own_zpage h k
  rw [World.setCell_alloc_past _ _ _ _ (own_brow h).2.1] at q1 q2
  exact ⟨q1.upd (Upd.refl [] _).drew, q2.trans ((Upd.refl [] _).drew).keeps⟩

set_option maxRecDepth 100000 in
set_option maxHeartbeats 2000000 in
theorem own_ralloc (h : Owns w0 (rth R is B l) w) (hB : B.length = is.length) (hl : is.length ≤ 100000) : Calls Try.prog 100 #[.pointer (some ⟨R.r, 0, none⟩)] w (RAllocsTo R is B w0 l w) := by
  have hmk := make1k
  obtain ⟨r0, -, -, rz, rilt⟩ := own_rp h
  have H := Lib.hid h
  clear h
  go_enter Try.func100, Try.ntmps100
  go_wp2_with (fail)
  go_loopw [4] (fun x wr => ∃ k : Nat, k ≤ is.length ∧ x = .int .i64 (k : Int) ∧ (∀ j : Nat, j < k → is[j]? ≠ some 0) ∧ wr = w) (fun x _ => is.length - (intOf x).toNat)
  case atStart => exact ⟨0, Nat.zero_le _, rfl, by omega, rfl⟩
  case round =>
    obtain ⟨k, hk, rfl, hno, rfl⟩ := hrel
    have HNO := Lib.hid hno
    clear hno
    by_cases hlt : k < is.length
    · obtain ⟨x, hx⟩ : ∃ x, is[k]? = some x := ⟨_, List.getElem?_eq_getElem hlt⟩
      have hcx := own_ris H.out hx
      have HX := Lib.hid hx
      clear hx
      by_cases h0 : x = 0
      · subst h0
        have hz := rz k
        obtain ⟨q1, q2⟩ := own_ris_set H.out k 2
        obtain ⟨-, p1, plt, -, -⟩ := own_rp q1
        rw [List.length_set] at p1
        obtain ⟨bz, blt, hcell⟩ := own_brow q1
        obtain ⟨y, hy⟩ : ∃ y, B[k]? = some y := ⟨_, List.getElem?_eq_getElem (by omega)⟩
        obtain ⟨ya, yc, hc, -, -⟩ := hcell k y hy
        have hz2 := bz k
        have HQ := Lib.hid q1
        have HK := Lib.hid q2
        clear q1 q2 bz hcell hy rz
        go_wp2_with (fail)
        generalize hw2 : wr.setCell ⟨R.ib, k, none⟩ (.int .i64 2) = w2 at p1 plt blt hc hz2 HQ HK ⊢
        clear hw2 hcx r0 rilt hz
        obtain ⟨g1, g2⟩ := own_zpage' HQ.out k
        have HF : Hid (RAllocsTo R is B w0 l wr (.returned (.tuple #[.int .i64 (k : Int), .int .i64 0])) ((w2.setCell ⟨R.bb, k, none⟩ (.slice (some ⟨w2.heap.size, 0, none⟩) 1024 1024)).alloc (.cells (bcells z1k) 5)).drew) :=
          Lib.hid ⟨_, _, _, 0, ⟨rfl, g1, HK.out.trans g2⟩, .inr ⟨k, HX.out, HNO.out, rfl, rfl, rfl, rfl⟩⟩
        clear g1 g2
        go_region
        all_goals
          go_wp2_with (fail)
          go_ret2
          exact HF.out
      · have h0' : (x == 0) = false := by rw [beq_eq_false_iff_ne]; exact h0
        have HN2 : Hid (∀ j : Nat, j < k + 1 → is[j]? ≠ some 0) := Lib.hid (fun j hj => by
          by_cases hjk : j = k
          · subst hjk; rw [HX.out]; simpa using h0
          · exact HNO.out j (by omega))
        clear h0 rz
        go_wp2_with (fail)
        go_roundw
        case rel => exact ⟨k + 1, by omega, by go_num, HN2.out, trivial⟩
        case measure => simp only [intOf]; omega
    · obtain rfl : k = is.length := by omega
      have HF : Hid (RAllocsTo R is B w0 l wr (.returned (.tuple #[.int .i64 0, .int .i64 6])) wr) := Lib.hid ⟨is, B, 0, 6, ⟨rfl, H.out, Keeps.refl wr⟩, .inl ⟨fun j hj => HNO.out j (List.getElem?_eq_some_iff.1 hj).1 hj, rfl, rfl, rfl, rfl⟩⟩
      clear rz
      go_wp2_with (fail)
      go_ret2
      exact HF.out
end

/-! ### Open -/

def irow (n : Nat) : Array Value := ((List.replicate n 0).map gint).toArray
def nrow (n : Nat) : Array Value := (List.replicate n (.slice none 0 0)).toArray

theorem make100 (w : World) (n : Nat) (h : n ≤ 100000) : (Instr.makeSlice 100 (.int .i64 (n : Int)) (.int .i64 (n : Int))).run Try.prog w = .ok (.slice (some ⟨w.heap.size, 0, none⟩) n n) (w.alloc (.cells (irow n) 3)) := by
  obtain ⟨i, hi, hz, hsize, hby⟩ := info_parts (show (Try.prog.info? 3).map (fun i => (i.zero, i.size, i.bytes)) = some (some (.int .i64 0), 1, 8) by kernel_rfl)
  have h := run_make (P := Try.prog) w 100 3 i (.int .i64 0) Try.underlying100 hi hz .i64 .i64 (n : Int) (n : Int) (by omega) (Int.le_refl _) (by rw [hby]; omega) (by omega)
  have e : madeCells (Value.int .i64 0).cells n = irow n := by
    refine Array.toList_inj.1 ?_
    have e1 : (Value.int .i64 0).cells = #[.int .i64 0] := rfl
    rw [e1, toList_madeCells_one]
    simp [gint, irow]
  rw [h, hsize, Nat.mul_one, Int.toNat_natCast, e]

theorem make66 (w : World) (n : Nat) (h : n ≤ 100000) : (Instr.makeSlice 66 (.int .i64 (n : Int)) (.int .i64 (n : Int))).run Try.prog w = .ok (.slice (some ⟨w.heap.size, 0, none⟩) n n) (w.alloc (.cells (nrow n) 33)) := by
  obtain ⟨i, hi, hz, hsize, hby⟩ := info_parts (show (Try.prog.info? 33).map (fun i => (i.zero, i.size, i.bytes)) = some (some (.slice none 0 0), 1, 24) by kernel_rfl)
  have h := run_make (P := Try.prog) w 66 33 i (.slice none 0 0) Try.underlying66 hi hz .i64 .i64 (n : Int) (n : Int) (by omega) (Int.le_refl _) (by rw [hby]; omega) (by omega)
  have e : madeCells (Value.slice none 0 0).cells n = nrow n := by
    refine Array.toList_inj.1 ?_
    have e1 : (Value.slice none 0 0).cells = #[.slice none 0 0] := rfl
    rw [e1, toList_madeCells_one]
    simp [nrow]
  rw [h, hsize, Nat.mul_one, Int.toNat_natCast, e]

theorem own_brows_new {w0 w : World} {l : List Thing} (h : Owns w0 l w) (n : Nat) : Owns w0 (brows w.heap.size (List.replicate n []) :: l) (w.alloc (.cells (nrow n) 33)) :=
  h.add ⟨[w.heap.size], ⟨List.replicate n (.slice none 0 0), heap_alloc_new' _ _, by simp, (fun i b hi => by
    rw [List.getElem?_replicate] at hi ⊢
    split at hi
    · rename_i hin
      cases hi
      rw [if_pos hin]
      exact ⟨_, rfl, (nil_bytes _).1, (nil_bytes _).2⟩
    · cases hi), rfl⟩, (Upd.refl _ _).alloc _, by simp⟩

/-- the three blocks lie there, in either order of two of them -/
theorem own_rnew {w0 w : World} {l : List Thing} (h : Owns w0 l w) (n : Nat) (ord : Bool) :
    ∃ R : RC, R.r = w.heap.size + 1 + 1 ∧ R.ib = (if ord then w.heap.size else w.heap.size + 1) ∧ R.bb = (if ord then w.heap.size + 1 else w.heap.size) ∧
      Owns w0 (rth R (List.replicate n 0) (List.replicate n []) l)
        (((w.alloc (.cells (if ord then irow n else nrow n) (if ord then 3 else 33))).alloc (.cells (if ord then nrow n else irow n) (if ord then 33 else 3))).alloc
          (.cells #[.slice (some ⟨(if ord then w.heap.size else w.heap.size + 1), 0, none⟩) n n, .slice (some ⟨(if ord then w.heap.size + 1 else w.heap.size), 0, none⟩) n n] 114)) := by
  cases ord with
  | true =>
    refine ⟨⟨w.heap.size + 1 + 1, w.heap.size, w.heap.size + 1⟩, rfl, rfl, rfl, ?_⟩
    have h1 := own_row_new h (irow n) 3 (by decide)
    have h2 := own_brows_new h1 n
    have h3 := own_row_new h2 #[.slice (some ⟨w.heap.size, 0, none⟩) n n, .slice (some ⟨w.heap.size + 1, 0, none⟩) n n] 114 (by decide)
    rw [size_alloc, size_alloc] at h3
    simp only [if_true]
    unfold rth
    rw [List.length_replicate]
    exact Owns.perm (A := [row (w.heap.size + 1 + 1) #[.slice (some ⟨w.heap.size, 0, none⟩) n n, .slice (some ⟨w.heap.size + 1, 0, none⟩) n n] 114 (by decide)]) (List.Perm.swap ..) h3
  | false =>
    refine ⟨⟨w.heap.size + 1 + 1, w.heap.size + 1, w.heap.size⟩, rfl, rfl, rfl, ?_⟩
    have h1 := own_brows_new h n
    have h2 := own_row_new h1 (irow n) 3 (by decide)
    have h3 := own_row_new h2 #[.slice (some ⟨w.heap.size + 1, 0, none⟩) n n, .slice (some ⟨w.heap.size, 0, none⟩) n n] 114 (by decide)
    rw [size_alloc, size_alloc] at h3
    simp only [Bool.false_eq_true, if_false]
    unfold rth
    rw [List.length_replicate]
    exact h3

def ROpenTo (n : Nat) (w0 : World) (l : List Thing) (w : World) (e : Ending) (w' : World) : Prop :=
  ∃ R : RC, e = .returned (.pointer (some ⟨R.r, 0, none⟩)) ∧ Owns w0 (rth R (List.replicate n 0) (List.replicate n z1k) l) w' ∧ Keeps w w'

def zfill (n k : Nat) : List Bytes := List.replicate k z1k ++ List.replicate (n - k) []
theorem zfill_zero (n : Nat) : zfill n 0 = List.replicate n [] := by simp [zfill]
theorem zfill_all (n : Nat) : zfill n n = List.replicate n z1k := by simp [zfill]
theorem zfill_len {n k : Nat} (h : k ≤ n) : (zfill n k).length = n := by simp [zfill]; omega
theorem zfill_set {n k : Nat} (h : k < n) : (zfill n k).set k z1k = zfill n (k + 1) := by
  unfold zfill
  rw [List.set_append_right _ _ (by rw [List.length_replicate]; omega), List.length_replicate, Nat.sub_self]
  obtain ⟨r, hr⟩ : ∃ r, n - k = r + 1 := ⟨n - k - 1, by omega⟩
  rw [hr, show n - (k + 1) = r by omega, List.replicate_succ, List.set_cons_zero, List.replicate_succ', List.append_assoc]
  rfl

set_option maxRecDepth 100000 in
set_option maxHeartbeats 4000000 in
theorem own_ropen {w0 w : World} {l : List Thing} (h : Owns w0 l w) {size from_ n pool : Nat} (hfit : from_ + 4 * n ≤ size) (hs : size ≤ 65536) (hp : 1 ≤ pool) (hpl : pool ≤ 1000) :
    Calls Try.prog 70 #[.int .i64 (size : Int), .int .i64 (from_ : Int), .int .i64 (n : Int), .int .i64 (pool : Int), .slice none 0 0] w (ROpenTo n w0 l w) := by
  have hmk := make1k
  have hm1 := fun w => make100 w n (by omega)
  have hm2 := fun w => make66 w n (by omega)
  have hq1 : IntKind.i64.wrap ((size : Int) - (from_ : Int)) = (size : Int) - (from_ : Int) := by simp [IntKind.wrap, IntKind.signed, IntKind.bits]; omega
  have hq2 : ((size : Int) - (from_ : Int)).tdiv 4 = ((size : Int) - (from_ : Int)) / 4 := Int.tdiv_eq_ediv_of_nonneg (by omega)
  have hq3 : ¬ (((size : Int) - (from_ : Int)) / 4 < (n : Int)) := by omega
  have hq4 : ¬ ((size : Int) < (from_ : Int)) := by omega
  have hnt := own_rnew h n true
  have hnf := own_rnew h n false
  simp only [if_true] at hnt
  simp only [Bool.false_eq_true, if_false] at hnf
  have hkt : Keeps w ((((w.alloc (.cells (irow n) 3)).alloc (.cells (nrow n) 33)).alloc (.cells #[.slice (some ⟨w.heap.size, 0, none⟩) n n, .slice (some ⟨w.heap.size + 1, 0, none⟩) n n] 114)).drew) := (((((Upd.refl [] w).alloc _).alloc _).alloc _).drew).keeps
  have hkf : Keeps w ((((w.alloc (.cells (nrow n) 33)).alloc (.cells (irow n) 3)).alloc (.cells #[.slice (some ⟨w.heap.size + 1, 0, none⟩) n n, .slice (some ⟨w.heap.size, 0, none⟩) n n] 114)).drew) := (((((Upd.refl [] w).alloc _).alloc _).alloc _).drew).keeps
  have HT := Lib.hid hnt
  have HF := Lib.hid hnf
  have HKT := Lib.hid hkt
  have HKF := Lib.hid hkf
  clear h hnt hnf hkt hkf
  go_enter Try.func70, Try.ntmps70
  go_wp2_with (fail)
  go_region
  all_goals
    first
      | (change Exit.then _ _ _ _ ((((w.alloc (.cells (irow n) 3)).alloc (.cells (nrow n) 33)).alloc (.cells #[.slice (some ⟨w.heap.size, 0, none⟩) n n, .slice (some ⟨w.heap.size + 1, 0, none⟩) n n] 114)).drew)
         obtain ⟨R, e1, -, -, hO⟩ := HT.out
         have hO := hO.upd (Upd.refl [] _).drew
         have hK := HKT.out
         generalize ((((w.alloc (.cells (irow n) 3)).alloc (.cells (nrow n) 33)).alloc (.cells #[.slice (some ⟨w.heap.size, 0, none⟩) n n, .slice (some ⟨w.heap.size + 1, 0, none⟩) n n] 114)).drew) = w3 at hO hK ⊢)
      | (change Exit.then _ _ _ _ ((((w.alloc (.cells (nrow n) 33)).alloc (.cells (irow n) 3)).alloc (.cells #[.slice (some ⟨w.heap.size + 1, 0, none⟩) n n, .slice (some ⟨w.heap.size, 0, none⟩) n n] 114)).drew)
         obtain ⟨R, e1, -, -, hO⟩ := HF.out
         have hO := hO.upd (Upd.refl [] _).drew
         have hK := HKF.out
         generalize ((((w.alloc (.cells (nrow n) 33)).alloc (.cells (irow n) 3)).alloc (.cells #[.slice (some ⟨w.heap.size + 1, 0, none⟩) n n, .slice (some ⟨w.heap.size, 0, none⟩) n n] 114)).drew) = w3 at hO hK ⊢)
    rw [← e1]
    have HO := Lib.hid hO
    have HK := Lib.hid hK
    clear hO hK HT HF HKT HKF e1 hm1 hm2 hq1 hq2
    go_wp2_with (fail)
    go_loopw [12] (fun x wr => ∃ k : Nat, k ≤ n ∧ x = .int .i64 (k : Int) ∧ Owns w0 (rth R (List.replicate n 0) (zfill n k) l) wr ∧ Keeps w wr) (fun x _ => n - (intOf x).toNat)
    case atStart => exact ⟨0, Nat.zero_le _, rfl, by rw [zfill_zero]; exact HO.out, HK.out⟩
    case round =>
      obtain ⟨k, hk, rfl, hO, hkp⟩ := hrel
      clear HO HK
      by_cases hlt : k < n
      · obtain ⟨-, p1, plt, -, -⟩ := own_rp hO
        rw [List.length_replicate] at p1
        obtain ⟨bz, blt, hcell⟩ := own_brow hO
        obtain ⟨y, hy⟩ : ∃ y, (zfill n k)[k]? = some y := ⟨_, List.getElem?_eq_getElem (by rw [zfill_len hk]; exact hlt)⟩
        obtain ⟨ya, yc, hc, -, -⟩ := hcell k y hy
        have hz2 := bz k
        obtain ⟨g1, g2⟩ := own_zpage' hO k
        rw [zfill_set hlt] at g1
        have HQ := Lib.hid g1
        have HK := Lib.hid (hkp.trans g2)
        clear g1 g2 bz hcell hy hO hkp
        go_wp2_with (fail)
        go_region
        all_goals
          clear p1 plt blt hc hz2
          generalize ((wr.setCell ⟨R.bb, k, none⟩ (.slice (some ⟨wr.heap.size, 0, none⟩) 1024 1024)).alloc (.cells (bcells z1k) 5)).drew = w4 at HQ HK ⊢
          go_wp2_with (fail)
          go_roundw
          case rel => exact ⟨k + 1, by omega, by go_num, HQ.out, HK.out⟩
          case measure => simp only [intOf]; omega
      · obtain rfl : k = n := by omega
        rw [zfill_all] at hO
        have HF : Hid (ROpenTo k w0 l w (.returned (.pointer (some ⟨R.r, 0, none⟩))) wr) := Lib.hid ⟨R, rfl, hO, hkp⟩
        clear hO hkp
        go_wp2_with (fail)
        go_loopw [13] (fun x wq => x = .int .i64 0 ∧ wq = wr) (fun _ _ => 0)
        case atStart => exact ⟨rfl, rfl⟩
        case round =>
          obtain ⟨rfl, rfl⟩ := hrel
          go_wp2_with (fail)
          go_ret
          exact HF.out

end Go.Proofs.Ytkpoladbabhdmaa
