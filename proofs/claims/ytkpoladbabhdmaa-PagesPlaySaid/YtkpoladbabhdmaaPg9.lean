/- The pages' Get. Conditions: as it says. -/
import Derived.Test.YtkpoladbabhdmaaPgR
namespace Go.Proofs.Ytkpoladbabhdmaa
open Go.RowKit

def pgather (D : Dk) (base : Int) (k : Nat) : Bytes := (List.range k).flatMap fun i : Nat => D.sec (base + (i : Int))
theorem pgather_succ (D : Dk) (base : Int) (k : Nat) : pgather D base (k + 1) = pgather D base k ++ D.sec (base + (k : Int)) := by simp [pgather, List.range_succ]
theorem pgather_len {D : Dk} (h : D.Wf) (base : Int) : ∀ k, (pgather D base k).length = k * 256
  | 0 => rfl
  | k + 1 => by rw [pgather_succ, List.length_append, pgather_len h base k, Dk.sec_len h]; omega

/-- what Get comes to -/
def GetR (C : PC) (S S' : PS) (n : Int) (b : Bytes) (en : Int) : Prop :=
  (S.over = true ∧ S' = S ∧ b = [] ∧ en = 7) ∨ (S.over = false ∧ S.at_ n ≠ 1 ∧ S.at_ n ≠ 2 ∧ S' = S ∧ b = [] ∧ en = 1) ∨
    (S.over = false ∧ (S.at_ n = 1 ∨ S.at_ n = 2) ∧ ∃ k : Nat, n = (k : Int) ∧ k < S.is.length ∧
      ((∃ (j : Nat) (f : Fr), S.fs[j]? = some f ∧ f.n = k ∧ S' = { S with fs := f :: fdrop S.fs n } ∧ b = f.b ∧ en = 0) ∨
       ((∀ f ∈ S.fs, f.n ≠ k) ∧ S.D.down = true ∧ S' = { S with over := true } ∧ b = [] ∧ en = 7) ∨
       ((∀ f ∈ S.fs, f.n ≠ k) ∧ S.D.down = false ∧ ∃ (x : Int) (f : Fr), f.n = k ∧ f.b = pgather S.D (C.base k) 4 ∧ f.dirty = false ∧ S' = (PS.put C { S with D := { S.D with a0 := x } } f).1 ∧
          (((PS.put C { S with D := { S.D with a0 := x } } f).2 = true ∧ b = f.b ∧ en = 0) ∨ ((PS.put C { S with D := { S.D with a0 := x } } f).2 = false ∧ b = [] ∧ en = 7)))))

def GetsTo (C : PC) (S : PS) (n : Int) (w0 : World) (l : List Thing) (w : World) (e : Ending) (w' : World) : Prop :=
  ∃ S' v b en, PagesTo C S' (.tuple #[v, .int .i64 en]) w0 l w e w' ∧ BytesV w' v b ∧ InBytes w' v ∧ GetR C S S' n b en

section
variable {w0 w : World} {l : List Thing} {C : PC} {S : PS} {us : Value}

theorem put_again {f : Fr} (hw : PW C S) {j : Nat} (hj : S.fs[j]? = some f) : (S.drop (f.n : Int)).put C f = ({ S with fs := f :: fdrop S.fs (f.n : Int) }, true) := by
  have e : fdrop (fdrop S.fs (f.n : Int)) (f.n : Int) = fdrop S.fs (f.n : Int) := by unfold fdrop; rw [List.filter_filter]; simp
  have hl : (fdrop S.fs (f.n : Int)).length < C.pool := by
    rw [(fdrop_at hw.nodup hj rfl).1, List.length_eraseIdx]
    have := (List.getElem?_eq_some_iff.1 hj).1
    have := hw.full
    rw [if_pos (by omega)]; omega
  unfold PS.put
  simp only [PS.drop, e]
  rw [if_neg (by omega)]

theorem nil_bytes (w : World) : BytesV w (.slice none 0 0) [] ∧ InBytes w (.slice none 0 0) := ⟨.inl ⟨.nil, rfl⟩, by intro g hg; cases hg⟩

set_option maxRecDepth 100000 in
set_option maxHeartbeats 8000000 in
theorem own_get (h : Owns w0 (pth C S us l) w) (hw : PW C S) (hlen : S.D.all.length + 4 < Big) (n : Int) : Calls Try.prog 62 #[.pointer (some ⟨C.p, 0, none⟩), .int .i64 n] w (GetsTo C S n w0 l w) := by
  have hl := own_lost h
  cases hov : S.over with
  | true =>
    rw [hov] at hl
    have HF : Hid (GetsTo C S n w0 l w (.returned (.tuple #[.slice none 0 0, .int .i64 7])) w) := Lib.hid ⟨S, _, [], 7, ⟨rfl, ⟨us, h⟩, Keeps.refl w⟩, (nil_bytes w).1, (nil_bytes w).2, .inl ⟨hov, rfl, rfl, rfl⟩⟩
    have HL := Lib.hid hl
    clear h hl hw hlen hov
    go_enter Try.func62, Try.ntmps62
    go_wp2_with (fail)
    refine HL.out.mono ?_
    rintro e w' ⟨rfl, rfl⟩
    go_wp2_with (fail)
    go_ret2
    exact HF.out
  | false =>
    rw [hov] at hl
    have hof := own_of h n
    by_cases hat : S.at_ n = 1 ∨ S.at_ n = 2
    · obtain ⟨k, hk, hkl⟩ : ∃ k : Nat, n = (k : Int) ∧ k < S.is.length := by
        rcases hat with hat | hat
        · obtain ⟨k, e, hx⟩ := at_nat hat (by omega); exact ⟨k, e, (List.getElem?_eq_some_iff.1 hx).1⟩
        · obtain ⟨k, e, hx⟩ := at_nat hat (by omega); exact ⟨k, e, (List.getElem?_eq_some_iff.1 hx).1⟩
      subst hk
      obtain ⟨es, c, k1, k2⟩ := own_map h 2 rfl
      obtain ⟨p0, p1, -, -, p4, -, p6, plt⟩ := own_pg h
      have hz : ∀ w, (zeroValue 156).run Try.prog w = .ok (.pointer none) w := fun w => by kernel_rfl
      have hlook := run_look (P := Try.prog) Try.underlying150 Try.underlying3 (hz w) k1 k2 (k : Int) true
      have hcond : ((S.at_ (k : Int) != 1) && (S.at_ (k : Int) != 2)) = false := by rcases hat with h1 | h1 <;> simp [h1]
      have HCD := Lib.hid hcond
      have HAT := Lib.hid hat
      have HAT0 := Lib.hid hat
      clear k1 k2 hcond
      rcases hlook with ⟨hno, hrun⟩ | ⟨v, b, hso, hv, hrun⟩
      · simp only [if_true] at hrun
        have hnf : ∀ f ∈ S.fs, f.n ≠ k := by intro f hf e; exact fmap_none hno f hf (by rw [e])
        have hfits := hw.fits
        have hsz := hw.size
        have hbs : C.base k = (C.from_ : Int) + 4 * (k : Int) := rfl
        obtain ⟨bs, hbs'⟩ : ∃ bs : Int, bs = C.base k := ⟨_, rfl⟩
        have hbe : (C.from_ : Int) + 4 * (k : Int) = bs := by rw [hbs']; exact hbs.symm
        have hb0 : 0 ≤ bs ∧ bs + 4 ≤ S.D.size := by omega
        have hwr : ∀ i : Nat, i ≤ 4 → IntKind.i64.wrap (4 * (k : Int)) = 4 * (k : Int) ∧ IntKind.i64.wrap ((C.from_ : Int) + 4 * (k : Int)) = bs ∧ IntKind.i64.wrap bs = bs ∧ IntKind.i64.wrap (bs + (i : Int)) = bs + (i : Int) := by
          intro i hi
          rw [hbe]
          simp only [IntKind.wrap, IntKind.signed, IntKind.bits]
          simp
          omega
        have HNF := Lib.hid hnf
        have HOV := Lib.hid hov
        have HL := Lib.hid hl
        have HOF := Lib.hid hof
        have HBS := Lib.hid hbs'
        have HWR := Lib.hid hwr
        have HW := Lib.hid hw
        have HLN := Lib.hid hlen
        have H := Lib.hid h
        clear hnf hno hov hl hof hbs hbs' hbe hwr hlen
        cases hdn : S.D.down with
        | true =>
          obtain ⟨e1, e2, e3, e4⟩ := HWR.out 0 (by omega)
          have hrd := own_read (h.upd (Upd.refl [] w).drew) 4 rfl bs
          have r1 : S.D.readE bs = 7 := by simp [Dk.readE, hdn]
          have r2 : S.D.readB bs = [] := by simp [Dk.readB, hdn]
          have r3 : S.D.read bs = S.D := by simp [Dk.read, hdn]
          rw [r1, r2, r3] at hrd
          have HRD := Lib.hid hrd
          have HDN := Lib.hid hdn
          have hcl : ∀ w', Owns w0 ((pth C S us l).set 4 (disk C.d S.D)) w' → w'.cell? ⟨C.p, 0, none⟩ = some (.pointer (some ⟨C.d, 0, none⟩)) ∧ w'.cell? ⟨C.p, 1, none⟩ = some (.int .i64 (C.from_ : Int)) := by
            intro w' ho
            have ho : Owns w0 (pth C S us l) w' := ho
            obtain ⟨a0, a1, -⟩ := own_pg ho
            exact ⟨a0, a1⟩
          have HCL := Lib.hid hcl
          clear h hw hrd r1 r2 r3 hdn p6 hcl
          go_enter Try.func62, Try.ntmps62
          go_wp2_with (fail)
          refine HL.out.mono ?_
          rintro e w' ⟨rfl, rfl⟩
          go_wp2_with (fail)
          refine HOF.out.mono ?_
          rintro e w' ⟨rfl, rfl⟩
          generalize S.at_ (k : Int) = an at HCD HAT hat ⊢
          rcases hat with rfl | rfl
          all_goals
            clear HCD
            go_wp2_with (fail)
            go_loopw [9, 45] (fun x i wr => x = .slice none 0 0 ∧ i = .int .i64 0 ∧ wr = w) (fun _ _ _ => 0)
            case atStart => exact ⟨rfl, rfl, rfl⟩
            case round =>
              obtain ⟨rfl, rfl, rfl⟩ := hrel
              go_wp2_with (fail)
              go_region_held3 (fun w' => w'.cell? ⟨C.p, 0, none⟩ = some (.pointer (some ⟨C.d, 0, none⟩)) ∧ w'.cell? ⟨C.p, 1, none⟩ = some (.int .i64 (C.from_ : Int))) (first | exact ⟨p0, p1⟩ | exact HCL.out _ (by assumption))
                (first | (go_at_call 25; refine HRD.out.mono ?_; rintro e w4 ⟨v4, rfl, hb4, hO4, hk4, -⟩))
              have hO4 : Owns w0 (pth C S us l) w4 := hO4
              have r0 := own_row hO4 0 rfl
              have c6 : w4.cell? ⟨C.p, 6, none⟩ = some (.bool S.over) := cell_of_heap r0 rfl
              have z6 := free_of_heap r0 (o := 6)
              have lt6 := lt_of_heap r0
              have hO5 : Owns w0 (pth C { S with over := true } us l) (w4.setCell ⟨C.p, 6, none⟩ (.bool true)) := own_row_set hO4 0 rfl 6 (.bool true)
              have hk5 : Keeps w4 (w4.setCell ⟨C.p, 6, none⟩ (.bool true)) := ((Upd.refl [C.p] w4).setCell (o := 6) (.bool true) (.inl (by simp)) (.inr (by intro c fz; rw [r0]; simp))).keeps
              have HF := Lib.hid (show GetsTo C S (k : Int) w0 l _ (.returned (.tuple #[.slice none 0 0, .int .i64 7])) (w4.setCell ⟨C.p, 6, none⟩ (.bool true)) from ⟨_, _, [], 7, ⟨rfl, ⟨us, hO5⟩, ((Upd.refl [] _).drew).keeps.trans (hk4.trans hk5)⟩, (nil_bytes _).1, (nil_bytes _).2, .inr (.inr ⟨HOV.out, HAT0.out, k, rfl, hkl, .inr (.inl ⟨HNF.out, HDN.out, rfl, rfl, rfl⟩)⟩)⟩)
              clear hb4 hO4 hk4 hO5 hk5 r0
              go_wp2_with (fail)
              go_ret2
              exact HF.out
        | false =>
          obtain ⟨F, hDk, hF0, ht⟩ := h.at_ 4 rfl
          have hDk : DiskAt w C.d S.D F := hDk
          have hown : ∀ wk, LookedP w C.d wk → ∃ x : Int, Owns w0 (pth C { S with D := { S.D with a0 := x } } us l) wk ∧ Keeps w wk := by
            intro wk hk
            obtain ⟨x, h1, h2⟩ := hDk.lookedp hk
            exact ⟨x, ht wk (disk C.d { S.D with a0 := x }) ⟨F, h1, h2, fun k hk => .inl hk⟩, h2.keeps⟩
          have hread : ∀ wk (i : Nat), i < 4 → LookedP w C.d wk → Calls Try.prog 25 #[.pointer (some ⟨C.d, 0, none⟩), .int .i64 (bs + (i : Int))] wk (ReadLookP wk C.d (S.D.sec (bs + (i : Int)))) := by
            intro wk i hi hk
            obtain ⟨x, h1, _⟩ := hDk.lookedp hk
            exact read_lookP h1 (n := bs + (i : Int)) hdn (by omega) (by show _ < S.D.size; omega)
          have hcl : ∀ wk, LookedP w C.d wk → wk.cell? ⟨C.p, 0, none⟩ = some (.pointer (some ⟨C.d, 0, none⟩)) ∧ wk.cell? ⟨C.p, 1, none⟩ = some (.int .i64 (C.from_ : Int)) := by
            intro wk hk
            obtain ⟨x, h1, _⟩ := hown wk hk
            obtain ⟨a0, a1, -⟩ := own_pg h1
            exact ⟨a0, a1⟩
          have hwf : S.D.Wf := hDk.1
          have hpl := pgather_len hwf bs
          have hsl := fun n => Dk.sec_len hwf n
          have HOWN := Lib.hid hown
          have HRD := Lib.hid hread
          have HCL := Lib.hid hcl
          have HPL := Lib.hid hpl
          have HSL := Lib.hid hsl
          have HDN := Lib.hid hdn
          have HST := Lib.hid (LocP.start hDk)
          clear h hw hDk hF0 ht hown hread hcl hwf hpl hsl hdn p0 p1 p6
          go_enter Try.func62, Try.ntmps62
          go_wp2_with (fail)
          refine HL.out.mono ?_
          rintro e w' ⟨rfl, rfl⟩
          go_wp2_with (fail)
          refine HOF.out.mono ?_
          rintro e w' ⟨rfl, rfl⟩
          generalize S.at_ (k : Int) = an at HCD HAT hat ⊢
          rcases hat with rfl | rfl
          all_goals
            clear HCD
            go_wp2_with (fail)
            go_loopw [9, 45] (fun x i wr => ∃ (q bl : Nat) (ba : Option Addr) (bc : Nat), i = .int .i64 (q : Int) ∧ q ≤ 4 ∧ bl = q * 256 ∧ x = .slice ba bl bc ∧ LocP w C.d wr (.slice ba bl bc) (pgather S.D bs q)) (fun _ i _ => 4 - (intOf i).toNat)
            case atStart => exact ⟨0, 0, none, 0, rfl, by omega, rfl, rfl, HST.out⟩
            case round =>
              obtain ⟨q, bl, ba, bc, rfl, hq4, hbl, rfl, hloc⟩ := hrel
              by_cases hlt : q < 4
              · obtain ⟨e1, e2, e3, e4⟩ := HWR.out q hq4
                obtain ⟨p0, p1⟩ := HCL.out wr hloc.look
                have hlk := hloc.look.upd0 (Upd.refl [] wr).drew
                have HR25 := Lib.hid (HRD.out wr.drew q hlt hlk)
                have hcl2 : ∀ w', LookedP wr.drew C.d w' → w'.cell? ⟨C.p, 0, none⟩ = some (.pointer (some ⟨C.d, 0, none⟩)) ∧ w'.cell? ⟨C.p, 1, none⟩ = some (.int .i64 (C.from_ : Int)) := fun w' hk => HCL.out w' (hlk.trans hk)
                have HCL2 := Lib.hid hcl2
                have HLOC := Lib.hid hloc
                have HBL := Lib.hid hbl
                clear hcl2 hlk hloc hbl
                go_wp2_with (fail)
                go_region_held3 (fun w' => w'.cell? ⟨C.p, 0, none⟩ = some (.pointer (some ⟨C.d, 0, none⟩)) ∧ w'.cell? ⟨C.p, 1, none⟩ = some (.int .i64 (C.from_ : Int))) (first | exact ⟨p0, p1⟩ | exact HCL2.out _ (by assumption))
                  (first | (go_at_call 25; refine HR25.out.mono ?_; rintro e w4 ⟨v4, rfl, hb4, hl4, -⟩))
                obtain ⟨a4, c4, hv4, _, _⟩ := hb4.view.shape
                rw [HSL.out] at hv4
                subst hv4
                obtain ⟨a6, c6, w6, r6, l6⟩ := ((HLOC.out.upd0 (Upd.refl [] wr).drew).read hl4).app hb4.view 33 (n := bl + 256) (by rw [HPL.out, HSL.out, HBL.out]) (by have := HBL.out; omega)
                rw [← pgather_succ] at l6
                have R6 := Lib.hid r6
                have L6 := Lib.hid l6
                clear r6 l6 hb4 hl4 p0 p1
                go_wp2_with (at_builtin; refine wpList_append_ran _ rfl _ _ 33 33 rfl rfl rfl R6.out ?_)
                go_roundw
                case rel => exact ⟨q + 1, bl + 256, a6, c6, by go_num, by omega, by have := HBL.out; omega, rfl, L6.out⟩
                case measure => simp only [intOf]; omega
              · obtain rfl : q = 4 := by omega
                obtain rfl : bl = 1024 := by omega
                obtain ⟨x, hO, hkp⟩ := HOWN.out wr hloc.look
                have hbv := hloc.bo.view
                have hbi := hloc.bo.inp
                have hpl4 : (pgather S.D bs 4).length = 1024 := HPL.out 4
                have hO3 := own_frame_new hO hbv hbi k false
                obtain ⟨f, hf⟩ : ∃ f : Fr, f = ⟨wr.heap.size, k, .slice ba 1024 bc, pgather S.D bs 4, false⟩ := ⟨_, rfl⟩
                obtain ⟨S2, hS2⟩ : ∃ S2 : PS, S2 = { S with D := { S.D with a0 := x } } := ⟨_, rfl⟩
                rw [← hS2] at hO hO3
                have hw2 : PW C S2 := by rw [hS2]; exact ⟨HW.out.nodup, HW.out.inis, HW.out.blen, HW.out.fits, HW.out.size, HW.out.pool, HW.out.full, HW.out.few⟩
                have hO4 : Owns w0 (pth C S2 us ([frameT f] ++ l)) (wr.alloc (.cells #[.int .i64 (k : Int), .slice ba 1024 bc, .bool false] 158)) := by
                  rw [hf]
                  rw [pth_split] at hO3 ⊢
                  have h3 : Owns w0 ([] ++ (frameT ⟨wr.heap.size, k, .slice ba 1024 bc, pgather S.D bs 4, false⟩ :: (ph C S2 us (S2.fs.map frameT) ++ l))) _ := hO3
                  exact h3.perm (l' := ph C S2 us (S2.fs.map frameT) ++ (frameT ⟨wr.heap.size, k, .slice ba 1024 bc, pgather S.D bs 4, false⟩ :: l)) List.perm_middle.symm
                have hput := own_pput hO4 hw2 (by rw [hS2]; exact HOV.out) (by rw [hS2]; exact HLN.out)
                have hkk := ((Upd.refl [] wr).alloc (.cells #[.int .i64 (k : Int), .slice ba 1024 bc, .bool false] 158)).keeps
                have hfb : f.blk = wr.heap.size := by rw [hf]
                rw [hfb] at hput
                have hfx : f.n = k ∧ f.b = pgather S.D bs 4 ∧ f.dirty = false := by rw [hf]; exact ⟨rfl, rfl, rfl⟩
                have HP := Lib.hid hput
                have HKP := Lib.hid hkp
                have HKK := Lib.hid hkk
                have HFX := Lib.hid hfx
                have HBV := Lib.hid hbv
                have HBI := Lib.hid hbi
                have HP4 := Lib.hid hpl4
                have HS2 := Lib.hid hS2
                clear hloc hbl hO hO3 hO4 hput hkp hkk hfx hbv hbi hpl4 hS2 hw2 hfb hf
                go_wp2_with (fail)
                refine HP.out.mono ?_
                rintro e w5 ⟨rfl, ⟨us5, hO5⟩, hk5⟩
                cases hok : (S2.put C f).2 with
                | false =>
                  have HF : Hid (GetsTo C S (k : Int) w0 l w (.returned (.tuple #[.slice none 0 0, .int .i64 7])) w5) := Lib.hid ⟨_, _, [], 7, ⟨rfl, ⟨us5, hO5⟩, HKP.out.trans (HKK.out.trans hk5)⟩, (nil_bytes _).1, (nil_bytes _).2,
                    .inr (.inr ⟨HOV.out, HAT0.out, k, rfl, hkl, .inr (.inr ⟨HNF.out, HDN.out, x, f, HFX.out.1, by rw [← HBS.out]; exact HFX.out.2.1, HFX.out.2.2, by rw [HS2.out], .inr ⟨by rw [← HS2.out]; exact hok, rfl, rfl⟩⟩)⟩)⟩
                  clear hO5 hk5 hok
                  go_wp2_with (fail)
                  go_ret2
                  exact HF.out
                | true =>
                  have hb5 := HBV.out.keep HBI.out (HKK.out.trans hk5)
                  have hclo := clone_any w5 _ (pgather S.D bs 4) hb5 (by intro h; have := HP4.out; rw [h] at this; simp at this) (by rw [HP4.out]; omega)
                  have HCLO := Lib.hid hclo
                  have HO5 := Lib.hid hO5
                  have HK5 := Lib.hid (HKP.out.trans (HKK.out.trans hk5))
                  have HOK := Lib.hid hok
                  clear hb5 hclo hO5 hk5 hok
                  go_wp2_with (fail)
                  refine HCLO.out.mono ?_
                  rintro e w6 ⟨v6, rfl, hb6, hu6, -⟩
                  have HF : Hid (GetsTo C S (k : Int) w0 l w (.returned (.tuple #[v6, .int .i64 0])) w6) := Lib.hid ⟨_, v6, pgather S.D bs 4, 0, ⟨rfl, ⟨us5, HO5.out.upd hu6⟩, HK5.out.trans hu6.keeps⟩, hb6.view, hb6.inp,
                    .inr (.inr ⟨HOV.out, HAT0.out, k, rfl, hkl, .inr (.inr ⟨HNF.out, HDN.out, x, f, HFX.out.1, by rw [← HBS.out]; exact HFX.out.2.1, HFX.out.2.2, by rw [HS2.out], .inl ⟨by rw [← HS2.out]; exact HOK.out, HFX.out.2.1.symm, rfl⟩⟩)⟩)⟩
                  clear hb6 hu6
                  go_wp2_with (fail)
                  go_ret2
                  exact HF.out
      · obtain ⟨j, f, q1, q2, q3, -⟩ := fmap_some hso
        simp only [if_true] at hrun
        unfold PtrV at hv
        rw [← q3] at hv
        subst hv
        have hdrop := own_pdrop h hw.nodup (Nat.le_trans hw.full hw.few) (k : Int)
        unfold Drops at hdrop
        have hg := (fdrop_at hw.nodup q1 q2).2
        rw [hg] at hdrop
        have hwd := hw.drop (k : Int)
        have hpa := put_again hw q1
        rw [q2] at hpa
        have hfb := hw.blen f (List.mem_of_getElem? q1)
        have hfn : f.n = k := by omega
        have HL := Lib.hid hl
        have HOF := Lib.hid hof
        have HD := Lib.hid hdrop
        have HWD := Lib.hid hwd
        have HPA := Lib.hid hpa
        have HFB := Lib.hid hfb
        have HOV := Lib.hid hov
        have HLN := Lib.hid hlen
        have HQ1 := Lib.hid q1
        have HFN := Lib.hid hfn
        clear h hw hl hof hdrop hwd hpa hfb hov hlen q1 q2 q3 hso hg hfn p0 p1 p6
        go_enter Try.func62, Try.ntmps62
        go_wp2_with (fail)
        refine HL.out.mono ?_
        rintro e w' ⟨rfl, rfl⟩
        go_wp2_with (fail)
        refine HOF.out.mono ?_
        rintro e w' ⟨rfl, rfl⟩
        generalize S.at_ (k : Int) = an at HCD HAT hat ⊢
        rcases hat with rfl | rfl
        all_goals
          clear HCD
          go_wp2_with (fail)
          refine HD.out.mono ?_
          rintro e w3 ⟨rfl, ⟨us3, hO3⟩, hk3⟩
          have hput := own_pput (l := l) hO3 HWD.out HOV.out HLN.out
          unfold PutTo at hput
          rw [HPA.out] at hput
          have HP := Lib.hid hput
          have HK3 := Lib.hid hk3
          clear hO3 hput hk3
          go_wp2_with (fail)
          refine HP.out.mono ?_
          rintro e w4 ⟨rfl, ⟨us4, hO4⟩, hk4⟩
          have hfi : (pth C { S with fs := f :: fdrop S.fs (k : Int) } us4 l)[5 + 0]? = some (frameT f) := pth_frame rfl
          obtain ⟨g1, g2, g3⟩ := own_frame hO4 _ hfi
          obtain ⟨fa, fc, hfv, _, _⟩ := g2.shape
          rw [HFB.out] at hfv
          have f1 : w4.cell? ⟨f.blk, 1, none⟩ = some (.slice fa 1024 fc) := by rw [← hfv]; exact cell_of_heap g1 rfl
          have fl := lt_of_heap g1
          rw [hfv] at g2
          have hcl := clone_any w4 _ f.b g2 (by intro h; have := HFB.out; rw [h] at this; simp at this) (by rw [HFB.out]; omega)
          have HCL := Lib.hid hcl
          have HO4 := Lib.hid hO4
          have HK4 := Lib.hid (HK3.out.trans hk4)
          clear hO4 hk4 g1 g2 g3 hfi hfv hcl
          go_wp2_with (fail)
          refine HCL.out.mono ?_
          rintro e w5 ⟨v5, rfl, hb5, hu5, -⟩
          have HF : Hid (GetsTo C S (k : Int) w0 l w (.returned (.tuple #[v5, .int .i64 0])) w5) := Lib.hid ⟨_, v5, f.b, 0, ⟨rfl, ⟨us4, HO4.out.upd hu5⟩, HK4.out.trans hu5.keeps⟩, hb5.view, hb5.inp, .inr (.inr ⟨HOV.out, HAT0.out, k, rfl, hkl, .inl ⟨j, f, HQ1.out, HFN.out, rfl, rfl, rfl⟩⟩)⟩
          clear hb5 hu5
          go_wp2_with (fail)
          go_ret2
          exact HF.out
    · have h1 : ¬ S.at_ n = 1 := fun h => hat (.inl h)
      have h2 : ¬ S.at_ n = 2 := fun h => hat (.inr h)
      have HF : Hid (GetsTo C S n w0 l w (.returned (.tuple #[.slice none 0 0, .int .i64 1])) w) := Lib.hid ⟨S, _, [], 1, ⟨rfl, ⟨us, h⟩, Keeps.refl w⟩, (nil_bytes w).1, (nil_bytes w).2, .inr (.inl ⟨hov, h1, h2, rfl, rfl, rfl⟩)⟩
      have HL := Lib.hid hl
      have HOF := Lib.hid hof
      have h1' : (S.at_ n != 1) = true := by rw [bne_iff_ne]; exact h1
      have h2' : (S.at_ n != 2) = true := by rw [bne_iff_ne]; exact h2
      clear h hl hw hlen hov hof hat h1 h2
      go_enter Try.func62, Try.ntmps62
      go_wp2_with (fail)
      refine HL.out.mono ?_
      rintro e w' ⟨rfl, rfl⟩
      go_wp2_with (fail)
      refine HOF.out.mono ?_
      rintro e w' ⟨rfl, rfl⟩
      generalize S.at_ n = an at h1' h2' ⊢
      go_wp2_with (fail)
      go_ret2
      exact HF.out
end

end Go.Proofs.Ytkpoladbabhdmaa
