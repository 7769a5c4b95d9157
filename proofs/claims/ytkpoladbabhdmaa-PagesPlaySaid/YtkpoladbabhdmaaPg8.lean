/- The pages' Flush. Conditions: as it says. -/
import Derived.Test.YtkpoladbabhdmaaPg7
namespace Go.Proofs.Ytkpoladbabhdmaa
open Go.RowKit

/-- r frames are written where they are dirty, from frame i on; did all go well? -/
def flush (C : PC) : Nat → Nat → PS → PS × Bool
  | 0, _, S => (S, true)
  | r + 1, i, S =>
    match S.fs[i]? with
    | none => (S, true)
    | some f =>
      if f.dirty then
        if (pwr (C.base f.n) f.b 4 0 S.D).2 then flush C r (i + 1) { S with D := (pwr (C.base f.n) f.b 4 0 S.D).1, fs := S.fs.set i { f with dirty := false } }
        else ({ S with D := (pwr (C.base f.n) f.b 4 0 S.D).1, over := true }, false)
      else flush C r (i + 1) S

theorem PW.wrote {C : PC} {S : PS} (h : PW C S) {i : Nat} {f g : Fr} (hi : S.fs[i]? = some f) (hn : g.n = f.n) (hb : g.b = f.b) {D : Dk} (hD : D.size = S.D.size) (ov : Bool) : PW C { D := D, is := S.is, fs := S.fs.set i g, over := ov } := by
  have hm : ∀ x ∈ S.fs.set i g, ∃ y ∈ S.fs, x.n = y.n ∧ x.b = y.b := by
    intro x hx
    rcases List.mem_or_eq_of_mem_set hx with hx | rfl
    · exact ⟨x, hx, rfl, rfl⟩
    · exact ⟨f, List.mem_of_getElem? hi, hn, hb⟩
  refine ⟨?_, fun x hx => ?_, fun x hx => ?_, by rw [hD]; exact h.fits, by rw [hD]; exact h.size, h.pool, by rw [List.length_set]; exact h.full, h.few⟩
  · unfold FNodup; rw [fset_n hi hn]; exact h.nodup
  · obtain ⟨y, hy, e, _⟩ := hm x hx; rw [e]; exact h.inis y hy
  · obtain ⟨y, hy, _, e⟩ := hm x hx; rw [e]; exact h.blen y hy

section
variable {w0 w : World} {l : List Thing} {C : PC} {S : PS} {us : Value}

/-- what Flush comes to -/
def PS.flush (C : PC) (S : PS) : PS × Int := if S.over then (S, 7) else ((Ytkpoladbabhdmaa.flush C S.fs.length 0 S).1, if (Ytkpoladbabhdmaa.flush C S.fs.length 0 S).2 then 0 else 7)

theorem own_lookup (h : Owns w0 (pth C S us l) w) (hn : FNodup S.fs) {j : Nat} {g : Fr} (hj : S.fs[j]? = some g) : (Instr.lookup 150 (.map (some C.mb)) (.int .i64 (g.n : Int)) false).run Try.prog w = .ok (.pointer (some ⟨g.blk, 0, none⟩)) w := by
  obtain ⟨es, c, k1, k2⟩ := own_map h 2 rfl
  have hz : (zeroValue 156).run Try.prog w = .ok (.pointer none) w := by kernel_rfl
  have hfm := fmap_at hn hj
  rcases run_look (P := Try.prog) (w := w) Try.underlying150 Try.underlying3 hz k1 k2 (g.n : Int) false with ⟨h1, _⟩ | ⟨v, b, h1, h2, h3⟩
  · rw [hfm] at h1; cases h1
  · rw [hfm] at h1; cases h1
    unfold PtrV at h2
    subst h2
    simpa using h3

set_option maxRecDepth 100000 in
set_option maxHeartbeats 4000000 in
theorem own_flush (h : Owns w0 (pth C S us l) w) (hw : PW C S) (hlen : S.D.all.length + 4 * S.fs.length + 4 < Big) : Calls Try.prog 64 #[.pointer (some ⟨C.p, 0, none⟩)] w (PagesTo C (S.flush C).1 (.int .i64 (S.flush C).2) w0 l w) := by
  have hl := own_lost h
  cases hov : S.over with
  | true =>
    rw [hov] at hl
    have hfe : S.flush C = (S, 7) := by unfold PS.flush; rw [hov]; rfl
    have HF : Hid (PagesTo C (S.flush C).1 (.int .i64 (S.flush C).2) w0 l w (.returned (.int .i64 7)) w) := Lib.hid ⟨by rw [hfe], ⟨us, by rw [hfe]; exact h⟩, Keeps.refl w⟩
    have HL := Lib.hid hl
    clear h hl hw hlen hov hfe
    go_enter Try.func64, Try.ntmps64
    go_wp2_with (fail)
    refine HL.out.mono ?_
    rintro e w' ⟨rfl, rfl⟩
    go_wp2_with (fail)
    go_ret
    exact HF.out
  | false =>
    rw [hov] at hl
    obtain ⟨R, hR⟩ : ∃ R, R = flush C S.fs.length 0 S := ⟨_, rfl⟩
    have hfe : S.flush C = (R.1, if R.2 then 0 else 7) := by unfold PS.flush; rw [hov, ← hR]; rfl
    rw [hfe]
    obtain ⟨en, hen⟩ : ∃ en : Int, en = if R.2 then 0 else 7 := ⟨_, rfl⟩
    show Calls _ _ _ _ (PagesTo C R.1 (.int .i64 (if R.2 then 0 else 7)) w0 l w)
    rw [← hen]
    have HEN := Lib.hid hen
    clear hen
    have hfits := hw.fits
    have hsz := hw.size
    have hfull := hw.full
    have hfew := hw.few
    obtain ⟨-, -, -, -, -, p5, -, plt⟩ := own_pg h
    obtain ⟨ua, uc, hus, _, _⟩ := (own_ints h 3 rfl).shape
    rw [usedOf_len] at hus
    subst hus
    obtain ⟨n, hn⟩ : ∃ n, n = S.fs.length := ⟨_, rfl⟩
    rw [← hn] at h p5 hR hlen hfull
    have hn1 : n ≤ 1000 := by omega
    have HL := Lib.hid hl
    have H := Lib.hid h
    have HOV := Lib.hid hov
    have HW := Lib.hid hw
    have HLN := Lib.hid hlen
    have HR := Lib.hid hR
    have HN := Lib.hid hn
    clear h hl hw hlen hov hfe hR hn
    go_enter Try.func64, Try.ntmps64
    go_wp2_with (fail)
    refine HL.out.mono ?_
    rintro e w' ⟨rfl, rfl⟩
    go_wp2_with (fail)
    go_loopw [13] (fun x wr => ∃ (k : Nat) (S' : PS), k ≤ n ∧ x = .int .i64 (k : Int) ∧ R = flush C (n - k) k S' ∧ Owns w0 (pth C S' (.slice ua n uc) l) wr ∧ Keeps w wr ∧ S'.fs.length = n ∧ PW C S' ∧ S'.over = false ∧ S'.D.all.length ≤ S.D.all.length + 4 * k ∧ S'.is.length = S.is.length) (fun x _ => n - (intOf x).toNat)
    case atStart => exact ⟨0, S, Nat.zero_le _, rfl, HR.out, H.out, Keeps.refl w, HN.out.symm, HW.out, HOV.out, by omega, rfl⟩
    case round =>
      obtain ⟨k, S', hk, rfl, hr, hO, hkp, hfl, hpw, hov, hdl, hil⟩ := hrel
      by_cases hlt : k < n
      · obtain ⟨f, hf⟩ : ∃ f, S'.fs[k]? = some f := ⟨S'.fs[k]'(by omega), List.getElem?_eq_getElem _⟩
        have hgl : (usedOf S'.fs)[k]? = some (f.n : Int) := by unfold usedOf; rw [List.getElem?_map, hf]; rfl
        obtain ⟨ug, rfl⟩ : ∃ ug, ua = some ⟨ug, 0, none⟩ := by
          rcases (own_ints hO 3 rfl).block with ⟨_, h0⟩ | ⟨ug, _, _, hus, _⟩
          · rw [h0] at hgl; simp at hgl
          · cases hus; exact ⟨ug, rfl⟩
        have hcu : wr.cell? ⟨ug, k, none⟩ = some (.int .i64 (f.n : Int)) := (own_ints hO 3 rfl).cell hgl
        have hlook := own_lookup hO hpw.nodup hf
        obtain ⟨-, -, -, -, p4, -, -, plt4⟩ := own_pg hO
        have hfi : (pth C S' (.slice (some ⟨ug, 0, none⟩) n uc) l)[5 + k]? = some (frameT f) := pth_frame hf
        obtain ⟨g1, -, -⟩ := own_frame hO _ hfi
        have gd : wr.cell? ⟨f.blk, 2, none⟩ = some (.bool f.dirty) := cell_of_heap g1 rfl
        have glt := lt_of_heap g1
        obtain ⟨r, hrr⟩ : ∃ r, n - k = r + 1 := ⟨n - k - 1, by omega⟩
        have hr1 : n - (k + 1) = r := by omega
        rw [hrr] at hr
        unfold flush at hr
        rw [hf] at hr
        simp only at hr
        have hin := hpw.inis f (List.mem_of_getElem? hf)
        cases hdy : f.dirty with
        | false =>
          rw [hdy] at gd hr
          simp only [Bool.false_eq_true, if_false] at hr
          rw [← hr1] at hr
          have HREL : Hid (R = flush C (n - (k + 1)) (k + 1) S' ∧ Owns w0 (pth C S' (.slice (some ⟨ug, 0, none⟩) n uc) l) wr ∧ Keeps w wr ∧ S'.fs.length = n ∧ PW C S' ∧ S'.over = false ∧ S'.D.all.length ≤ S.D.all.length + 4 * (k + 1) ∧ S'.is.length = S.is.length) := Lib.hid ⟨hr, hO, hkp, hfl, hpw, hov, by omega, hil⟩
          clear hr hO hkp hfl hpw hov hdl hil hf hgl hfi g1 hdy hrr hr1
          go_wp2_with (fail)
          go_roundw
          case rel => exact ⟨k + 1, S', by omega, by go_num, HREL.out⟩
          case measure => simp only [intOf]; omega
        | true =>
          rw [hdy] at gd hr
          simp only [if_true] at hr
          have hpwr := own_pwrite (A := S'.fs.map frameT ++ l) hO k (by rw [List.getElem?_append_left (by simp; omega), List.getElem?_map, hf]; rfl) (hpw.blen f (List.mem_of_getElem? hf)) hov (by have := hpw.fits; have := hpw.size; omega) (by have := hpw.fits; have := hpw.size; omega) (by have := HLN.out; omega)
          obtain ⟨q1, q2⟩ := pwr_size (C.base f.n) f.b 4 0 S'.D
          unfold PWrote at hpwr
          generalize pwr (C.base f.n) f.b 4 0 S'.D = Q at hpwr hr q1 q2
          obtain ⟨D3, ok⟩ := Q
          have HPW := Lib.hid hpwr
          have HR' := Lib.hid hr
          have HKP := Lib.hid hkp
          have HF0 := Lib.hid hf
          have HOV' := Lib.hid hov
          have HPW' := Lib.hid hpw
          have HFL := Lib.hid hfl
          have HIL := Lib.hid hil
          have HDL := Lib.hid hdl
          have HQ1 := Lib.hid q1
          have HQ2 := Lib.hid q2
          have HR1 := Lib.hid hr1
          clear hpwr hr hkp hO hf hgl hfi g1 hdy hrr hr1 hov hpw hfl hil hdl q1 q2
          go_wp2_with (fail)
          refine HPW.out.mono ?_
          rintro e w4 ⟨rfl, hO4, hk4⟩
          cases ok with
          | false =>
            have hr := HR'.out
            simp only [Bool.false_eq_true, if_false] at hr
            have hO4' : Owns w0 (pth C { S' with D := D3, over := true } (.slice (some ⟨ug, 0, none⟩) n uc) l) w4 := by
              have e1 : ({ f with dirty := f.dirty && !false } : Fr) = f := by cases f; simp
              have e2 : (S'.over || !false) = true := by simp
              rw [e1, e2] at hO4
              have e3 : (S'.fs.map frameT ++ l).set k (frameT f) = S'.fs.map frameT ++ l := by
                apply List.ext_getElem?
                intro j
                rw [List.getElem?_set]
                split
                · rename_i hij
                  subst hij
                  have := HFL.out
                  rw [if_pos (by simp; omega), List.getElem?_append_left (by simp; omega), List.getElem?_map, HF0.out]; rfl
                · rfl
              rw [e3] at hO4
              exact hO4
            have HF : Hid (PagesTo C R.1 (.int .i64 en) w0 l w (.returned (.int .i64 7)) w4) := Lib.hid (by rw [HEN.out, hr]; exact ⟨rfl, ⟨_, hO4'⟩, HKP.out.trans hk4⟩)
            clear hO4 hO4' hk4 hr
            go_wp2_with (fail)
            go_ret
            exact HF.out
          | true =>
            have hr := HR'.out
            simp only [if_true] at hr
            have e2 : (S'.over || !true) = S'.over := by simp
            rw [e2] at hO4
            have hO5 := pth_set (S := { S' with D := D3 }) (us := .slice (some ⟨ug, 0, none⟩) n uc) (g' := { f with dirty := f.dirty && !true }) HF0.out rfl rfl hO4
            have e3 : ({ f with dirty := f.dirty && !true } : Fr) = { f with dirty := false } := by simp
            rw [e3] at hO5
            rw [← HR1.out] at hr
            have HREL : Hid (R = flush C (n - (k + 1)) (k + 1) { S' with D := D3, fs := S'.fs.set k { f with dirty := false } } ∧ Owns w0 (pth C { S' with D := D3, fs := S'.fs.set k { f with dirty := false } } (.slice (some ⟨ug, 0, none⟩) n uc) l) w4 ∧ Keeps w w4 ∧ (S'.fs.set k { f with dirty := false }).length = n ∧
                PW C { S' with D := D3, fs := S'.fs.set k { f with dirty := false } } ∧ S'.over = false ∧ D3.all.length ≤ S.D.all.length + 4 * (k + 1) ∧ S'.is.length = S.is.length) :=
              Lib.hid ⟨hr, hO5, HKP.out.trans hk4, by rw [List.length_set]; exact HFL.out, HPW'.out.wrote (g := { f with dirty := false }) HF0.out rfl rfl HQ1.out _, HOV'.out, by have := HQ2.out; have := HDL.out; simp only at *; omega, HIL.out⟩
            clear hO4 hO5 hk4 hr
            go_wp2_with (fail)
            go_roundw
            case rel => exact ⟨k + 1, _, by omega, by go_num, HREL.out⟩
            case measure => simp only [intOf]; omega
      · obtain rfl : k = n := by omega
        have HF : Hid (PagesTo C R.1 (.int .i64 en) w0 l w (.returned (.int .i64 0)) wr) := Lib.hid (by
          rw [Nat.sub_self] at hr
          unfold flush at hr
          rw [HEN.out, hr]; exact ⟨rfl, ⟨_, hO⟩, hkp⟩)
        clear hr hO hkp hfl hpw hov hdl hil
        go_wp2_with (fail)
        go_ret
        exact HF.out
end

end Go.Proofs.Ytkpoladbabhdmaa
