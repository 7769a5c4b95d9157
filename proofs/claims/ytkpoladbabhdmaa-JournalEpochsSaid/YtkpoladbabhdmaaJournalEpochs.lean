/- JournalEpochs. Conditions: none. -/
import Derived.Test.YtkpoladbabhdmaaJrn11
namespace Go.Proofs.Ytkpoladbabhdmaa
open Go.RowKit

theorem take_len2 {α : Type} (L : List α) {j sy : Nat} (h : sy ≤ j) (hl : sy ≤ L.length) : sy ≤ (L.take j).length := by rw [List.length_take]; omega

theorem posFrom_mem {f : Int} {p : Int × Bytes} : ∀ (V : List Bytes) (a : Nat), p ∈ posFrom f a V → p.2 ∈ V
  | [], _, h => by simp [posFrom] at h
  | x :: V, a, h => by
    simp only [posFrom, List.mem_cons] at h
    rcases h with rfl | h
    · simp
    · exact List.mem_cons_of_mem _ (posFrom_mem V (a + 1) h)
theorem jsecs_mem {E : Int} {a num r : Nat} {b x : Bytes} (h : x ∈ jsecs E a num b r) : ∃ n r p b, x = jsec E n r p b := by
  simp only [jsecs, List.mem_map] at h
  obtain ⟨p, _, rfl⟩ := h
  exact ⟨_, _, _, _, rfl⟩
theorem jall_mem {E : Int} {x : Bytes} : ∀ (L : List Bytes) (a num : Nat), x ∈ jall E a num L → ∃ n r p b, x = jsec E n r p b
  | [], _, _, h => by simp [jall] at h
  | b :: L, a, num, h => by
    simp only [jall, List.mem_append] at h
    rcases h with h | h
    · exact jsecs_mem h
    · exact jall_mem L _ _ h
theorem jsec_take8 (E n r : Int) (p : Nat) (b : Bytes) : (jsec E n r p b).take 8 = be64 E := by
  have e : jsec E n r p b = be64 E ++ (be32 n ++ be32 r ++ be16 (p : Int) ++ be16 (jparts b.length : Int) ++ be16 ((jpiece b p).length : Int) ++ jpiece b p ++ List.replicate (256 - (22 + (jpiece b p).length)) 0) := by
    unfold jsec; simp only [List.append_assoc]
  rw [e]; exact List.take_left' (be64_len E)
theorem foreign_epoch {E E' n r : Int} {p : Nat} {b : Bytes} (h0 : 0 ≤ E) (h1 : E < 18446744073709551616) (h0' : 0 ≤ E') (h1' : E' < 18446744073709551616) (hne : E ≠ E') : Foreign E' (jsec E n r p b) := by
  intro n' r' p' b' _ _ _ he
  have h := congrArg (List.take 8) he
  rw [jsec_take8, jsec_take8] at h
  have e1 := beNum_be64 E h0 h1
  have e2 := beNum_be64 E' h0' h1'
  rw [h] at e1
  omega

/-- what another epoch has left -/
theorem PlayI.others {size f E E' : Int} {c : Nat} {S : JS} {L : List Bytes} {sy : Nat} (h : PlayI [] size f c E S L sy) (h0 : 0 ≤ E) (h1 : E < 18446744073709551616) (h0' : 0 ≤ E') (h1' : E' < 18446744073709551616) (hne : E ≠ E') (keep : List Bool) :
    (∀ n, Foreign E' ((S.D.cut keep).sec n)) ∧ (S.D.cut keep).all.length ≤ c := by
  obtain ⟨T, t1, t2, t3, t4⟩ := h.all
  rw [List.nil_append] at t4
  constructor
  · intro n
    unfold Dk.sec
    cases hl : last (S.D.cut keep).all n with
    | none => exact foreign_zeros E'
    | some x =>
      have hm : (n, x) ∈ S.D.all.take S.D.lasts ++ kept keep 0 (S.D.all.drop S.D.lasts) := last_mem _ _ _ hl
      have hm2 : (n, x) ∈ S.D.all := by
        rcases List.mem_append.1 hm with hm | hm
        · exact List.mem_of_mem_take hm
        · exact List.mem_of_mem_drop (kept_mem _ _ _ _ hm)
      rw [t4] at hm2
      have hx := posFrom_mem _ _ hm2
      have hj : ∃ n r p b, x = jsec E n r p b := by
        rcases List.mem_append.1 hx with hx | hx
        · exact jall_mem L 0 0 hx
        · rcases t1 with rfl | ⟨b, r, rfl, _⟩
          · simp at hx
          · exact jsecs_mem hx
      obtain ⟨_, _, _, _, rfl⟩ := hj
      exact foreign_epoch h0 h1 h0' h1' hne
  · have := Dk.cut_len S.D keep
    have hl : S.D.all.length = S.next := by rw [t4, posFrom_len, ← t3]
    have := h.next
    omega

theorem scan_foreign {s : Nat → Bytes} {E : Int} (hs : ∀ i, Foreign E (s i)) (c : Nat) : scanAll s c E = [] := by
  unfold scanAll
  cases c with
  | zero => rfl
  | succ c =>
    unfold scanFrom
    rw [recAt_none fun b hb => by
      have h2 := hb.pos
      exact hs (0 + 0) _ _ _ b hb.ne hb.le (by omega) (hb.secs 0 (by omega))]

def Same0 (C C' : Dk) : Prop := C'.all = C.all ∧ C'.lasts = C.lasts ∧ C'.size = C.size ∧ C'.down = C.down

set_option maxRecDepth 100000 in
set_option maxHeartbeats 4000000 in
theorem jepochs_walk (w : World) {v v' kv : Value} {first second : List Op7} (hops : Ops7V w v first) (hops' : Ops7V w v' second) {keep : List Bool} (hk : BoolsV w kv keep) :
    Calls Try.prog 16 #[v, v', kv] w (Returns (.bool true) (Below w.heap.size w)) := by
  have hnot : ∀ (x : Bool) (w : World), (Op.unary .not (.bool x)).run Try.prog w = .ok (.bool (!x)) w := fun _ _ => rfl
  obtain ⟨ka, kc, rfl, hkc, hkm⟩ := hk.shape
  have hkl : keep.length ≤ 9223372036854775807 := by unfold maxLen at hkm; omega
  have HOP := Lib.hid hops
  have HOP' := Lib.hid hops'
  have HKV := Lib.hid hk
  clear hops hops' hk hkc hkm
  go_enter Try.func16, Try.ntmps16
  go_wp2_with (fail)
  refine (own_returns (Owns.none w) (awake7_any w)).mono ?_
  rintro e w1 ⟨rfl, hO1, -⟩
  have HO1 := Lib.hid hO1
  clear hO1
  go_wp2_with (fail)
  refine (few7_any (HOP.out.upd HO1.out.mine)).mono ?_
  rintro e w' ⟨x, rfl, hx, rfl⟩
  cases x with
  | false =>
    clear hx
    go_wp2_with (fail)
    refine (own_returns HO1.out (awake7_any w1)).mono ?_
    rintro e w2 ⟨rfl, hO2, -⟩
    have HO2 := Lib.hid hO2
    clear hO2
    go_wp2_with (fail)
    go_ret
    exact ⟨rfl, HO2.out.below⟩
  | true =>
    obtain ⟨h30, hsh⟩ := hx rfl
    have HSH := Lib.hid hsh
    clear hx hsh
    go_wp2_with (fail)
    refine (few7_any (HOP'.out.upd HO1.out.mine)).mono ?_
    rintro e w' ⟨x, rfl, hx, rfl⟩
    cases x with
    | false =>
      clear hx
      go_wp2_with (fail)
      refine (own_returns HO1.out (awake7_any w1)).mono ?_
      rintro e w2 ⟨rfl, hO2, -⟩
      have HO2 := Lib.hid hO2
      clear hO2
      go_wp2_with (fail)
      go_ret
      exact ⟨rfl, HO2.out.below⟩
    | true =>
      obtain ⟨h30', hsh'⟩ := hx rfl
      have HSH' := Lib.hid hsh'
      clear hx hsh'
      by_cases hk1 : 1000 < keep.length
      · go_wp2_with (fail)
        refine (own_returns HO1.out (awake7_any w1)).mono ?_
        rintro e w2 ⟨rfl, hO2, -⟩
        have HO2 := Lib.hid hO2
        clear hO2
        go_wp2_with (fail)
        go_ret
        exact ⟨rfl, HO2.out.below⟩
      · have hk2 : keep.length ≤ 1000 := by omega
        clear hk1
        have hs60 : (Dk.new 60).size = 60 := by decide
        have HS := Lib.hid hs60
        clear hs60
        go_wp2_with (fail)
        refine (own_new HO1.out 60).mono ?_
        rintro e w2 ⟨d, rfl, hO2, -⟩
        have HO2 := Lib.hid hO2
        clear hO2
        go_wp2_with (fail)
        refine (own_jnew HO2.out 0 rfl (by unfold int64; omega) (by unfold int64; omega) (by rw [HS.out]; decide)).mono ?_
        rintro e w3 ⟨q, rfl, hO3, -⟩
        have HO3 : Hid (Owns w (jthings q d 0 ((60 : Nat) : Int) 7 ⟨Dk.new 60, 0, 0, false⟩ []) w3) := Lib.hid hO3
        clear hO3
        go_wp2_with (fail)
        refine (own_play (base := []) (size := 60) (c := 60) HO3.out (by have := PlayI.start (base := []) (f := 0) (E := 7) (c := 60) (D := Dk.new 60) rfl rfl; rwa [HS.out] at this) (by unfold Big; simp) (by omega) (by omega) (by omega) HOP.out h30 HSH.out).mono ?_
        rintro e w4 ⟨S, L, sy, v4, rfl, hP, -, hbig, hO4, -⟩
        obtain ⟨C, hC⟩ : ∃ C, C = S.D.cut keep := ⟨_, rfl⟩
        obtain ⟨hfor, hcl⟩ := hP.others (E' := 8) (by omega) (by omega) (by omega) (by omega) (by omega) keep
        have hsz : C.size = 60 := by
          rw [hC]
          show min (max S.D.size 0) 65536 = 60
          rw [hP.size]; decide
        have hla : C.lasts = C.all.length := by rw [hC]; rfl
        have hdn : C.down = false := by rw [hC]; rfl
        rw [← hC] at hfor hcl
        have HO4 := Lib.hid hO4
        have HBG : Hid (S.D.all.length < Big) := Lib.hid (by omega)
        have HFOR := Lib.hid hfor
        have HCL := Lib.hid hcl
        have HSZ := Lib.hid hsz
        have HLA := Lib.hid hla
        have HDN := Lib.hid hdn
        have HC := Lib.hid hC
        clear hP hbig hO4 hsz hla hdn hfor hcl hC
        go_wp2_with (fail)
        refine (own_cut HO4.out 1 rfl (HKV.out.upd HO4.out.mine (by simp)) HBG.out).mono ?_
        rw [← HC.out]
        rintro e w5 ⟨x, rfl, hO5, -⟩
        have hO5 : Owns w [disk x C] w5 := hO5.pick (fun _ => 0) (by intro i T h; match i, h with | 0, h => simpa using h) (by intro i j hi hj _; simp at hi hj; omega)
        have HO5 := Lib.hid hO5
        clear hO5
        go_wp2_with (fail)
        have hsc := own_scan HO5.out 0 rfl HDN.out (f := 0) (E := 8) (c := 60) (by omega) (by rw [HSZ.out]; omega)
        rw [scan_foreign (fun i => HFOR.out _)] at hsc
        have HSC := Lib.hid hsc
        clear hsc
        refine HSC.out.mono ?_
        rintro e w6 ⟨v6, x6, rfl, hO6, -⟩
        obtain ⟨a6, c6, hv6, _, _⟩ := (own_rows hO6 0 rfl).shape
        subst hv6
        obtain ⟨C', hC'⟩ : ∃ C', C' = { C with a0 := x6 } := ⟨_, rfl⟩
        have hsame : Same0 C C' := by rw [hC']; exact ⟨rfl, rfl, rfl, rfl⟩
        have hO6 : Owns w [disk x C'] w6 := by rw [hC']; exact hO6.pick (fun _ => 1) (by intro i T h; match i, h with | 0, h => simpa using h) (by intro i j hi hj _; simp at hi hj; omega)
        have HO6 := Lib.hid hO6
        have HSM := Lib.hid hsame
        clear hO6 hsame hC'
        go_wp2_with (fail)
        refine (own_jnew HO6.out 0 rfl (by unfold int64; omega) (by unfold int64; omega) (by rw [HSM.out.2.2.1, HSZ.out]; decide)).mono ?_
        rintro e w7 ⟨q7, rfl, hO7, -⟩
        have HO7 : Hid (Owns w (jthings q7 x 0 ((60 : Nat) : Int) 8 ⟨C', 0, 0, false⟩ []) w7) := Lib.hid hO7
        clear hO7
        go_wp2_with (fail)
        refine (own_play (base := C.all) (size := 60) (c := 60) HO7.out (by have := PlayI.start (base := C.all) (f := 0) (E := 8) (c := 60) (D := C') HSM.out.1 (by rw [HSM.out.2.1, HLA.out]); rwa [HSM.out.2.2.1, HSZ.out] at this) (by have := HCL.out; unfold Big; omega) (by omega) (by omega) (by omega) HOP'.out h30' HSH'.out).mono ?_
        rintro e w8 ⟨S2, L2, sy2, v8, rfl, hP2, hL30, hbig2, hO8, -⟩
        have hcut := hP2.cut (fun i _ => HFOR.out (0 + (i : Int))) keep
        have hsz2 : (S2.D.cut keep).size = 60 := by
          show min (max S2.D.size 0) 65536 = 60
          rw [hP2.size]; decide
        have hsy := hP2.synced.1
        obtain ⟨la, lc, hv8, _, _⟩ := (own_rows hO8 2 rfl).shape
        obtain ⟨n8, hn8⟩ : ∃ n8, n8 = L2.length := ⟨_, rfl⟩
        rw [← hn8] at hv8
        subst hv8
        have HO8 := Lib.hid hO8
        have HBG2 : Hid (S2.D.all.length < Big) := Lib.hid (by omega)
        have HCUT := Lib.hid hcut
        have HSZ2 := Lib.hid hsz2
        clear hP2 hbig2 hO8 hcut hsz2 hn8
        go_wp2_with (fail)
        refine (own_cut HO8.out 1 rfl (HKV.out.upd HO8.out.mine (by simp)) HBG2.out).mono ?_
        rintro e w9 ⟨y, rfl, hO9, -⟩
        have HO9 := Lib.hid hO9
        clear hO9
        go_wp2_with (fail)
        have hsc := own_scan HO9.out 0 rfl rfl (f := 0) (E := 8) (c := 60) (by omega) (by rw [HSZ2.out]; omega)
        obtain ⟨j, hj1, hj2⟩ := HCUT.out
        rw [hj2] at hsc
        have hlen := take_len2 L2 hj1 hsy
        obtain ⟨n, hn⟩ : ∃ n, n = (L2.take j).length := ⟨_, rfl⟩
        rw [← hn] at hlen
        have hn30 : n ≤ 30 := by rw [hn, List.length_take]; omega
        have HSC2 := Lib.hid hsc
        have HN := Lib.hid hn
        clear hsc hj1 hj2 hn HCUT
        refine HSC2.out.mono ?_
        rintro e w10 ⟨v10, x10, rfl, hO10, -⟩
        obtain ⟨a10, c10, hv10, _, _⟩ := (own_rows hO10 0 rfl).shape
        rw [← HN.out] at hv10
        subst hv10
        have hvL := own_rows hO10 4 rfl
        have HFR := Lib.hid (front_true hvL.view (own_rows hO10 0 rfl).view (by rw [List.length_take]; omega) (fun i b hb => by rw [List.getElem?_take] at hb; split at hb; exact hb; cases hb))
        have HO10 := Lib.hid hO10
        clear hO10 hvL
        go_wp2_with (fail)
        refine (own_returns HO10.out HFR.out).mono ?_
        rintro e w11 ⟨rfl, hO11, -⟩
        have HF := Lib.hid hO11.below
        clear hO11
        go_wp2_with (fail)
        go_ret
        exact ⟨rfl, HF.out⟩

end Go.Proofs.Ytkpoladbabhdmaa
