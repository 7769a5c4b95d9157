/- A journal's sector. Conditions: as each says. -/
import Derived.Test.YtkpoladbabhdmaaJrn1
namespace Go.Proofs.Ytkpoladbabhdmaa
open Go.RowKit

def jpiece (b : Bytes) (p : Nat) : Bytes := (b.drop (p * 234)).take 234
theorem jpiece_len (b : Bytes) (p : Nat) : (jpiece b p).length = min 234 (b.length - p * 234) := by simp [jpiece]
/-- a sector of a record: E its epoch, n its number in the area, r that of the record, p that of the part -/
def jsec (E n r : Int) (p : Nat) (b : Bytes) : Bytes :=
  be64 E ++ be32 n ++ be32 r ++ be16 (p : Int) ++ be16 (jparts b.length : Int) ++ be16 ((jpiece b p).length : Int) ++ jpiece b p ++ List.replicate (256 - (22 + (jpiece b p).length)) 0
theorem jsec_len (E n r : Int) (p : Nat) (b : Bytes) : (jsec E n r p b).length = 256 := by
  have := jpiece_len b p
  simp [jsec, be64_len, be32, be16]; omega
theorem jparts_lt {n p : Nat} (h : p < jparts n) : p * 234 < n := by
  unfold jparts at h
  split at h <;> omega

theorem le_of_len {l : Bytes} {n m : Nat} (h : l.length = n) (hn : n ≤ m) : l.length ≤ m := by omega

/-- append of any number of zeros -/
theorem run_append_zeros_any (w : World) {v : Value} {l : Bytes} (hb : BytesO w v l) (hne : l ≠ []) (ty : TypeId) (n : Nat) (hn : l.length + n ≤ 1000) :
    ∃ v' w', (Builtin.append_ #[33, 3] ty #[v, .int .i64 n]).run Try.prog w = .ok v' w' ∧ BytesO w' v' (l ++ List.replicate n 0) ∧ w.grownBy w' v.ownBlock ∧ Moved w v v' := by
  by_cases h0 : 0 < n
  · exact run_append_zeros w hb hne ty n h0 hn
  · obtain rfl : n = 0 := by omega
    obtain ⟨i, hi, hz, hsize, hby⟩ := info_parts Try.info5
    rcases hb.2 with ⟨_, h00⟩ | ⟨g, cap, cur, rfl, hbg, hg, hnc, hcm, hcs, htake⟩
    · exact absurd (List.eq_nil_of_length_eq_zero h00) hne
    refine ⟨.slice (some ⟨g, 0, none⟩) l.length cap, w, ?_, by simpa using hb, ⟨rfl, rfl, rfl, Nat.le_refl _, fun _ _ _ => rfl⟩, .inl rfl⟩
    have hw : IntKind.i64.wrap 0 = 0 := by rw [IntKind.wrap_i64]; omega
    simp [Builtin.append_, run_underlying Try.underlying33, run_underlying Try.underlying3, sizeOf, typeInfo, zeroValue, hi, hz, hby, asInt, asIntOf, hw, hnc, storeCells]

theorem be32_len (x : Int) : (be32 x).length = 4 := rfl
theorem be16_len (x : Int) : (be16 x).length = 2 := rfl

theorem Grows.shape_n {w0 w : World} {v : Value} {l : Bytes} (h : Grows w0 w v l) {n : Nat} (hn : l.length = n) : ∃ a c, v = .slice a n c := by
  obtain ⟨a, c, e⟩ := h.shape
  exact ⟨a, c, hn ▸ e⟩

set_option maxRecDepth 100000 in
set_option maxHeartbeats 2000000 in
theorem jsector_any {w : World} {v : Value} {b : Bytes} {E n r : Int} {p : Nat} (hv : BytesV w v b) (hl : b.length ≤ 9000) (hp : p < jparts b.length) (n0 : 0 ≤ n) (n1 : n ≤ 100000) (r0 : 0 ≤ r) (r1 : r ≤ 100000) :
    Calls Try.prog 92 #[.int .u64 E, .int .i64 n, .int .i64 r, .int .i64 (p : Int), v] w (MadeBytes (jsec E n r p b) w) := by
  have hpl := jparts_lt hp
  have hpp : jparts b.length ≤ 40 := by unfold jparts; split <;> omega
  obtain ⟨a, c, rfl, hc, hm⟩ := hv.shape
  have hcap : b.length ≤ c := hc
  have hps : BytesV w (.slice a b.length c) b := hv
  rcases hv with ⟨_, hb0⟩ | ⟨g, off, cap, he, _, _, _⟩
  · rw [hb0] at hpl; simp at hpl
  cases he
  have hpb : p ≤ 40 := by omega
  obtain ⟨q, hq⟩ : ∃ q, q = (jpiece b p).length := ⟨_, rfl⟩
  have hql := jpiece_len b p
  rw [← hq] at hql
  have hpv : BytesV w (.slice (some ⟨g, off + p * 234, none⟩) q (c - p * 234)) (jpiece b p) := by
    have h1 := hps.sub (i := p * 234) (k := q) (by omega)
    have e : (b.drop (p * 234)).take q = jpiece b p := by
      unfold jpiece
      rw [hql]
      rcases Nat.le_total 234 (b.length - p * 234) with h | h
      · rw [Nat.min_eq_left h]
      · rw [Nat.min_eq_right h, List.take_of_length_le (by simp), List.take_of_length_le (by simp; omega)]
    rwa [e] at h1
  have hq234 : q ≤ 234 := by omega
  have HQ := Lib.hid hq
  have HQL := Lib.hid hql
  have hcm : (c : Int) ≤ 9223372036854775807 := by unfold maxLen at hm; omega
  have hlt1 : p * 234 < c := by omega
  by_cases hmn : (p + 1) * 234 < b.length
  · have hq' : (p + 1) * 234 - p * 234 = q := by omega
    have HQ' := Lib.hid hq'
    clear hq hql hq'
    have hi1 : ((p : Int) + 1) * 234 < (b.length : Int) := by omega
    go_enter Try.func92, Try.ntmps92
    go_wp2_with (fail)
    rw [HQ'.out]
    clear hc hcap hpl hlt1
    refine (jappend64_any (w0 := w) (l := []) (x := E) (Upd.refl [] w) (.nil _) (by intro g hg; cases hg) (by simp)).mono ?_
    rintro e w1 ⟨v1, rfl, hb1, hu1, hn1⟩
    rw [List.nil_append] at hb1
    have g1 : Grows w w1 v1 (be64 E) := ⟨hb1, hu1, hn1⟩
    obtain ⟨a1, c1, rfl⟩ := g1.shape_n (n := 8) rfl
    have G1 := Lib.hid g1
    clear hb1 hu1 hn1 g1
    go_wp2_with (fail)
    refine (append32_any G1.out (le_of_len (n := 8) rfl (by omega)) n0 (by omega)).mono ?_
    rintro e w2 ⟨v2, rfl, hb2, hu2, hn2⟩
    have g2 : Grows w w2 v2 (be64 E ++ be32 n) := ⟨hb2, hu2, hn2⟩
    obtain ⟨a2, c2, rfl⟩ := g2.shape_n (n := 12) rfl
    have G2 := Lib.hid g2
    clear hb2 hu2 hn2 g2
    go_wp2_with (fail)
    refine (append32_any G2.out (le_of_len (n := 12) rfl (by omega)) r0 (by omega)).mono ?_
    rintro e w3 ⟨v3, rfl, hb3, hu3, hn3⟩
    have g3 : Grows w w3 v3 (be64 E ++ be32 n ++ be32 r) := ⟨hb3, hu3, hn3⟩
    obtain ⟨a3, c3, rfl⟩ := g3.shape_n (n := 16) rfl
    have G3 := Lib.hid g3
    clear hb3 hu3 hn3 g3
    go_wp2_with (fail)
    refine (append16_any G3.out (le_of_len (n := 16) rfl (by omega)) (x := (p : Int)) (by omega) (by omega)).mono ?_
    rintro e w4 ⟨v4, rfl, hb4, hu4, hn4⟩
    have g4 : Grows w w4 v4 (be64 E ++ be32 n ++ be32 r ++ be16 (p : Int)) := ⟨hb4, hu4, hn4⟩
    obtain ⟨a4, c4, rfl⟩ := g4.shape_n (n := 18) rfl
    have G4 := Lib.hid g4
    clear hb4 hu4 hn4 g4
    go_wp2_with (fail)
    refine (parts_any b.length (by omega) _).mono ?_
    rintro e w' ⟨rfl, rfl⟩
    go_wp2_with (fail)
    refine (append16_any G4.out (le_of_len (n := 18) rfl (by omega)) (x := (jparts b.length : Int)) (by omega) (by omega)).mono ?_
    rintro e w5 ⟨v5, rfl, hb5, hu5, hn5⟩
    have g5 : Grows w w5 v5 (be64 E ++ be32 n ++ be32 r ++ be16 (p : Int) ++ be16 (jparts b.length : Int)) := ⟨hb5, hu5, hn5⟩
    obtain ⟨a5, c5, rfl⟩ := g5.shape_n (n := 20) rfl
    have G5 := Lib.hid g5
    clear hb5 hu5 hn5 g5
    go_wp2_with (fail)
    refine (append16_any G5.out (le_of_len (n := 20) rfl (by omega)) (x := (q : Int)) (by omega) (by omega)).mono ?_
    rintro e w6 ⟨v6, rfl, hb6, hu6, hn6⟩
    have g6 : Grows w w6 v6 (be64 E ++ be32 n ++ be32 r ++ be16 (p : Int) ++ be16 (jparts b.length : Int) ++ be16 (q : Int)) := ⟨hb6, hu6, hn6⟩
    obtain ⟨a6, c6, rfl⟩ := g6.shape_n (n := 22) rfl
    have G6 := Lib.hid g6
    clear hb6 hu6 hn6 g6
    have hp6 := hpv.upd G6.out.2.1 (by simp)
    obtain ⟨a7, c7, w7, r7, g7⟩ := G6.out.append hp6 33 (by rw [show (be64 E ++ be32 n ++ be32 r ++ be16 (p : Int) ++ be16 (jparts b.length : Int) ++ be16 (q : Int)).length = 22 from rfl, ← HQ.out]; omega)
    have hl7 : (be64 E ++ be32 n ++ be32 r ++ be16 (p : Int) ++ be16 (jparts b.length : Int) ++ be16 (q : Int) ++ jpiece b p).length = 22 + q := by rw [List.length_append, show (be64 E ++ be32 n ++ be32 r ++ be16 (p : Int) ++ be16 (jparts b.length : Int) ++ be16 (q : Int)).length = 22 from rfl, ← HQ.out]
    rw [hl7] at r7 g7
    obtain ⟨z, hz⟩ : ∃ z : Nat, z = 256 - (22 + q) := ⟨_, rfl⟩
    obtain ⟨v8, w8, r8, b8, g8, m8⟩ := run_append_zeros_any w7 g7.1 (by intro h; have := congrArg List.length h; rw [hl7] at this; simp at this) 33 z (by rw [hl7]; omega)
    have hg8 := g7.ran b8 g8 m8
    obtain ⟨a8, c8, rfl⟩ := hg8.shape_n (n := 256) (by rw [List.length_append, hl7, List.length_replicate]; omega)
    have hfin : MadeBytes (jsec E n r p b) w (.returned (.slice a8 256 c8)) w8 := by
      have e : jsec E n r p b = be64 E ++ be32 n ++ be32 r ++ be16 (p : Int) ++ be16 (jparts b.length : Int) ++ be16 (q : Int) ++ jpiece b p ++ List.replicate z 0 := by
        unfold jsec; rw [← HQ.out, hz]
      rw [e]; exact hg8.made
    have hz4 : 256 - ((22 : Int) + (q : Int)) = (z : Int) := by omega
    have hz5 : 256 - (((22 + q : Nat)) : Int) = (z : Int) := by omega
    have hq22 : 22 + q ≤ 256 := by omega
    generalize 22 + q = n7 at r7 r8 g7 hz5 hq22
    have R7 := Lib.hid r7
    have R8 := Lib.hid r8
    have HF := Lib.hid hfin
    clear hp6 r7 g7 hl7 r8 b8 g8 m8 hg8 hfin hz4 hz hpv hps
    go_wp2_with (at_builtin; first | refine wpList_append_ran _ rfl _ _ 33 33 rfl rfl rfl R7.out ?_ | refine wpList_append_ran _ rfl _ _ 33 3 rfl rfl rfl R8.out ?_)
    go_ret
    exact HF.out
  · have hq' : b.length - p * 234 = q := by omega
    have HQ' := Lib.hid hq'
    clear hq hql hq'
    have hi1 : ¬ ((p : Int) + 1) * 234 < (b.length : Int) := by omega
    go_enter Try.func92, Try.ntmps92
    go_wp2_with (fail)
    rw [HQ'.out]
    clear hc hcap hpl hlt1
    refine (jappend64_any (w0 := w) (l := []) (x := E) (Upd.refl [] w) (.nil _) (by intro g hg; cases hg) (by simp)).mono ?_
    rintro e w1 ⟨v1, rfl, hb1, hu1, hn1⟩
    rw [List.nil_append] at hb1
    have g1 : Grows w w1 v1 (be64 E) := ⟨hb1, hu1, hn1⟩
    obtain ⟨a1, c1, rfl⟩ := g1.shape_n (n := 8) rfl
    have G1 := Lib.hid g1
    clear hb1 hu1 hn1 g1
    go_wp2_with (fail)
    refine (append32_any G1.out (le_of_len (n := 8) rfl (by omega)) n0 (by omega)).mono ?_
    rintro e w2 ⟨v2, rfl, hb2, hu2, hn2⟩
    have g2 : Grows w w2 v2 (be64 E ++ be32 n) := ⟨hb2, hu2, hn2⟩
    obtain ⟨a2, c2, rfl⟩ := g2.shape_n (n := 12) rfl
    have G2 := Lib.hid g2
    clear hb2 hu2 hn2 g2
    go_wp2_with (fail)
    refine (append32_any G2.out (le_of_len (n := 12) rfl (by omega)) r0 (by omega)).mono ?_
    rintro e w3 ⟨v3, rfl, hb3, hu3, hn3⟩
    have g3 : Grows w w3 v3 (be64 E ++ be32 n ++ be32 r) := ⟨hb3, hu3, hn3⟩
    obtain ⟨a3, c3, rfl⟩ := g3.shape_n (n := 16) rfl
    have G3 := Lib.hid g3
    clear hb3 hu3 hn3 g3
    go_wp2_with (fail)
    refine (append16_any G3.out (le_of_len (n := 16) rfl (by omega)) (x := (p : Int)) (by omega) (by omega)).mono ?_
    rintro e w4 ⟨v4, rfl, hb4, hu4, hn4⟩
    have g4 : Grows w w4 v4 (be64 E ++ be32 n ++ be32 r ++ be16 (p : Int)) := ⟨hb4, hu4, hn4⟩
    obtain ⟨a4, c4, rfl⟩ := g4.shape_n (n := 18) rfl
    have G4 := Lib.hid g4
    clear hb4 hu4 hn4 g4
    go_wp2_with (fail)
    refine (parts_any b.length (by omega) _).mono ?_
    rintro e w' ⟨rfl, rfl⟩
    go_wp2_with (fail)
    refine (append16_any G4.out (le_of_len (n := 18) rfl (by omega)) (x := (jparts b.length : Int)) (by omega) (by omega)).mono ?_
    rintro e w5 ⟨v5, rfl, hb5, hu5, hn5⟩
    have g5 : Grows w w5 v5 (be64 E ++ be32 n ++ be32 r ++ be16 (p : Int) ++ be16 (jparts b.length : Int)) := ⟨hb5, hu5, hn5⟩
    obtain ⟨a5, c5, rfl⟩ := g5.shape_n (n := 20) rfl
    have G5 := Lib.hid g5
    clear hb5 hu5 hn5 g5
    go_wp2_with (fail)
    refine (append16_any G5.out (le_of_len (n := 20) rfl (by omega)) (x := (q : Int)) (by omega) (by omega)).mono ?_
    rintro e w6 ⟨v6, rfl, hb6, hu6, hn6⟩
    have g6 : Grows w w6 v6 (be64 E ++ be32 n ++ be32 r ++ be16 (p : Int) ++ be16 (jparts b.length : Int) ++ be16 (q : Int)) := ⟨hb6, hu6, hn6⟩
    obtain ⟨a6, c6, rfl⟩ := g6.shape_n (n := 22) rfl
    have G6 := Lib.hid g6
    clear hb6 hu6 hn6 g6
    have hp6 := hpv.upd G6.out.2.1 (by simp)
    obtain ⟨a7, c7, w7, r7, g7⟩ := G6.out.append hp6 33 (by rw [show (be64 E ++ be32 n ++ be32 r ++ be16 (p : Int) ++ be16 (jparts b.length : Int) ++ be16 (q : Int)).length = 22 from rfl, ← HQ.out]; omega)
    have hl7 : (be64 E ++ be32 n ++ be32 r ++ be16 (p : Int) ++ be16 (jparts b.length : Int) ++ be16 (q : Int) ++ jpiece b p).length = 22 + q := by rw [List.length_append, show (be64 E ++ be32 n ++ be32 r ++ be16 (p : Int) ++ be16 (jparts b.length : Int) ++ be16 (q : Int)).length = 22 from rfl, ← HQ.out]
    rw [hl7] at r7 g7
    obtain ⟨z, hz⟩ : ∃ z : Nat, z = 256 - (22 + q) := ⟨_, rfl⟩
    obtain ⟨v8, w8, r8, b8, g8, m8⟩ := run_append_zeros_any w7 g7.1 (by intro h; have := congrArg List.length h; rw [hl7] at this; simp at this) 33 z (by rw [hl7]; omega)
    have hg8 := g7.ran b8 g8 m8
    obtain ⟨a8, c8, rfl⟩ := hg8.shape_n (n := 256) (by rw [List.length_append, hl7, List.length_replicate]; omega)
    have hfin : MadeBytes (jsec E n r p b) w (.returned (.slice a8 256 c8)) w8 := by
      have e : jsec E n r p b = be64 E ++ be32 n ++ be32 r ++ be16 (p : Int) ++ be16 (jparts b.length : Int) ++ be16 (q : Int) ++ jpiece b p ++ List.replicate z 0 := by
        unfold jsec; rw [← HQ.out, hz]
      rw [e]; exact hg8.made
    have hz4 : 256 - ((22 : Int) + (q : Int)) = (z : Int) := by omega
    have hz5 : 256 - (((22 + q : Nat)) : Int) = (z : Int) := by omega
    have hq22 : 22 + q ≤ 256 := by omega
    generalize 22 + q = n7 at r7 r8 g7 hz5 hq22
    have R7 := Lib.hid r7
    have R8 := Lib.hid r8
    have HF := Lib.hid hfin
    clear hp6 r7 g7 hl7 r8 b8 g8 m8 hg8 hfin hz4 hz hpv hps
    go_wp2_with (at_builtin; first | refine wpList_append_ran _ rfl _ _ 33 33 rfl rfl rfl R7.out ?_ | refine wpList_append_ran _ rfl _ _ 33 3 rfl rfl rfl R8.out ?_)
    go_ret
    exact HF.out

end Go.Proofs.Ytkpoladbabhdmaa
