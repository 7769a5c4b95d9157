/- The contract of act: both disks answer alike. Conditions: as each says. -/
import Derived.Test.YtkpoladbabhdmaaRefO
namespace Go.Proofs.Ytkpoladbabhdmaa
open Go.RowKit

/-- both disks are one again, of at most one write more, and they answered alike -/
def ActPost (w0 : World) (D : Dk) (e : Ending) (w' : World) : Prop :=
  ∃ (b c : Nat) (D' : Dk), e = .returned (.tuple #[.pointer (some ⟨b, 0, none⟩), .pointer (some ⟨c, 0, none⟩), .bool true]) ∧ Owns w0 [disk b D', rdisk c D'] w' ∧ D'.all.length ≤ D.all.length + 1

set_option maxRecDepth 100000 in
set_option maxHeartbeats 4000000 in
theorem act6_any {w0 w : World} {b c : Nat} {D : Dk} (h : Owns w0 [disk b D, rdisk c D] w) (o : Op6) (hn : int64 o.n) {kv : Value} (hk : BoolsV w0 kv o.keep) (hlen : D.all.length < Big) :
    Calls Try.prog 32 #[.pointer (some ⟨b, 0, none⟩), .pointer (some ⟨c, 0, none⟩), .agg #[.int .i64 o.kind, .int .i64 o.n, .int .i64 o.m, kv]] w (ActPost w0 D) := by
  obtain ⟨ka, kc, rfl, _, _⟩ := hk.shape
  obtain ⟨hn0, hn1⟩ := hn
  have hR := own_row_new h #[.int .i64 o.kind, .int .i64 o.n, .int .i64 o.m, .slice ka o.keep.length kc] 32 (by decide)
  have hrow : ∀ w' l, Owns w0 (row w.heap.size #[.int .i64 o.kind, .int .i64 o.n, .int .i64 o.m, .slice ka o.keep.length kc] 32 (by decide) :: l) w' →
      w'.cell? ⟨w.heap.size, 1, none⟩ = some (.int .i64 o.n) ∧ w'.cell? ⟨w.heap.size, 3, none⟩ = some (.slice ka o.keep.length kc) := fun w' l h => ⟨cell_of_heap (own_row h 0 rfl) rfl, cell_of_heap (own_row h 0 rfl) rfl⟩
  have hres : ∀ (w' : World) (b' c' : Nat) (D' : Dk), Owns w0 [row w.heap.size #[.int .i64 o.kind, .int .i64 o.n, .int .i64 o.m, .slice ka o.keep.length kc] 32 (by decide), disk b' D', rdisk c' D'] w' → D'.all.length ≤ D.all.length + 1 →
      ActPost w0 D (.returned (.tuple #[.pointer (some ⟨b', 0, none⟩), .pointer (some ⟨c', 0, none⟩), .bool true])) w' := fun w' b' c' D' h hl => ⟨b', c', D', rfl, h.pick (fun i => i + 1) (by intro i T h; simpa using h) (by intro i j _ _ h; omega), hl⟩
  have HRES := Lib.hid hres
  have HROW := Lib.hid hrow
  have HK := Lib.hid hk
  have HL := Lib.hid hlen
  have HR := Lib.hid hR
  clear hres hrow hk hlen hR h
  by_cases k1 : o.kind = 1
  · have t1 : (o.kind == 1) = true := by simpa using k1
    clear k1
    go_enter Try.func32, Try.ntmps32
    go_wp2_with (fail)
    refine (own_bytes HR.out (sector6_any _ _)).mono ?_
    rintro e w2 ⟨x2, rfl, hb2, hO2, -, -⟩
    obtain ⟨a2, c2, rfl, _, _⟩ := hb2.view.shape
    have hOd := hO2.upd (Upd.refl [] w2).drew
    have hbd := hb2.upd (Upd.refl [] w2).drew
    obtain ⟨cn, -⟩ := HROW.out _ _ hO2
    have hlt2 := lt_of_heap (own_row hO2 0 rfl)
    clear hb2 hO2
    go_wp2_with (fail)
    go_region_held3 (fun w' => w'.cell? ⟨w.heap.size, 1, none⟩ = some (.int .i64 o.n)) (first | exact cn | exact (HROW.out _ _ (by assumption)).1)
      (first | (go_at_call 22; refine (own_write hOd 1 rfl hbd HL.out).mono ?_; rintro e w3 ⟨rfl, hO3, hk3⟩; have hO3 : Owns w0 [row w.heap.size #[.int .i64 o.kind, .int .i64 o.n, .int .i64 o.m, .slice ka o.keep.length kc] 32 (by decide), disk b (D.write o.n (alike o.m)), rdisk c D] w3 := hO3) | (go_at_call 43; refine (own_rwrite hO3 2 rfl (hbd.keep hk3) HL.out).mono ?_; rintro e w4 ⟨rfl, hO4, -⟩))
    have hf := HRES.out _ _ _ _ hO4 (Dk.write_len D o.n (alike o.m))
    have HF := Lib.hid hf
    clear hf hO4 hO3 hOd hbd hk3
    go_wp2_with (fail)
    go_ret3
    exact HF.out
  by_cases k2 : o.kind = 2
  · have t1 : (o.kind == 1) = false := by simpa using k1
    have t2 : (o.kind == 2) = true := by simpa using k2
    clear k1 k2
    go_enter Try.func32, Try.ntmps32
    go_wp2_with (fail)
    refine (own_read HR.out 1 rfl o.n).mono ?_
    rintro e w2 ⟨v2, rfl, hb2, hO2, -, -⟩
    have hO2 : Owns w0 [row w.heap.size #[.int .i64 o.kind, .int .i64 o.n, .int .i64 o.m, .slice ka o.keep.length kc] 32 (by decide), disk b (D.read o.n), rdisk c D] w2 := hO2
    obtain ⟨cn, -⟩ := HROW.out _ _ hO2
    have hlt2 := lt_of_heap (own_row hO2 0 rfl)
    obtain ⟨a2, c2, rfl, _, _⟩ := hb2.view.shape
    go_wp2_with (fail)
    refine (own_rread hO2 2 rfl o.n).mono ?_
    rintro e w3 ⟨v3, rfl, hb3, hO3, hk3, -⟩
    have hO3 : Owns w0 [row w.heap.size #[.int .i64 o.kind, .int .i64 o.n, .int .i64 o.m, .slice ka o.keep.length kc] 32 (by decide), disk b (D.read o.n), rdisk c (D.read o.n)] w3 := hO3
    have hb23 := hb2.keep hk3
    obtain ⟨a3, c3, rfl, _, _⟩ := hb3.view.shape
    clear hO2 hb2 cn hk3
    have H23 := Lib.hid hb23
    have H3 := Lib.hid hb3
    have HO3 := Lib.hid hO3
    clear hb23 hb3 hO3
    go_wp2_with (fail)
    refine (own_returns HO3.out (same_any H23.out.view H3.out.view)).mono ?_
    rintro e w4 ⟨rfl, hO4, -⟩
    have hf := HRES.out _ _ _ _ hO4 (by rw [Dk.read_len]; omega)
    have HF := Lib.hid hf
    clear hf hO4
    go_wp2_with (fail)
    go_ret3
    exact HF.out
  by_cases k3 : o.kind = 3
  · have t1 : (o.kind == 1) = false := by simpa using k1
    have t2 : (o.kind == 2) = false := by simpa using k2
    have t3 : (o.kind == 3) = true := by simpa using k3
    clear k1 k2 k3
    go_enter Try.func32, Try.ntmps32
    go_wp2_with (fail)
    refine (own_sync HR.out 1 rfl HL.out).mono ?_
    rintro e w2 ⟨rfl, hO2, -⟩
    have hO2 : Owns w0 [row w.heap.size #[.int .i64 o.kind, .int .i64 o.n, .int .i64 o.m, .slice ka o.keep.length kc] 32 (by decide), disk b D.sync, rdisk c D] w2 := hO2
    go_wp2_with (fail)
    refine (own_rsync hO2 2 rfl).mono ?_
    rintro e w3 ⟨rfl, hO3, -⟩
    have hf := HRES.out _ _ _ D.sync hO3 (by rw [Dk.sync_len]; omega)
    have HF := Lib.hid hf
    clear hf hO2 hO3
    go_wp2_with (fail)
    go_ret3
    exact HF.out
  by_cases k4 : o.kind = 4
  · have t1 : (o.kind == 1) = false := by simpa using k1
    have t2 : (o.kind == 2) = false := by simpa using k2
    have t3 : (o.kind == 3) = false := by simpa using k3
    have t4 : (o.kind == 4) = true := by simpa using k4
    clear k1 k2 k3 k4
    go_enter Try.func32, Try.ntmps32
    go_wp2_with (fail)
    refine (own_setFuse HR.out 1 rfl o.n hn1).mono ?_
    rintro e w2 ⟨rfl, hO2, -⟩
    have hO2 : Owns w0 [row w.heap.size #[.int .i64 o.kind, .int .i64 o.n, .int .i64 o.m, .slice ka o.keep.length kc] 32 (by decide), disk b (D.fused o.n), rdisk c D] w2 := hO2
    obtain ⟨cn, -⟩ := HROW.out _ _ hO2
    have hlt2 := lt_of_heap (own_row hO2 0 rfl)
    obtain ⟨-, f3, -, -, -, -, z3, _⟩ := own_rfields hO2 2 rfl
    have hf := HRES.out _ _ _ (D.fused o.n) (own_rfuse hO2 2 rfl o.n hn1) (by show D.all.length ≤ _; omega)
    have HF := Lib.hid hf
    clear hf hO2
    go_wp2_with (fail)
    all_goals
      go_ret3
      first
        | (have e : max o.n (-1) = o.n := by omega
           have hx := HF.out
           rw [e] at hx
           exact hx)
        | (have e : max o.n (-1) = -1 := by omega
           have hx := HF.out
           rw [e] at hx
           exact hx)
  by_cases k5 : o.kind = 5
  · have t1 : (o.kind == 1) = false := by simpa using k1
    have t2 : (o.kind == 2) = false := by simpa using k2
    have t3 : (o.kind == 3) = false := by simpa using k3
    have t4 : (o.kind == 4) = false := by simpa using k4
    have t5 : (o.kind == 5) = true := by simpa using k5
    clear k1 k2 k3 k4 k5
    obtain ⟨z0, z1⟩ := umod o.m 600 (by omega) (by omega)
    have hmk := fun w => makeN w (IntKind.i64.wrap ((IntKind.u64.wrap o.m).tmod 600)) z0 (by omega)
    generalize hz : IntKind.i64.wrap ((IntKind.u64.wrap o.m).tmod 600) = z at hmk z0 z1
    obtain ⟨m, rfl⟩ : ∃ m : Nat, z = m := ⟨z.toNat, by omega⟩
    simp only [Int.toNat_natCast] at hmk
    have hb2 : BytesO ((w.alloc (.cells #[.int .i64 o.kind, .int .i64 o.n, .int .i64 o.m, .slice ka o.keep.length kc] 32)).alloc (.cells (bcells (List.replicate m 0)) 5)) (.slice (some ⟨(w.alloc (.cells #[.int .i64 o.kind, .int .i64 o.n, .int .i64 o.m, .slice ka o.keep.length kc] 32)).heap.size, 0, none⟩) m m) (List.replicate m 0) := by
      have := bytesO_new (w.alloc (.cells #[.int .i64 o.kind, .int .i64 o.n, .int .i64 o.m, .slice ka o.keep.length kc] 32)) (List.replicate m 0) (by rw [List.length_replicate]; unfold maxLen; omega)
      rwa [List.length_replicate] at this
    have hO2 := HR.out.upd ((Upd.refl [] _).alloc (.cells (bcells (List.replicate m 0)) 5))
    rw [size_alloc] at hb2
    go_enter Try.func32, Try.ntmps32
    go_wp2_with (fail)
    generalize ((w.alloc (.cells #[.int .i64 o.kind, .int .i64 o.n, .int .i64 o.m, .slice ka o.keep.length kc] 32)).alloc (.cells (bcells (List.replicate m 0)) 5)) = w2 at hb2 hO2 ⊢
    have hOd := hO2.upd (Upd.refl [] w2).drew
    have hbd := hb2.upd (Upd.refl [] w2).drew
    obtain ⟨cn, -⟩ := HROW.out _ _ hO2
    have hlt2 := lt_of_heap (own_row hO2 0 rfl)
    clear hb2 hO2 hz hmk
    go_region_held3 (fun w' => w'.cell? ⟨w.heap.size, 1, none⟩ = some (.int .i64 o.n)) (first | exact cn | exact (HROW.out _ _ (by assumption)).1)
      (first | (go_at_call 22; refine (own_write hOd 1 rfl hbd HL.out).mono ?_; rintro e w3 ⟨rfl, hO3, hk3⟩; have hO3 : Owns w0 [row w.heap.size #[.int .i64 o.kind, .int .i64 o.n, .int .i64 o.m, .slice ka o.keep.length kc] 32 (by decide), disk b (D.write o.n (List.replicate m 0)), rdisk c D] w3 := hO3) | (go_at_call 43; refine (own_rwrite hO3 2 rfl (hbd.keep hk3) HL.out).mono ?_; rintro e w4 ⟨rfl, hO4, -⟩))
    have hf := HRES.out _ _ _ _ hO4 (Dk.write_len D o.n (List.replicate m 0))
    have HF := Lib.hid hf
    clear hf hO4 hO3 hOd hbd hk3
    go_wp2_with (fail)
    go_ret3
    exact HF.out
  by_cases k6 : o.kind = 6
  · have t1 : (o.kind == 1) = false := by simpa using k1
    have t2 : (o.kind == 2) = false := by simpa using k2
    have t3 : (o.kind == 3) = false := by simpa using k3
    have t4 : (o.kind == 4) = false := by simpa using k4
    have t5 : (o.kind == 5) = false := by simpa using k5
    have t6 : (o.kind == 6) = true := by simpa using k6
    clear k1 k2 k3 k4 k5 k6
    go_enter Try.func32, Try.ntmps32
    go_wp2_with (fail)
    refine (own_cut HR.out 1 rfl (HK.out.upd HR.out.1 (by simp)) HL.out).mono ?_
    rintro e w2 ⟨b2, rfl, hO2, -⟩
    have hO2 : Owns w0 [disk b2 (D.cut o.keep), row w.heap.size #[.int .i64 o.kind, .int .i64 o.n, .int .i64 o.m, .slice ka o.keep.length kc] 32 (by decide), disk b D, rdisk c D] w2 := hO2
    have cn : w2.cell? ⟨w.heap.size, 3, none⟩ = some (.slice ka o.keep.length kc) := cell_of_heap (own_row hO2 1 rfl) rfl
    have hlt2 := lt_of_heap (own_row hO2 1 rfl)
    go_wp2_with (fail)
    refine (own_rcut hO2 3 rfl (HK.out.upd hO2.1 (by simp)) HL.out).mono ?_
    rintro e w3 ⟨c2, rfl, hO3, -⟩
    have hO3 : Owns w0 [rdisk c2 (D.cut o.keep), disk b2 (D.cut o.keep), row w.heap.size #[.int .i64 o.kind, .int .i64 o.n, .int .i64 o.m, .slice ka o.keep.length kc] 32 (by decide), disk b D, rdisk c D] w3 := hO3
    have hO4 : Owns w0 [disk b2 (D.cut o.keep), rdisk c2 (D.cut o.keep)] w3 := hO3.pick (fun i => if i = 0 then 1 else 0) (by intro i T h; match i, h with | 0, h => simpa using h | 1, h => simpa using h) (by intro i j hi hj h; simp at hi hj h; split at h <;> split at h <;> omega)
    have hf : ActPost w0 D (.returned (.tuple #[.pointer (some ⟨b2, 0, none⟩), .pointer (some ⟨c2, 0, none⟩), .bool true])) w3 := ⟨b2, c2, D.cut o.keep, rfl, hO4, by have := D.cut_len o.keep; omega⟩
    have HF := Lib.hid hf
    clear hf hO2 hO3 hO4 cn
    go_wp2_with (fail)
    go_ret3
    exact HF.out
  · have t1 : (o.kind == 1) = false := by simpa using k1
    have t2 : (o.kind == 2) = false := by simpa using k2
    have t3 : (o.kind == 3) = false := by simpa using k3
    have t4 : (o.kind == 4) = false := by simpa using k4
    have t5 : (o.kind == 5) = false := by simpa using k5
    have t6 : (o.kind == 6) = false := by simpa using k6
    clear k1 k2 k3 k4 k5 k6
    have hf := HRES.out _ _ _ _ HR.out (by omega)
    have HF := Lib.hid hf
    clear hf
    go_enter Try.func32, Try.ntmps32
    go_wp2_with (fail)
    go_ret3
    exact HF.out

end Go.Proofs.Ytkpoladbabhdmaa
