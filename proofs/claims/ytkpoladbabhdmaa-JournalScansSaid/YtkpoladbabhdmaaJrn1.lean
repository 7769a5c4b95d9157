/- Numbers and parts of the journal. Conditions: as each says. -/
import Derived.Test.YtkpoladbabhdmaaGrow
import Derived.Test.YtkpoladbabhdmaaMeta13
import Derived.Deep.DeepMust
import Derived.Laws.BitsAllLaws
import Derived.Deep.QuietTactic
import Derived.BigQuiet
namespace Go.Proofs.Ytkpoladbabhdmaa
open Go.RowKit

set_option maxRecDepth 100000 in
set_option maxHeartbeats 1000000 in
theorem jappend64_any {w0 w : World} {v : Value} {l : Bytes} {x : Int} (hU : Upd [] w0 w) (hb : BytesO w v l) (hnew : ∀ g, v.ownBlock = some g → w0.heap.size ≤ g) (hl : l.length ≤ 1000) :
    Calls Try.prog 113 #[v, .int .u64 x] w (MadeBytes (l ++ be64 x) w0) := by
  go_enter Try.func113, Try.ntmps113
  go_wp2_with (fail)
  go_loopw [0, 5] (fun s i wr => ∃ (k : Nat) (j : Int), k ≤ 8 ∧ i = .int .i64 j ∧ j = 56 - 8 * (k : Int) ∧ ∃ a c, s = .slice a (l.length + k) c ∧ BytesO wr s (l ++ beUp x k) ∧ Upd [] w0 wr ∧ ∀ g, s.ownBlock = some g → w0.heap.size ≤ g) (fun _ i _ => (intOf i + 8).toNat)
  case atStart =>
    obtain ⟨a, c, hv, _, _⟩ := hb.view.shape
    exact ⟨0, _, by omega, rfl, by omega, a, c, hv, by simpa [beUp] using hb, hU, hnew⟩
  case round =>
    clear hU hb hnew
    obtain ⟨k, j, hk, rfl, hj, a, c, rfl, hb, hU, hnew⟩ := hrel
    have HB := Lib.hid hb
    have HU := Lib.hid hU
    have HN := Lib.hid hnew
    clear hb hU hnew
    by_cases hlt : k < 8
    · have hj0 : 0 ≤ j := by omega
      have hj1 : j ≤ 56 := by omega
      have HJ := Lib.hid hj
      clear hj
      have hjn : j.toNat = 56 - 8 * k := by have := HJ.out; omega
      have hel : Value.int .u8 (x / 2 ^ j.toNat % 256) = byte (Ytkpoladbabhdmaa.u8 (x / 2 ^ (56 - 8 * k))) := by rw [byte_u8, hjn]
      have hown : (wr.alloc (.cells #[.int .u8 (x / 2 ^ j.toNat % 256)] 5)).ownsRow 0 5 1 (.slice a (l.length + k) c) (l.length + k) ((l ++ beUp x k).map byte) := by
        have hb := HB.out
        have h1 : wr.ownsRow 0 5 1 (.slice a (l.length + k) c) (l ++ beUp x k).length ((l ++ beUp x k).map byte) := hb
        rw [List.length_append, beUp_len] at h1
        exact h1.alloc _
      have hnews : ∀ (q : Nat) (u : Value), [Value.int .u8 (x / 2 ^ j.toNat % 256)][q]? = some u → (wr.alloc (.cells #[.int .u8 (x / 2 ^ j.toNat % 256)] 5)).cell? ((⟨wr.heap.size, 0, none⟩ : Addr).add q) = some u := by
        intro q u hu
        rw [Addr.add_lit, World.cell?_alloc_new]
        simpa using hu
      have hone : ∀ u ∈ [Value.int .u8 (x / 2 ^ j.toNat % 256)], u.oneCell' = true := by
        intro u hu
        simp only [List.mem_cons, List.not_mem_nil, or_false] at hu
        subst hu; rfl
      have hbd : (l.length + k) + 1 ≤ maxLen ∧ ((l.length + k) + 1) * 1 ≤ 140737488355328 := by unfold maxLen; omega
      have hfin : ∀ v' w', w'.ownsRow 0 5 1 v' (l.length + k + 1) ((l ++ beUp x k).map byte ++ [Value.int .u8 (x / 2 ^ j.toNat % 256)]) → (wr.alloc (.cells #[.int .u8 (x / 2 ^ j.toNat % 256)] 5)).grownBy w' (Value.slice a (l.length + k) c).ownBlock →
          Moved (wr.alloc (.cells #[.int .u8 (x / 2 ^ j.toNat % 256)] 5)) (.slice a (l.length + k) c) v' →
          (∃ a' c', v' = .slice a' (l.length + (k + 1)) c') ∧ BytesO w' v' (l ++ beUp x (k + 1)) ∧ Upd [] w0 w' ∧ ∀ g, v'.ownBlock = some g → w0.heap.size ≤ g := by
        intro v' w' ho hg hm
        have hbb : BytesO w' v' (l ++ beUp x (k + 1)) := by
          rw [hel] at ho
          have e1 : l ++ beUp x (k + 1) = (l ++ beUp x k) ++ [Ytkpoladbabhdmaa.u8 (x / 2 ^ (56 - 8 * k))] := by rw [beUp_succ, List.append_assoc]
          rw [e1]
          show w'.ownsRow 0 5 1 v' (((l ++ beUp x k) ++ [Ytkpoladbabhdmaa.u8 (x / 2 ^ (56 - 8 * k))]).length) _
          rw [List.map_append, List.length_append, List.length_append, beUp_len]
          exact ho
        obtain ⟨a', c', hv', _, _⟩ := ownsRow_shape ho
        refine ⟨⟨a', c', hv'⟩, hbb, (HU.out.alloc _).grown hg (fun q hq => .inr (HN.out q hq)) (fun q hq => .inl (HN.out q hq)), fun q hq => ?_⟩
        rcases hm with hm | ⟨r, hm, hr⟩
        · rw [hm] at hq; exact HN.out q hq
        · rw [hm] at hq; cases hq
          have := HU.out.size
          rw [size_alloc] at hr; omega
      have HW := Lib.hid hown
      have HNW := Lib.hid hnews
      have HO := Lib.hid hone
      have HBD := Lib.hid hbd
      have HF := Lib.hid hfin
      clear hjn hel hown hnews hone hbd hfin
      go_wp2_with (at_builtin; go_must (refine wpList_append_here _ rfl _ _ 33 rfl 5 Try.underlying33 Try.info5 rfl (by decide) _ _ _ rfl HW.out ⟨wr.heap.size, 0, none⟩ 1 1 [.int .u8 (x / 2 ^ j.toNat % 256)] rfl rfl HNW.out HO.out HBD.out.1 HBD.out.2 ?_))
      intro v' w' ho hg hm
      obtain ⟨⟨a', c', hv'⟩, r2, r3, r4⟩ := HF.out v' w' (by rw [List.map_append, List.append_assoc]; exact ho) hg hm
      subst hv'
      have R2 := Lib.hid r2
      have R3 := Lib.hid r3
      have R4 := Lib.hid r4
      clear r2 r3 r4 ho hg hm
      go_wp2_with (fail)
      go_roundw
      case rel => exact ⟨k + 1, _, by omega, rfl, by have := HJ.out; omega, a', c', rfl, R2.out, R3.out, R4.out⟩
      case measure => simp only [intOf]; omega
    · obtain rfl : k = 8 := by omega
      have hj0 : j < 0 := by omega
      have hfin : MadeBytes (l ++ be64 x) w0 (.returned (.slice a (l.length + 8) c)) wr := ⟨_, rfl, HB.out, HU.out, HN.out⟩
      have HF := Lib.hid hfin
      clear hfin hj
      go_wp2_with (fail)
      go_ret
      exact HF.out


def be32 (x : Int) : Bytes := [u8 (x / 16777216), u8 (x / 65536), u8 (x / 256), u8 x]
def be16 (x : Int) : Bytes := [u8 (x / 256), u8 x]

/-- several bytes in a new block -/
theorem bytes_new (w : World) (l : Bytes) (h : l.length ≤ maxLen) : BytesV (w.alloc (.cells (bcells l) 5)) (.slice (some ⟨w.heap.size, 0, none⟩) l.length l.length) l := (bytesO_new w l h).view

theorem Grows.made {w0 w : World} {v : Value} {l : Bytes} (h : Grows w0 w v l) : MadeBytes l w0 (.returned v) w := ⟨v, rfl, h.1, h.2.1, h.2.2⟩

set_option maxRecDepth 100000 in
set_option maxHeartbeats 1000000 in
theorem append32_any {w0 w : World} {v : Value} {l : Bytes} {x : Int} (h : Grows w0 w v l) (hl : l.length ≤ 1000) (x0 : 0 ≤ x) (x1 : x ≤ 4294967295) :
    Calls Try.prog 114 #[v, .int .u32 x] w (MadeBytes (l ++ be32 x) w0) := by
  obtain ⟨a, c, rfl⟩ := h.shape
  obtain ⟨a2, c2, w2, r2, g2⟩ := (h.alloc (.cells (bcells (be32 x)) 5)).append (bytes_new w (be32 x) (by unfold maxLen; simp [be32])) 33 (by simp [be32]; omega)
  have hb : bcells (be32 x) = #[.int .u8 (x / 16777216), .int .u8 (x / 65536 % 256), .int .u8 (x / 256 % 256), .int .u8 (x % 256)] := by
    have : x / 16777216 % 256 = x / 16777216 := by omega
    simp [bcells, be32, byte_u8, this]
  rw [hb] at r2
  generalize (l ++ be32 x).length = n2 at r2 g2
  have HF := Lib.hid g2.made
  have R2 := Lib.hid r2
  clear h g2 r2 hb
  go_enter Try.func114, Try.ntmps114
  go_wp2_with (at_builtin; refine wpList_append_ran _ rfl _ _ 33 33 rfl rfl rfl R2.out ?_)
  go_ret
  exact HF.out

set_option maxRecDepth 100000 in
set_option maxHeartbeats 1000000 in
theorem append16_any {w0 w : World} {v : Value} {l : Bytes} {x : Int} (h : Grows w0 w v l) (hl : l.length ≤ 1000) (x0 : 0 ≤ x) (x1 : x ≤ 65535) :
    Calls Try.prog 115 #[v, .int .u16 x] w (MadeBytes (l ++ be16 x) w0) := by
  obtain ⟨a, c, rfl⟩ := h.shape
  obtain ⟨a2, c2, w2, r2, g2⟩ := (h.alloc (.cells (bcells (be16 x)) 5)).append (bytes_new w (be16 x) (by unfold maxLen; simp [be16])) 33 (by simp [be16]; omega)
  have hb : bcells (be16 x) = #[.int .u8 (x / 256), .int .u8 (x % 256)] := by
    have : x / 256 % 256 = x / 256 := by omega
    simp [bcells, be16, byte_u8, this]
  rw [hb] at r2
  generalize (l ++ be16 x).length = n2 at r2 g2
  have HF := Lib.hid g2.made
  have R2 := Lib.hid r2
  clear h g2 r2 hb
  go_enter Try.func115, Try.ntmps115
  go_wp2_with (at_builtin; refine wpList_append_ran _ rfl _ _ 33 33 rfl rfl rfl R2.out ?_)
  go_ret
  exact HF.out

/-- how many sectors a record takes -/
def jparts (n : Nat) : Nat := if n < 1 then 0 else (n - 1) / 234 + 1

set_option maxRecDepth 100000 in
set_option maxHeartbeats 1000000 in
theorem parts_any (n : Nat) (hn : n ≤ 9223372036854775807) (w : World) : Calls Try.prog 86 #[.int .i64 (n : Int)] w fun e w' => e = .returned (.int .i64 (jparts n : Int)) ∧ w = w' := by
  by_cases h : n < 1
  · have hj : jparts n = 0 := by simp [jparts, h]
    have HJ := Lib.hid hj
    clear hj
    go_enter Try.func86, Try.ntmps86
    go_wp2_with (fail)
    go_ret
    exact ⟨by rw [HJ.out]; rfl, rfl⟩
  · have hj : (jparts n : Int) = ((n : Int) - 1) / 234 + 1 := by simp only [jparts, if_neg h]; omega
    have HJ := Lib.hid hj
    clear hj
    go_enter Try.func86, Try.ntmps86
    go_wp2_with (fail)
    go_ret
    exact ⟨by rw [HJ.out]; rfl, rfl⟩

set_option maxRecDepth 100000 in
set_option maxHeartbeats 1000000 in
theorem rparts_any (n : Nat) (hn : n ≤ 1000000000) (w : World) : Calls Try.prog 90 #[.int .i64 (n : Int)] w fun e w' => e = .returned (.int .i64 (jparts n : Int)) ∧ w = w' := by
  by_cases h : n < 1
  · have hj : jparts n = 0 := by simp [jparts, h]
    have HJ := Lib.hid hj
    clear hj
    go_enter Try.func90, Try.ntmps90
    go_wp2_with (fail)
    go_ret
    exact ⟨by rw [HJ.out]; rfl, rfl⟩
  · have hj : (jparts n : Int) = ((n : Int) + 233) / 234 := by simp only [jparts, if_neg h]; omega
    have HJ := Lib.hid hj
    clear hj
    go_enter Try.func90, Try.ntmps90
    go_wp2_with (fail)
    go_ret
    exact ⟨by rw [HJ.out]; rfl, rfl⟩

/-- is it an area of a disk of s sectors? -/
def areaB (s f c : Int) : Bool := decide (0 ≤ f ∧ 0 ≤ c ∧ f ≤ s ∧ c ≤ s - f)

set_option maxRecDepth 100000 in
set_option maxHeartbeats 1000000 in
theorem own_area {w0 w : World} {l : List Thing} {b : Nat} {D : Dk} (h : Owns w0 l w) (i : Nat) (hi : l[i]? = some (disk b D)) {f c : Int} (hf : int64 f) (hc : int64 c) :
    Calls Try.prog 87 #[.pointer (some ⟨b, 0, none⟩), .int .i64 f, .int .i64 c] w fun e w' => e = .returned (.bool (areaB D.size f c)) ∧ w = w' := by
  have hwf := own_wf h i hi
  obtain ⟨f0, f1⟩ := hf
  obtain ⟨c0, c1⟩ := hc
  have s0 := hwf.s0
  have s1 := hwf.s1
  have hb : ∀ x, areaB D.size f c = x → Hid (areaB D.size f c = x) := fun x h => Lib.hid h
  have H := Lib.hid h
  clear h hwf
  by_cases k1 : 0 ≤ f
  · by_cases k2 : 0 ≤ c
    · by_cases k3 : f ≤ D.size
      · by_cases k4 : c ≤ D.size - f
        · have HB := hb true (by simp only [areaB, decide_eq_true_eq]; exact ⟨k1, k2, k3, k4⟩)
          clear hb
          go_enter Try.func87, Try.ntmps87
          go_wp2_with (go_at_call 33; refine (own_size H.out i hi).mono ?_; rintro e w' ⟨rfl, rfl⟩)
          go_ret
          exact ⟨by rw [HB.out]; rfl, rfl⟩
        · have HB := hb false (by simp only [areaB, decide_eq_false_iff_not]; rintro ⟨_, _, _, h⟩; exact k4 h)
          clear hb
          go_enter Try.func87, Try.ntmps87
          go_wp2_with (go_at_call 33; refine (own_size H.out i hi).mono ?_; rintro e w' ⟨rfl, rfl⟩)
          go_ret
          exact ⟨by rw [HB.out]; show Ending.returned (.bool (decide (c ≤ D.size - f))) = _; rw [decide_eq_false (by omega)], rfl⟩
      · have HB := hb false (by simp only [areaB, decide_eq_false_iff_not]; rintro ⟨_, _, h, _⟩; exact k3 h)
        clear hb
        go_enter Try.func87, Try.ntmps87
        go_wp2_with (go_at_call 33; refine (own_size H.out i hi).mono ?_; rintro e w' ⟨rfl, rfl⟩)
        go_ret
        exact ⟨by rw [HB.out]; rfl, rfl⟩
    · have HB := hb false (by simp only [areaB, decide_eq_false_iff_not]; rintro ⟨_, h, _⟩; exact k2 h)
      clear hb
      go_enter Try.func87, Try.ntmps87
      go_wp2_with (fail)
      go_ret
      exact ⟨by rw [HB.out]; rfl, rfl⟩
  · have HB := hb false (by simp only [areaB, decide_eq_false_iff_not]; rintro ⟨h, _⟩; exact k1 h)
    clear hb
    go_enter Try.func87, Try.ntmps87
    go_wp2_with (fail)
    go_ret
    exact ⟨by rw [HB.out]; rfl, rfl⟩

/-- two bytes as a number -/
theorem or_u16 (x y : UInt8) : bits .or .u16 ((x.toNat : Int) * 256) (y.toNat : Int) = ((beNum [x, y] : Nat) : Int) := by
  have hx := x.toNat_lt
  have hy := y.toNat_lt
  have e1 : ((x.toNat : Int) * 256) = ((x.toNat * 256 : Nat) : Int) := by omega
  rw [e1, u16_or_nat _ _ (by omega) (by omega)]
  have := Nat.two_pow_add_eq_or_of_lt (i := 8) (b := y.toNat) (by omega) x.toNat
  have e3 : x.toNat * 256 = 2 ^ 8 * x.toNat := by omega
  rw [e3, ← this]
  simp [beNum]
  omega

set_option maxRecDepth 100000 in
set_option maxHeartbeats 1000000 in
theorem get16_any {w : World} {v : Value} {l : Bytes} (hv : BytesV w v l) {x y : UInt8} (hx : l[0]? = some x) (hy : l[1]? = some y) :
    Calls Try.prog 111 #[v] w fun e w' => e = .returned (.int .u16 (beNum [x, y])) ∧ ∃ n, w' = w.drewN n := by
  obtain ⟨g, off, cap, rfl, c0⟩ := hv.at_ hx
  obtain ⟨g', off', cap', he, c1⟩ := hv.at_ hy
  cases he
  rw [Nat.add_zero] at c0
  have h2 : 2 ≤ l.length := by have := (List.getElem?_eq_some_iff.1 hy).1; omega
  have hlm : l.length ≤ 9223372036854775807 := by
    obtain ⟨_, _, he, h1, h2⟩ := hv.shape
    cases he; unfold maxLen at h2; omega
  have hxl := x.toNat_lt
  have hyl := y.toNat_lt
  have hor := or_u16 x y
  have HOR := Lib.hid hor
  clear hv hx hy hor
  go_enter Try.func111, Try.ntmps111
  go_wp2_with (fail)
  go_quiet (fail)
  go_wp2_with (fail)
  go_ret
  exact ⟨by rw [← HOR.out]; rfl, _, rfl⟩

end Go.Proofs.Ytkpoladbabhdmaa
