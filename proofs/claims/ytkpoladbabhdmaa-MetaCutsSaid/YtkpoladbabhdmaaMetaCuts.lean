/- MetaCuts. Conditions: none. -/
import Derived.Test.YtkpoladbabhdmaaMeta13
import Derived.Deep.QuietTactic
import Derived.BigQuiet
namespace Go.Proofs.Ytkpoladbabhdmaa
open Go.RowKit

/-- what is saved, one behind the other -/
def pay (L : List Bytes) (i : Nat) : Bytes := (L.getD i []).take 200
theorem pay_len (L : List Bytes) (i : Nat) : (pay L i).length ≤ 200 := by simp [pay]; omega
def savesTo (L : List Bytes) (k : Nat) : List (Int × Bytes) := (List.range k).map fun (i : Nat) => (((i : Int) + 1) % 2, headSec ((i : Int) + 1) (pay L i))
theorem savesTo_succ (L : List Bytes) (k : Nat) : savesTo L (k + 1) = savesTo L k ++ [(((k : Int) + 1) % 2, headSec ((k : Int) + 1) (pay L k))] := by simp [savesTo, List.range_succ]
theorem savesTo_len (L : List Bytes) (k : Nat) : (savesTo L k).length = k := by simp [savesTo]
def headAt (L : List Bytes) : Nat → Int × Bytes
  | 0 => (0, [])
  | k + 1 => ((k : Int) + 1, pay L k)
theorem headAt_fst (L : List Bytes) : ∀ k : Nat, (headAt L k).1 = (k : Int)
  | 0 => rfl
  | k + 1 => by simp [headAt]
def headIn (L : List Bytes) (k : Nat) (n : Int) : Int × Bytes := headOf ((last (savesTo L k) n).getD zeros)

theorem headIn_at (L : List Bytes) : ∀ k : Nat, k < 1000000 → headIn L k ((k : Int) % 2) = headAt L k ∧ headIn L k (((k : Int) + 1) % 2) = headAt L (k - 1)
  | 0, _ => by
    have h : ∀ n, headIn L 0 n = (0, []) := fun n => by
      have : last (savesTo L 0) n = none := rfl
      simp only [headIn, this, Option.getD_none, headOf_zeros]
    exact ⟨h _, h _⟩
  | k + 1, hk => by
    obtain ⟨h1, _⟩ := headIn_at L k (by omega)
    have hl : ∀ n, last (savesTo L (k + 1)) n = if n = ((k : Int) + 1) % 2 then some (headSec ((k : Int) + 1) (pay L k)) else last (savesTo L k) n := fun n => by
      rw [savesTo_succ, last_snoc]; rfl
    constructor
    · have e : ((k + 1 : Nat) : Int) % 2 = ((k : Int) + 1) % 2 := by omega
      simp only [headIn, hl, e]
      rw [if_pos trivial]
      exact headOf_headSec _ _ (by omega) (by omega) (pay_len L k)
    · have e : (((k + 1 : Nat) : Int) + 1) % 2 = (k : Int) % 2 := by omega
      simp only [headIn, hl, e]
      rw [if_neg (by omega)]
      exact h1

theorem open_heads {L : List Bytes} {k : Nat} {C : Dk} (hk : k < 1000000) (hd : C.down = false) (hs : 2 ≤ C.size) (ha : C.all = savesTo L k) : C.openE = 0 ∧ C.openH = headAt L k := by
  have hz : ¬ C.size < 2 := by omega
  obtain ⟨h1, h2⟩ := headIn_at L k hk
  have hsec : ∀ n, headOf (C.sec n) = headIn L k n := fun n => by simp only [Dk.sec, ha, headIn]
  have f1 := headAt_fst L k
  have f2 := headAt_fst L (k - 1)
  refine ⟨by simp only [Dk.openE, if_neg hz, hd]; rfl, ?_⟩
  simp only [Dk.openH, if_neg hz, hd, hsec, Bool.false_eq_true, if_false]
  by_cases he : (k : Int) % 2 = 0
  · rw [he] at h1
    have e1 : ((k : Int) + 1) % 2 = 1 := by omega
    rw [e1] at h2
    rw [h1, h2, f1, f2, if_neg (by omega)]
  · have e0 : (k : Int) % 2 = 1 := by omega
    have e1 : ((k : Int) + 1) % 2 = 0 := by omega
    rw [e0] at h1
    rw [e1] at h2
    rw [h1, h2, f1, f2, if_pos (by omega)]

structure CutsS (L : List Bytes) (k : Nat) (D : Dk) : Prop where
  down : D.down = false
  size : D.size = 3
  all : D.all = savesTo L k
  lasts : D.lasts = k

def CutsEnd (D : Dk) (h1 h2 : Int × Bytes) : Prop := D.all.length < Big ∧ ∀ keep, (D.cut keep).openE = 0 ∧ ((D.cut keep).openH = h1 ∨ (D.cut keep).openH = h2)

theorem cut_size3 {D : Dk} (h : D.size = 3) (keep : List Bool) : (D.cut keep).size = 3 := by
  show min (max D.size 0) 65536 = 3
  rw [h]; decide

theorem CutsS.start (L : List Bytes) {f : Int} : CutsS L 0 ((Dk.new 3).fused f) := ⟨rfl, (by decide : (Dk.new 3).size = 3), rfl, rfl⟩

theorem CutsS.fin {L : List Bytes} {k : Nat} {D : Dk} (h : CutsS L k D) (hk : k < 1000) : CutsEnd D (headAt L k) (headAt L k) := by
  refine ⟨by rw [h.all, savesTo_len]; unfold Big; omega, fun keep => ?_⟩
  have ha : (D.cut keep).all = savesTo L k := by
    show D.all.take D.lasts ++ kept keep 0 (D.all.drop D.lasts) = _
    rw [h.all, h.lasts, List.take_of_length_le (by rw [savesTo_len]; omega), List.drop_eq_nil_of_le (by rw [savesTo_len]; omega)]; simp [kept]
  obtain ⟨o1, o2⟩ := open_heads (k := k) (by omega) (C := D.cut keep) rfl (by rw [cut_size3 h.size]; omega) ha
  exact ⟨o1, .inl o2⟩

theorem CutsS.step {L : List Bytes} {k : Nat} {D : Dk} (h : CutsS L k D) (hk : k < 1000) :
    (D.saveE ((k : Int) + 1) (pay L k) = 0 ∧ CutsS L (k + 1) (D.saved ((k : Int) + 1) (pay L k))) ∨
    (D.saveE ((k : Int) + 1) (pay L k) = 7 ∧ CutsEnd (D.saved ((k : Int) + 1) (pay L k)) (headAt L k) (headAt L (k + 1))) := by
  obtain ⟨hz, hor⟩ := Dk.save_or h.down (by rw [h.size]; omega) (G := (k : Int) + 1) (by omega) (p := pay L k) (pay_len L k)
  rw [h.size] at hz
  have hlen : D.all.length = k := by rw [h.all, savesTo_len]
  rw [h.lasts, h.all, ← savesTo_succ, savesTo_len] at hor
  rcases hor with ⟨s1, s2, s3, s4⟩ | ⟨s1, s2⟩
  · exact .inl ⟨s1, s2, hz, s3, s4⟩
  · refine .inr ⟨s1, ?_⟩
    generalize D.saved ((k : Int) + 1) (pay L k) = D' at hz s2
    have hl : D'.lasts = k := by
      rcases s2 with ⟨_, h | h⟩ | ⟨_, h⟩ <;> exact h
    have ha : D'.all = savesTo L k ∨ D'.all = savesTo L (k + 1) := by
      rcases s2 with ⟨h, _⟩ | ⟨h, _⟩
      · exact .inl h
      · exact .inr h
    refine ⟨?_, fun keep => ?_⟩
    · rcases ha with h | h <;> (rw [h, savesTo_len]; unfold Big; omega)
    have hc : (D'.cut keep).all = savesTo L k ∨ (D'.cut keep).all = savesTo L (k + 1) := by
      show D'.all.take D'.lasts ++ kept keep 0 (D'.all.drop D'.lasts) = _ ∨ D'.all.take D'.lasts ++ kept keep 0 (D'.all.drop D'.lasts) = _
      rcases ha with h | h
      · rw [h, hl, List.take_of_length_le (by rw [savesTo_len]; omega), List.drop_eq_nil_of_le (by rw [savesTo_len]; omega)]
        exact .inl (by simp [kept])
      · rw [h, hl, savesTo_succ, List.take_left' (savesTo_len L k), List.drop_left' (savesTo_len L k)]
        unfold kept
        split
        · exact .inr (by simp [kept])
        · exact .inl (by simp [kept])
    rcases hc with hc | hc
    · obtain ⟨o1, o2⟩ := open_heads (k := k) (by omega) (C := D'.cut keep) rfl (by rw [cut_size3 hz]; omega) hc
      exact ⟨o1, .inl o2⟩
    · obtain ⟨o1, o2⟩ := open_heads (k := k + 1) (by omega) (C := D'.cut keep) rfl (by rw [cut_size3 hz]; omega) hc
      exact ⟨o1, .inr o2⟩

theorem BytesV.take {w : World} {x : Option Addr} {c : Nat} {l : Bytes} (h : BytesV w (.slice x l.length c) l) (n : Nat) : BytesV w (.slice x (l.take n).length c) (l.take n) := by
  rcases h with ⟨he, rfl⟩ | ⟨g, off, cap, he, h1, h2, h3⟩
  · exact .inl ⟨by simpa using he, by simp⟩
  · cases he
    refine .inr ⟨g, off, c, rfl, by rw [List.length_take]; omega, h2, fun i b hi => ?_⟩
    rw [List.getElem?_take] at hi
    split at hi
    · exact h3 i b hi
    · cases hi

/-- both cells of a block of two are filled -/
theorem own_row_two {w0 wz : World} {l : List Thing} {x : Nat} {c : Array Value} {e : TypeId} {he : e ≠ 5} (h : Owns w0 l wz) (i : Nat) (hi : l[i]? = some (row x c e he)) (u v : Value) :
    Owns w0 (l.set i (row x ((c.setIfInBounds 0 u).setIfInBounds 1 v) e he)) ((wz.setCell ⟨x, 0, none⟩ u).setCell ⟨x, 1, none⟩ v) := by
  have h1 := own_row_set h i hi 0 u
  have h2 := own_row_set h1 i (by rw [List.getElem?_set, if_pos rfl, if_pos (List.getElem?_eq_some_iff.1 hi).1]) 1 v
  rwa [List.set_set] at h2

set_option maxRecDepth 100000 in
set_option maxHeartbeats 2000000 in
theorem cuts_walk (w : World) {v kv : Value} {L : List Bytes} {keep : List Bool} (hv : RowsV w v L) {f : Int} (f0 : 0 ≤ f) (f1 : f ≤ 255) (hk : BoolsV w kv keep) :
    Calls Try.prog 11 #[v, .int .u8 f, kv] w (Returns (.bool true) (Below w.heap.size w)) := by
  have hnot : ∀ (x : Bool) (w : World), (Op.unary .not (.bool x)).run Try.prog w = .ok (.bool (!x)) w := fun _ _ => rfl
  obtain ⟨va, vc, hve, hvc, hvm⟩ := hv.shape
  subst hve
  obtain ⟨ka, kc, hke, hkc, hkm⟩ := hk.shape
  subst hke
  have hvl : L.length ≤ 9223372036854775807 := by unfold maxLen at hvm; omega
  have hkl : keep.length ≤ 9223372036854775807 := by unfold maxLen at hkm; omega
  have HV := Lib.hid hv
  have HKV := Lib.hid hk
  clear hv hvc hvm hk hkc hkm
  by_cases hbig : 40 < L.length ∨ 1000 < keep.length
  · by_cases h40 : 40 < L.length
    · clear hbig
      go_enter Try.func11, Try.ntmps11
      go_wp2_with (fail)
      refine (own_returns (Owns.none w) (awake8_any w)).mono ?_
      rintro e w1 ⟨rfl, hO1, -⟩
      have HO1 := Lib.hid hO1
      clear hO1
      go_wp2_with (fail)
      refine (own_returns HO1.out (awake8_any w1)).mono ?_
      rintro e w2 ⟨rfl, hO2, -⟩
      have HO2 := Lib.hid hO2
      clear hO2
      go_wp2_with (fail)
      go_ret
      exact ⟨rfl, HO2.out.below⟩
    · have h1000 : 1000 < keep.length := by rcases hbig with h | h; exact absurd h h40; exact h
      have h40' : L.length ≤ 40 := by omega
      clear hbig h40
      go_enter Try.func11, Try.ntmps11
      go_wp2_with (fail)
      refine (own_returns (Owns.none w) (awake8_any w)).mono ?_
      rintro e w1 ⟨rfl, hO1, -⟩
      have HO1 := Lib.hid hO1
      clear hO1
      go_wp2_with (fail)
      refine (own_returns HO1.out (awake8_any w1)).mono ?_
      rintro e w2 ⟨rfl, hO2, -⟩
      have HO2 := Lib.hid hO2
      clear hO2
      go_wp2_with (fail)
      go_ret
      exact ⟨rfl, HO2.out.below⟩
  · have h40 : L.length ≤ 40 := by omega
    have h1000 : keep.length ≤ 1000 := by omega
    clear hbig
    go_enter Try.func11, Try.ntmps11
    go_wp2_with (fail)
    refine (own_returns (Owns.none w) (awake8_any w)).mono ?_
    rintro e w1 ⟨rfl, hO1, -⟩
    have HO1 := Lib.hid hO1
    clear hO1
    go_wp2_with (fail)
    refine (own_new HO1.out 3).mono ?_
    rintro e w2 ⟨d, rfl, hO2, -⟩
    have hO3 := own_row_new (own_row_new hO2 #[.int .u64 0, .slice none 0 0] 68 (by decide)) #[.int .u64 0, .slice none 0 0] 68 (by decide)
    have HO3 := Lib.hid hO3
    clear hO2 hO3
    go_wp2_with (fail)
    rw [show (w2.alloc (.cells #[.int .u64 0, .slice none 0 0] 68)).heap.size = w2.heap.size + 1 from size_alloc _ _] at HO3
    generalize (w2.alloc (.cells #[.int .u64 0, .slice none 0 0] 68)).alloc (.cells #[.int .u64 0, .slice none 0 0] 68) = w3 at HO3 ⊢
    generalize w2.heap.size + 1 = b9 at HO3 ⊢
    generalize w2.heap.size = b8 at HO3 ⊢
    refine (own_setFuse HO3.out 2 rfl f (by omega)).mono ?_
    rintro e w4 ⟨rfl, hO4, -⟩
    have HO4 : Hid (Owns w [row b9 #[.int .u64 0, .slice none 0 0] 68 (by decide), row b8 #[.int .u64 0, .slice none 0 0] 68 (by decide), disk d ((Dk.new 3).fused f)] w4) := Lib.hid hO4
    clear hO4
    go_wp2_with (fail)
    go_loopw [10] (fun i wr => ∃ k : Nat, k ≤ L.length ∧ i = .int .i64 k ∧ ∃ D x8 n8 c8 v9, CutsS L k D ∧ BytesV w (.slice x8 n8 c8) (headAt L k).2 ∧ n8 = (headAt L k).2.length ∧ Owns w [row b9 v9 68 (by decide), row b8 #[.int .u64 (k : Int), .slice x8 n8 c8] 68 (by decide), disk d D] wr ∧ v9 = #[.int .u64 (k : Int), .slice x8 n8 c8]) (fun i _ => L.length - (intOf i).toNat)
    case atStart => exact ⟨0, Nat.zero_le _, rfl, _, none, 0, 0, _, CutsS.start L, .inl ⟨.nil, rfl⟩, rfl, HO4.out, rfl⟩
    case round =>
      obtain ⟨k, hk, rfl, D, x8, n8, c8, v9, hD, hb8, hn8, hO, rfl⟩ := hrel
      by_cases hlt : k < L.length
      · obtain ⟨l, hl⟩ : ∃ l, L[k]? = some l := ⟨L[k], List.getElem?_eq_getElem hlt⟩
        obtain ⟨g, off, x, c, rfl, hcx, hbx, hlm⟩ := HV.out.at_ hl
        have hgl := World.block_lt_of_cell? w _ hcx
        rw [← World.cell?_of_block (w := w) (w' := wr) (a := ⟨g, off + k, none⟩) (hO.mine.block g hgl (by simp))] at hcx
        have hx0 : l.length ≤ 9223372036854775807 := by unfold maxLen at hlm; omega

        have hc : l.length ≤ c := by
          obtain ⟨_, _, he, h1, _⟩ := hbx.shape
          cases he; exact h1
        have hm : (if 200 < (l.length : Int) then 200 else (l.length : Int)).toNat = (pay L k).length := by
          have : (pay L k).length = min 200 l.length := by simp [pay, List.getD, hl]
          rw [this]; split <;> omega
        have hbp : BytesV w (.slice x (pay L k).length c) (pay L k) := by
          have e : pay L k = l.take 200 := by simp [pay, List.getD, hl]
          rw [e]; exact hbx.take 200
        have HM := Lib.hid hm
        have HBP := Lib.hid hbp
        have hstep := hD.step (by omega : k < 1000)
        have hlen : D.all.length = k := by rw [hD.all, savesTo_len]
        have HLN : Hid (D.all.length + 1 < Big) := Lib.hid (by rw [hlen]; unfold Big; omega)
        have HO := Lib.hid hO
        have HST := Lib.hid hstep
        have HB8 := Lib.hid hb8
        have HN8 := Lib.hid hn8
        clear hm hbp hstep hlen hO hb8 hD hl hbx hn8
        go_wp2_with (fail)
        go_quiet (fail)
        rw [HM.out]
        have hU5 : Upd [] wr (wr.drewN nq) := ⟨rfl, rfl, rfl, Nat.le_refl _, fun _ _ _ => rfl, fun _ _ _ _ => rfl⟩
        have HO5 := Lib.hid (HO.out.upd hU5)
        clear hU5 hcx
        generalize wr.drewN nq = w5 at HO5 ⊢
        have c0 := cell_of_heap (own_row HO5.out 0 rfl) (o := 0) rfl
        have c1 := cell_of_heap (own_row HO5.out 0 rfl) (o := 1) rfl
        have z0 := free_of_heap (own_row HO5.out 0 rfl) (o := 0)
        have z1 := free_of_heap (own_row HO5.out 0 rfl) (o := 1)
        have hl9 := lt_of_heap (own_row HO5.out 0 rfl)
        have HO6 : Hid (Owns w [row b9 #[.int .u64 ((k : Int) + 1), .slice x (pay L k).length c] 68 (by decide), row b8 #[.int .u64 (k : Int), .slice x8 n8 c8] 68 (by decide), disk d D] ((w5.setCell ⟨b9, 0, none⟩ (.int .u64 ((k : Int) + 1))).setCell ⟨b9, 1, none⟩ (.slice x (pay L k).length c))) := Lib.hid (own_row_two HO5.out 0 rfl _ _)
        go_wp2_with (fail)
        all_goals
          generalize (w5.setCell ⟨b9, 0, none⟩ (.int .u64 ((k : Int) + 1))).setCell ⟨b9, 1, none⟩ (.slice x (pay L k).length c) = w6 at HO6 ⊢
          clear c0 c1 z0 z1
          refine (own_save HO6.out 2 rfl (BytesV.lasting HBP.out) (G := (k : Int) + 1) (by omega) (by omega) HLN.out).mono ?_
          rcases HST.out with ⟨hE, hS⟩ | ⟨hE, hS⟩
          · rw [hE]
            rintro e w7 ⟨rfl, hO7, -⟩
            have hO7 : Owns w [row b9 #[.int .u64 ((k : Int) + 1), .slice x (pay L k).length c] 68 (by decide), row b8 #[.int .u64 (k : Int), .slice x8 n8 c8] 68 (by decide), disk d (D.saved ((k : Int) + 1) (pay L k))] w7 := hO7
            have c90 := cell_of_heap (own_row hO7 0 rfl) (o := 0) rfl
            have c91 := cell_of_heap (own_row hO7 0 rfl) (o := 1) rfl
            have c80 := cell_of_heap (own_row hO7 1 rfl) (o := 0) rfl
            have c81 := cell_of_heap (own_row hO7 1 rfl) (o := 1) rfl
            have z0 := free_of_heap (own_row hO7 1 rfl) (o := 0)
            have z1 := free_of_heap (own_row hO7 1 rfl) (o := 1)
            have hl8 := lt_of_heap (own_row hO7 1 rfl)
            have hO8 : Owns w [row b9 #[.int .u64 ((k : Int) + 1), .slice x (pay L k).length c] 68 (by decide), row b8 #[.int .u64 ((k : Int) + 1), .slice x (pay L k).length c] 68 (by decide), disk d (D.saved ((k : Int) + 1) (pay L k))] ((w7.setCell ⟨b8, 0, none⟩ (.int .u64 ((k : Int) + 1))).setCell ⟨b8, 1, none⟩ (.slice x (pay L k).length c)) := own_row_two hO7 1 rfl (.int .u64 ((k : Int) + 1)) (.slice x (pay L k).length c)
            have hcast : ((k + 1 : Nat) : Int) = (k : Int) + 1 := by omega
            rw [← hcast] at hO8
            have HO8 := Lib.hid hO8
            have HS := Lib.hid hS
            clear hO7 hO8 hS hE hcast
            go_wp2_with (fail)
            go_roundw
            case rel => exact ⟨k + 1, by omega, by go_num, D.saved ((k : Int) + 1) (pay L k), x, (pay L k).length, c, #[.int .u64 ((k + 1 : Nat) : Int), .slice x (pay L k).length c], HS.out, HBP.out, rfl, HO8.out, rfl⟩
            case measure => simp [intOf]; omega
          · rw [hE]
            rintro e w7 ⟨rfl, hO7, -⟩
            obtain ⟨DE, hDE⟩ : ∃ DE, DE = D.saved ((k : Int) + 1) (pay L k) := ⟨_, rfl⟩
            rw [← hDE] at hS hO7
            obtain ⟨g8, hg8⟩ : ∃ g8 : Int, g8 = (k : Int) := ⟨_, rfl⟩
            obtain ⟨p8, hp8⟩ : ∃ p8, p8 = (headAt L k).2 := ⟨_, rfl⟩
            obtain ⟨g9, hg9⟩ : ∃ g9 : Int, g9 = (k : Int) + 1 := ⟨_, rfl⟩
            obtain ⟨p9, hp9⟩ : ∃ p9, p9 = pay L k := ⟨_, rfl⟩
            have e8 : headAt L k = (g8, p8) := by rw [hg8, hp8]; exact Prod.ext (headAt_fst L k) rfl
            have e9 : headAt L (k + 1) = (g9, p9) := by rw [hg9, hp9]; rfl
            have hO7 : Owns w [row b9 #[.int .u64 g9, .slice x p9.length c] 68 (by decide), row b8 #[.int .u64 g8, .slice x8 p8.length c8] 68 (by decide), disk d DE] w7 := by
              rw [hg9, hp9, hg8, hp8, ← HN8.out]; exact hO7
            have hE8 : BytesV w (.slice x8 p8.length c8) p8 := by rw [hp8, ← HN8.out]; exact HB8.out
            have hE9 : BytesV w (.slice x p9.length c) p9 := by rw [hp9]; exact HBP.out
            rw [e8, e9] at hS
            have HEN := Lib.hid hS
            have HOE := Lib.hid hO7
            have HE8 := Lib.hid hE8
            have HE9 := Lib.hid hE9
            clear hS hO7 hE8 hE9 e8 e9 hg8 hg9 hp8 hp9 hE hDE HB8
            go_wp2_with (fail)
            refine (own_cut HOE.out 2 rfl (HKV.out.upd HOE.out.mine (by simp)) HEN.out.1).mono ?_
            rintro e wc ⟨y, rfl, hOc, -⟩
            have HOC := Lib.hid hOc
            clear hOc
            go_wp2_with (fail)
            refine (own_open HOC.out 0 rfl).mono ?_
            rw [(HEN.out.2 keep).1]
            rintro e wo ⟨vo, rfl, ⟨xo, rfl, hbo, hio⟩, hOo, -⟩
            obtain ⟨ao, co, rfl, _, _⟩ := hbo.shape
            have hor := (HEN.out.2 keep).2
            generalize (DE.cut keep).openH = ho at hbo hio hor ⊢
            obtain ⟨go, po⟩ := ho
            have hOA := own_row_new (hOo.upd ((Upd.refl [] wo).alloc (.cells #[.int .u64 go, .slice ao po.length co] 60))) #[.int .u64 go, .slice ao po.length co] 68 (by decide)
            rw [size_alloc] at hOA
            have hU2 := ((Upd.refl [] wo).alloc (.cells #[.int .u64 go, .slice ao po.length co] 60)).alloc (.cells #[.int .u64 go, .slice ao po.length co] 68)
            have q90 := cell_of_heap (own_row hOo 1 rfl) (o := 0) rfl
            have q91 := cell_of_heap (own_row hOo 1 rfl) (o := 1) rfl
            have q80 := cell_of_heap (own_row hOo 2 rfl) (o := 0) rfl
            have q81 := cell_of_heap (own_row hOo 2 rfl) (o := 1) rfl
            have hl9 := lt_of_heap (own_row hOo 1 rfl)
            have hl8 := lt_of_heap (own_row hOo 2 rfl)
            have HBO := Lib.hid (hbo.upd hU2 (by simp))
            have HIO := Lib.hid (hio.keep hU2.keeps)
            have HB8 := Lib.hid (HE8.out.upd hOA.mine (by simp))
            have HB9 := Lib.hid (HE9.out.upd hOA.mine (by simp))
            have HOA := Lib.hid hOA
            clear hbo hio hOo hOA hU2
            go_wp2_with (fail)
            generalize (wo.alloc (.cells #[.int .u64 go, .slice ao po.length co] 60)).alloc (.cells #[.int .u64 go, .slice ao po.length co] 68) = wp at HBO HIO HB8 HB9 HOA ⊢
            refine (own_returns HOA.out (same8_any HBO.out HB8.out)).mono ?_
            by_cases heq : (go, po) = (g8, p8)
            · rw [decide_eq_true heq]
              rintro e wq ⟨rfl, hOq, -⟩
              have HF := Lib.hid hOq.below
              clear heq hor hOq
              go_wp2_with (fail)
              go_ret
              exact ⟨rfl, HF.out⟩
            · rw [decide_eq_false heq]
              rintro e wq ⟨rfl, hOq, hkq⟩
              have he9 : (go, po) = (g9, p9) := by rcases hor with h | h; exact absurd h heq; exact h
              have r00 := cell_of_heap (own_row hOq 0 rfl) (o := 0) rfl
              have r01 := cell_of_heap (own_row hOq 0 rfl) (o := 1) rfl
              have r90 := cell_of_heap (own_row hOq 2 rfl) (o := 0) rfl
              have r91 := cell_of_heap (own_row hOq 2 rfl) (o := 1) rfl
              have hlq0 := lt_of_heap (own_row hOq 0 rfl)
              have hlq9 := lt_of_heap (own_row hOq 2 rfl)
              have HBO2 := Lib.hid (HBO.out.keep HIO.out hkq)
              have HB92 := Lib.hid (HE9.out.upd hOq.mine (by simp))
              have HOQ := Lib.hid hOq
              have HE := Lib.hid he9
              clear heq hor hOq he9 hkq
              go_wp2_with (fail)
              refine (own_returns HOQ.out (same8_any HBO2.out HB92.out)).mono ?_
              rw [decide_eq_true HE.out]
              rintro e wz ⟨rfl, hOz, -⟩
              have HF := Lib.hid hOz.below
              clear hOz
              go_wp2_with (fail)
              go_ret
              exact ⟨rfl, HF.out⟩
      · obtain rfl : k = L.length := by omega
        obtain ⟨DE, hDE⟩ : ∃ DE, DE = D := ⟨_, rfl⟩
        obtain ⟨g8, hg8⟩ : ∃ g8 : Int, g8 = (L.length : Int) := ⟨_, rfl⟩
        obtain ⟨p8, hp8⟩ : ∃ p8, p8 = (headAt L L.length).2 := ⟨_, rfl⟩
        obtain ⟨g9, hg9⟩ : ∃ g9 : Int, g9 = g8 := ⟨_, rfl⟩
        obtain ⟨p9, hp9⟩ : ∃ p9, p9 = p8 := ⟨_, rfl⟩
        have hS := hD.fin (by omega)
        have e8 : headAt L L.length = (g8, p8) := by rw [hg8, hp8]; exact Prod.ext (headAt_fst L _) rfl
        have e9 : headAt L L.length = (g9, p9) := by rw [hg9, hp9, e8]
        have hS : CutsEnd DE (g8, p8) (g9, p9) := by rw [hDE, hg9, hp9, ← e8]; exact hS
        have hO7 : Owns w [row b9 #[.int .u64 g9, .slice x8 p9.length c8] 68 (by decide), row b8 #[.int .u64 g8, .slice x8 p8.length c8] 68 (by decide), disk d DE] wr := by
          rw [hg9, hp9, hg8, hp8, ← hn8, hDE]; exact hO
        have hE8 : BytesV w (.slice x8 p8.length c8) p8 := by rw [hp8, ← hn8]; exact hb8
        have hE9 : BytesV w (.slice x8 p9.length c8) p9 := by rw [hp9]; exact hE8
        have HEN := Lib.hid hS
        have HOE := Lib.hid hO7
        have HE8 := Lib.hid hE8
        have HE9 := Lib.hid hE9
        clear hS hO7 hE8 hE9 e8 e9 hg8 hg9 hp8 hp9 hDE hb8 hn8 hO hD
        go_wp2_with (fail)
        refine (own_cut HOE.out 2 rfl (HKV.out.upd HOE.out.mine (by simp)) HEN.out.1).mono ?_
        rintro e wc ⟨y, rfl, hOc, -⟩
        have HOC := Lib.hid hOc
        clear hOc
        go_wp2_with (fail)
        refine (own_open HOC.out 0 rfl).mono ?_
        rw [(HEN.out.2 keep).1]
        rintro e wo ⟨vo, rfl, ⟨xo, rfl, hbo, hio⟩, hOo, -⟩
        obtain ⟨ao, co, rfl, _, _⟩ := hbo.shape
        have hor := (HEN.out.2 keep).2
        generalize (DE.cut keep).openH = ho at hbo hio hor ⊢
        obtain ⟨go, po⟩ := ho
        have hOA := own_row_new (hOo.upd ((Upd.refl [] wo).alloc (.cells #[.int .u64 go, .slice ao po.length co] 60))) #[.int .u64 go, .slice ao po.length co] 68 (by decide)
        rw [size_alloc] at hOA
        have hU2 := ((Upd.refl [] wo).alloc (.cells #[.int .u64 go, .slice ao po.length co] 60)).alloc (.cells #[.int .u64 go, .slice ao po.length co] 68)
        have q90 := cell_of_heap (own_row hOo 1 rfl) (o := 0) rfl
        have q91 := cell_of_heap (own_row hOo 1 rfl) (o := 1) rfl
        have q80 := cell_of_heap (own_row hOo 2 rfl) (o := 0) rfl
        have q81 := cell_of_heap (own_row hOo 2 rfl) (o := 1) rfl
        have hl9 := lt_of_heap (own_row hOo 1 rfl)
        have hl8 := lt_of_heap (own_row hOo 2 rfl)
        have HBO := Lib.hid (hbo.upd hU2 (by simp))
        have HIO := Lib.hid (hio.keep hU2.keeps)
        have HB8 := Lib.hid (HE8.out.upd hOA.mine (by simp))
        have HB9 := Lib.hid (HE9.out.upd hOA.mine (by simp))
        have HOA := Lib.hid hOA
        clear hbo hio hOo hOA hU2
        go_wp2_with (fail)
        generalize (wo.alloc (.cells #[.int .u64 go, .slice ao po.length co] 60)).alloc (.cells #[.int .u64 go, .slice ao po.length co] 68) = wp at HBO HIO HB8 HB9 HOA ⊢
        refine (own_returns HOA.out (same8_any HBO.out HB8.out)).mono ?_
        by_cases heq : (go, po) = (g8, p8)
        · rw [decide_eq_true heq]
          rintro e wq ⟨rfl, hOq, -⟩
          have HF := Lib.hid hOq.below
          clear heq hor hOq
          go_wp2_with (fail)
          go_ret
          exact ⟨rfl, HF.out⟩
        · rw [decide_eq_false heq]
          rintro e wq ⟨rfl, hOq, hkq⟩
          have he9 : (go, po) = (g9, p9) := by rcases hor with h | h; exact absurd h heq; exact h
          have r00 := cell_of_heap (own_row hOq 0 rfl) (o := 0) rfl
          have r01 := cell_of_heap (own_row hOq 0 rfl) (o := 1) rfl
          have r90 := cell_of_heap (own_row hOq 2 rfl) (o := 0) rfl
          have r91 := cell_of_heap (own_row hOq 2 rfl) (o := 1) rfl
          have hlq0 := lt_of_heap (own_row hOq 0 rfl)
          have hlq9 := lt_of_heap (own_row hOq 2 rfl)
          have HBO2 := Lib.hid (HBO.out.keep HIO.out hkq)
          have HB92 := Lib.hid (HE9.out.upd hOq.mine (by simp))
          have HOQ := Lib.hid hOq
          have HE := Lib.hid he9
          clear heq hor hOq he9 hkq
          go_wp2_with (fail)
          refine (own_returns HOQ.out (same8_any HBO2.out HB92.out)).mono ?_
          rw [decide_eq_true HE.out]
          rintro e wz ⟨rfl, hOz, -⟩
          have HF := Lib.hid hOz.below
          clear hOz
          go_wp2_with (fail)
          go_ret
          exact ⟨rfl, HF.out⟩

end Go.Proofs.Ytkpoladbabhdmaa
