/- DiskFuse: a fuse of n lets n acts be done, and no more. Conditions: none. -/
import Derived.Test.YtkpoladbabhdmaaRow
import Derived.Test.YtkpoladbabhdmaaDiskO
namespace Go.Proofs.Ytkpoladbabhdmaa
open Go.ChangeShapes Go.WideShapes Go.ChangeAt Go.RowKit

/-- i acts are done -/
structure FuseD (n : Int) (i : Nat) (D : Dk) : Prop where
  size : D.size = 300
  down : D.down = false
  fuse : D.fuse = n - i
  len : D.all.length = i
  lasts : D.lasts = 0
  lt : ∀ p ∈ D.all, p.1 < (i : Int)

/-- the disk is down -/
structure FuseE (n : Int) (D : Dk) : Prop where
  size : D.size = 300
  down : D.down = true
  len : (D.all.length : Int) = n
  lasts : D.lasts = 0
  lt : ∀ p ∈ D.all, p.1 < n

theorem FuseD.start {n : Int} (h : 0 ≤ n) : FuseD n 0 ((Dk.new 300).fused n) := ⟨rfl, rfl, by simp [Dk.fused]; omega, rfl, rfl, by simp [Dk.fused, Dk.new]⟩

theorem FuseD.step {n : Int} {i : Nat} {D : Dk} (h : FuseD n i D) (hi : (i : Int) < n) (hn : n ≤ 255) : D.writeE i (alike 1) = 0 ∧ FuseD n (i + 1) (D.write i (alike 1)) := by
  have ho : D.okArg i (alike 1) = true := by
    rw [Dk.okArg, decide_eq_true_eq, alike_len, h.size]; exact ⟨by omega, by omega, rfl⟩
  have hb : D.burns = true := by simp only [Dk.burns, decide_eq_true_eq, h.fuse]; omega
  have hf : D.burnt = { D with fuse := D.fuse - 1 } := by
    have := h.fuse; unfold Dk.burnt; rw [if_neg (by omega), if_pos (by omega)]
  have hw : D.write i (alike 1) = D.wrote i (alike 1) := by simp [Dk.write, h.down, ho, hb]
  refine ⟨by simp [Dk.writeE, h.down, ho, hb], ?_⟩
  rw [hw]
  refine ⟨by simp [Dk.wrote, hf, h.size], by simp [Dk.wrote, hf, h.down], by simp [Dk.wrote, hf, h.fuse]; omega, by simp [Dk.wrote, h.len], by simp [Dk.wrote, hf, h.lasts], ?_⟩
  intro p hp
  simp only [Dk.wrote, List.mem_append, List.mem_singleton] at hp
  rcases hp with hp | rfl
  · have := h.lt p hp; omega
  · simp; omega

theorem FuseD.last {n : Int} {i : Nat} {D : Dk} (h : FuseD n i D) (hi : (i : Int) = n) : D.writeE 299 (alike 1) = 7 ∧ FuseE n (D.write 299 (alike 1)) := by
  have ho : D.okArg 299 (alike 1) = true := by
    rw [Dk.okArg, decide_eq_true_eq, alike_len, h.size]; exact ⟨by omega, by omega, rfl⟩
  have h0 : D.fuse = 0 := by rw [h.fuse]; omega
  have hb : D.burns = false := by simp [Dk.burns, h0]
  have hf : D.burnt = { D with down := true } := by unfold Dk.burnt; rw [if_pos h0]
  have hw : D.write 299 (alike 1) = { D with down := true } := by simp [Dk.write, h.down, ho, hb, hf]
  refine ⟨by simp [Dk.writeE, h.down, ho, hb], ?_⟩
  rw [hw]
  exact ⟨h.size, rfl, by simp only [h.len]; exact hi, h.lasts, fun p hp => by have := h.lt p hp; omega⟩

theorem FuseE.again {n : Int} {D : Dk} (h : FuseE n D) : D.writeE 299 (alike 1) = 7 ∧ FuseE n (D.write 299 (alike 1)) := by
  have hw : D.write 299 (alike 1) = D := by simp [Dk.write, h.down]
  exact ⟨by simp [Dk.writeE, h.down], by rw [hw]; exact h⟩

/-- the state at the j-th round of the refused writes -/
def FuseX (n : Int) (k j : Nat) (D : Dk) : Prop := (j = 0 ∧ (k : Int) = n ∧ FuseD n k D) ∨ FuseE n D
theorem FuseX.next {n : Int} {k j : Nat} {D : Dk} (h : FuseX n k j D) : D.writeE 299 (alike 1) = 7 ∧ FuseE n (D.write 299 (alike 1)) := by
  rcases h with ⟨_, hk, h⟩ | h
  · exact h.last hk
  · exact h.again
theorem FuseX.len {n : Int} {k j : Nat} {D : Dk} (h : FuseX n k j D) (hn : n ≤ 255) : D.all.length < Big := by
  unfold Big
  rcases h with ⟨_, hk, h⟩ | h
  · have := h.len; omega
  · have := h.len; omega

theorem last_none (l : List (Int × Bytes)) (n : Int) (h : ∀ p ∈ l, p.1 ≠ n) : last l n = none := by
  cases hl : last l n with
  | none => rfl
  | some b => exact absurd rfl (h _ (last_mem l n b hl))

theorem FuseE.fin {n : Int} {D : Dk} (h : FuseE n D) (hw : D.Wf) (hn : n ≤ 255) : D.readE 0 = 7 ∧ D.read 0 = D ∧ D.syncE = 7 ∧ D.sync = D ∧ D.pend = n ∧ (D.cut []).readE 299 = 0 ∧ (D.cut []).readB 299 = zeros := by
  have hs : (D.cut []).size = 300 := by rw [← h.size]; exact Dk.new_size hw
  have hd : (D.cut []).down = false := rfl
  refine ⟨by simp [Dk.readE, h.down], by simp [Dk.read, h.down], by simp [Dk.syncE, h.down], by simp [Dk.sync, h.down], ?_, by simp [Dk.readE, hs, hd], ?_⟩
  · have := h.len; simp only [Dk.pend, h.lasts]; omega
  · simp only [Dk.readB, hs, hd, Dk.sec]
    have : last (D.cut []).all 299 = none := by
      refine last_none _ _ fun p hp => ?_
      have hp : p ∈ D.all.take D.lasts ++ kept [] 0 (D.all.drop D.lasts) := hp
      have hm : p ∈ D.all := by
        rcases List.mem_append.1 hp with hp | hp
        · exact List.mem_of_mem_take hp
        · exact List.mem_of_mem_drop (kept_mem _ _ _ _ hp)
      have := h.lt p hm
      omega
    rw [this]
    rfl

set_option maxRecDepth 100000 in
set_option maxHeartbeats 2000000 in
theorem fuse_walk (n m : Int) (hn0 : 0 ≤ n) (hn1 : n ≤ 255) (hm0 : 0 ≤ m) (hm1 : m ≤ 255) (w : World) :
    Calls Try.prog 5 #[.int .u8 n, .int .u8 m] w (Returns (.bool true) (Below w.heap.size w)) := by
  have hnot : ∀ (x : Bool) (w : World), (Op.unary .not (.bool x)).run Try.prog w = .ok (.bool (!x)) w := fun _ _ => rfl
  go_enter Try.func5, Try.ntmps5
  go_wp2_with (fail)
  refine (own_returns (Owns.none w) (awake6_any w)).mono ?_
  rintro e w1 ⟨rfl, hO1, -⟩
  go_wp2_with (fail)
  refine (own_new hO1 300).mono ?_
  rintro e w2 ⟨b, rfl, hO2, -⟩
  clear hO1
  go_wp2_with (fail)
  refine (own_setFuse hO2 0 rfl n (by omega)).mono ?_
  rintro e w3 ⟨rfl, hO3, -⟩
  have hO3 : Owns w [disk b ((Dk.new 300).fused n)] w3 := hO3
  clear hO2
  go_wp2_with (fail)
  go_loopw [6] (fun i wr => ∃ k : Nat, (k : Int) ≤ n ∧ i = .int .i64 k ∧ ∃ D, FuseD n k D ∧ Owns w [disk b D] wr) (fun i _ => (n - intOf i).toNat)
  case atStart => exact ⟨0, by omega, rfl, _, FuseD.start hn0, hO3⟩
  case round =>
    obtain ⟨k, hk, rfl, D, hD, hO⟩ := hrel
    by_cases hlt : (k : Int) < n
    · obtain ⟨hE, hD'⟩ := hD.step hlt hn1
      go_wp2_with (fail)
      refine (own_bytes hO (sector6_any _ _)).mono ?_
      rintro e w4 ⟨v, rfl, hb, hO4, -, -⟩
      obtain ⟨va, vc, rfl, _, _⟩ := hb.view.shape
      go_wp2_with (fail)
      refine (own_write hO4 0 rfl hb (by rw [hD.len]; unfold Big; omega)).mono ?_
      rw [hE]
      rintro e w5 ⟨rfl, hO5, -⟩
      have hO5 : Owns w [disk b (D.write k (alike 1))] w5 := hO5
      generalize D.write k (alike 1) = D' at hD' hO5
      have hdn := hD'.down
      clear hE hb hO4 hO
      go_wp2_with (fail)
      refine (own_down hO5 0 rfl).mono ?_
      rintro e w' ⟨rfl, rfl⟩
      go_wp2_with (fail)
      go_roundw
      case rel => exact ⟨k + 1, by omega, by go_num, D', hD', hO5⟩
      case measure => simp [intOf]; omega
    · have hkn : (k : Int) = n := by omega
      have hX : FuseX n k 0 D := .inl ⟨rfl, hkn, hD⟩
      clear hkn hO3 hD
      go_wp2_with (fail)
      obtain ⟨wo, hwo⟩ : ∃ wo : World, wo = wr := ⟨_, rfl⟩
      rw [← hwo] at hO ⊢
      clear hwo
      go_loopw [7] (fun i wr => ∃ j : Nat, (j : Int) ≤ 4 ∧ i = .int .i64 j ∧ ∃ D, FuseX n k j D ∧ Owns w [disk b D] wr) (fun i _ => (4 - intOf i).toNat)
      case atStart => exact ⟨0, by omega, rfl, _, hX, hO⟩
      case round =>
        clear hX hO
        obtain ⟨j, hj, rfl, D, hX, hO⟩ := hrel
        by_cases hlt : (j : Int) ≤ m % 4
        · obtain ⟨hE, hD'⟩ := hX.next
          have hlen := hX.len hn1
          go_wp2_with (fail)
          refine (own_bytes hO (sector6_any _ _)).mono ?_
          rintro e w4 ⟨v, rfl, hb, hO4, -, -⟩
          obtain ⟨va, vc, rfl, _, _⟩ := hb.view.shape
          go_wp2_with (fail)
          refine (own_write hO4 0 rfl hb hlen).mono ?_
          rw [hE]
          rintro e w5 ⟨rfl, hO5, -⟩
          have hO5 : Owns w [disk b (D.write 299 (alike 1))] w5 := hO5
          generalize D.write 299 (alike 1) = D' at hD' hO5
          have hdn := hD'.down
          clear hE hb hO4 hO hlen hX
          go_wp2_with (fail)
          refine (own_down hO5 0 rfl).mono ?_
          rintro e w' ⟨rfl, rfl⟩
          go_wp2_with (fail)
          go_roundw
          case rel => exact ⟨j + 1, by omega, by go_num, D', .inr hD', hO5⟩
          case measure => simp [intOf]; omega
        · have hD : FuseE n D := by
            rcases hX with ⟨h0, _⟩ | h
            · omega
            · exact h
          obtain ⟨e1, e2, e3, e4, e5, e6, e7⟩ := hD.fin (own_wf hO 0 rfl) hn1
          have hlen := hX.len hn1
          have HE1 := Lib.hid e1
          have HE2 := Lib.hid e2
          have HE3 := Lib.hid e3
          have HE4 := Lib.hid e4
          have HE5 := Lib.hid e5
          have HE6 := Lib.hid e6
          have HE7 := Lib.hid e7
          clear e1 e2 e3 e4 e5 e6 e7 hX hD
          go_wp2_with (fail)
          refine (own_read hO 0 rfl 0).mono ?_
          rw [HE1.out, HE2.out]
          rintro e w4 ⟨v, rfl, -, hO4, -, -⟩
          have hO4 : Owns w [disk b D] w4 := hO4
          go_wp2_with (fail)
          refine (own_cut hO4 0 rfl (.inl ⟨rfl, rfl⟩) hlen).mono ?_
          rintro e w5 ⟨x, rfl, hO5, -⟩
          go_wp2_with (fail)
          refine (own_read hO5 0 rfl 299).mono ?_
          rw [HE6.out, HE7.out]
          rintro e w6 ⟨v2, rfl, hb2, hO6, -, -⟩
          obtain ⟨g, cap, rfl⟩ := hb2.head (by rw [zeros_len]; omega)
          have hO6 : Owns w [disk x ((D.cut []).read 299), disk b D] w6 := hO6
          have hpick : Owns w [disk b D] w6 := hO6.pick (fun _ => 1) (by intro i T h; match i, h with | 0, h => simpa using h) (by intro i j hi hj _; simp at hi hj; omega)
          have HB2 := Lib.hid hb2
          clear hO5 hO4 hO hb2 hO6
          have hzl := zeros_len
          go_wp2_with (fail)
          refine (own_sync hpick 0 rfl hlen).mono ?_
          rw [HE3.out, HE4.out]
          rintro e w7 ⟨rfl, hO7, hk7⟩
          have hO7 : Owns w [disk b D] w7 := hO7
          have hc7 : w7.cell? ⟨g, 0, none⟩ = some (.int .u8 0) := (HB2.out.keep hk7).cell (k := 0) (x := 0) rfl
          go_wp2_with (fail)
          refine (own_pending hO7 0 rfl).mono ?_
          rw [HE5.out]
          rintro e w' ⟨rfl, rfl⟩
          go_wp2_with (fail)
          go_ret
          exact ⟨rfl, hO7.below⟩

set_option maxRecDepth 100000 in
theorem fuse_lifted (os : Os) (started : os.Started) (H : Type) (enc : TypeId × Value → H) :
    ReturnsInHanded {} Try.checked os 5 .any (Rows.diskFuseSpec.pre6 enc Try.prog Try.f5 Rows.diskFuseRow.domain false) (Rows.diskFuseSpec.post enc Try.prog Try.f5 false true false false) := by
  refine returnsInHanded_of_change (C := Try.checked) own started (by kernel_rfl) Try.func5
    (ChangeSpec.witness6 (enc := enc) (C := Try.checked) false ⟨#[], #[.int .u8 0, .int .u8 0], []⟩ 8 (by kernel_rfl) (by kernel_rfl) (by kernel_rfl) (by kernel_rfl)) ?_
  intro W base args ds gs before hval0 hW hcnd _
  have hval : ∀ (j : Nat) t v, Try.f5.params[j]? = some t → args[j]? = some v → Value.okWide Try.prog W .any base t v := hval0
  obtain ⟨p, q, hA0, hV, hbe, hfz, hnd⟩ := hW
  have hA : DataW.TrodAll enc Try.prog W 0 (fun _ => true) true Try.f5.params.toList args.toList ds p := hA0
  have hgs := (trodVars_none hV).1
  subst hgs
  have hA' := hA
  rw [Try.params5] at hA hval
  obtain ⟨v0, vs0, d0, ds0, p0, q0, hargs, rfl, rfl, h0, r0⟩ := trodAll_cons hA
  obtain ⟨v1, vs1, d1, ds1, p1, q1, rfl, rfl, rfl, h1, r1⟩ := trodAll_cons r0
  obtain ⟨rfl, rfl, rfl⟩ := trodAll_nil r1
  obtain rfl : args = #[v0, v1] := by cases args; simp_all
  obtain ⟨a0, rfl, rfl, rfl, w0⟩ := open_int Try.underlying5 (hval 0 5 v0 rfl rfl) h0
  obtain ⟨a1, rfl, rfl, rfl, w1⟩ := open_int Try.underlying5 (hval 1 5 v1 rfl rfl) h1
  have b0 := bounds_u8 w0
  have b1 := bounds_u8 w1
  refine (fuse_walk a0 a1 b0.1 b0.2 b1.1 b1.2 W).mono fun e W' ⟨he, hg⟩ => ?_
  subst he
  exact ⟨_, rfl, law_post rfl rfl (by decide +kernel) rfl hA' hV hbe hfz hnd hg⟩

theorem fuse_holds : Rows.DiskFuseSaid :=
  OpenClaim.holds_of_wide 5 Try.f5 rfl rfl rfl rfl rfl rfl rfl ⟨rfl, rfl, rfl, rfl, rfl⟩ rfl rfl rfl rfl rfl (by kernel_rfl) Try.func5 (by kernel_rfl)
    (of_decide_eq_true (by kernel_rfl)) (by unfold Func.isWrapper; first | (rw [if_pos (by decide +kernel)]; kernel_rfl) | (rw [if_neg (by decide +kernel)]; exact ⟨rfl, rfl⟩))
    (fun os started H enc _ => fuse_lifted os started H enc)
#print axioms fuse_holds

end Go.Proofs.Ytkpoladbabhdmaa
