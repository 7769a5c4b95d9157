/- The contract of the disk's Sync. Conditions: as each says. -/
import Derived.Test.YtkpoladbabhdmaaDisk5
import Derived.Deep.DeepMust
namespace Go.Proofs.Ytkpoladbabhdmaa
open Go.RowKit
open Go.ChangeMaps (setBlock)

theorem sync_nil (w : World) : Calls Try.prog 24 #[.pointer none] w fun e w' => e = .returned (.int .i64 7) ∧ w = w' := by
  go_enter Try.func24, Try.ntmps24
  go_wp2_with (go_at_call 30; refine (down_nil _).mono ?_; rintro e w' ⟨rfl, rfl⟩)
  go_ret
  exact ⟨rfl, rfl⟩

set_option maxHeartbeats 400000 in
theorem sync_down {b : Nat} {w : World} {D : Dk} {F : List Nat} (h : DiskAt w b D F) (hd : D.down = true) :
    Calls Try.prog 24 #[.pointer (some ⟨b, 0, none⟩)] w fun e w' => e = .returned (.int .i64 7) ∧ w = w' := by
  go_enter Try.func24, Try.ntmps24
  go_wp2_with (go_at_call 30; refine (down_any h).mono ?_; rintro e w' ⟨rfl, rfl⟩)
  go_ret
  exact ⟨rfl, rfl⟩

set_option maxHeartbeats 400000 in
theorem sync_burnt {b : Nat} {w : World} {D : Dk} {F : List Nat} (h : DiskAt w b D F) (hd : D.down = false) (hf : D.burns = false) :
    Calls Try.prog 24 #[.pointer (some ⟨b, 0, none⟩)] w (Returns (.int .i64 7) (TurnsTo w b D.burnt F)) := by
  have hnot : ∀ (x : Bool) (w : World), (Op.unary .not (.bool x)).run Try.prog w = .ok (.bool (!x)) w := fun _ _ => rfl
  go_enter Try.func24, Try.ntmps24
  go_wp2_with (go_at_call 30; refine (down_any h).mono ?_; rintro e w' ⟨rfl, rfl⟩)
  refine (burn_any h).mono ?_
  rintro e w1 ⟨rfl, hT⟩
  have HT := Lib.hid hT
  clear hT
  go_wp2_with (fail)
  go_ret
  exact ⟨rfl, HT.out⟩

/-- in the midst of a Sync: the first j writes last -/
def SyncI (w0 : World) (b : Nat) (D : Dk) (F : List Nat) (bn bl : Nat) (pv : Value) (ps : List (Int × Value × Bytes)) (j : Nat) (w : World) : Prop :=
  Upd F w0 w ∧ w.heap[b]? = some (.cells (dcells D bn bl pv) 125 (0, 0)) ∧ (∃ es1 c1, w.heap[bn]? = some (.map es1 c1) ∧ MOk (BytesO w) es1 c1 (last D.all)) ∧
    (∃ es2 c2, w.heap[bl]? = some (.map es2 c2) ∧ MOk (BytesO w) es2 c2 (last (D.all.take j))) ∧ w.ownsRow 0 129 2 pv ps.length (pcells ps) ∧ ∀ p ∈ ps, BytesO w p.2.1 p.2.2

def Dk.act2 (D : Dk) : Dk := { D.burnt with a2 := wrap64 (D.a2 + 1) }
def Dk.synced (D : Dk) : Dk := { D.burnt with a2 := wrap64 (D.a2 + 1), lasts := D.all.length }

/-- one write more lasts -/
theorem SyncI.step {w0 wr : World} {b : Nat} {D : Dk} {F : List Nat} {bn bl : Nat} {pv : Value} {ps : List (Int × Value × Bytes)} {j k : Nat} {p : Int × Value × Bytes} {es2 : Array MapEntry} {c2 : Nat}
    (hF : F = b :: bn :: bl :: pv.ownBlock.toList) (h9 : bn ≠ bl) (g8 : ps.map (fun p => (p.1, p.2.2)) = D.all.drop j) (hp : ps[k]? = some p)
    (hU : Upd F w0 wr) (q1 : wr.heap[b]? = some (.cells (dcells D bn bl pv) 125 (0, 0))) (q2 : ∃ es1 c1, wr.heap[bn]? = some (.map es1 c1) ∧ MOk (BytesO wr) es1 c1 (last D.all))
    (q4 : wr.heap[bl]? = some (.map es2 c2)) (q5 : MOk (BytesO wr) es2 c2 (last (D.all.take (j + k)))) (q6 : wr.ownsRow 0 129 2 pv ps.length (pcells ps)) (q7 : ∀ p ∈ ps, BytesO wr p.2.1 p.2.2) (o : Obj) (hb0 : b ∈ F → ∀ (c : Array Value) (fz : Nat × Nat), w0.heap[bl]? ≠ some (.cells c 5 fz)) :
    ∃ es' c', (Instr.mapUpdate 116 (.map (some bl)) (.int .i64 p.1) p.2.1).run Try.prog (wr.alloc o).drew = .ok () (setBlock (wr.alloc o).drew bl (.map es' c')) ∧
      SyncI w0 b D F bn bl pv ps (j + (k + 1)) (setBlock (wr.alloc o).drew bl (.map es' c')) := by
  have hlt := lt_of_heap q4
  have hbA : (wr.alloc o).drew.heap[bl]? = some (.map es2 c2) := by rw [← q4]; exact heap_alloc_lt wr o hlt
  have huA : Upd [] wr (wr.alloc o).drew := ((Upd.refl [] wr).alloc o).drew
  obtain ⟨es', c', hrun, hok⟩ := run_store (P := Try.prog) Try.underlying116 Try.underlying3 hbA (q5.mono fun v l hv => hv.upd huA) p.1 ((q7 p (List.mem_of_getElem? hp)).upd huA)
  refine ⟨es', c', hrun, ?_⟩
  have hbl : bl ∈ F := by rw [hF]; simp
  have hbF : b ∈ F := by rw [hF]; simp
  have hu1 : Upd F w0 (setBlock (wr.alloc o).drew bl (.map es' c')) := ((hU.alloc o).drew).setBlock _ (.inl hbl) (.inr (hb0 hbF))
  have hu2 : Upd [bl] wr (setBlock (wr.alloc o).drew bl (.map es' c')) := (((Upd.refl [bl] wr).alloc o).drew).setBlock _ (.inl (by simp)) (.inr (by intro c fz; rw [q4]; simp))
  have hne : b ≠ bl := by rintro rfl; rw [q1] at q4; cases q4
  refine ⟨hu1, hu2.kept q1 (by simpa using hne), ?_, ⟨es', c', ?_, ?_⟩, ?_, fun p hp => (q7 p hp).upd hu2⟩
  · obtain ⟨es1, c1, h1, h2⟩ := q2
    exact ⟨es1, c1, hu2.kept h1 (by simpa using h9), h2.mono fun v l hv => hv.upd hu2⟩
  · exact heap_setBlock_eq _ _ _ (by show bl < (wr.alloc o).heap.size; rw [size_alloc]; omega)
  · have hd : D.all[j + k]? = some (p.1, p.2.2) := by
      have : (ps.map (fun p => (p.1, p.2.2)))[k]? = some (p.1, p.2.2) := by simp [hp]
      rw [g8, List.getElem?_drop] at this
      exact this
    have e1 : D.all.take (j + (k + 1)) = D.all.take (j + k) ++ [(p.1, p.2.2)] := by
      rw [← Nat.add_assoc, List.take_add_one, hd]; rfl
    rw [e1, last_snoc]
    exact hok.mono fun v l hv => hv.upd (((Upd.refl [bl] (wr.alloc o).drew)).setBlock _ (.inl (by simp)) (.inr (by intro c fz; rw [hbA]; simp)))
  · refine ownsRow_upd q6 hu2 fun k hk => ?_
    simp only [List.mem_singleton]
    rintro rfl
    rcases q6.2 with ⟨rfl, _⟩ | ⟨g, cap, cur, rfl, _, hgg, _⟩
    · cases hk
    · cases hk; rw [q4] at hgg; simp at hgg

/-- the end of a Sync -/
theorem SyncI.fin {w0 wr : World} {b : Nat} {D D' : Dk} {F : List Nat} {bn bl : Nat} {pv : Value} {ps : List (Int × Value × Bytes)}
    (hF : F = b :: bn :: bl :: pv.ownBlock.toList) (h9 : bn ≠ bl) (hw : D'.Wf) (ha : D'.all = D.all) (hl : D'.lasts = D.all.length) (hc : ∀ bn bl pv, dcells D' bn bl pv = dcells D bn bl pv)
    (hnb : ∀ (c : Array Value) (fz : Nat × Nat), w0.heap[b]? ≠ some (.cells c 5 fz)) (h : SyncI w0 b D F bn bl pv ps D.all.length wr) : TurnsTo w0 b D' F (wr.setCell ⟨b, 3, none⟩ (.slice none 0 0)) := by
  obtain ⟨hU, q1, ⟨es1, c1, q2, q3⟩, ⟨es2, c2, q4, q5⟩, q6, q7⟩ := h
  have hu : Upd [b] wr (wr.setCell ⟨b, 3, none⟩ (.slice none 0 0)) := (Upd.refl [b] wr).setCell _ (.inl (by simp)) (.inr (by intro c fz; rw [q1]; simp))
  have hbn : bn ≠ b := by rintro rfl; rw [q1] at q2; cases q2
  have hbl : bl ≠ b := by rintro rfl; rw [q1] at q4; cases q4
  refine ⟨[b, bn, bl], ⟨hw, bn, bl, .slice none 0 0, es1, c1, es2, c2, [], ?_, hu.kept q2 (by simpa using hbn), ?_, hu.kept q4 (by simpa using hbl), ?_, World.ownsRow_nil _ _ _ _, by simp, ?_, h9, rfl⟩, ?_, ?_⟩
  · rw [heap_setCell_eq _ _ _ _ q1]
    have e1 : (dcells D bn bl pv).setIfInBounds 3 (.slice none 0 0) = dcells D bn bl (.slice none 0 0) := rfl
    rw [e1, hc]
  · rw [ha]; exact q3.mono fun v l hv => hv.upd hu
  · rw [ha, hl, List.take_length]
    rw [List.take_length] at q5
    exact q5.mono fun v l hv => hv.upd hu
  · rw [ha, hl]; simp
  · exact hU.setCell _ (.inl (by rw [hF]; simp)) (.inr hnb)
  · intro k hk; rw [hF]; simp only [List.mem_cons, List.not_mem_nil, or_false] at hk; rcases hk with rfl | rfl | rfl <;> simp

theorem pcells_at (ps : List (Int × Value × Bytes)) : ∀ (k : Nat) (p : Int × Value × Bytes), ps[k]? = some p → (pcells ps)[k * 2]? = some (.int .i64 p.1) ∧ (pcells ps)[k * 2 + 1]? = some p.2.1 := by
  induction ps with
  | nil => intro k p h; simp at h
  | cons q ps ih =>
    intro k p h
    cases k with
    | zero => simp at h; subst h; simp [pcells]
    | succ k =>
      simp at h
      have := ih k p h
      have e : pcells (q :: ps) = .int .i64 q.1 :: q.2.1 :: pcells ps := rfl
      rw [e]
      have e1 : (k + 1) * 2 = k * 2 + 1 + 1 := by omega
      rw [e1]
      simpa using this

set_option maxRecDepth 100000 in
set_option maxHeartbeats 1000000 in
theorem sync_ok {b : Nat} {w : World} {D : Dk} {F : List Nat} (h : DiskAt w b D F) (hd : D.down = false) (hf : D.burns = true) (hlen : D.all.length < Big) :
    Calls Try.prog 24 #[.pointer (some ⟨b, 0, none⟩)] w (Returns (.int .i64 0) (TurnsTo w b D.synced F)) := by
  have hnot : ∀ (x : Bool) (w : World), (Op.unary .not (.bool x)).run Try.prog w = .ok (.bool (!x)) w := fun _ _ => rfl
  have hbwf := Dk.burnt_wf h.1
  have HL := Lib.hid hlen
  have HLA := Lib.hid h.1.la
  clear hlen
  go_enter Try.func24, Try.ntmps24
  go_wp2_with (go_at_call 30; refine (down_any h).mono ?_; rintro e w' ⟨rfl, rfl⟩)
  refine (burn_any h).mono ?_
  rintro e w1 ⟨rfl, F1, hD1, hU1, hF1⟩
  clear hd
  go_wp2_with (fail)
  obtain ⟨-, -, -, -, -, -, -, -, -, -, -, -, hc8⟩ := hD1.fields
  refine (add_any b 8 _ 1 hc8 (hD1.free 8)).mono ?_
  rintro e w2 ⟨rfl, hw2⟩
  have hT2 : DiskAt w2 b D.act2 F1 ∧ Upd F1 w1 w2 := by
    rw [← hw2]
    refine hD1.field 8 _ ⟨hbwf.s0, hbwf.s1, hbwf.f0, hbwf.f1, hbwf.la, hbwf.wr⟩ rfl rfl fun _ _ _ => ?_
    simp [dcells, Dk.act2, D.burnt_a2]
  clear hc8 hw2
  obtain ⟨hD2, hU2⟩ := hT2
  have hU12 : Upd F w w2 := hU1.trans hU2 hF1
  clear hD1 hU1 hU2
  have hDn := hD2
  obtain ⟨hwf2, bn, bl, pv, es1, c1, es2, c2, ps, g1, g2, g3, g4, g5, g6, g7, g8, g9, hF⟩ := hD2
  have hl : ps.length = D.all.length - D.lasts := by
    have := congrArg List.length g8
    simpa [Dk.act2, D.burnt_all, D.burnt_lasts] using this
  obtain ⟨pa, pc, hpv, hpc, _⟩ := ownsRow_shape g6
  have hI : SyncI w2 b D.act2 F1 bn bl pv ps D.act2.lasts w2 := ⟨Upd.refl _ _, g1, ⟨es1, c1, g2, g3⟩, ⟨es2, c2, g4, g5⟩, g6, g7⟩
  have hc3 : w2.cell? ⟨b, 3, none⟩ = some (.slice pa ps.length pc) := by rw [← hpv]; exact cell_of_heap g1 rfl
  clear g1 g2 g3 g4 g5 g6 g7
  have HV := Lib.hid hpv
  have HPL := Lib.hid hl
  have H8 := Lib.hid g8
  have hnb : b ∈ F1 → ∀ (c : Array Value) (fz : Nat × Nat), w2.heap[bl]? ≠ some (.cells c 5 fz) := fun _ => hDn.nobyte bl (by rw [hF]; simp)
  have hnb2 : ∀ (c : Array Value) (fz : Nat × Nat), w2.heap[b]? ≠ some (.cells c 5 fz) := hDn.nobyte b hDn.self
  have HNB2 := Lib.hid hnb2
  have HNB := Lib.hid hnb
  have HF := Lib.hid hF
  clear hpv hl g8 hF hnb hnb2
  go_wp2_with (fail)
  go_loopw [22] (fun i wr => ∃ k : Nat, k ≤ ps.length ∧ i = .int .i64 k ∧ SyncI w2 b D.act2 F1 bn bl pv ps (D.act2.lasts + k) wr) (fun i _ => ps.length - (intOf i).toNat)
  case atStart => exact ⟨0, Nat.zero_le _, rfl, hI⟩
  case round =>
    obtain ⟨k, hk, rfl, hI⟩ := hrel
    have hbig : ps.length ≤ 9223372036854775807 := by have := HPL.out; have := HL.out; unfold Big at this; omega
    by_cases hlt : k < ps.length
    · obtain ⟨hU, q1, q2, ⟨es2, c2, q4, q5⟩, q6, q7⟩ := hI
      obtain ⟨p, hp⟩ : ∃ p, ps[k]? = some p := ⟨ps[k], List.getElem?_eq_getElem hlt⟩
      obtain ⟨hp1, hp2⟩ := pcells_at ps k p hp
      have hpB := q7 p (List.mem_of_getElem? hp)
      obtain ⟨a3, cap3, hv3, _, _⟩ := hpB.view.shape
      have hpv : ∃ g, pv = .slice (some ⟨g, 0, none⟩) ps.length pc := by
        rcases q6.2 with ⟨rfl, h0⟩ | ⟨g, cap, cur, he, _⟩
        · omega
        · rw [HV.out] at he; cases he; exact ⟨g, HV.out⟩
      obtain ⟨g, hg⟩ := hpv
      have hcell1 : wr.cell? ⟨g, k * 2, none⟩ = some (.int .i64 p.1) := by
        have := q6.cells (g := g) (by rw [hg]; rfl) _ _ hp1; rwa [Addr.add_lit, Nat.zero_add] at this
      have hcell2 : wr.cell? ⟨g, k * 2 + 1, none⟩ = some (.slice a3 p.2.2.length cap3) := by
        have := q6.cells (g := g) (by rw [hg]; rfl) _ _ hp2; rw [hv3] at this; rwa [Addr.add_lit, Nat.zero_add] at this
      have hcb : wr.cell? ⟨b, 2, none⟩ = some (.map (some bl)) := cell_of_heap q1 rfl
      have hltb : b < wr.heap.size := lt_of_heap q1
      obtain ⟨es', c', hrun, hI'⟩ := SyncI.step (o := .cells #[.int .i64 p.1, p.2.1] 129) HF.out g9 H8.out hp hU q1 q2 q4 q5 q6 q7 HNB.out
      rw [hv3] at hrun hI'
      generalize hw4 : setBlock (wr.alloc (.cells #[.int .i64 p.1, .slice a3 p.2.2.length cap3] 129)).drew bl (.map es' c') = w4 at hrun hI'
      have hpa : pa = some ⟨g, 0, none⟩ := by have := HV.out; rw [hg] at this; cases this; rfl
      subst hpa
      have HI := Lib.hid hI'
      clear hg hI' hw4 q1 q2 q4 q5 q6 q7 hp1 hp2 hpB hv3 hp hU
      go_wp2_with (fail)
      go_region
      go_wp2_with (fail)
      go_roundw
      case rel => exact ⟨k + 1, by omega, by go_num, HI.out⟩
      case measure => simp [intOf]; omega
    · obtain rfl : k = ps.length := by omega
      have hal : D.act2.all = D.all := D.burnt_all
      have hla : D.act2.lasts = D.lasts := D.burnt_lasts
      have hj : D.act2.lasts + ps.length = D.act2.all.length := by
        have := HPL.out; have := HLA.out; rw [hal, hla]; omega
      rw [hj] at hI
      have hwf : D.synced.Wf := ⟨hbwf.s0, hbwf.s1, hbwf.f0, hbwf.f1, by simp [Dk.synced, D.burnt_all], hbwf.wr⟩
      have hend : TurnsTo w b D.synced F (wr.setCell ⟨b, 3, none⟩ (.slice none 0 0)) :=
        .trans hU12 hF1 (hI.fin HF.out g9 hwf rfl (by show D.all.length = D.burnt.all.length; rw [D.burnt_all]) (fun _ _ _ => rfl) (HNB2.out))
      have hcw : wr.cell? ⟨b, 3, none⟩ = some pv := cell_of_heap hI.2.1 rfl
      have hzw : wr.frozen? ⟨b, 3, none⟩ = false := free_of_heap hI.2.1
      have HE := Lib.hid hend
      clear hend hal hla hj hI hwf hc3
      go_wp2_with (fail)
      go_ret
      exact ⟨rfl, HE.out⟩

def Dk.syncE (D : Dk) : Int := if D.down then 7 else if D.burns then 0 else 7
def Dk.sync (D : Dk) : Dk := if D.down then D else if D.burns then D.synced else D.burnt

theorem sync_any {b : Nat} {w : World} {D : Dk} {F : List Nat} (h : DiskAt w b D F) (hlen : D.all.length < Big) :
    Calls Try.prog 24 #[.pointer (some ⟨b, 0, none⟩)] w (Returns (.int .i64 D.syncE) (TurnsTo w b D.sync F)) := by
  cases hd : D.down with
  | true => exact (sync_down h hd).mono fun e w' ⟨he, hw⟩ => ⟨by rw [he]; simp [Dk.syncE, hd], by subst hw; simp only [Dk.sync, hd, if_true]; exact .stay h⟩
  | false =>
    cases hf : D.burns with
    | false => exact (sync_burnt h hd hf).mono fun e w' ⟨he, hw⟩ => ⟨by rw [he]; simp [Dk.syncE, hd, hf], by simp only [Dk.sync, hd, hf, if_false, Bool.false_eq_true]; exact hw⟩
    | true => exact (sync_ok h hd hf hlen).mono fun e w' ⟨he, hw⟩ => ⟨by rw [he]; simp [Dk.syncE, hd, hf], by simp only [Dk.sync, hd, hf, if_false, if_true, Bool.false_eq_true]; exact hw⟩

end Go.Proofs.Ytkpoladbabhdmaa
