/- The contract of the disk's Write. Conditions: as each says. -/
import Derived.Test.YtkpoladbabhdmaaDisk2
import Derived.Test.YtkpoladbabhdmaaAppend
namespace Go.Proofs.Ytkpoladbabhdmaa
open Go.RowKit
open Go.ChangeMaps (setBlock)

def Dk.wrote (D : Dk) (n : Int) (l : Bytes) : Dk := { D.burnt with all := D.all ++ [(n, l)], a1 := wrap64 (D.a1 + 1) }
def Dk.okArg (D : Dk) (n : Int) (l : Bytes) : Bool := decide (0 ≤ n ∧ n < D.size ∧ l.length = 256)
def Dk.writeE (D : Dk) (n : Int) (l : Bytes) : Int := if D.down then 7 else if D.okArg n l then (if D.burns then 0 else 7) else 1
def Dk.write (D : Dk) (n : Int) (l : Bytes) : Dk := if D.down then D else if D.okArg n l then (if D.burns then D.wrote n l else D.burnt) else D

theorem Dk.burnt_all (D : Dk) : D.burnt.all = D.all := by unfold Dk.burnt; split; rfl; split <;> rfl
theorem Dk.burnt_lasts (D : Dk) : D.burnt.lasts = D.lasts := by unfold Dk.burnt; split; rfl; split <;> rfl
theorem Dk.burnt_size (D : Dk) : D.burnt.size = D.size := by unfold Dk.burnt; split; rfl; split <;> rfl
theorem Dk.burnt_a0 (D : Dk) : D.burnt.a0 = D.a0 := by unfold Dk.burnt; split; rfl; split <;> rfl
theorem Dk.burnt_a1 (D : Dk) : D.burnt.a1 = D.a1 := by unfold Dk.burnt; split; rfl; split <;> rfl
theorem Dk.burnt_a2 (D : Dk) : D.burnt.a2 = D.a2 := by unfold Dk.burnt; split; rfl; split <;> rfl

theorem write_nil (n : Int) (v : Value) (w : World) : Calls Try.prog 22 #[.pointer none, .int .i64 n, v] w fun e w' => e = .returned (.int .i64 7) ∧ w = w' := by
  go_enter Try.func22, Try.ntmps22
  go_wp2_with (go_at_call 30; refine (down_nil _).mono ?_; rintro e w' ⟨rfl, rfl⟩)
  go_ret
  exact ⟨rfl, rfl⟩

set_option maxHeartbeats 400000 in
theorem write_down {b : Nat} {w : World} {D : Dk} {F : List Nat} (h : DiskAt w b D F) (hd : D.down = true) (n : Int) (v : Value) :
    Calls Try.prog 22 #[.pointer (some ⟨b, 0, none⟩), .int .i64 n, v] w fun e w' => e = .returned (.int .i64 7) ∧ w = w' := by
  go_enter Try.func22, Try.ntmps22
  go_wp2_with (go_at_call 30; refine (down_any h).mono ?_; rintro e w' ⟨rfl, rfl⟩)
  go_ret
  exact ⟨rfl, rfl⟩

set_option maxHeartbeats 400000 in
theorem write_bad {b : Nat} {w : World} {D : Dk} {F : List Nat} (h : DiskAt w b D F) (hd : D.down = false) {n : Int} {v : Value} {l : Bytes} (hv : BytesV w v l) (hb : D.okArg n l = false) :
    Calls Try.prog 22 #[.pointer (some ⟨b, 0, none⟩), .int .i64 n, v] w fun e w' => e = .returned (.int .i64 1) ∧ w = w' := by
  obtain ⟨a, cap, rfl, _, hm⟩ := hv.shape
  have hb' : ¬ (0 ≤ n ∧ n < D.size ∧ l.length = 256) := by simpa [Dk.okArg] using hb
  clear hb
  obtain ⟨bn, bl, pa, pc, hc, -⟩ := h.fields
  by_cases h0 : n < 0
  · go_enter Try.func22, Try.ntmps22
    go_wp2_with (go_at_call 30; refine (down_any h).mono ?_; rintro e w' ⟨rfl, rfl⟩)
    go_ret
    exact ⟨rfl, rfl⟩
  · by_cases h1 : D.size ≤ n
    · go_enter Try.func22, Try.ntmps22
      go_wp2_with (go_at_call 30; refine (down_any h).mono ?_; rintro e w' ⟨rfl, rfl⟩)
      go_ret
      exact ⟨rfl, rfl⟩
    · have h2 : (((l.length : Nat) : Int) != 256) = true := by
        rw [bne_iff_ne]; intro h2; exact hb' ⟨by omega, by omega, by omega⟩
      have h1' : n < D.size := by omega
      clear hb'
      go_enter Try.func22, Try.ntmps22
      go_wp2_with (go_at_call 30; refine (down_any h).mono ?_; rintro e w' ⟨rfl, rfl⟩)
      go_ret
      exact ⟨rfl, rfl⟩

theorem Dk.okArg_iff {D : Dk} {n : Int} {l : Bytes} (h : D.okArg n l = true) : 0 ≤ n ∧ n < D.size ∧ l.length = 256 := by simpa [Dk.okArg] using h

set_option maxHeartbeats 400000 in
theorem write_burnt {b : Nat} {w : World} {D : Dk} {F : List Nat} (h : DiskAt w b D F) (hd : D.down = false) {n : Int} {v : Value} {l : Bytes} (hv : BytesV w v l) (ho : D.okArg n l = true) (hf : D.burns = false) :
    Calls Try.prog 22 #[.pointer (some ⟨b, 0, none⟩), .int .i64 n, v] w (Returns (.int .i64 7) (TurnsTo w b D.burnt F)) := by
  obtain ⟨a, cap, rfl, _, hm⟩ := hv.shape
  obtain ⟨h0, h1, h2⟩ := Dk.okArg_iff ho
  have h2' : (((l.length : Nat) : Int) != 256) = false := by simp [h2]
  obtain ⟨bn, bl, pa, pc, hc, -⟩ := h.fields
  clear h2 ho
  have hnot : ∀ (x : Bool) (w : World), (Op.unary .not (.bool x)).run Try.prog w = .ok (.bool (!x)) w := fun _ _ => rfl
  go_enter Try.func22, Try.ntmps22
  go_wp2_with (go_at_call 30; refine (down_any h).mono ?_; rintro e w' ⟨rfl, rfl⟩)
  refine (burn_any h).mono ?_
  rintro e w1 ⟨rfl, hT⟩
  have HT := Lib.hid hT
  clear hT
  go_wp2_with (fail)
  go_ret
  exact ⟨rfl, HT.out⟩

theorem Try.info129 : (Try.prog.info? 129).map (fun i => (i.zero, i.size, i.bytes)) = some (some (.agg #[.int .i64 0, .slice none 0 0]), 2, 32) := by kernel_rfl

theorem BytesO.oneCell {w : World} {v : Value} {l : Bytes} (h : BytesO w v l) : v.oneCell' = true := by
  rcases h.2 with ⟨rfl, _⟩ | ⟨g, cap, cur, rfl, _⟩ <;> rfl

/-- the list of writes behind one more append, and the field that holds it -/
theorem DiskAt.wrote_end {w3 w5 : World} {b : Nat} {D2 D' : Dk} {F : List Nat} {n : Int} {l : Bytes} {v3 v' : Value} {bn bl : Nat} {pv : Value} {es1 : Array MapEntry} {c1 : Nat} {es2 : Array MapEntry} {c2 : Nat} {ps : List (Int × Value × Bytes)} {es' : Array MapEntry} {c' : Nat}
    (hw : D'.Wf) (hall : D'.all = D2.all ++ [(n, l)]) (hlasts : D'.lasts = D2.lasts) (hla : D2.lasts ≤ D2.all.length) (hcells : ∀ bn bl pv, dcells D' bn bl pv = dcells D2 bn bl pv) (hb3 : BytesO w3 v3 l)
    (h1 : w3.heap[b]? = some (.cells (dcells D2 bn bl pv) 125 (0, 0))) (h2 : w3.heap[bn]? = some (.map es1 c1)) (h3 : MOk (BytesO w3) es' c' (put (last D2.all) n (some l)))
    (h4 : w3.heap[bl]? = some (.map es2 c2)) (h5 : MOk (BytesO w3) es2 c2 (last (D2.all.take D2.lasts)))
    (h6 : w3.ownsRow 0 129 2 pv ps.length (pcells ps)) (h7 : ∀ p ∈ ps, BytesO w3 p.2.1 p.2.2) (h8 : ps.map (fun p => (p.1, p.2.2)) = D2.all.drop D2.lasts) (h9 : bn ≠ bl) (hF : F = b :: bn :: bl :: pv.ownBlock.toList)
    (ho : w5.ownsRow 0 129 2 v' (ps.length + 1) (pcells ps ++ [.int .i64 n, v3])) (hg : ((setBlock w3 bn (.map es' c')).alloc (.cells #[.int .i64 n, v3] 129)).grownBy w5 pv.ownBlock) (hm : Moved ((setBlock w3 bn (.map es' c')).alloc (.cells #[.int .i64 n, v3] 129)) pv v') :
    TurnsTo w3 b D' F (w5.setCell ⟨b, 3, none⟩ v') := by
  subst hF
  have hbn : bn ≠ b := by rintro rfl; rw [h1] at h2; cases h2
  have hbl : bl ≠ b := by rintro rfl; rw [h1] at h4; cases h4
  have hpv : ∀ k, pv.ownBlock = some k → k < w3.heap.size ∧ k ≠ b ∧ k ≠ bn ∧ k ≠ bl ∧ ∀ (c : Array Value) (fz : Nat × Nat), w3.heap[k]? ≠ some (.cells c 5 fz) := by
    intro k hk
    rcases h6.2 with ⟨rfl, _⟩ | ⟨g, cap, cur, rfl, _, hgg, _⟩
    · cases hk
    · cases hk
      refine ⟨lt_of_heap hgg, ?_, ?_, ?_, fun c fz => by rw [hgg]; simp⟩
      · rintro rfl; rw [h1] at hgg; simp at hgg
      · rintro rfl; rw [h2] at hgg; simp at hgg
      · rintro rfl; rw [h4] at hgg; simp at hgg
  have hu1 : Upd (b :: bn :: bl :: pv.ownBlock.toList) w3 (setBlock w3 bn (.map es' c')) := (Upd.refl _ w3).setBlock _ (.inl (by simp)) (.inr (by intro c fz; rw [h2]; simp))
  have hu2 : Upd (b :: bn :: bl :: pv.ownBlock.toList) w3 w5 := (hu1.alloc _).grown hg (fun k hk => .inl (by simp [hk])) (fun k hk => .inr (hpv k hk).2.2.2.2)
  have hu3 : Upd (b :: bn :: bl :: pv.ownBlock.toList) w3 (w5.setCell ⟨b, 3, none⟩ v') := hu2.setCell _ (.inl (by simp)) (.inr (by intro c fz; rw [h1]; simp))
  have hsz : ((setBlock w3 bn (.map es' c')).alloc (.cells #[.int .i64 n, v3] 129)).heap.size = w3.heap.size + 1 := by rw [size_alloc, size_setBlock]
  have hat : ∀ k, k < w3.heap.size → k ≠ bn → some k ≠ pv.ownBlock → w5.heap[k]? = w3.heap[k]? := by
    intro k hk hkn hkp
    rw [hg.block k (by omega) hkp, heap_alloc_lt _ _ (by rw [size_setBlock]; exact hk), heap_setBlock_ne _ _ _ hkn]
  have hb5 : w5.heap[b]? = some (.cells (dcells D2 bn bl pv) 125 (0, 0)) := by
    rw [hat b (lt_of_heap h1) (Ne.symm hbn) (fun hk => (hpv b hk.symm).2.1 rfl)]; exact h1
  have hbn5 : w5.heap[bn]? = some (.map es' c') := by
    rw [hg.block bn (by have := lt_of_heap h2; omega) (fun hk => (hpv bn hk.symm).2.2.1 rfl), heap_alloc_lt _ _ (by rw [size_setBlock]; exact lt_of_heap h2), heap_setBlock_eq _ _ _ (lt_of_heap h2)]
  have hbl5 : w5.heap[bl]? = some (.map es2 c2) := by
    rw [hat bl (lt_of_heap h4) (Ne.symm h9) (fun hk => (hpv bl hk.symm).2.2.2.1 rfl)]; exact h4
  have hv'b : ∀ k, v'.ownBlock = some k → k ≠ b ∧ (k ∈ b :: bn :: bl :: pv.ownBlock.toList ∨ w3.heap.size ≤ k) := by
    intro k hk
    rcases hm with hm | ⟨g, hm, hgs⟩
    · rw [hm] at hk; exact ⟨(hpv k hk).2.1, .inl (by simp [hk])⟩
    · rw [hm] at hk; cases hk; have := lt_of_heap h1; exact ⟨by omega, .inr (by omega)⟩
  refine ⟨b :: bn :: bl :: v'.ownBlock.toList, ⟨hw, bn, bl, v', es', c', es2, c2, ps ++ [(n, v3, l)], ?_, ?_, ?_, ?_, ?_, ?_, ?_, ?_, h9, rfl⟩, hu3, ?_⟩
  · rw [heap_setCell_eq _ _ _ _ hb5]
    have e1 : (dcells D2 bn bl pv).setIfInBounds 3 v' = dcells D2 bn bl v' := rfl
    rw [e1, hcells]
  · rw [heap_setCell_ne _ _ _ hbn]; exact hbn5
  · rw [hall, last_snoc]; exact h3.mono fun v l hv => hv.upd hu3
  · rw [heap_setCell_ne _ _ _ hbl]; exact hbl5
  · rw [hall, hlasts, List.take_append_of_le_length hla]; exact h5.mono fun v l hv => hv.upd hu3
  · have e2 : pcells (ps ++ [(n, v3, l)]) = pcells ps ++ [.int .i64 n, v3] := by simp [pcells]
    rw [e2, List.length_append]
    exact ownsRow_same ho fun k hk => heap_setCell_ne _ _ _ (hv'b k hk).1
  · intro p hp
    rcases List.mem_append.1 hp with hp | hp
    · exact (h7 p hp).upd hu3
    · simp only [List.mem_singleton] at hp; subst hp; exact hb3.upd hu3
  · rw [hall, hlasts, List.drop_append_of_le_length hla, List.map_append, h8]; rfl
  · intro k hk
    simp only [List.mem_cons, Option.mem_toList] at hk
    rcases hk with rfl | rfl | rfl | hk
    · exact .inl (by simp)
    · exact .inl (by simp)
    · exact .inl (by simp)
    · exact (hv'b k hk).2

theorem TurnsTo.trans {w w1 w2 : World} {b : Nat} {D2 : Dk} {F F1 : List Nat} (h1 : Upd F w w1) (hF : ∀ k ∈ F1, k ∈ F ∨ w.heap.size ≤ k) (h2 : TurnsTo w1 b D2 F1 w2) : TurnsTo w b D2 F w2 := by
  obtain ⟨F2, hd, hu, hf⟩ := h2
  refine ⟨F2, hd, h1.trans hu hF, fun k hk => ?_⟩
  rcases hf k hk with h | h
  · exact hF k h
  · exact .inr (Nat.le_trans h1.size h)

end Go.Proofs.Ytkpoladbabhdmaa
