/- The last step of every statement of this seat: a law that answers true and leaves what was there as it was. Conditions: as each says. -/
import Derived.Test.YtkpoladbabhdmaaRows
import Derived.WalkKit
import Derived.ProofKit
import Derived.OpenShut
namespace Go.Proofs.Ytkpoladbabhdmaa
open Go.ChangeShapes Go.WideShapes Go.ChangeAt Go.RowKit

theorem own : ownKnob Try.prog.godebug = none := by kernel_rfl
theorem laid : laidOutB Try.prog = true := by kernel_rfl

section
variable {H : Type} {enc : TypeId × Value → H}

/-- the arguments read as they did -/
theorem args_stay {W W' : World} {sp : Nat → Bool} (hb : Below W.heap.size W W') :
    ∀ (ts : List TypeId) (vs : List Value) (ds : List (DataW H)) (p : List MemPlace), (∀ t ∈ ts, Try.prog.readableRec t = true ∧ t < Try.prog.types.size) →
      DataW.TrodAll enc Try.prog W 0 (fun _ => true) true ts vs ds p → (∀ x ∈ p, x.block < W.heap.size) → (∀ x ∈ p, sp x.block = true) → DataW.TrodAll enc Try.prog W' 0 sp true ts vs ds p
  | [], vs, ds, p, _, h, _, _ => by
    obtain ⟨rfl, rfl, rfl⟩ := trodAll_nil h
    exact trodAll_mk0
  | t :: ts, vs, ds, p, ht, h, hlt, hsp => by
    obtain ⟨v, vs', d, ds', p0, q, rfl, rfl, rfl, h0, h1⟩ := trodAll_cons h
    have hp := ht t (by simp)
    exact trodAll_cons_mk (WideElems.Trod_stays laid hp.1 hp.2 h0 (fun x hx => hb.same (hlt x (by simp [hx]))) (fun x hx => hsp x (by simp [hx])))
      (args_stay hb ts vs' ds' q (fun t h => ht t (by simp [h])) h1 (fun x hx => hlt x (by simp [hx])) (fun x hx => hsp x (by simp [hx])))

set_option maxRecDepth 100000 in
theorem law_post {f : Func} {s : ChangeSpec} {apart fresh handsOn again : Bool} {W W' : World} {args : Array Value} {ds : List (DataW H)} {before p q : List MemPlace} (hres : f.resultTypes = #[4]) (hvars : s.vars = [])
    (hts : ∀ t ∈ f.params.toList, Try.prog.readableRec t = true ∧ t < Try.prog.types.size) (hsp : s.fn H (ds ++ []) = { results := [.lit (.bool true)], args := ds })
    (hA : DataW.TrodAll enc Try.prog W 0 (fun _ => true) true f.params.toList args.toList ds p) (hV : DataW.TrodVars enc Try.prog W (fun _ => true) s.vars [] q) (hbe : before = p ++ q) (hfz : W.noneFrozen before) (hnd : apart = true → before.Nodup)
    (hb : Below W.heap.size W W') : s.post enc Try.prog f apart fresh handsOn again W args (.bool true) W' := by
  have hW : DataW.Whole enc Try.prog f.params.toList s.vars apart W args.toList ds [] before := ⟨p, q, hA, hV, hbe, hfz, hnd⟩
  have hq : q = [] := by rw [hvars] at hV; exact (trodVars_none hV).2
  subst hq
  rw [List.append_nil] at hbe
  subst hbe
  have hlt : ∀ x ∈ before, x.block < W.heap.size := fun x hx => hW.lt x hx
  have hr : ∀ (b : Nat) (sp : Nat → Bool) (hd : Bool), DataW.TrodAll enc Try.prog W' b sp hd f.resultTypes.toList ((Value.bool true).resultList f.resultTypes.size) (s.fn H (ds ++ [])).results [] := by
    intro b sp hd
    rw [hsp, hres]
    exact trodAll_mk1 (shut_bool Try.underlying4 true)
  have ha : ∀ sp : Nat → Bool, (∀ x ∈ before, sp x.block = true) → DataW.TrodAll enc Try.prog W' 0 sp true f.params.toList args.toList (s.fn H (ds ++ [])).args before := by
    intro sp h
    rw [hsp]
    exact args_stay hb _ _ _ _ hts hA hlt h
  have hv : ∀ sp : Nat → Bool, DataW.TrodVars enc Try.prog W' sp s.vars (s.fn H (ds ++ [])).vars [] := by
    intro sp
    rw [hsp, hvars]
    rfl
  refine ⟨ds, [], before, [], before, [], hW, hr _ _ _, ha _ (fun x hx => by simpa using hlt x hx), hv _, World.keptBut_mono (fun x hx => ⟨hx, .inr (.inl hx)⟩) (hb.frame (· ∈ before)), fun _ => ⟨?_, [.lit (.bool true)] ++ ds, [], before, ?_, fun x hx _ => hx⟩⟩
  · exact ok_one hres rfl (okWide_bool_mk Try.underlying4 true)
  · refine ⟨before, [], ?_, hvars ▸ rfl, by simp, ?_, hnd⟩
    · have h1 := trodAll_append (ha (fun _ => true) (fun _ _ => rfl)) (hr 0 (fun _ => true) true)
      rw [hsp] at h1
      exact h1
    · intro b off hp
      rw [hb.frozen (hlt _ hp)]
      exact hfz b off hp

end
end Go.Proofs.Ytkpoladbabhdmaa
