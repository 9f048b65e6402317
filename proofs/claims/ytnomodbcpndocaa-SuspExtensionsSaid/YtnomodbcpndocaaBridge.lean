/-
  A region of a loop's body (a range over a function) walked as anywhere: what is shown of its operations by the plain laws holds in a round of the wide fence.
-/
import Derived.Test.YtnomodbcpndocaaKit
import Derived.RangeFuncNested
import Derived.RangeFuncBound
import Derived.RangeFuncCalls
import Derived.RangeFuncLeaves
import Derived.RangeFuncBox
import Derived.OwnWalkIn
import Derived.TacticsInMore
import Derived.Deep.RegionHeld3
import Derived.StillTailTactics
namespace Go.Proofs.Ytnomodbcpndocaa
open Go.RowKit
set_option linter.unusedVariables false

def noDefer (ops : Array Oper) : Bool := ops.all fun o => match o.op with | .defer _ => false | _ => true
theorem noDefer_of {ops : Array Oper} (h : noDefer ops = true) {i : Nat} {o : Oper} (hi : ops[i]? = some o) (c : Call) : o.op ≠ .defer c := by
  unfold noDefer at h
  rw [Array.all_eq_true] at h
  obtain ⟨hlt, he⟩ := Array.getElem?_eq_some_iff.1 hi
  have := h i hlt
  rw [he] at this
  intro e
  rw [e] at this
  cases this
section
variable {P : Program} {Q : Exit → Act → World → Prop} {l n : Nat}
theorem uponIn_of {o : Oper} {a : Act} {next next' : Act → World → Prop} (hn : ∀ a w, next a w → next' a w) : ∀ {r : Result Next}, o.upon P a next Q r → o.uponIn (Fence.wide.inRound l) n P a next' Q r := by
  intro r h
  match r, h with
  | .ok (.value v) w', h => exact hn _ _ h
  | .ok .skip w', h => exact hn _ _ h
  | .ok (.defer d) w', h => exact hn _ _ h
  | .ok (.enter f args) w', h =>
    refine ⟨(fun e => by cases e), CallsIn.inRound l (callsIn_wide.2 (Calls.mono h ?_))⟩
    intro e w2 he
    cases e with
    | returned v => exact hn _ _ he
    | panicked chain => exact he
    | outgrown => exact he
  | .ok (.row row args) w', h =>
    refine ⟨(fun e => by cases e), fun c cs _ => ?_⟩
    obtain ⟨v, w2, r, s⟩ := h c cs
    exact ⟨v, w2, hn _ _ r, stepsIn_wide.2 s⟩
  | .halt (.panic v) w', h => exact h
theorem wpOpsIn_of {ops : Array Oper} (hno : noDefer ops = true) (hQ : ¬ LetsOut Q) (is : List Nat) : ∀ a w, wpOps P ops Q is a w → wpOpsIn (Fence.wide.inRound l) n P ops Q is a w := by
  induction is with
  | nil => exact fun a w h => h
  | cons i rest ih =>
    intro a w h
    unfold wpOps at h
    unfold wpOpsIn
    cases ho : ops[i]? with
    | none =>
      rw [ho] at h
      exact ih a w h
    | some o =>
      rw [ho] at h
      dsimp only at h ⊢
      by_cases hw : Region.wanted o (yielded ops a.tmps) = true
      · rw [if_pos hw] at h ⊢
        rcases h with h | ⟨_, h⟩
        · refine ⟨fun _ _ => trivial, ?_⟩
          rw [Oper.semAt_plain _ _ _ (noDefer_of hno ho)]
          exact uponIn_of ih h
        · exact absurd h hQ
      · rw [if_neg hw] at h ⊢
        exact ⟨fun _ _ => trivial, ih _ _ h⟩
theorem wpIn_any_of {ops : Array Oper} {id : Nat} {a : Act} {w : World} (hm : P.follows .mixedOrders = true) (hno : noDefer ops = true) (hQ : ¬ LetsOut Q) (h : wpAny P .any ops Q ops.size (Array.replicate ops.size false) a w.drew) :
    (Code.region id ops true).wpIn (Fence.wide.inRound l) n P Q a w :=
  wpIn_region_draw fun t => by
    simp only [Region.schedule, hm, Bool.true_or, if_true]
    exact wpOpsIn_of hno hQ _ _ _ (wpAny_sound ops.size t _ a _ h)
/-- The beginning of a walk by hand under a condition on the world. -/
theorem wpIn_held_of {S : World → Prop} {ops : Array Oper} {id : Nat} {a : Act} {w : World} (hm : P.follows .mixedOrders = true) (hno : noDefer ops = true) (hQ : ¬ LetsOut Q) (hS : S w.drew)
    (h : S w.drew → wpAnyH P .any ops Q S ops.size (Array.replicate ops.size false) a w.drew) : (Code.region id ops true).wpIn (Fence.wide.inRound l) n P Q a w :=
  wpIn_any_of hm hno hQ (wpAny_of_held _ _ _ _ (h hS))
/-- Reads and calls that leave the world alone, before what writes. -/
theorem wpIn_still_tail {id : Nat} {a : Act} {w : World} {ol : List Oper} (k : Nat) (hm : P.follows .mixedOrders = true) (hB : Region.lexTailB .any ol.toArray k = true) (hno : noDefer ol.toArray = true) (hQ : ¬ LetsOut Q)
    (h : wpStill P ol.toArray w.drew (fun a' => wpList P ol.toArray Q (ol.drop k) a' w.drew) (ol.take k) a) : (Code.region id ol.toArray true).wpIn (Fence.wide.inRound l) n P Q a w := by
  simp only [Region.lexTailB, Bool.and_eq_true, decide_eq_true_eq] at hB
  obtain ⟨⟨⟨⟨hsel, hn⟩, hs⟩, hc⟩, hlex⟩ := hB
  have hn' : k < ol.length := by simpa using hn
  have htl : (ol.take k).length = k := by simp; omega
  have hdl : (ol.drop k).length = ol.toArray.size - k := by simp
  have inv0 : HeadInv .any ol.toArray k (Array.replicate ol.toArray.size false) :=
    ⟨by simp, fun j oj _ hl => (by rw [getD_replicate_false] at hl; cases hl), fun t _ ht => getD_in (by simpa using ht) (getD_replicate_false _ _)⟩
  have H := wpAnyL_lex (md := .any) (g := ol.toArray.size - k) hsel hs hc hn (ol.take k) 0 _ a (fun j hj => by
    have hj' : j < k := by rw [htl] at hj; exact hj
    simp [hj']) (by simpa using htl) inv0 (by rw [htl]; exact hlex) h
  refine wpIn_any_of hm hno hQ ?_
  have := wpAny_of_head (Q' := Q) (g := ol.toArray.size - k) (fun listed a' hL => by
    have := wpAny_of_seq (md := .any) (Q' := Q) (ol.drop k) k listed a' w.drew (fun j => by simp [List.getElem?_drop]) (by rw [hdl]; exact hL.1) hL.2
    rwa [hdl] at this) _ _ _ H
  rw [htl, show k + (ol.toArray.size - k) = ol.toArray.size by omega] at this
  exact this
/-! ### The condition on the world need not hold behind the last operation, which waits for all that is taken first -/
def wpAnyZ (P : Program) (md : Region.Mode) (ops : Array Oper) (Q : Exit → Act → World → Prop) (S : World → Prop) (z : Nat) : Nat → Array Bool → Act → World → Prop
  | 0, listed, a, w => Region.ready md ops listed = [] ∧ Q .normal a w
  | fuel + 1, listed, a, w =>
    (Region.ready md ops listed = [] → Q .normal a w) ∧
    ∀ i ∈ Region.ready md ops listed, wpOp P ops Q i (fun a' w' => (i ≠ z → S w') ∧ wpAnyZ P md ops Q S z fuel (listed.setIfInBounds i true) a' w') a w
theorem wpAny_of_Z {md : Region.Mode} {ops : Array Oper} {S : World → Prop} {z : Nat} : ∀ (fuel : Nat) (listed : Array Bool) (a : Act) (w : World), wpAnyZ P md ops Q S z fuel listed a w → wpAny P md ops Q fuel listed a w
  | 0, _, _, _, h => h
  | fuel + 1, _, _, _, h => ⟨h.1, fun i hi => wpOp_mono (fun a' w' h' => wpAny_of_Z fuel _ a' w' h'.2) (h.2 i hi)⟩
theorem wpAnyZ_first {md : Region.Mode} {ops : Array Oper} {S : World → Prop} {z i : Nat} {oi : Oper} {v : Value} (hi : ops[i]? = some oi) (hsel : ∀ (j : Nat) (o : Oper) cs b, ops[j]? = some o → o.op ≠ .select cs b)
    (hz : Region.waitsFor md ops z i = true) (hQ : ∀ c a w, Q (.panic c) (a.put oi.dst v) w → Q (.panic c) a w) :
    ∀ (fuel : Nat) (listed : Array Bool) (a : Act) (w : World),
      (∀ j oj, ops[j]? = some oj → j ≠ i → listed.getD j true = false → (∀ e ∈ oj.after, Region.binds md e = true → e.on ≠ i) → oi.apart ops oj = true) →
      i ∈ Region.ready md ops listed → YieldsIf P ops S oi v a → S w →
      wpAnyZ P md ops Q S z fuel (listed.setIfInBounds i true) (a.put oi.dst v) w → wpAnyZ P md ops Q S z (fuel + 1) listed a w := by
  intro fuel
  induction fuel with
  | zero =>
    intro listed a w _ hr hy hS H
    refine ⟨fun h => (by rw [h] at hr; cases hr), fun j hj => ?_⟩
    by_cases hji : j = i
    · subst hji; exact hy.wpOp hi hS ⟨fun _ => hS, H⟩
    · have := ready_mono hj hji
      rw [H.1] at this
      cases this
  | succ fuel ih =>
    intro listed a w hfree hr hy hS H
    refine ⟨fun h => (by rw [h] at hr; cases hr), fun j hj => ?_⟩
    by_cases hji : j = i
    · subst hji; exact hy.wpOp hi hS ⟨fun _ => hS, H⟩
    · have h1 := H.2 j (ready_mono hj hji)
      obtain ⟨hjun, oj, hoj, hall⟩ := mem_ready.1 hj
      have hnot : ∀ e ∈ oj.after, Region.binds md e = true → e.on ≠ i := fun e he hb heq => by
        have h1 := hall e he hb
        have h0 := (mem_ready.1 hr).1
        rw [heq] at h1
        rcases Nat.lt_or_ge i listed.size with h' | h'
        · simp [h'] at h0 h1; rw [h0] at h1; cases h1
        · simp [Array.getElem?_eq_none h'] at h1
      have hjz : j ≠ z := by
        intro e
        subst e
        obtain ⟨oz, hoz, e, he, hb, hon⟩ := Region.waitsFor_spec hz
        have : oz = oj := Option.some.inj (hoz.symm.trans hoj)
        subst this
        exact hnot e he hb hon
      have h2 := wpOp_putIf hoj (hfree j oj hoj hji hjun hnot) (fun cs b => hsel i oi cs b hi) (fun cs b => hsel j oj cs b hoj) hQ hy h1
      have hfree' : ∀ k ok, ops[k]? = some ok → k ≠ i → (listed.setIfInBounds j true).getD k true = false →
          (∀ e ∈ ok.after, Region.binds md e = true → e.on ≠ i) → oi.apart ops ok = true := fun k ok hk hki hun hno => by
        refine hfree k ok hk hki ?_ hno
        by_cases hjk : j = k
        · subst hjk; exact hjun
        · rw [getD_set_ne true hjk] at hun; exact hun
      refine wpOp_mono (fun a' w' h3 => ⟨fun _ => h3.2.1 hjz, ih (listed.setIfInBounds j true) a' w' hfree' (ready_mono hr (Ne.symm hji)) h3.1 (h3.2.1 hjz) ?_⟩) h2
      rw [Array.setIfInBounds_comm _ _ hji]
      exact h3.2.2
theorem wpAnyZ_take {md : Region.Mode} {ops : Array Oper} {S : World → Prop} {z i : Nat} {oi : Oper} {v : Value} {fuel : Nat} {listed : Array Bool} {a : Act} {w : World} (hi : ops[i]? = some oi)
    (hs : Region.noSelect ops = true) (hf : Region.free md ops listed i = true) (hr : (Region.ready md ops listed).contains i = true) (hz : Region.waitsFor md ops z i = true)
    (hQ : ∀ c a w, Q (.panic c) (a.put oi.dst v) w → Q (.panic c) a w) (hy : YieldsIf P ops S oi v a) (hS : S w)
    (h : wpAnyZ P md ops Q S z fuel (listed.setIfInBounds i true) (a.put oi.dst v) w) : wpAnyZ P md ops Q S z (fuel + 1) listed a w :=
  wpAnyZ_first hi (Region.noSelect_spec hs) hz hQ fuel listed a w (Region.free_spec hi hf) (by simpa using hr) hy hS h
/-- The one operation that is ready; what follows it is kept shut while it runs. -/
theorem wpAnyZ_one {md : Region.Mode} {ops : Array Oper} {S : World → Prop} {z i : Nat} {o : Oper} {fuel : Nat} {listed : Array Bool} {a : Act} {w : World} (hr : Region.ready md ops listed = [i]) (ho : ops[i]? = some o) (hiz : (i == z) = false)
    (h : ∀ K' : Act → World → Prop, Shut (∀ a w, S w → (S w → wpAnyZ P md ops Q S z fuel (listed.setIfInBounds i true) a w) → K' a w) → if Region.wanted o (yielded ops a.tmps) = true then Oper.wp P o a w K' Q else K' (a.put o.dst undef) w) : wpAnyZ P md ops Q S z (fuel + 1) listed a w :=
  ⟨fun h0 => (by rw [hr] at h0; cases h0), fun j hj => by
    rw [hr] at hj
    obtain rfl : j = i := by simpa using hj
    exact wpOp_step ho (fun K' hK => h K' (fun a w hS hW => hK a w ⟨fun _ => hS, hW hS⟩))⟩
theorem wpAnyZ_last {md : Region.Mode} {ops : Array Oper} {S : World → Prop} {i : Nat} {o : Oper} {fuel : Nat} {listed : Array Bool} {a : Act} {w : World} (hr : Region.ready md ops listed = [i]) (ho : ops[i]? = some o)
    (h : ∀ K' : Act → World → Prop, Shut (∀ a w, wpAnyZ P md ops Q S i fuel (listed.setIfInBounds i true) a w → K' a w) → if Region.wanted o (yielded ops a.tmps) = true then Oper.wp P o a w K' Q else K' (a.put o.dst undef) w) : wpAnyZ P md ops Q S i (fuel + 1) listed a w :=
  ⟨fun h0 => (by rw [hr] at h0; cases h0), fun j hj => by
    rw [hr] at hj
    obtain rfl : j = i := by simpa using hj
    exact wpOp_step ho (fun K' hK => h K' (fun a w hW => hK a w ⟨fun e => absurd rfl e, hW⟩))⟩
theorem wpAnyZ_done {md : Region.Mode} {ops : Array Oper} {S : World → Prop} {z : Nat} {listed : Array Bool} {a : Act} {w : World} (hr : Region.ready md ops listed = []) (h : Q .normal a w) :
    ∀ fuel, wpAnyZ P md ops Q S z fuel listed a w
  | 0 => ⟨hr, h⟩
  | _ + 1 => ⟨fun _ => h, by rw [hr]; simp⟩
theorem wpIn_Z_of {S : World → Prop} {ops : Array Oper} {id : Nat} {a : Act} {w : World} (z : Nat) (hm : P.follows .mixedOrders = true) (hno : noDefer ops = true) (hQ : ¬ LetsOut Q) (hS : S w.drew)
    (h : S w.drew → wpAnyZ P .any ops Q S z ops.size (Array.replicate ops.size false) a w.drew) : (Code.region id ops true).wpIn (Fence.wide.inRound l) n P Q a w :=
  wpIn_any_of hm hno hQ (wpAny_of_Z _ _ _ _ (h hS))
theorem wpIn_list_of {ol : List Oper} {id : Nat} {a : Act} {w : World} (hno : noDefer ol.toArray = true) (hQ : ¬ LetsOut Q) (h : wpList P ol.toArray Q ol a w) : (Code.region id ol.toArray false).wpIn (Fence.wide.inRound l) n P Q a w := by
  refine wpIn_region (wpOpsIn_of hno hQ _ _ _ ?_)
  have := wpOps_eq_wpList (P := P) (Q := Q) (ops := ol.toArray) ol 0 (by intro j; simp)
  rw [List.range_eq_range']
  rw [show ol.toArray.size = ol.length by simp, this]
  exact h
end
end Go.Proofs.Ytnomodbcpndocaa
