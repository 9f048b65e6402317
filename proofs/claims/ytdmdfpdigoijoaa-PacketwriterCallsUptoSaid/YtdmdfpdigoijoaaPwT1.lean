/-
  Chapter 52: what a power loss leaves, address by address; a map from addresses to blocks.
-/
import Derived.Test.YtdmdfpdigoijoaaPwOp
import Derived.Maps.StringElems
namespace Go.Proofs.Ytdmdfpdigoijoaa
open Go.RowKit Go.Maps
set_option linter.unusedVariables false

theorem valid_parts {img : Img} {ws : List Wr} (h : validB img ws = true) : img.length ≤ 4096 ∧ ws.length ≤ 1024 ∧ img.all elOk = true ∧ ws.all wrOk = true := by
  unfold validB at h
  simp only [Bool.and_eq_true, decide_eq_true_eq] at h
  exact h
/-- What step k leaves. -/
def tearV (n k : Nat) (s : Stp) : ByteArray := if k < n then s.b else unrS
def lastO (n : Nat) (steps : List Stp) (d : Int) : Nat → Option ByteArray
  | 0 => none
  | k + 1 => match steps[k]? with
    | some s => if s.cl = false ∧ k ≤ n ∧ s.pos = d then some (tearV n k s) else lastO n steps d k
    | none => lastO n steps d k
theorem lastO_succ {n : Nat} {steps : List Stp} {d : Int} {k : Nat} {s : Stp} (h : steps[k]? = some s) : lastO n steps d (k + 1) = if s.cl = false ∧ k ≤ n ∧ s.pos = d then some (tearV n k s) else lastO n steps d k := by
  show (match steps[k]? with | some s => _ | none => _) = _
  rw [h]
theorem lastO_end {n : Nat} {steps : List Stp} {d : Int} : ∀ k, lastO n steps d k = lastO n steps d (min k (n + 1))
  | 0 => by simp
  | k + 1 => by
    by_cases hk : k + 1 ≤ n + 1
    · rw [Nat.min_eq_left hk]
    · have ih := lastO_end (n := n) (steps := steps) (d := d) k
      rw [show min (k + 1) (n + 1) = n + 1 by omega]
      rw [show min k (n + 1) = n + 1 by omega] at ih
      rw [← ih]
      cases hs : steps[k]? with
      | none => unfold lastO; rw [hs]; cases k <;> rfl
      | some s => rw [lastO_succ hs, if_neg (fun h => by have := h.2.1; omega)]
theorem lastO_pos {n : Nat} {steps : List Stp} {d : Int} (h : ∀ s ∈ steps, StOk s) : ∀ k b, lastO n steps d k = some b → 0 ≤ d
  | 0, _, h0 => by cases h0
  | k + 1, b, h0 => by
    cases hs : steps[k]? with
    | none => unfold lastO at h0; rw [hs] at h0; exact lastO_pos h k b h0
    | some s =>
      rw [lastO_succ hs] at h0
      split at h0
      · rename_i hc
        rw [← hc.2.2]
        exact (h s (List.mem_of_getElem? hs)).1
      · exact lastO_pos h k b h0
theorem putL_get {img : Img} {a d : Nat} {b : ByteArray} : (putL img a b)[d]? = if d = a then some b else if d < img.length then img[d]? else if d < a then some blankS else none := by
  unfold putL
  by_cases h : d = a
  · subst h
    rw [if_pos rfl, List.getElem?_set_self (by rw [List.length_append, List.length_replicate]; omega)]
  · rw [if_neg h, List.getElem?_set_ne (by omega)]
    by_cases hl : d < img.length
    · rw [if_pos hl, List.getElem?_append_left hl]
    · rw [if_neg hl, List.getElem?_append_right (by omega), List.getElem?_replicate]
      by_cases h2 : d < a
      · rw [if_pos h2, if_pos (by omega)]
      · rw [if_neg h2, if_neg (by omega)]
/-- What is cut, address by address. -/
theorem cutK_get {n : Nat} {steps : List Stp} {img : Img} (h : ∀ s ∈ steps, StOk s) : ∀ k, k ≤ n + 1 → img.length ≤ (cutK n steps img k).length ∧ ∀ d : Nat,
    (∀ b, lastO n steps (d : Int) k = some b → (cutK n steps img k)[d]? = some b) ∧
    (lastO n steps (d : Int) k = none → (d < img.length → (cutK n steps img k)[d]? = img[d]?) ∧ (img.length ≤ d → d < (cutK n steps img k).length → (cutK n steps img k)[d]? = some blankS))
  | 0, _ => by
    refine ⟨Nat.le_refl _, fun d => ⟨fun b hb => ?_, fun _ => ⟨fun _ => rfl, fun h1 h2 => ?_⟩⟩⟩
    · cases hb
    · have h2 : d < img.length := h2; omega
  | k + 1, hk => by
    obtain ⟨ihl, ih⟩ := cutK_get (n := n) (img := img) h k (by omega)
    cases hs : steps[k]? with
    | none =>
      have e1 : cutK n steps img (k + 1) = cutK n steps img k := by show (match steps[k]? with | some s => _ | none => _) = _; rw [hs]
      have e2 : ∀ d, lastO n steps d (k + 1) = lastO n steps d k := fun d => by show (match steps[k]? with | some s => _ | none => _) = _; rw [hs]
      rw [e1]
      refine ⟨ihl, fun d => ?_⟩
      rw [e2]
      exact ih d
    | some s =>
      have hok := h s (List.mem_of_getElem? hs)
      rw [cutK_succ hs]
      unfold apS
      cases hc : s.cl with
      | true =>
        rw [if_pos rfl]
        refine ⟨ihl, fun d => ?_⟩
        rw [lastO_succ hs, if_neg (by rw [hc]; rintro ⟨h, _⟩; cases h)]
        exact ih d
      | false =>
        rw [if_neg (by simp)]
        refine ⟨by rw [putL_length]; omega, fun d => ?_⟩
        rw [lastO_succ hs, show (if k < n then s.b else unrS) = tearV n k s from rfl, putL_get]
        by_cases hd : s.pos = (d : Int)
        · rw [if_pos ⟨hc, by omega, hd⟩, if_pos (show d = s.pos.toNat by omega)]
          refine ⟨fun b hb => hb, fun hb => by cases hb⟩
        · have hdp : ¬ d = s.pos.toNat := by have := hok.1; omega
          rw [if_neg (fun h => hd h.2.2), if_neg hdp]
          obtain ⟨ih1, ih2⟩ := ih d
          refine ⟨fun b hb => ?_, fun hn => ⟨fun hl => ?_, fun hl h2 => ?_⟩⟩
          · have := ih1 b hb
            rw [if_pos (List.getElem?_eq_some_iff.1 this).1]
            exact this
          · rw [if_pos (by omega)]
            exact (ih2 hn).1 hl
          · by_cases hdl : d < (cutK n steps img k).length
            · rw [if_pos hdl]
              exact (ih2 hn).2 hl hdl
            · rw [if_neg hdl]
              rw [putL_length] at h2
              rw [if_pos (by omega)]
theorem tears_at {N M : Nat} {steps : List Stp} {img : Img} (h : ∀ s ∈ steps, StOk s) (hM : steps.length = M) : img.length ≤ (cutL N steps img).length ∧ ∀ d : Nat,
    (∀ b, lastO N steps (d : Int) M = some b → (cutL N steps img)[d]? = some b) ∧
    (lastO N steps (d : Int) M = none → (d < img.length → (cutL N steps img)[d]? = img[d]?) ∧ (img.length ≤ d → d < (cutL N steps img).length → (cutL N steps img)[d]? = some blankS)) := by
  have hk := cutK_get (n := N) (img := img) h (min (N + 1) M) (by omega)
  have he : cutL N steps img = cutK N steps img (min (N + 1) M) := by unfold cutL; rw [hM]
  rw [he]
  refine ⟨hk.1, fun d => ?_⟩
  rw [lastO_end M, Nat.min_comm M]
  exact hk.2 d
theorem cutR_okT {img : Img} {ws : List Wr} {n : Nat} (h : validB img ws = true) (hn : n ≤ nSt ws) : cutR img ws (n : Int) = (cutL n (stepsL ws) img, 0) := by
  unfold cutR
  rw [if_pos h, if_neg (by omega), Int.toNat_natCast]
/-- A map that says so. -/
def MapIs (D : DataW Unit) (n : Nat) (steps : List Stp) (k : Nat) : Prop :=
  IsMap D ∧ ∀ d : Int, has D (.int .i64 d) = (lastO n steps d k).isSome ∧ ∀ b, lastO n steps d k = some b → ∀ z, D.atKey (.int .i64 d) z = .lit (.string b.data.toList)
theorem MapIs.start (n : Nat) (steps : List Stp) : MapIs (.map []) n steps 0 := ⟨isMap_empty, fun d => ⟨rfl, fun b h => by cases h⟩⟩
theorem MapIs.skip {D : DataW Unit} {n : Nat} {steps : List Stp} {k : Nat} {s : Stp} (h : MapIs D n steps k) (hs : steps[k]? = some s) (hc : s.cl = true ∨ n < k) : MapIs D n steps (k + 1) := by
  refine ⟨h.1, fun d => ?_⟩
  rw [lastO_succ hs, if_neg (by
    rintro ⟨h1, h2, _⟩
    rcases hc with hc | hc
    · rw [hc] at h1; cases h1
    · omega)]
  exact h.2 d
theorem MapIs.put {D : DataW Unit} {n : Nat} {steps : List Stp} {k : Nat} {s : Stp} (h : MapIs D n steps k) (hs : steps[k]? = some s) (hc : s.cl = false) (hk : k ≤ n) : MapIs (D.put (.int .i64 s.pos) (.lit (.string (tearV n k s).data.toList))) n steps (k + 1) := by
  refine ⟨h.1.put _ _, fun d => ?_⟩
  rw [lastO_succ hs]
  by_cases hd : s.pos = d
  · subst hd
    rw [if_pos ⟨hc, hk, rfl⟩]
    refine ⟨has_put_same h.1 (show WideAt.IsKeyLit (.int .i64 s.pos) from trivial) _, fun b hb z => ?_⟩
    injection hb with hb
    rw [atKey_put_same h.1 (show WideAt.IsKeyLit (.int .i64 s.pos) from trivial), hb]
  · rw [if_neg (fun h => hd h.2.2)]
    have hne : (Lit.int .i64 d) ≠ (Lit.int .i64 s.pos) := fun e => by injection e with _ e; exact hd e.symm
    rw [has_put_other hne]
    refine ⟨(h.2 d).1, fun b hb z => ?_⟩
    rw [atKey_put_other hne]
    exact (h.2 d).2 b hb z
theorem wpList_lookup_str {H : Type} {P : Program} {w : World} {ops : Array Oper} {rest : List Oper} {o : Oper} {a : Act} {Q : Exit → Act → World → Prop} {m x : Operand} {t k e : TypeId} {b n : Nat} {D : DataW H} {key : Value} {kl : Lit} {s : ByteArray} {ok : Bool}
    (K : Keyed P k) (ht : P.underlying t = some (.map k e)) (he : P.underlying e = some .string) (hz : (zeroValue e).run P w = .ok (.string ByteArray.empty) w) (hown : w.ownsMap P k (plainElem P e) b n D) (hkey : keyOf P k key = some kl)
    (hat : D.atKey kl (.lit (.string [])) = .lit (.string s.data.toList)) (hhas : Maps.has D kl = ok)
    (hg : o.guard = none) (hop : o.op = Op.lookup t m x true) (hm : a.eval m = .map (some b)) (hx : a.eval x = key)
    (hK : wpList P ops Q rest (a.put o.dst (.tuple #[.string s, .bool ok])) w) : wpList P ops Q (o :: rest) a w :=
  wpList_lookup_own_ok w hg m x t hop k e K ht (plainElem P e) hz (.lit (.string [])) [] (plainElem_string he (by decide)) b n D hm hown key kl hx hkey (fun v ps hv => by
    obtain ⟨c, rfl, hc, _⟩ := plainElem_string_inv he hv
    have h1 : D.atKey kl (.lit (.string [])) = .lit (.string c.data.toList) := congrArg Prod.fst hc
    rw [hat] at h1
    injection h1 with h1
    injection h1 with h1
    have : s = c := by
      cases s with | mk sd =>
      cases c with | mk cd =>
      congr 1
      exact Array.toList_inj.1 h1
    rw [← this, hhas]
    exact hK)
end Go.Proofs.Ytdmdfpdigoijoaa
