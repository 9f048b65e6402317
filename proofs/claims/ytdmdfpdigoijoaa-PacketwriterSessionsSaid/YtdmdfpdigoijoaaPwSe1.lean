/-
  Chapter 52: sessions: plain words, and slices of sessions.
-/
import Derived.Test.YtdmdfpdigoijoaaPwT1
import Derived.Test.YtdmdfpdigoijoaaAppAny
import Derived.WalkSpells
namespace Go.Proofs.Ytdmdfpdigoijoaa
open Go.RowKit
set_option linter.unusedVariables false

structure Ses where
  start : Int
  count : Int
  closed : Bool
def encSe (x : Ses) : List Value := [.int .i64 x.start, .int .i64 x.count, .bool x.closed]
theorem encSe_length (x : Ses) : (encSe x).length = 3 := rfl
/-- A step that closes: the last session is closed, or there is a new one. -/
def sesStep (st ct : Int) (S : List Ses) : List Ses := match S.getLast? with
  | some x => if x.closed then S ++ [⟨st, ct, true⟩] else S.set (S.length - 1) ⟨x.start, x.count, true⟩
  | none => S ++ [⟨st, ct, true⟩]
def sesK (st ct : Int) (steps : List Stp) (S : List Ses) : Nat → List Ses
  | 0 => S
  | k + 1 => match steps[k]? with
    | some s => if s.cl then sesStep st ct (sesK st ct steps S k) else sesK st ct steps S k
    | none => sesK st ct steps S k
theorem sesK_succ {st ct : Int} {steps : List Stp} {S : List Ses} {k : Nat} {s : Stp} (h : steps[k]? = some s) : sesK st ct steps S (k + 1) = if s.cl then sesStep st ct (sesK st ct steps S k) else sesK st ct steps S k := by
  show (match steps[k]? with | some s => _ | none => _) = _
  rw [h]
theorem sesK_pre {st ct : Int} {p steps : List Stp} {S : List Ses} (h : p <+: steps) : ∀ k, k ≤ p.length → sesK st ct p S k = sesK st ct steps S k
  | 0, _ => rfl
  | k + 1, hk => by
    obtain ⟨t, rfl⟩ := h
    have h1 : p[k]? = some p[k] := List.getElem?_eq_getElem (by omega)
    rw [sesK_succ h1, sesK_succ (s := p[k]) (by rw [List.getElem?_append_left (by omega)]; exact h1), sesK_pre ⟨t, rfl⟩ k (by omega)]
theorem sesStep_len (st ct : Int) (S : List Ses) : (sesStep st ct S).length ≤ S.length + 1 := by
  unfold sesStep
  split
  · split
    · simp
    · simp
  · simp
theorem sesK_len {st ct : Int} {steps : List Stp} {S : List Ses} : ∀ k, (sesK st ct steps S k).length ≤ S.length + k
  | 0 => Nat.le_refl _
  | k + 1 => by
    have ih := sesK_len (st := st) (ct := ct) (steps := steps) (S := S) k
    cases hs : steps[k]? with
    | none => unfold sesK; rw [hs]; dsimp only; omega
    | some s =>
      rw [sesK_succ hs]
      have := sesStep_len st ct (sesK st ct steps S k)
      split <;> omega
/-- What Execute answers. -/
def exeR (img : Img) (ws : List Wr) (n : Int) (st ct : Int) (S : List Ses) : Img × List Ses × Int :=
  if (cutR img ws n).2 ≠ 0 then ([], [], (cutR img ws n).2) else if 16 < (sesK st ct (stepsL ws) S n.toNat).length then ([], [], 12) else ((cutR img ws n).1, sesK st ct (stepsL ws) S n.toNat, 0)
def ExeRes (R : Img × List Ses × Int) (w : World) (e : Ending) (w' : World) : Prop :=
  Below w.heap.size w w' ∧ ∃ A c A2 c2, e = .returned (.tuple #[.agg #[.slice A R.1.length c, .slice A2 R.2.1.length c2], .int .i64 R.2.2]) ∧ SlAt w' w'.heap.size A (strV R.1) ∧ SlAt w' w'.heap.size A2 (flat encSe R.2.1)
theorem ses_cells {w : World} {B : Nat} {A : Option Addr} {S : List Ses} (h : SlAt w B A (flat encSe S)) {b off : Nat} (hA : A = some ⟨b, off, none⟩) {k : Nat} {x : Ses} (hk : S[k]? = some x) :
    w.cell? ⟨b, off + k * 3, none⟩ = some (.int .i64 x.start) ∧ w.cell? ⟨b, off + k * 3 + 1, none⟩ = some (.int .i64 x.count) ∧ w.cell? ⟨b, off + k * 3 + 2, none⟩ = some (.bool x.closed) := by
  have c : ∀ j, j < 3 → ∀ u, (encSe x)[j]? = some u → w.cell? ⟨b, off + (k * 3 + j), none⟩ = some u := fun j hj u hu => by
    obtain ⟨b', off', e, _, hc⟩ := h (k * 3 + j) u ((flat_get encSe_length S k j x hk hj).trans hu)
    rw [hA] at e
    injection e with e
    injection e with e1 e2 _
    subst e1 e2
    exact hc
  refine ⟨c 0 (by omega) _ rfl, ?_, ?_⟩
  · rw [Nat.add_assoc]; exact c 1 (by omega) _ rfl
  · rw [Nat.add_assoc]; exact c 2 (by omega) _ rfl
theorem ses_addr {w : World} {B : Nat} {A : Option Addr} {S : List Ses} (h : SlAt w B A (flat encSe S)) (hp : 0 < S.length) : ∃ b off, A = some ⟨b, off, none⟩ ∧ b < B := by
  obtain ⟨b, off, hA, hb, _⟩ := h.one (by rw [flat_length encSe_length]; omega)
  exact ⟨b, off, hA, hb⟩
theorem info_ses : (Try.prog.info? 65).map (fun i => (i.zero, i.size, i.bytes)) = some (some (.agg #[.int .i64 0, .int .i64 0, .bool false]), 3, 24) := by kernel_rfl
theorem oneCell_encSe (S : List Ses) : ∀ u ∈ flat encSe S, u.oneCell' = true := by
  intro u hu
  unfold flat at hu
  obtain ⟨x, _, hx⟩ := List.mem_flatMap.1 hu
  simp only [encSe, List.mem_cons, List.not_mem_nil, or_false] at hx
  rcases hx with rfl | rfl | rfl <;> rfl
set_option maxHeartbeats 1000000 in
theorem clones_any (A : Option Addr) (c : Nat) (S : List Ses) (w : World) (hs : SlAt w w.heap.size A (flat encSe S)) (hl : S.length ≤ 1000000) :
    Calls Try.prog 66 #[.slice A S.length c] w fun e w' => ∃ v, e = .returned v ∧ w'.ownsRow w.heap.size 65 3 v S.length (flat encSe S) ∧ Below w.heap.size w w' := by
  have hq := fun (w : World) (a : Option Addr) (n c n' c' : Nat) => Lib.run_eql_slice_nil (P := Try.prog) w 53 65 a n c n' c' Try.underlying53
  cases A with
  | none =>
    have h0 : S = [] := by
      cases S with
      | nil => rfl
      | cons s r =>
        obtain ⟨b, off, e, _⟩ := ses_addr hs (by simp)
        cases e
    subst h0
    go_enter Try.func66, Try.ntmps66
    go_wp2_with fail
    go_ret
    exact ⟨_, rfl, World.ownsRow_nil _ _ _ _, Below.refl _ _⟩
  | some ad =>
    have HS := Lib.hid hs
    obtain ⟨n, hn⟩ : ∃ n, S.length = n := ⟨_, rfl⟩
    have HN := Lib.hid hn
    rw [hn] at hl ⊢
    clear hs hn
    go_enter Try.func66, Try.ntmps66
    have HO := Lib.hid (World.ownsRow_lit (base := w.heap.size) (e := 65) (size := 3) w #[] 0 (Nat.le_refl _) (by decide) rfl)
    go_wp2_with (at_builtin; refine wpList_appX HO.out info_ses Try.underlying53 rfl (by decide) (by rw [flat_length encSe_length, HN.out]) (HS.out.below ((Below.refl _ _).alloc (Nat.le_refl _) _)) (oneCell_encSe _) (by unfold maxLen; omega) (by omega) (by simp) rfl rfl (by rfl) (by rfl) ?_; intro v1 w1 hown1 hg1 _; rw [List.nil_append, Nat.zero_add] at hown1; obtain ⟨A1, c1, hv1⟩ := own_slice' hown1; subst hv1)
    go_ret
    refine ⟨_, rfl, hown1, ((Below.refl _ w).alloc (Nat.le_refl _) _).grown hg1 (by simp) (fun k hk => ?_)⟩
    have := (HO.out.lt k hk).1
    exact this
set_option maxHeartbeats 1000000 in
theorem eqses_same (A A' : Option Addr) (c c' : Nat) (l : List Ses) (w : World) (h : SlAt w w.heap.size A (flat encSe l)) (h' : SlAt w w.heap.size A' (flat encSe l)) (hl : l.length ≤ 1000000) :
    Calls Try.prog 36 #[.slice A l.length c, .slice A' l.length c'] w fun e w' => e = .returned (.bool true) ∧ Below w.heap.size w w' := by
  have HS := Lib.hid h
  have HS' := Lib.hid h'
  obtain ⟨n, hn⟩ : ∃ n, l.length = n := ⟨_, rfl⟩
  have HN := Lib.hid hn
  rw [hn] at hl ⊢
  clear h h' hn
  go_enter Try.func36, Try.ntmps36
  go_wp2_with fail
  go_loopw [13] (fun i wr => ∃ k : Nat, k ≤ n ∧ i = .int .i64 k ∧ Below w.heap.size w wr) (fun i _ => n - (intOf i).toNat)
  case atStart => exact ⟨0, by omega, rfl, Below.refl _ _⟩
  case round =>
    obtain ⟨k, hk, rfl, hbel⟩ := hrel
    by_cases hlt : k < n
    · obtain ⟨s, hs⟩ : ∃ s, l[k]? = some s := ⟨l[k]'(by rw [HN.out]; exact hlt), List.getElem?_eq_getElem _⟩
      obtain ⟨b, off, hA, hbk⟩ := ses_addr HS.out (by rw [HN.out]; omega)
      obtain ⟨b', off', hA', hbk'⟩ := ses_addr HS'.out (by rw [HN.out]; omega)
      subst hA hA'
      obtain ⟨p0, p1, p2⟩ := ses_cells (HS.out.below hbel) rfl hs
      obtain ⟨q0, q1, q2⟩ := ses_cells (HS'.out.below hbel) rfl hs
      have hltI : (k : Int) < (n : Int) := by omega
      have h0k : (0 : Int) ≤ (k : Int) := by omega
      clear hs
      go_wp2_with fail
      go_quiet (fail)
      go_wp2_with fail
      go_roundw
      case rel => first | exact ⟨k + 1, by omega, by go_num, below_drewN hbel _⟩ | exact ⟨_, ⟨k + 1, by omega, by simp, below_drewN hbel _⟩, rfl⟩ | exact ⟨_, _, ⟨k + 1, by omega, by simp, below_drewN hbel _⟩, rfl, rfl⟩ | exact ⟨_, _, _, ⟨k + 1, by omega, by simp, below_drewN hbel _⟩, rfl, rfl, rfl⟩
      case measure => simp [intOf]; omega
    · have hge : ¬ (k : Int) < (n : Int) := by omega
      go_wp2_with fail
      go_ret
      exact ⟨rfl, hbel⟩
end Go.Proofs.Ytdmdfpdigoijoaa
