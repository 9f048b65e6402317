import Derived.Test.YtdmdfpdigoijoaaPwX
import Derived.Test.YtdmdfpdigoijoaaSt
import Derived.Test.YtdmdfpdigoijoaaSl
import Derived.Deep.Cut
import Derived.Laws.OwnMore
/-
  Chapter 52: the reference's writer as a value: New, Usable, End, Last, Control.
-/
namespace Go.Proofs.Ytdmdfpdigoijoaa
open Go.RowKit
set_option linter.unusedVariables false

/-- The reference's writer. -/
def rwV (st ba : Int) (A : Option Addr) (n c : Nat) : Value := .agg #[.int .i64 st, .int .i64 ba, .slice A n c]
/-- The list of the reference's writer. -/
def PnAt (w : World) (B : Nat) (A : Option Addr) (l : List Pend) : Prop := SlAt w B A (flat encP l)
section
variable {w w' : World} {B C : Nat} {A : Option Addr} {l : List Pend}
theorem PnAt.below (h : PnAt w B A l) (hb : Below B w w') : PnAt w' B A l := SlAt.below h hb
theorem PnAt.mono (h : PnAt w B A l) (hc : B ≤ C) : PnAt w C A l := SlAt.mono h hc
theorem PnAt.one (h : PnAt w B A l) (hp : 0 < l.length) : ∃ b off, A = some ⟨b, off, none⟩ ∧ b < B := by
  obtain ⟨b, off, hA, hb, _⟩ := SlAt.one h (by rw [flat_length encP_length]; omega)
  exact ⟨b, off, hA, hb⟩
theorem PnAt.cells (h : PnAt w B A l) {b off : Nat} (hA : A = some ⟨b, off, none⟩) {k : Nat} {x : Pend} (hk : l[k]? = some x) :
    w.cell? ⟨b, off + k * 2, none⟩ = some (.int .i64 x.lba) ∧ w.cell? ⟨b, off + k * 2 + 1, none⟩ = some (.string x.blk) := by
  have c : ∀ j, j < 2 → ∀ u, (encP x)[j]? = some u → w.cell? ⟨b, off + (k * 2 + j), none⟩ = some u := fun j hj u hu => by
    obtain ⟨b', off', e, _, hc⟩ := h (k * 2 + j) u ((flat_get encP_length l k j x hk hj).trans hu)
    rw [hA] at e
    injection e with e
    injection e with e1 e2 _
    subst e1 e2
    exact hc
  exact ⟨c 0 (by omega) _ rfl, c 1 (by omega) _ rfl⟩
end
theorem rusable_any (s l : Int) (w : World) (hs : -9223372036854775808 ≤ s ∧ s ≤ 9223372036854775807) (hl : -9223372036854775808 ≤ l ∧ l ≤ 9223372036854775807) : Calls Try.prog 44 #[.int .i64 s, .int .i64 l] w fun e w' => e = .returned (.bool (usB s l)) ∧ w = w' := by
  by_cases h0 : 0 ≤ s
  · by_cases h1 : s ≤ l
    · have HU : Hid (usB s l = !decide ((l - s) % 8 = 7)) := Lib.hid (by unfold usB; rw [decide_eq_true h0, decide_eq_true h1]; rfl)
      have e1 : (l - s).tmod 8 = (l - s) % 8 := Int.tmod_eq_emod_of_nonneg (by omega)
      by_cases h2 : (l - s) % 8 = 7
      · have h2b : ((l - s) % 8 != 7) = false := by rw [bne_eq_false_iff_eq]; exact h2
        have HV : Hid (usB s l = false) := Lib.hid (by rw [HU.out, decide_eq_true h2]; rfl)
        clear h2
        go_enter Try.func44, Try.ntmps44
        go_wp2_with fail
        go_ret
        exact ⟨ret_bool HV.out.symm, rfl⟩
      · have h2b : ((l - s) % 8 != 7) = true := by rw [bne_iff_ne]; exact h2
        have HV : Hid (usB s l = true) := Lib.hid (by rw [HU.out, decide_eq_false h2]; rfl)
        clear h2
        go_enter Try.func44, Try.ntmps44
        go_wp2_with fail
        go_ret
        exact ⟨ret_bool HV.out.symm, rfl⟩
    · have HV : Hid (usB s l = false) := Lib.hid (by unfold usB; rw [decide_eq_false h1]; simp)
      go_enter Try.func44, Try.ntmps44
      go_wp2_with fail
      go_ret
      exact ⟨ret_bool HV.out.symm, rfl⟩
  · have HV : Hid (usB s l = false) := Lib.hid (by unfold usB; rw [decide_eq_false h0]; rfl)
    go_enter Try.func44, Try.ntmps44
    go_wp2_with fail
    go_ret
    exact ⟨ret_bool HV.out.symm, rfl⟩
theorem usable_all (s l : Int) (w : World) (hs : -9223372036854775808 ≤ s ∧ s ≤ 9223372036854775807) (hl : -9223372036854775808 ≤ l ∧ l ≤ 9223372036854775807) : Calls Try.prog 28 #[.int .i64 s, .int .i64 l] w fun e w' => e = .returned (.bool (usB s l)) ∧ w = w' := by
  by_cases h0 : 0 ≤ s
  · by_cases h1 : s ≤ l
    · have HU : Hid (usB s l = !decide ((l - s) % 8 = 7)) := Lib.hid (by unfold usB; rw [decide_eq_true h0, decide_eq_true h1]; rfl)
      have e1 : (l - s).tmod 8 = (l - s) % 8 := Int.tmod_eq_emod_of_nonneg (by omega)
      by_cases h2 : (l - s) % 8 = 7
      · have h2b : ((l - s) % 8 != 7) = false := by rw [bne_eq_false_iff_eq]; exact h2
        have HV : Hid (usB s l = false) := Lib.hid (by rw [HU.out, decide_eq_true h2]; rfl)
        clear h2
        go_enter Try.func28, Try.ntmps28
        go_wp2_with fail
        go_ret
        exact ⟨ret_bool HV.out.symm, rfl⟩
      · have h2b : ((l - s) % 8 != 7) = true := by rw [bne_iff_ne]; exact h2
        have HV : Hid (usB s l = true) := Lib.hid (by rw [HU.out, decide_eq_false h2]; rfl)
        clear h2
        go_enter Try.func28, Try.ntmps28
        go_wp2_with fail
        go_ret
        exact ⟨ret_bool HV.out.symm, rfl⟩
    · have HV : Hid (usB s l = false) := Lib.hid (by unfold usB; rw [decide_eq_false h1]; simp)
      go_enter Try.func28, Try.ntmps28
      go_wp2_with fail
      go_ret
      exact ⟨ret_bool HV.out.symm, rfl⟩
  · have HV : Hid (usB s l = false) := Lib.hid (by unfold usB; rw [decide_eq_false h0]; rfl)
    go_enter Try.func28, Try.ntmps28
    go_wp2_with fail
    go_ret
    exact ⟨ret_bool HV.out.symm, rfl⟩
def endL (s l : Int) : Int := l - (l - s) % 8 + 8
theorem rend_any (s l : Int) (w : World) (h0 : 0 ≤ s) (h1 : s ≤ l) (h2 : l ≤ 1000000) : Calls Try.prog 74 #[.int .i64 s, .int .i64 l] w fun e w' => e = .returned (.int .i64 (endL s l)) ∧ w = w' := by
  have e1 : (l - s).tdiv 8 = (l - s) / 8 := Int.tdiv_eq_ediv_of_nonneg (by omega)
  have HE : Hid (endL s l = s + ((l - s) / 8 + 1) * 8) := Lib.hid (by unfold endL; omega)
  rw [HE.out]
  go_enter Try.func74, Try.ntmps74
  go_wp2_with fail
  go_ret
  exact ⟨rfl, rfl⟩
def RNew (s n : Int) (w : World) (e : Ending) (w' : World) : Prop :=
  Below w.heap.size w w' ∧ ((newE s n ≠ 0 ∧ e = .returned (.tuple #[rwV 0 0 none 0 0, .int .i64 (newE s n)])) ∨ (newE s n = 0 ∧ e = .returned (.tuple #[rwV s (baseOf s n) none 0 0, .int .i64 0])))
set_option maxHeartbeats 1000000 in
theorem rnew_any (s n : Int) (w : World) (hs : -9223372036854775808 ≤ s ∧ s ≤ 9223372036854775807) (hn : -9223372036854775808 ≤ n ∧ n ≤ 9223372036854775807) : Calls Try.prog 43 #[.int .i64 s, .int .i64 n] w (RNew s n w) := by
  have q0 := (RowAt.new w 76 #[.int .i64 0, .int .i64 0, .slice none 0 0]).cell
  have hb0 := (Below.refl w.heap.size w).alloc (Nat.le_refl _) (.cells #[.int .i64 0, .int .i64 0, .slice none 0 0] 76)
  by_cases h1 : s < 0 ∨ n < s ∨ 4096 < n
  · have HE : Hid (newE s n = 1) := Lib.hid (by unfold newE; rw [if_pos h1])
    have h1' : s < 0 ∨ (¬ s < 0 ∧ n < s) ∨ (¬ s < 0 ∧ ¬ n < s ∧ 4096 < n) := by omega
    clear h1
    rcases h1' with h1 | ⟨h1, h2⟩ | ⟨h1, h2, h3⟩
    all_goals
      go_enter Try.func43, Try.ntmps43
      go_wp2_with fail
      refine bodyPost_ret (v := .tuple #[rwV 0 0 none 0 0, .int .i64 1]) (by simp [rwV, results, Try.results43, go_sem, q0]) rfl ⟨hb0, .inl ⟨by rw [HE.out]; decide, by rw [HE.out]⟩⟩
  · by_cases h2 : 4096 < baseOf s n + 8
    · have HE : Hid (newE s n = 12) := Lib.hid (by unfold newE; rw [if_neg h1, if_pos h2])
      have a1 : ¬ s < 0 := by omega
      have a2 : ¬ n < s := by omega
      have a3 : ¬ 4096 < n := by omega
      have e1 : (n - s + 8 - 1).tdiv 8 = (n - s + 7) / 8 := by rw [Int.tdiv_eq_ediv_of_nonneg (by omega)]; congr 1; omega
      have e2 : (n - s + 8 - 1) / 8 = (n - s + 7) / 8 := by congr 1; omega
      unfold baseOf at h2
      clear h1
      go_enter Try.func43, Try.ntmps43
      go_wp2_with fail
      refine bodyPost_ret (v := .tuple #[rwV 0 0 none 0 0, .int .i64 12]) (by simp [rwV, results, Try.results43, go_sem, q0]) rfl ⟨hb0, .inl ⟨by rw [HE.out]; decide, by rw [HE.out]⟩⟩
    · have HE : Hid (newE s n = 0) := Lib.hid (by unfold newE; rw [if_neg h1, if_neg h2])
      have a1 : ¬ s < 0 := by omega
      have a2 : ¬ n < s := by omega
      have a3 : ¬ 4096 < n := by omega
      have e1 : (n - s + 8 - 1).tdiv 8 = (n - s + 7) / 8 := by rw [Int.tdiv_eq_ediv_of_nonneg (by omega)]; congr 1; omega
      have e2 : (n - s + 8 - 1) / 8 = (n - s + 7) / 8 := by congr 1; omega
      have HBO : Hid (baseOf s n = s + (n - s + 7) / 8 * 8) := Lib.hid rfl
      unfold baseOf at h2
      clear h1
      go_enter Try.func43, Try.ntmps43
      go_wp2_with fail
      have q1 := (RowAt.new w 76 #[.int .i64 s, .int .i64 (s + (n - s + 7) / 8 * 8), .slice none 0 0]).cell
      refine bodyPost_ret (v := .tuple #[rwV s (s + (n - s + 7) / 8 * 8) none 0 0, .int .i64 0]) (by simp [rwV, results, Try.results43, go_sem, q1]) rfl ⟨(Below.refl _ _).alloc (Nat.le_refl _) _, .inr ⟨HE.out, by rw [HBO.out]⟩⟩
theorem rlast_any (st ba : Int) (A : Option Addr) (c : Nat) (l : List Pend) (w : World) (h : PnAt w w.heap.size A l) (hl : l.length ≤ 1000000) :
    Calls Try.prog 75 #[rwV st ba A l.length c] w fun e w' => e = .returned (.int .i64 (lastL ba l)) ∧ Below w.heap.size w w' := by
  obtain ⟨n, hn⟩ : ∃ n, l.length = n := ⟨_, rfl⟩
  by_cases h0 : 0 < n
  · obtain ⟨x, hx⟩ : ∃ x, l[n - 1]? = some x := ⟨l[n - 1]'(by omega), List.getElem?_eq_getElem _⟩
    have hlast : Hid (lastL ba l = x.lba) := Lib.hid (by unfold lastL; rw [List.getLast?_eq_getElem?, hn, hx])
    obtain ⟨b, off, hA, hb⟩ := h.one (by omega)
    subst hA
    obtain ⟨p0, p1⟩ := h.cells rfl hx
    rw [hlast.out, hn]
    rw [hn] at hl
    have e1 : ((n : Int) - 1).toNat = n - 1 := by omega
    have h0I : (0 : Int) < (n : Int) := by omega
    have h0a : (0 : Int) ≤ (n : Int) - 1 := by omega
    have h0B : ((n : Int) == 0) = false := by rw [beq_eq_false_iff_ne]; omega
    unfold rwV
    clear hn hx h
    generalize x.lba = lx at *
    go_enter Try.func75, Try.ntmps75
    go_wp2_with fail
    go_ret
    exact ⟨rfl, (Below.refl _ _).alloc (Nat.le_refl _) _⟩
  · obtain rfl : l = [] := List.eq_nil_of_length_eq_zero (by omega)
    have HC : Hid (lastL ba [] = ba) := rfl
    rw [HC.out]
    unfold rwV
    clear hn h0 h
    go_enter Try.func75, Try.ntmps75
    go_wp2_with fail
    go_ret
    exact ⟨rfl, (Below.refl _ _).alloc (Nat.le_refl _) _⟩
end Go.Proofs.Ytdmdfpdigoijoaa

/-
  Chapter 52: Assign of the reference.
-/
namespace Go.Proofs.Ytdmdfpdigoijoaa
open Go.RowKit
set_option linter.unusedVariables false

def RAsg (R : Option (List Int)) (w : World) (e : Ending) (w' : World) : Prop :=
  Below w.heap.size w w' ∧ ((R = none ∧ e = .returned (.tuple #[.slice none 0 0, .int .i64 12])) ∨ ∃ out A c, R = some out ∧ e = .returned (.tuple #[.slice A out.length c, .int .i64 0]) ∧ w'.ownsRow w.heap.size 3 1 (.slice A out.length c) out.length (intV out))
section
variable {st k : Int} {n f : Nat} {out : List Int}
theorem asg_yes (h0 : 0 ≤ st) (h1 : st ≤ k) (hL : out.length < n) (hu : usB st k = true) (hp : ¬ 4096 < endL st k) : asgR st n (f + 1) k out = asgR st n f (k + 1) (out ++ [k]) := by
  unfold endL at hp
  rw [asgR, if_neg (by omega), if_neg hp, hu, if_pos rfl]
theorem asg_no (h0 : 0 ≤ st) (h1 : st ≤ k) (hL : out.length < n) (hp : 4096 < endL st k) : asgR st n f k out = none := by
  unfold endL at hp
  cases f with
  | zero => rfl
  | succ f => rw [asgR, if_neg (by omega), if_pos hp]
theorem us_next (h0 : 0 ≤ st) (h1 : st ≤ k) (hu : usB st k = false) : usB st (k + 1) = true ∧ endL st (k + 1) = k + 9 ∧ endL st k = k + 1 := by
  unfold usB at hu ⊢
  unfold endL
  rw [decide_eq_true h0, decide_eq_true h1] at hu
  have h7 : (k - st) % 8 = 7 := by simpa using hu
  refine ⟨?_, by omega, by omega⟩
  rw [decide_eq_true h0, decide_eq_true (show st ≤ k + 1 by omega), decide_eq_false (show ¬ (k + 1 - st) % 8 = 7 by omega)]
  rfl
theorem asg_yes2 (h0 : 0 ≤ st) (h1 : st ≤ k) (hL : out.length < n) (hu : usB st k = false) (hp : ¬ 4096 < endL st (k + 1)) : asgR st n (f + 2) k out = asgR st n f (k + 1 + 1) (out ++ [k + 1]) := by
  obtain ⟨u1, u2, u3⟩ := us_next h0 h1 hu
  rw [show asgR st n (f + 2) k out = asgR st n (f + 1) (k + 1) out by
    unfold endL at u3
    rw [asgR, if_neg (by omega), if_neg (by omega), hu, if_neg (by simp)]]
  exact asg_yes h0 (by omega) hL u1 hp
theorem asg_no2 (h0 : 0 ≤ st) (h1 : st ≤ k) (hL : out.length < n) (hu : usB st k = false) (hp : 4096 < endL st (k + 1)) : asgR st n f k out = none := by
  obtain ⟨u1, u2, u3⟩ := us_next h0 h1 hu
  cases f with
  | zero => rfl
  | succ f =>
    unfold endL at u3
    by_cases hq : 4096 < k - (k - st) % 8 + 8
    · rw [asgR, if_neg (by omega), if_pos hq]
    · rw [asgR, if_neg (by omega), if_neg hq, hu, if_neg (by simp)]
      exact asg_no h0 (by omega) hL hp
end
theorem own_le {w : World} {base base' e size n : Nat} {v : Value} {xs : List Value} (h : w.ownsRow base e size v n xs) (hb : base' ≤ base) : w.ownsRow base' e size v n xs := by
  refine ⟨h.1, ?_⟩
  rcases h.2 with h2 | ⟨g, cap, cur, hv, hg, r⟩
  · exact .inl h2
  · exact .inr ⟨g, cap, cur, hv, by omega, r⟩
set_option maxHeartbeats 2000000 in
theorem rassign_any (st ba : Int) (A : Option Addr) (c : Nat) (l : List Pend) (n : Nat) (w : World) (h : PnAt w w.heap.size A l) (hl : l.length ≤ 1000000) (hn : n ≤ 1000000) (hst : 0 ≤ st) (h1 : st ≤ nextL ba l) (h2 : nextL ba l ≤ 4200) :
    Calls Try.prog 70 #[rwV st ba A l.length c, .int .i64 (n : Int)] w (RAsg (asgL st ba l n) w) := by
  have CLa := Lib.hid (fun w' (hb : Below w.heap.size w w') => rlast_any st ba A c l w' ((h.below hb).mono hb.size) (by omega))
  obtain ⟨m, hm⟩ : ∃ m, l.length = m := ⟨_, rfl⟩
  obtain ⟨k0, hk0⟩ : ∃ k0, nextL ba l = k0 := ⟨_, rfl⟩
  have HR : Hid (asgL st ba l n = asgR st n 5000 k0 []) := Lib.hid (by unfold asgL; rw [hk0])
  have HL : (m = 0 ∧ ba = k0) ∨ (0 < m ∧ lastL ba l + 1 = k0) := by
    unfold nextL at hk0
    unfold lastL
    cases hq : l.getLast? with
    | none =>
      rw [hq] at hk0
      exact .inl ⟨by rw [← hm, List.getLast?_eq_none_iff.1 hq]; rfl, hk0⟩
    | some x =>
      rw [hq] at hk0
      refine .inr ⟨?_, hk0⟩
      rw [← hm]
      cases l with
      | nil => cases hq
      | cons y r => simp
  rw [HR.out]
  rw [hk0] at h1 h2
  rw [hm] at CLa hl ⊢
  generalize lastL ba l = la at *
  unfold rwV at CLa ⊢
  have HB0 := Lib.hid ((Below.refl w.heap.size w).alloc (Nat.le_refl _) (.cells #[.int .i64 st, .int .i64 ba, .slice A m c] 76))
  have HR0 := Lib.hid (RowAt.new w 76 #[.int .i64 st, .int .i64 ba, .slice A m c])
  clear h hm hk0 HR
  go_enter Try.func70, Try.ntmps70
  go_upto_region 1 with fail
  generalize w.alloc (.cells #[.int .i64 st, .int .i64 ba, .slice A m c] 76) = w0 at *
  have HW1 := Lib.hid ((Below.refl w0.heap.size w0).alloc (Nat.le_refl _) (.cells #[] 3))
  have HO := Lib.hid (World.ownsRow_lit (base := w0.heap.size) (e := 3) (size := 1) w0 #[] 0 (Nat.le_refl _) (by decide) rfl)
  have hgw := HR0.out.lt
  have q0 := HR0.out.cell
  go_upto_region 2 with fail
  have q1 := (HR0.out.below HW1.out hgw).cell
  rcases HL with ⟨h0, hbk⟩ | ⟨h0, hbk⟩
  · have h0I : ¬ (0 : Int) < (m : Int) := by omega
    clear h0 CLa
    go_wp2_with fail
    go_loopw [6, 7] (fun v kv wr => ∃ (k : Int) (f : Nat) (out : List Int) (A1 : Option Addr) (c1 L : Nat), Hid (L = out.length ∧ asgR st n 5000 k0 [] = asgR st n f k out) ∧ (f : Int) + k ≥ 4990 ∧ st ≤ k ∧ k ≤ 4200 ∧ L ≤ 200000 ∧ kv = .int .i64 k ∧ v = .slice A1 L c1 ∧ wr.ownsRow w0.heap.size 3 1 (.slice A1 L c1) L (intV out) ∧ Below w0.heap.size w0 wr ∧ (L : Int) ≤ k + 10) (fun _ kv _ => (100002 - intOf kv).toNat)
    case atStart => exact ⟨k0, 5000, [], _, 0, 0, Lib.hid ⟨rfl, rfl⟩, by omega, h1, by omega, by omega, rfl, rfl, HO.out, HW1.out, by omega⟩
    case round =>
      obtain ⟨k, f, out, A1, c1, L, HF, hf, hk1, hk2, hL, rfl, rfl, hown, hbel, hLk⟩ := hrel
      have q1 := (HR0.out.below hbel hgw).cell
      by_cases hLn : L < n
      · have hLnI : (L : Int) < (n : Int) := by omega
        have CU := Lib.hid (fun w => rusable_any st k w (by omega) (by omega))
        cases hus : usB st k with
        | true =>
          rw [hus] at CU
          have CE := Lib.hid (fun w => rend_any st k w hst hk1 (by omega))
          by_cases hpk : 4096 < endL st k
          · have HNO : Hid (asgR st n 5000 k0 [] = none) := Lib.hid (by rw [HF.out.2]; exact asg_no hst hk1 (by have := HF.out.1; omega) hpk)
            generalize endL st k = E at *
            clear hus
            go_wp2_with fail
            refine (CU.out _).mono ?_
            rintro e w' ⟨rfl, rfl⟩
            go_wp2_with fail
            refine (CE.out _).mono ?_
            rintro e w' ⟨rfl, rfl⟩
            go_wp2_with fail
            go_ret2
            exact ⟨HB0.out.trans (hbel.mono HB0.out.size), .inl ⟨HNO.out, rfl⟩⟩
          · obtain ⟨f1, rfl⟩ : ∃ f1, f = f1 + 1 := ⟨f - 1, by omega⟩
            have hk4 : k ≤ 4096 := by unfold endL at hpk; omega
            have HN2 : Hid (asgR st n 5000 k0 [] = asgR st n f1 (k + 1) (out ++ [k])) := Lib.hid (by rw [HF.out.2]; exact asg_yes hst hk1 (by have := HF.out.1; omega) hus hpk)
            generalize endL st k = E at *
            clear hus
            go_wp2_with fail
            refine (CU.out _).mono ?_
            rintro e w' ⟨rfl, rfl⟩
            go_wp2_with fail
            refine (CE.out _).mono ?_
            rintro e w' ⟨rfl, rfl⟩
            go_wp2_with (at_builtin; refine wpList_app1 hown info_int Try.underlying38 rfl (by unfold maxLen; omega) (by omega) hbel.size rfl rfl rfl (by rfl) (by rfl) ?_; intro v1 w2 hown2 hb2 _; obtain ⟨A2, c2, hv2⟩ := own_slice hown2; subst hv2)
            go_roundw
            case rel =>
              refine ⟨k + 1, f1, out ++ [k], A2, c2, L + 1, Lib.hid ⟨by rw [List.length_append, ← HF.out.1]; rfl, HN2.out⟩, by omega, by omega, by omega, by omega, rfl, rfl, ?_, hbel.trans hb2, by omega⟩
              unfold intV at hown2 ⊢
              rw [List.map_append]
              exact hown2
            case measure => simp [intOf]; omega
        | false =>
          rw [hus] at CU
          have CE := Lib.hid (fun w => rend_any st (k + 1) w hst (by omega) (by omega))
          by_cases hpk : 4096 < endL st (k + 1)
          · have HNO : Hid (asgR st n 5000 k0 [] = none) := Lib.hid (by rw [HF.out.2]; exact asg_no2 hst hk1 (by have := HF.out.1; omega) hus hpk)
            generalize endL st (k + 1) = E at *
            clear hus
            go_wp2_with fail
            refine (CU.out _).mono ?_
            rintro e w' ⟨rfl, rfl⟩
            go_wp2_with fail
            refine (CE.out _).mono ?_
            rintro e w' ⟨rfl, rfl⟩
            go_wp2_with fail
            go_ret2
            exact ⟨HB0.out.trans (hbel.mono HB0.out.size), .inl ⟨HNO.out, rfl⟩⟩
          · obtain ⟨f1, rfl⟩ : ∃ f1, f = f1 + 2 := ⟨f - 2, by omega⟩
            have hk4 : k ≤ 4096 := by unfold endL at hpk; omega
            have HN2 : Hid (asgR st n 5000 k0 [] = asgR st n f1 (k + 1 + 1) (out ++ [k + 1])) := Lib.hid (by rw [HF.out.2]; exact asg_yes2 hst hk1 (by have := HF.out.1; omega) hus hpk)
            generalize endL st (k + 1) = E at *
            clear hus
            go_wp2_with fail
            refine (CU.out _).mono ?_
            rintro e w' ⟨rfl, rfl⟩
            go_wp2_with fail
            refine (CE.out _).mono ?_
            rintro e w' ⟨rfl, rfl⟩
            go_wp2_with (at_builtin; refine wpList_app1 hown info_int Try.underlying38 rfl (by unfold maxLen; omega) (by omega) hbel.size rfl rfl rfl (by rfl) (by rfl) ?_; intro v1 w2 hown2 hb2 _; obtain ⟨A2, c2, hv2⟩ := own_slice hown2; subst hv2)
            go_roundw
            case rel =>
              refine ⟨k + 1 + 1, f1, out ++ [k + 1], A2, c2, L + 1, Lib.hid ⟨by rw [List.length_append, ← HF.out.1]; rfl, HN2.out⟩, by omega, by omega, by omega, by omega, rfl, rfl, ?_, hbel.trans hb2, by omega⟩
              unfold intV at hown2 ⊢
              rw [List.map_append]
              exact hown2
            case measure => simp [intOf]; omega
      · have hLnI : ¬ (L : Int) < (n : Int) := by omega
        have HYES : Hid (asgR st n 5000 k0 [] = some out) := Lib.hid (by
          obtain ⟨f1, rfl⟩ : ∃ f1, f = f1 + 1 := ⟨f - 1, by omega⟩
          rw [HF.out.2, asgR, if_pos (by have := HF.out.1; omega)])
        have HLE := Lib.hid HF.out.1
        go_wp2_with fail
        go_ret2
        have hL2 := HLE.out
        subst hL2
        exact ⟨HB0.out.trans (hbel.mono HB0.out.size), .inr ⟨out, A1, c1, HYES.out, rfl, own_le hown HB0.out.size⟩⟩
  · have h0I : (0 : Int) < (m : Int) := by omega
    clear h0
    go_wp2_with fail
    refine (CLa.out _ (HB0.out.trans (HW1.out.mono HB0.out.size))).mono ?_
    rintro e w2 ⟨rfl, hb2⟩
    have HO2 := Lib.hid (own_all HO.out hb2)
    have HW2 := Lib.hid (HW1.out.trans (hb2.mono HW1.out.size))
    clear HO HW1 hb2 CLa q1 q0
    go_wp2_with fail
    go_loopw [6, 7] (fun v kv wr => ∃ (k : Int) (f : Nat) (out : List Int) (A1 : Option Addr) (c1 L : Nat), Hid (L = out.length ∧ asgR st n 5000 k0 [] = asgR st n f k out) ∧ (f : Int) + k ≥ 4990 ∧ st ≤ k ∧ k ≤ 4200 ∧ L ≤ 200000 ∧ kv = .int .i64 k ∧ v = .slice A1 L c1 ∧ wr.ownsRow w0.heap.size 3 1 (.slice A1 L c1) L (intV out) ∧ Below w0.heap.size w0 wr ∧ (L : Int) ≤ k + 10) (fun _ kv _ => (100002 - intOf kv).toNat)
    case atStart => exact ⟨k0, 5000, [], _, 0, 0, Lib.hid ⟨rfl, rfl⟩, by omega, h1, by omega, by omega, rfl, rfl, HO2.out, HW2.out, by omega⟩
    case round =>
      obtain ⟨k, f, out, A1, c1, L, HF, hf, hk1, hk2, hL, rfl, rfl, hown, hbel, hLk⟩ := hrel
      have q1 := (HR0.out.below hbel hgw).cell
      by_cases hLn : L < n
      · have hLnI : (L : Int) < (n : Int) := by omega
        have CU := Lib.hid (fun w => rusable_any st k w (by omega) (by omega))
        cases hus : usB st k with
        | true =>
          rw [hus] at CU
          have CE := Lib.hid (fun w => rend_any st k w hst hk1 (by omega))
          by_cases hpk : 4096 < endL st k
          · have HNO : Hid (asgR st n 5000 k0 [] = none) := Lib.hid (by rw [HF.out.2]; exact asg_no hst hk1 (by have := HF.out.1; omega) hpk)
            generalize endL st k = E at *
            clear hus
            go_wp2_with fail
            refine (CU.out _).mono ?_
            rintro e w' ⟨rfl, rfl⟩
            go_wp2_with fail
            refine (CE.out _).mono ?_
            rintro e w' ⟨rfl, rfl⟩
            go_wp2_with fail
            go_ret2
            exact ⟨HB0.out.trans (hbel.mono HB0.out.size), .inl ⟨HNO.out, rfl⟩⟩
          · obtain ⟨f1, rfl⟩ : ∃ f1, f = f1 + 1 := ⟨f - 1, by omega⟩
            have hk4 : k ≤ 4096 := by unfold endL at hpk; omega
            have HN2 : Hid (asgR st n 5000 k0 [] = asgR st n f1 (k + 1) (out ++ [k])) := Lib.hid (by rw [HF.out.2]; exact asg_yes hst hk1 (by have := HF.out.1; omega) hus hpk)
            generalize endL st k = E at *
            clear hus
            go_wp2_with fail
            refine (CU.out _).mono ?_
            rintro e w' ⟨rfl, rfl⟩
            go_wp2_with fail
            refine (CE.out _).mono ?_
            rintro e w' ⟨rfl, rfl⟩
            go_wp2_with (at_builtin; refine wpList_app1 hown info_int Try.underlying38 rfl (by unfold maxLen; omega) (by omega) hbel.size rfl rfl rfl (by rfl) (by rfl) ?_; intro v1 w2 hown2 hb2 _; obtain ⟨A2, c2, hv2⟩ := own_slice hown2; subst hv2)
            go_roundw
            case rel =>
              refine ⟨k + 1, f1, out ++ [k], A2, c2, L + 1, Lib.hid ⟨by rw [List.length_append, ← HF.out.1]; rfl, HN2.out⟩, by omega, by omega, by omega, by omega, rfl, rfl, ?_, hbel.trans hb2, by omega⟩
              unfold intV at hown2 ⊢
              rw [List.map_append]
              exact hown2
            case measure => simp [intOf]; omega
        | false =>
          rw [hus] at CU
          have CE := Lib.hid (fun w => rend_any st (k + 1) w hst (by omega) (by omega))
          by_cases hpk : 4096 < endL st (k + 1)
          · have HNO : Hid (asgR st n 5000 k0 [] = none) := Lib.hid (by rw [HF.out.2]; exact asg_no2 hst hk1 (by have := HF.out.1; omega) hus hpk)
            generalize endL st (k + 1) = E at *
            clear hus
            go_wp2_with fail
            refine (CU.out _).mono ?_
            rintro e w' ⟨rfl, rfl⟩
            go_wp2_with fail
            refine (CE.out _).mono ?_
            rintro e w' ⟨rfl, rfl⟩
            go_wp2_with fail
            go_ret2
            exact ⟨HB0.out.trans (hbel.mono HB0.out.size), .inl ⟨HNO.out, rfl⟩⟩
          · obtain ⟨f1, rfl⟩ : ∃ f1, f = f1 + 2 := ⟨f - 2, by omega⟩
            have hk4 : k ≤ 4096 := by unfold endL at hpk; omega
            have HN2 : Hid (asgR st n 5000 k0 [] = asgR st n f1 (k + 1 + 1) (out ++ [k + 1])) := Lib.hid (by rw [HF.out.2]; exact asg_yes2 hst hk1 (by have := HF.out.1; omega) hus hpk)
            generalize endL st (k + 1) = E at *
            clear hus
            go_wp2_with fail
            refine (CU.out _).mono ?_
            rintro e w' ⟨rfl, rfl⟩
            go_wp2_with fail
            refine (CE.out _).mono ?_
            rintro e w' ⟨rfl, rfl⟩
            go_wp2_with (at_builtin; refine wpList_app1 hown info_int Try.underlying38 rfl (by unfold maxLen; omega) (by omega) hbel.size rfl rfl rfl (by rfl) (by rfl) ?_; intro v1 w2 hown2 hb2 _; obtain ⟨A2, c2, hv2⟩ := own_slice hown2; subst hv2)
            go_roundw
            case rel =>
              refine ⟨k + 1 + 1, f1, out ++ [k + 1], A2, c2, L + 1, Lib.hid ⟨by rw [List.length_append, ← HF.out.1]; rfl, HN2.out⟩, by omega, by omega, by omega, by omega, rfl, rfl, ?_, hbel.trans hb2, by omega⟩
              unfold intV at hown2 ⊢
              rw [List.map_append]
              exact hown2
            case measure => simp [intOf]; omega
      · have hLnI : ¬ (L : Int) < (n : Int) := by omega
        have HYES : Hid (asgR st n 5000 k0 [] = some out) := Lib.hid (by
          obtain ⟨f1, rfl⟩ : ∃ f1, f = f1 + 1 := ⟨f - 1, by omega⟩
          rw [HF.out.2, asgR, if_pos (by have := HF.out.1; omega)])
        have HLE := Lib.hid HF.out.1
        go_wp2_with fail
        go_ret2
        have hL2 := HLE.out
        subst hL2
        exact ⟨HB0.out.trans (hbel.mono HB0.out.size), .inr ⟨out, A1, c1, HYES.out, rfl, own_le hown HB0.out.size⟩⟩
end Go.Proofs.Ytdmdfpdigoijoaa
