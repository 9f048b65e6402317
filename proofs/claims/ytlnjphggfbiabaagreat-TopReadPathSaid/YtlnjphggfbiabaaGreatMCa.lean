/-
  circ: Frames, fits; the walk over a word's symbols for Lost.
-/
import Derived.Test.YtlnjphggfbiabaaGreatMSca
namespace Go.Proofs.YtlnjphggfbiabaaGreat
open Go.RowKit
set_option linter.unusedVariables false

theorem frames_any (d : Nat) (w : World) (h1 : 1 ≤ d) (h2 : d ≤ 401408) : Calls Tryz.prog 24 #[.int .i64 (d : Int)] w fun e w' => e = .returned (.int .i64 ((d + 108 : Nat) : Int)) ∧ w = w' := by
  have a1 : ¬ (d : Int) < 1 := by omega
  have a2 : ¬ (401408 : Int) < (d : Int) := by omega
  go_enter Tryz.func24, Tryz.ntmps24
  go_wp2_with fail
  go_ret
  exact ⟨ret_int (by omega), rfl⟩
theorem fits_ok (a c n : Nat) (w : World) (h1 : 1 ≤ c) (h2 : a + c ≤ n) (h3 : n ≤ 1000000) : Calls Tryz.prog 25 #[.agg #[.int .i64 (a : Int), .int .i64 (c : Int)], .int .i64 (n : Int)] w fun e w' => e = .returned (.bool true) ∧ Below w.heap.size w w' := by
  have hrb : RowAt (w.alloc (.cells #[.int .i64 (a : Int), .int .i64 (c : Int)] 28)) w.heap.size 28 #[.int .i64 (a : Int), .int .i64 (c : Int)] := RowAt.new _ _ _
  have q := hrb.cell
  have a1 : (0 : Int) ≤ (a : Int) := by omega
  have a2 : (1 : Int) ≤ (c : Int) := by omega
  have a3 : (c : Int) ≤ (n : Int) := by omega
  have a4 : (a : Int) ≤ (n : Int) - (c : Int) := by omega
  clear hrb
  go_enter Tryz.func25, Tryz.ntmps25
  go_wp2_with fail
  go_ret
  exact ⟨rfl, (Below.refl _ _).alloc (Nat.le_refl _) _⟩
def boolV (l : List Bool) : List Value := l.map Value.bool
theorem boolV_length (l : List Bool) : (boolV l).length = l.length := by simp [boolV]
theorem boolV_set (l : List Bool) (i : Nat) (b : Bool) : (boolV l).set i (.bool b) = boolV (l.set i b) := by unfold boolV; rw [List.map_set]
theorem own_bool {w : World} {base g n c e : Nat} {l : List Bool} (h : w.ownsRow base e 1 (.slice (some ⟨g, 0, none⟩) n c) n (boolV l)) {k : Nat} {b : Bool} (hk : l[k]? = some b) : w.cell? ⟨g, k, none⟩ = some (.bool b) := by
  have hlt := (List.getElem?_eq_some_iff.1 hk).1
  have hn : l.length = n := by have := h.1; rw [boolV_length] at this; omega
  rw [h.cellAt k (by omega)]
  simp [boolV, hk]
theorem posV_snoc (l : List Nat) (x : Nat) : posV l ++ [.int .i64 (x : Int)] = posV (l ++ [x]) := by simp [posV]
theorem own_set_ty {W : World} {base e size n g j : Nat} {v u : Value} {xs : List Value} {t : TypeId} {cs : Array Value} (h : W.ownsRow base e size v n xs) (hr : RowAt W g t cs) (hne : e ≠ t) : (W.setCell ⟨g, j, none⟩ u).ownsRow base e size v n xs := by
  have hk := own_row_ne h hr hne
  refine ⟨h.1, ?_⟩
  rcases h.2 with h2 | ⟨k, cap, cur, hv, hb, hh, r⟩
  · exact .inl h2
  · refine .inr ⟨k, cap, cur, hv, hb, ?_, r⟩
    have h1 : (W.setCell ⟨g, j, none⟩ u).heap[k]? = W.heap[k]? := Below.heap_setCell W _ _ k (hk k (by rw [hv]; rfl))
    rw [h1]
    exact hh
theorem info_intp : (Tryz.prog.info? 3).map (fun i => (i.zero, i.size, i.bytes)) = some (some (.int .i64 0), 1, 8) := by kernel_rfl
set_option maxRecDepth 100000 in
set_option maxHeartbeats 2000000 in
/-- One symbol: its index is noted if the frame that bears it is gone. -/
theorem lost1_any (i fr gg ge gb N : Nat) (G : List Bool) (er : List Nat) (A : Option Addr) (c base : Nat) (w : World) (hg : RowAt w gg 65 #[.slice (some ⟨gb, 0, none⟩) N N]) (hgo : w.ownsRow 0 4 1 (.slice (some ⟨gb, 0, none⟩) N N) N (boolV G)) (hGl : G.length = N)
    (he : RowAt w ge 29 #[.slice A er.length c]) (heo : w.ownsRow base 3 1 (.slice A er.length c) er.length (posV er)) (hfr : fr < N) (hi : i < 1000000) (hel : er.length ≤ 100000) (hbase : base ≤ w.heap.size) (hge : base ≤ ge) :
    Calls Tryz.prog 27 #[.int .i64 (i : Int), .int .i64 (fr : Int), .pointer (some ⟨gg, 0, none⟩), .pointer (some ⟨ge, 0, none⟩)] w fun e w' => e = .returned (.tuple #[]) ∧ Below base w w' ∧ ∃ A' c' er', (er' = er ∨ er' = er ++ [i]) ∧
      RowAt w' gg 65 #[.slice (some ⟨gb, 0, none⟩) N N] ∧ w'.ownsRow 0 4 1 (.slice (some ⟨gb, 0, none⟩) N N) N (boolV G) ∧ RowAt w' ge 29 #[.slice A' er'.length c'] ∧ w'.ownsRow base 3 1 (.slice A' er'.length c') er'.length (posV er') := by
  obtain ⟨b, hb⟩ : ∃ b, G[fr]? = some b := ⟨G[fr]'(by omega), List.getElem?_eq_getElem _⟩
  have q1 := hg.cell
  have q2 := own_bool hgo hb
  have q3 := he.cell
  have f3 := he.frozen
  have HG := Lib.hid hg
  have HGO := Lib.hid hgo
  have HE := Lib.hid he
  have HEO := Lib.hid heo
  have hfI : (fr : Int) < (N : Int) := by omega
  have h0f : (0 : Int) ≤ (fr : Int) := by omega
  obtain ⟨m, hm⟩ : ∃ m, er.length = m := ⟨_, rfl⟩
  have HM := Lib.hid hm
  rw [hm] at q3 HE HEO hel
  clear hg hgo he heo hb hGl hm
  cases b with
  | false =>
    go_enter Tryz.func27, Tryz.ntmps27
    go_wp2_with fail
    go_end0
    exact ⟨rfl, Below.refl _ _, A, c, er, .inl rfl, HG.out, HGO.out, by rw [HM.out]; exact HE.out, by rw [HM.out]; exact HEO.out⟩
  | true =>
    go_enter Tryz.func27, Tryz.ntmps27
    go_wp2_with (at_builtin; refine wpList_app1 HEO.out info_intp Tryz.underlying29 rfl (by unfold maxLen; omega) (by omega) hbase rfl rfl rfl (by rfl) (by rfl) ?_; intro v5 w6 hown6 hb6 hg6; have HE6 := Lib.hid (HE.out.grown hg6 (fun e' => own_row_ne HEO.out HE.out (by decide) ge e'.symm rfl)); have HG6 := Lib.hid (HG.out.grown hg6 (fun e' => own_row_ne HEO.out HG.out (by decide) gg e'.symm rfl)); have HGO6 := Lib.hid (own_grown HGO.out hg6 (fun k hk e' => own_ne HEO.out HGO.out (by decide) k e'.symm hk.symm)); obtain ⟨A6, c6, hv6⟩ := own_slice hown6; subst hv6; have HO6 := Lib.hid hown6; have HB6 := Lib.hid hb6; have q6 := HE6.out.cell; have f6 := HE6.out.frozen; clear hown6 hb6 hg6)
    go_end0
    have hl : (er ++ [i]).length = m + 1 := by rw [List.length_append, HM.out]; rfl
    have hne : gg ≠ ge := fun e => by
      have h1 := HG6.out
      rw [e] at h1
      have h2 := h1.symm.trans HE6.out
      injection h2 with h2
      injection h2 with _ h3
      exact absurd h3 (by decide)
    refine ⟨rfl, HB6.out.setCell (p := ⟨ge, 0, none⟩) hge _, A6, c6, er ++ [i], .inr rfl, HG6.out.far (p := ⟨ge, 0, none⟩) hne _, own_set_ty HGO6.out HE6.out (by decide), by rw [hl]; exact HE6.out.set_ 0 _, ?_⟩
    rw [hl, ← posV_snoc]
    exact own_set_ty HO6.out HE6.out (by decide)
end Go.Proofs.YtlnjphggfbiabaaGreat

/-
  circ: collect with each of its closures.
-/
namespace Go.Proofs.YtlnjphggfbiabaaGreat
open Go.RowKit
set_option linter.unusedVariables false

theorem collect_lost (word : Nat) (ga gb : Nat) (w : World) (I : Nat → World → Prop) (h0 : I 0 w) (hw : word ≤ 1000000)
    (hI : ∀ i W, i < 28 → I i W → Calls Tryz.prog 27 #[.int .i64 (i : Int), .int .i64 ((word + 4 * i : Nat) : Int), .pointer (some ⟨ga, 0, none⟩), .pointer (some ⟨gb, 0, none⟩)] W fun e w' => e = .returned (.tuple #[]) ∧ I (i + 1) w') :
    Calls Tryz.prog 26 #[.int .i64 (word : Int), .func (.func 27) #[] #[.pointer (some ⟨ga, 0, none⟩), .pointer (some ⟨gb, 0, none⟩)]] w fun e w' => e = .returned (.tuple #[]) ∧ I 28 w' := by
  have HI := Lib.hid hI
  have H0 := Lib.hid h0
  clear hI h0
  go_enter Tryz.func26, Tryz.ntmps26
  go_wp2_with fail
  go_loopw [5] (fun i wr => ∃ k : Nat, k ≤ 28 ∧ i = .int .i64 k ∧ I k wr) (fun i _ => 28 - (intOf i).toNat)
  case atStart => exact ⟨0, by omega, rfl, H0.out⟩
  case round =>
    clear H0
    obtain ⟨k, hk, rfl, hIk⟩ := hrel
    by_cases hlt : k < 28
    · have hltI : (k : Int) < 28 := by omega
      have C := Lib.hid (HI.out k wr hlt hIk)
      have e1 : ((word + 4 * k : Nat) : Int) = (word : Int) + 4 * (k : Int) := by omega
      rw [e1] at C
      clear hIk e1
      go_wp2_with fail
      refine C.out.mono ?_
      rintro e w1 ⟨rfl, hI1⟩
      have HI1 := Lib.hid hI1
      clear hI1
      go_wp2_with fail
      go_roundw
      case rel => exact ⟨k + 1, by omega, by go_num, HI1.out⟩
      case measure => simp [intOf]; omega
    · obtain rfl : k = 28 := by omega
      have hge : ¬ (28 : Int) < 28 := by omega
      have HIk := Lib.hid hIk
      clear hIk
      go_wp2_with fail
      go_end0
      exact ⟨rfl, HIk.out⟩

theorem collect_enc (word : Nat) (ga gb : Nat) (w : World) (I : Nat → World → Prop) (h0 : I 0 w) (hw : word ≤ 1000000)
    (hI : ∀ i W, i < 28 → I i W → Calls Tryz.prog 33 #[.int .i64 (i : Int), .int .i64 ((word + 4 * i : Nat) : Int), .pointer (some ⟨ga, 0, none⟩), .pointer (some ⟨gb, 0, none⟩)] W fun e w' => e = .returned (.tuple #[]) ∧ I (i + 1) w') :
    Calls Tryz.prog 26 #[.int .i64 (word : Int), .func (.func 33) #[] #[.pointer (some ⟨ga, 0, none⟩), .pointer (some ⟨gb, 0, none⟩)]] w fun e w' => e = .returned (.tuple #[]) ∧ I 28 w' := by
  have HI := Lib.hid hI
  have H0 := Lib.hid h0
  clear hI h0
  go_enter Tryz.func26, Tryz.ntmps26
  go_wp2_with fail
  go_loopw [5] (fun i wr => ∃ k : Nat, k ≤ 28 ∧ i = .int .i64 k ∧ I k wr) (fun i _ => 28 - (intOf i).toNat)
  case atStart => exact ⟨0, by omega, rfl, H0.out⟩
  case round =>
    clear H0
    obtain ⟨k, hk, rfl, hIk⟩ := hrel
    by_cases hlt : k < 28
    · have hltI : (k : Int) < 28 := by omega
      have C := Lib.hid (HI.out k wr hlt hIk)
      have e1 : ((word + 4 * k : Nat) : Int) = (word : Int) + 4 * (k : Int) := by omega
      rw [e1] at C
      clear hIk e1
      go_wp2_with fail
      refine C.out.mono ?_
      rintro e w1 ⟨rfl, hI1⟩
      have HI1 := Lib.hid hI1
      clear hI1
      go_wp2_with fail
      go_roundw
      case rel => exact ⟨k + 1, by omega, by go_num, HI1.out⟩
      case measure => simp [intOf]; omega
    · obtain rfl : k = 28 := by omega
      have hge : ¬ (28 : Int) < 28 := by omega
      have HIk := Lib.hid hIk
      clear hIk
      go_wp2_with fail
      go_end0
      exact ⟨rfl, HIk.out⟩

theorem collect_dec1 (word : Nat) (ga gb gc : Nat) (w : World) (I : Nat → World → Prop) (h0 : I 0 w) (hw : word ≤ 1000000)
    (hI : ∀ i W, i < 28 → I i W → Calls Tryz.prog 35 #[.int .i64 (i : Int), .int .i64 ((word + 4 * i : Nat) : Int), .pointer (some ⟨ga, 0, none⟩), .pointer (some ⟨gb, 0, none⟩), .pointer (some ⟨gc, 0, none⟩)] W fun e w' => e = .returned (.tuple #[]) ∧ I (i + 1) w') :
    Calls Tryz.prog 26 #[.int .i64 (word : Int), .func (.func 35) #[] #[.pointer (some ⟨ga, 0, none⟩), .pointer (some ⟨gb, 0, none⟩), .pointer (some ⟨gc, 0, none⟩)]] w fun e w' => e = .returned (.tuple #[]) ∧ I 28 w' := by
  have HI := Lib.hid hI
  have H0 := Lib.hid h0
  clear hI h0
  go_enter Tryz.func26, Tryz.ntmps26
  go_wp2_with fail
  go_loopw [5] (fun i wr => ∃ k : Nat, k ≤ 28 ∧ i = .int .i64 k ∧ I k wr) (fun i _ => 28 - (intOf i).toNat)
  case atStart => exact ⟨0, by omega, rfl, H0.out⟩
  case round =>
    clear H0
    obtain ⟨k, hk, rfl, hIk⟩ := hrel
    by_cases hlt : k < 28
    · have hltI : (k : Int) < 28 := by omega
      have C := Lib.hid (HI.out k wr hlt hIk)
      have e1 : ((word + 4 * k : Nat) : Int) = (word : Int) + 4 * (k : Int) := by omega
      rw [e1] at C
      clear hIk e1
      go_wp2_with fail
      refine C.out.mono ?_
      rintro e w1 ⟨rfl, hI1⟩
      have HI1 := Lib.hid hI1
      clear hI1
      go_wp2_with fail
      go_roundw
      case rel => exact ⟨k + 1, by omega, by go_num, HI1.out⟩
      case measure => simp [intOf]; omega
    · obtain rfl : k = 28 := by omega
      have hge : ¬ (28 : Int) < 28 := by omega
      have HIk := Lib.hid hIk
      clear hIk
      go_wp2_with fail
      go_end0
      exact ⟨rfl, HIk.out⟩

theorem collect_dec2 (word : Nat) (ga : Nat) (w : World) (I : Nat → World → Prop) (h0 : I 0 w) (hw : word ≤ 1000000)
    (hI : ∀ i W, i < 28 → I i W → Calls Tryz.prog 36 #[.int .i64 (i : Int), .int .i64 ((word + 4 * i : Nat) : Int), .pointer (some ⟨ga, 0, none⟩)] W fun e w' => e = .returned (.tuple #[]) ∧ I (i + 1) w') :
    Calls Tryz.prog 26 #[.int .i64 (word : Int), .func (.func 36) #[] #[.pointer (some ⟨ga, 0, none⟩)]] w fun e w' => e = .returned (.tuple #[]) ∧ I 28 w' := by
  have HI := Lib.hid hI
  have H0 := Lib.hid h0
  clear hI h0
  go_enter Tryz.func26, Tryz.ntmps26
  go_wp2_with fail
  go_loopw [5] (fun i wr => ∃ k : Nat, k ≤ 28 ∧ i = .int .i64 k ∧ I k wr) (fun i _ => 28 - (intOf i).toNat)
  case atStart => exact ⟨0, by omega, rfl, H0.out⟩
  case round =>
    clear H0
    obtain ⟨k, hk, rfl, hIk⟩ := hrel
    by_cases hlt : k < 28
    · have hltI : (k : Int) < 28 := by omega
      have C := Lib.hid (HI.out k wr hlt hIk)
      have e1 : ((word + 4 * k : Nat) : Int) = (word : Int) + 4 * (k : Int) := by omega
      rw [e1] at C
      clear hIk e1
      go_wp2_with fail
      refine C.out.mono ?_
      rintro e w1 ⟨rfl, hI1⟩
      have HI1 := Lib.hid hI1
      clear hI1
      go_wp2_with fail
      go_roundw
      case rel => exact ⟨k + 1, by omega, by go_num, HI1.out⟩
      case measure => simp [intOf]; omega
    · obtain rfl : k = 28 := by omega
      have hge : ¬ (28 : Int) < 28 := by omega
      have HIk := Lib.hid hIk
      clear hIk
      go_wp2_with fail
      go_end0
      exact ⟨rfl, HIk.out⟩
end Go.Proofs.YtlnjphggfbiabaaGreat
