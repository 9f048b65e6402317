/-
  The validity of an image, of both; the first image that is not valid.
-/
import Derived.Test.YtjlppndlgdgekaaPart
namespace Go.Proofs.Ytjlppndlgdgekaa
open Go.RowKit
set_option linter.unusedVariables false

def imV (x : Img) : Value := .agg #[.int .i64 x.plat, .int .i64 x.media, .int .i64 x.seg, .int .i64 x.sec, .int .i64 x.lba, .bool x.boot]
def encI (x : Img) : List Value := [.int .i64 x.plat, .int .i64 x.media, .int .i64 x.seg, .int .i64 x.sec, .int .i64 x.lba, .bool x.boot]
theorem encI_length (x : Img) : (encI x).length = 6 := rfl

set_option maxHeartbeats 1000000 in
theorem isvalid_any (x : Img) (w : World) : Calls Try.prog 21 #[imV x] w fun e w' => e = .returned (.bool (imgOk x)) ∧ Below w.heap.size w w' := by
  obtain ⟨p, m, s, c, l, b⟩ := x
  have HO : Hid (imgOk ⟨p, m, s, c, l, b⟩ = (platB p && (inB m 4 && (inB s 65535 && (inB c 65535 && inB l 4294967295))))) := rfl
  rw [imV]
  dsimp only
  go_enter Try.func21, Try.ntmps21
  go_wp2_with fail
  refine (isplat_any _ _).mono ?_
  rintro e w1 ⟨rfl, hb1⟩
  have h1 := St.call hb1 ((St.start w).alloc _ _)
  have q1 := (h1.at (i := 0) rfl).cell
  clear hb1
  cases h2 : platB p with
  | false =>
    rw [h2] at HO
    go_wp2_with fail
    go_ret
    exact ⟨ret_bool (by rw [HO.out]; rfl), h1.bel⟩
  | true =>
    rw [h2] at HO
    go_wp2_with fail
    refine (in_any _ _ _).mono ?_
    rintro e w' ⟨rfl, rfl⟩
    cases h3 : inB m 4 with
    | false =>
      rw [h3] at HO
      go_wp2_with fail
      go_ret
      exact ⟨ret_bool (by rw [HO.out]; rfl), h1.bel⟩
    | true =>
      rw [h3] at HO
      go_wp2_with fail
      refine (in_any _ _ _).mono ?_
      rintro e w' ⟨rfl, rfl⟩
      cases h4 : inB s 65535 with
      | false =>
        rw [h4] at HO
        go_wp2_with fail
        go_ret
        exact ⟨ret_bool (by rw [HO.out]; rfl), h1.bel⟩
      | true =>
        rw [h4] at HO
        go_wp2_with fail
        refine (in_any _ _ _).mono ?_
        rintro e w' ⟨rfl, rfl⟩
        cases h5 : inB c 65535 with
        | false =>
          rw [h5] at HO
          go_wp2_with fail
          go_ret
          exact ⟨ret_bool (by rw [HO.out]; rfl), h1.bel⟩
        | true =>
          rw [h5] at HO
          go_wp2_with fail
          refine (in_any _ _ _).mono ?_
          rintro e w' ⟨rfl, rfl⟩
          go_wp2_with fail
          go_ret
          exact ⟨ret_bool (by rw [HO.out]; rfl), h1.bel⟩
theorem bad_any (x : Img) (w : World) : Calls Try.prog 20 #[imV x] w fun e w' => e = .returned (.bool (!imgOk x)) ∧ Below w.heap.size w w' := by
  have C := Lib.hid (fun w => isvalid_any x w)
  obtain ⟨p, m, s, c, l, b⟩ := x
  rw [imV] at *
  dsimp only at *
  go_enter Try.func20, Try.ntmps20
  go_wp2_with fail
  refine (C.out _).mono ?_
  rintro e w1 ⟨rfl, hb1⟩
  have h1 := St.call hb1 ((St.start w).alloc _ _)
  go_wp2_with fail
  go_ret
  exact ⟨rfl, h1.bel⟩

/-- The six cells of an element. -/
theorem img_cells {w : World} {B : Nat} {A : Option Addr} {l : List Img} (h : SlAt w B A (flat encI l)) {b off : Nat} (hA : A = some ⟨b, off, none⟩) {k : Nat} {x : Img} (hk : l[k]? = some x) :
    w.cell? ⟨b, off + k * 6, none⟩ = some (.int .i64 x.plat) ∧ w.cell? ⟨b, off + k * 6 + 1, none⟩ = some (.int .i64 x.media) ∧ w.cell? ⟨b, off + k * 6 + 2, none⟩ = some (.int .i64 x.seg) ∧ w.cell? ⟨b, off + k * 6 + 3, none⟩ = some (.int .i64 x.sec) ∧
      w.cell? ⟨b, off + k * 6 + 4, none⟩ = some (.int .i64 x.lba) ∧ w.cell? ⟨b, off + k * 6 + 5, none⟩ = some (.bool x.boot) := by
  have c : ∀ j, j < 6 → ∀ u, (encI x)[j]? = some u → w.cell? ⟨b, off + (k * 6 + j), none⟩ = some u := fun j hj u hu => by
    obtain ⟨b', off', e, _, hc⟩ := h (k * 6 + j) u ((flat_get encI_length l k j x hk hj).trans hu)
    rw [hA] at e
    injection e with e
    injection e with e1 e2 _
    subst e1 e2
    exact hc
  refine ⟨c 0 (by omega) _ rfl, ?_, ?_, ?_, ?_, ?_⟩
  · rw [Nat.add_assoc]; exact c 1 (by omega) _ rfl
  · rw [Nat.add_assoc]; exact c 2 (by omega) _ rfl
  · rw [Nat.add_assoc]; exact c 3 (by omega) _ rfl
  · rw [Nat.add_assoc]; exact c 4 (by omega) _ rfl
  · rw [Nat.add_assoc]; exact c 5 (by omega) _ rfl

/-- Some image is not valid. -/
theorem all_bad {l : List Img} {k : Nat} {x : Img} (hk : l[k]? = some x) (h : imgOk x = false) : l.all imgOk = false := by
  rw [List.all_eq_false]
  exact ⟨x, List.mem_of_getElem? hk, by simp [h]⟩
theorem all_good {l : List Img} (h : ∀ (k : Nat) x, l[k]? = some x → imgOk x = true) : l.all imgOk = true := by
  rw [List.all_eq_true]
  intro x hx
  obtain ⟨k, hk⟩ := List.getElem?_of_mem hx
  exact h k x hk

set_option maxHeartbeats 1000000 in
theorem indexbad_any (A : Option Addr) (c : Nat) (l : List Img) (w : World) (hs : SlAt w w.heap.size A (flat encI l)) (hl : l.length ≤ 1000000) :
    Calls Try.prog 42 #[.slice A l.length c, .func (.func 20) #[] #[]] w fun e w' => (∃ n : Int, e = .returned (.int .i64 n) ∧ decide (0 ≤ n) = !(l.all imgOk)) ∧ Below w.heap.size w w' := by
  have HSL := Lib.hid hs
  obtain ⟨len, hlen⟩ : ∃ n, l.length = n := ⟨_, rfl⟩
  have HL := Lib.hid hlen
  rw [hlen] at hl ⊢
  clear hs hlen
  go_enter Try.func42, Try.ntmps42
  go_wp2_with fail
  go_loopw [8] (fun i' wr => ∃ i : Nat, i ≤ len ∧ i' = .int .i64 i ∧ Below w.heap.size w wr ∧ Hid (∀ (k : Nat) x, k < i → l[k]? = some x → imgOk x = true)) (fun i' _ => len - (intOf i').toNat)
  case atStart => exact ⟨0, by omega, rfl, Below.refl _ _, fun k x hk => absurd hk (by omega)⟩
  case round =>
    obtain ⟨i, hi, rfl, hbel, HP⟩ := hrel
    by_cases hlt : i < len
    · obtain ⟨x, hx⟩ : ∃ x, l[i]? = some x := ⟨l[i]'(by rw [HL.out]; exact hlt), List.getElem?_eq_getElem _⟩
      obtain ⟨b, off, hA, hb, hcell⟩ := HSL.out.one (by rw [flat_length encI_length, HL.out]; omega)
      subst hA
      obtain ⟨p0, p1, p2, p3, p4, p5⟩ := img_cells (HSL.out.below hbel) rfl hx
      have hltI : (i : Int) < (len : Int) := by omega
      have h0k : (0 : Int) ≤ (i : Int) := by omega
      have HX := Lib.hid hx
      have CV := Lib.hid (fun w => bad_any x w)
      have HB : Hid (imgOk x = false → l.all imgOk = false) := fun h => all_bad hx h
      have HG : Hid (imgOk x = true → ∀ (k : Nat) y, k < i + 1 → l[k]? = some y → imgOk y = true) := fun h k y hk hy => by
        by_cases hki : k = i
        · subst hki
          rw [hx] at hy
          injection hy with hy
          subst hy
          exact h
        · exact HP.out k y (by omega) hy
      generalize hgo : imgOk x = ok at *
      obtain ⟨p, m, s, c', lb, bt⟩ := x
      rw [imV] at CV
      dsimp only at p0 p1 p2 p3 p4 p5 CV
      have hbw : b < wr.heap.size := Nat.lt_of_lt_of_le hb hbel.size
      clear hx hcell hgo
      go_wp2_with fail
      refine (CV.out _).mono ?_
      rintro e w1 ⟨rfl, hb1⟩
      cases ok with
      | true =>
        go_wp2_with fail
        go_roundw
        case rel => exact ⟨i + 1, by omega, by go_num, belowC hb1 hbel, HG.out (by first | rfl | trivial)⟩
        case measure => simp [intOf]; omega
      | false =>
        have HB2 := Lib.hid (HB.out (by first | rfl | trivial))
        go_wp2_with fail
        go_ret
        exact ⟨⟨_, rfl, by rw [HB2.out]; simp⟩, belowC hb1 hbel⟩
    · obtain rfl : i = len := by omega
      have hge : ¬ (i : Int) < (i : Int) := by omega
      have HA := Lib.hid (all_good (l := l) fun k x hx => HP.out k x (by have := (List.getElem?_eq_some_iff.1 hx).1; rw [HL.out] at this; exact this) hx)
      go_wp2_with fail
      go_ret
      exact ⟨⟨_, rfl, by rw [HA.out]; rfl⟩, hbel⟩
theorem anybad_any (A : Option Addr) (c : Nat) (l : List Img) (w : World) (hs : SlAt w w.heap.size A (flat encI l)) (hl : l.length ≤ 1000000) :
    Calls Try.prog 19 #[.slice A l.length c, .func (.func 20) #[] #[]] w fun e w' => e = .returned (.bool (!(l.all imgOk))) ∧ Below w.heap.size w w' := by
  have C := Lib.hid (indexbad_any A c l w hs hl)
  clear hs
  go_enter Try.func19, Try.ntmps19
  go_wp2_with fail
  refine C.out.mono ?_
  rintro e w1 ⟨⟨n, rfl, hn⟩, hb1⟩
  have HN := Lib.hid hn
  clear hn
  go_wp2_with fail
  go_ret
  exact ⟨ret_bool HN.out, hb1⟩

theorem in_key (n most : Int) : (n < 0 ∧ inB n most = false) ∨ (0 ≤ n ∧ most < n ∧ inB n most = false) ∨ (0 ≤ n ∧ n ≤ most ∧ inB n most = true) := by
  by_cases h0 : 0 ≤ n
  · by_cases h1 : n ≤ most
    · exact .inr (.inr ⟨h0, h1, decide_eq_true ⟨h0, h1⟩⟩)
    · exact .inr (.inl ⟨h0, by omega, decide_eq_false (by omega)⟩)
  · exact .inl ⟨by omega, decide_eq_false (by omega)⟩
set_option maxHeartbeats 1000000 in
theorem rvalid_any (x : Img) (w : World) : Calls Try.prog 29 #[imV x] w fun e w' => e = .returned (.bool (imgOk x)) ∧ Below w.heap.size w w' := by
  obtain ⟨p, m, s, c, l, b⟩ := x
  have HO : Hid (imgOk ⟨p, m, s, c, l, b⟩ = (platB p && (inB m 4 && (inB s 65535 && (inB c 65535 && inB l 4294967295))))) := rfl
  rw [imV]
  dsimp only
  go_enter Try.func29, Try.ntmps29
  go_wp2_with fail
  refine (rplat_any _ _).mono ?_
  rintro e w1 ⟨rfl, hb1⟩
  have h1 := St.call hb1 ((St.start w).alloc _ _)
  have q1 := (h1.at (i := 0) rfl).cell
  clear hb1
  cases h2 : platB p with
  | false =>
    rw [h2] at HO
    go_wp2_with fail
    go_ret
    exact ⟨ret_bool (by rw [HO.out]; first | rfl | (rw [decide_eq_false (by omega)]; rfl) | (rw [decide_eq_true (by omega)]; rfl)), h1.bel⟩
  | true =>
    rw [h2] at HO
    have hb0 := (in_key m 4)
    rcases hb0 with ⟨a0, e0⟩ | ⟨a0, b0, e0⟩ | ⟨a0, b0, e0⟩
    · rw [e0] at HO
      clear e0
      go_wp2_with fail
      go_ret
      exact ⟨ret_bool (by rw [HO.out]; first | rfl | (rw [decide_eq_false (by omega)]; rfl) | (rw [decide_eq_true (by omega)]; rfl)), h1.bel⟩
    · rw [e0] at HO
      clear e0
      go_wp2_with fail
      go_ret
      exact ⟨ret_bool (by rw [HO.out]; first | rfl | (rw [decide_eq_false (by omega)]; rfl) | (rw [decide_eq_true (by omega)]; rfl)), h1.bel⟩
    rw [e0] at HO
    clear e0
    have hb1 := (in_key s 65535)
    rcases hb1 with ⟨a1, e1⟩ | ⟨a1, b1, e1⟩ | ⟨a1, b1, e1⟩
    · rw [e1] at HO
      clear e1
      go_wp2_with fail
      go_ret
      exact ⟨ret_bool (by rw [HO.out]; first | rfl | (rw [decide_eq_false (by omega)]; rfl) | (rw [decide_eq_true (by omega)]; rfl)), h1.bel⟩
    · rw [e1] at HO
      clear e1
      go_wp2_with fail
      go_ret
      exact ⟨ret_bool (by rw [HO.out]; first | rfl | (rw [decide_eq_false (by omega)]; rfl) | (rw [decide_eq_true (by omega)]; rfl)), h1.bel⟩
    rw [e1] at HO
    clear e1
    have hb2 := (in_key c 65535)
    rcases hb2 with ⟨a2, e2⟩ | ⟨a2, b2, e2⟩ | ⟨a2, b2, e2⟩
    · rw [e2] at HO
      clear e2
      go_wp2_with fail
      go_ret
      exact ⟨ret_bool (by rw [HO.out]; first | rfl | (rw [decide_eq_false (by omega)]; rfl) | (rw [decide_eq_true (by omega)]; rfl)), h1.bel⟩
    · rw [e2] at HO
      clear e2
      go_wp2_with fail
      go_ret
      exact ⟨ret_bool (by rw [HO.out]; first | rfl | (rw [decide_eq_false (by omega)]; rfl) | (rw [decide_eq_true (by omega)]; rfl)), h1.bel⟩
    rw [e2] at HO
    clear e2
    have hb3 := (in_key l 4294967295)
    rcases hb3 with ⟨a3, e3⟩ | ⟨a3, b3, e3⟩ | ⟨a3, b3, e3⟩
    · rw [e3] at HO
      clear e3
      go_wp2_with fail
      go_ret
      exact ⟨ret_bool (by rw [HO.out]; first | rfl | (rw [decide_eq_false (by omega)]; rfl) | (rw [decide_eq_true (by omega)]; rfl)), h1.bel⟩
    · rw [e3] at HO
      clear e3
      go_wp2_with fail
      go_ret
      exact ⟨ret_bool (by rw [HO.out]; first | rfl | (rw [decide_eq_false (by omega)]; rfl) | (rw [decide_eq_true (by omega)]; rfl)), h1.bel⟩
    rw [e3] at HO
    clear e3
    go_wp2_with fail
    go_ret
    exact ⟨ret_bool (by rw [HO.out]; first | rfl | (rw [decide_eq_false (by omega)]; rfl) | (rw [decide_eq_true (by omega)]; rfl)), h1.bel⟩
end Go.Proofs.Ytjlppndlgdgekaa
