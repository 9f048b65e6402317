/-
  counts, valid and the closure of Record.
-/
import Derived.Test.YticmopgpfplbnaaSame2
import Derived.Test.YticmopgpfplbnaaApp
namespace Go.Proofs.Yticmopgpfplbnaa
open Go.RowKit
set_option linter.unusedVariables false

theorem counts_any (n : Int) (w : World) : Calls Try.prog 37 #[.int .i64 n] w fun e w' => e = .returned (.agg #[.int .i64 1, .int .i64 4, .int .i64 n, .int .i64 2]) ∧ Below w.heap.size w w' := by
  go_enter Try.func37, Try.ntmps37
  go_wp2_with fail
  exact bodyPost_ret (v := .agg #[.int .i64 1, .int .i64 4, .int .i64 n, .int .i64 2]) (by simp [results, Try.results37, go_sem]) rfl ⟨rfl, (Below.refl _ _).alloc (Nat.le_refl _) _⟩

/-- A sector of user data or of zeros, as packets have them. -/
def secB (x : Sec) : Bool := decide (-150 ≤ x.lba ∧ x.lba ≤ 449849) && (decide (x.mode = 0 ∧ x.fi = 0 ∧ x.ch = 0 ∧ x.su = 0 ∧ x.co = 0) && decide (x.data.size = 2048))

set_option maxHeartbeats 1000000 in
theorem valid_any (x : Sec) (w : World) (hn : -9223372036854775808 ≤ x.lba) (hz : x.data.size ≤ 9223372036854775807) :
    Calls Try.prog 38 #[sctV x] w fun e w' => e = .returned (.bool (secB x)) ∧ Below w.heap.size w w' := by
  obtain ⟨a, b, c, e, C, hc⟩ := tomsf_any x.lba hn
  have C := Lib.hid C
  obtain ⟨lba, mode, fi, ch, su, co, data⟩ := x
  rw [sctV]
  dsimp only at *
  have h1 : secB ⟨lba, mode, fi, ch, su, co, data⟩ = (e == 0 && (decide (mode = 0 ∧ fi = 0 ∧ ch = 0 ∧ su = 0 ∧ co = 0) && decide (data.size = 2048))) := by
    unfold secB
    dsimp only
    rcases hc with ⟨rfl, h⟩ | ⟨rfl, h⟩
    · rw [decide_eq_true h]; rfl
    · rw [decide_eq_false (by omega)]; rfl
  have HB := Lib.hid h1
  clear h1
  by_cases he : e = 0
  · subst he
    go_enter Try.func38, Try.ntmps38
    go_wp2_with fail
    refine (C.out _).mono ?_
    rintro r w1 ⟨rfl, hb1⟩
    have h1 := St.call hb1 ((St.start w).alloc _ _)
    have q1 := (h1.at (i := 0) rfl).cell
    have l1 := h1.lt (i := 0) rfl
    clear hb1
    go_wp2_with fail
    all_goals
      go_ret
      refine ⟨ret_bool ?_, (h1.other _).bel⟩
      rw [HB.out, Bool.eq_iff_iff]
      simp [*]
      try omega
  · have he' : (e == 0) = false := by rw [beq_eq_false_iff_ne]; exact he
    rw [he'] at HB
    go_enter Try.func38, Try.ntmps38
    go_wp2_with fail
    refine (C.out _).mono ?_
    rintro r w1 ⟨rfl, hb1⟩
    have h1 := St.call hb1 ((St.start w).alloc _ _)
    go_wp2_with fail
    go_ret
    exact ⟨by rw [HB.out]; rfl, (h1.other _).bel⟩

theorem info_sec : (Try.prog.info? 53).map (fun i => (i.zero, i.size, i.bytes)) = some (some (.agg #[.int .i64 0, .int .i64 0, .int .i64 0, .int .i64 0, .int .i64 0, .int .i64 0, .string ⟨#[]⟩]), 7, 64) := by kernel_rfl
/-- The next sector of Record: n stand in the row that cell go holds, the start stands in cell gs. -/
theorem add_any (d : ByteArray) (start : Int) (n c : Nat) (l : List Sec) (A : Option Addr) (base go gs : Nat) (w : World) (ho : RowAt w go 38 #[.slice A n c]) (hs : RowAt w gs 3 #[.int .i64 start])
    (hown : w.ownsRow base 53 7 (.slice A n c) n (flat encS l)) (hn : n ≤ 500000) (hs0 : 0 ≤ start) (hs1 : start ≤ 500000) (hbase : base ≤ w.heap.size) :
    Calls Try.prog 36 #[.string d, .pointer (some ⟨go, 0, none⟩), .pointer (some ⟨gs, 0, none⟩)] w fun e w' => e = .returned (.tuple #[]) ∧
      ∃ A' c' w1, w.grownBy w1 (Value.slice A n c).ownBlock ∧ w1.ownsRow base 53 7 (.slice A' (n + 1) c') (n + 1) (flat encS (l ++ [⟨start + n, 0, 0, 0, 0, 0, d⟩])) ∧ w' = w1.setCell ⟨go, 0, none⟩ (.slice A' (n + 1) c') := by
  have qo := ho.cell
  have qs := hs.cell
  have fo := ho.frozen
  have HO := Lib.hid ho
  have hfl := flat_snoc encS l ⟨start + n, 0, 0, 0, 0, 0, d⟩
  have HFL := Lib.hid hfl
  clear hfl
  go_enter Try.func36, Try.ntmps36
  go_wp2_with (at_builtin; refine wpList_appN hown info_sec Try.underlying38 rfl (by decide) (us := [.int .i64 (start + n), .int .i64 0, .int .i64 0, .int .i64 0, .int .i64 0, .int .i64 0, .string d]) rfl (by unfold maxLen; omega) (by omega) hbase (by intro u hu; simp at hu; rcases hu with rfl | rfl | rfl <;> rfl) rfl rfl (by rfl) (by rfl) ?_; intro v1 w2 hown2 hb2 hg2; have r2 := HO.out.grown hg2 (fun e => own_row_ne hown HO.out (by decide) go e.symm rfl); have q2 := r2.cell; have f2 := r2.frozen; obtain ⟨g4, cap4, hv4, hx1, hx2, hx3⟩ := own_form hown2 (Nat.succ_pos n); subst hv4)
  go_end0
  exact ⟨rfl, _, cap4, w2, hg2, by rw [HFL.out]; exact hown2, rfl⟩
end Go.Proofs.Yticmopgpfplbnaa
