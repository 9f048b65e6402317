/-
  Chapter 24: Continuation of the program.
-/
import Derived.Test.YtnomodbcpndocaaSuO
import Derived.Test.YtnomodbcpndocaaNumR
namespace Go.Proofs.Ytnomodbcpndocaa
open Go.RowKit
set_option linter.unusedVariables false

def areaB (o l : Int) : Bool := decide (0 ≤ o) && decide (o < 2048) && decide (1 ≤ l) && decide (l ≤ 2048 - o)
def contB (a o l : Int) : Bool := fitsB a 4 && areaB o l
def contE (a o l : Int) : Int := if contB a o l = true then 0 else 2
def contD (a o l : Int) : ByteArray := strBoth a 4 ++ strBoth o 4 ++ strBoth l 4
def contX (a o l : Int) : Ent := if contB a o l = true then ⟨ceS, 1, contD a o l⟩ else ⟨⟨#[]⟩, 0, ⟨#[]⟩⟩
theorem strBoth_size (n s : Int) : (strBoth n s).size ≤ 16 := by
  unfold strBoth
  split
  · have h1 := strLe_size n s
    have h2 : (strBe n s).size ≤ 8 := by rw [strBe_rev, size_mk]; simpa using h1
    rw [ByteArray.size_append]
    omega
  · simp
theorem errBoth4 (n : Int) : errBoth n 4 = if fitsB n 4 = true then 0 else 2 := by
  unfold errBoth
  rw [if_pos (by decide)]
  rfl

set_option maxHeartbeats 1000000 in
theorem isarea_any (o l : Int) (w : World) (ho : -9223372036854775808 ≤ o) (ho2 : o < 9223372036854775808) : Calls Try.prog 59 #[.int .i64 o, .int .i64 l] w fun e w' => e = .returned (.bool (areaB o l)) ∧ w = w' := by
  unfold areaB
  by_cases h1 : 0 ≤ o
  · by_cases h2 : o < 2048
    · by_cases h3 : 1 ≤ l
      · rw [decide_eq_true h1, decide_eq_true h2, decide_eq_true h3, Bool.true_and, Bool.true_and, Bool.true_and]
        go_enter Try.func59, Try.ntmps59
        go_wp2_with fail
        go_ret
        exact ⟨rfl, rfl⟩
      · rw [decide_eq_false h3, Bool.and_false, Bool.false_and]
        go_enter Try.func59, Try.ntmps59
        go_wp2_with fail
        go_ret
        exact ⟨rfl, rfl⟩
    · rw [decide_eq_false h2, Bool.and_false, Bool.false_and, Bool.false_and]
      go_enter Try.func59, Try.ntmps59
      go_wp2_with fail
      go_ret
      exact ⟨rfl, rfl⟩
  · rw [decide_eq_false h1, Bool.false_and, Bool.false_and, Bool.false_and]
    go_enter Try.func59, Try.ntmps59
    go_wp2_with fail
    go_ret
    exact ⟨rfl, rfl⟩

set_option maxRecDepth 100000 in
set_option maxHeartbeats 4000000 in
theorem continuation_any (a o l : Int) (w : World) (ha : -9223372036854775808 ≤ a ∧ a < 9223372036854775808) (ho : -9223372036854775808 ≤ o ∧ o < 9223372036854775808) (hl : l < 9223372036854775808) :
    Calls Try.prog 39 #[.agg #[.int .i64 a, .int .i64 o], .int .i64 l] w fun e w' => e = .returned (.tuple #[entV (contX a o l), .int .i64 (contE a o l)]) ∧ Below w.heap.size w w' := by
  have C1 := Lib.hid (fun w => both_any a 4 w ha.2)
  have C2 := Lib.hid (fun w => both_any o 4 w ho.2)
  have C3 := Lib.hid (fun w => both_any l 4 w hl)
  have CA := Lib.hid (fun w => isarea_any o l w ho.1 ho.2)
  have z1 := strBoth_size a 4
  have z2 := strBoth_size o 4
  have z3 := strBoth_size l 4
  rw [errBoth4] at C1
  have HSt := Lib.hid (((St.start w).new (g := w.heap.size) rfl #[.int .i64 a, .int .i64 o] 53).new (g := w.heap.size + 1) (by simp) #[.string ⟨#[]⟩, .int .i64 0, .string ⟨#[]⟩] 41)
  have HE : Hid (contE a o l = if (fitsB a 4 && areaB o l) = true then 0 else 2) := Lib.hid rfl
  have HX : Hid (contX a o l = if (fitsB a 4 && areaB o l) = true then ⟨ceS, 1, contD a o l⟩ else ⟨⟨#[]⟩, 0, ⟨#[]⟩⟩) := Lib.hid rfl
  unfold contD at HX
  generalize strBoth a 4 = S1 at *
  generalize strBoth o 4 = S2 at *
  generalize strBoth l 4 = S3 at *
  generalize errBoth o 4 = E2 at *
  generalize errBoth l 4 = E3 at *
  generalize contX a o l = X at *
  generalize contE a o l = E at *
  clear ha ho hl
  cases hf : fitsB a 4 with
  | false =>
    rw [hf] at C1 HX HE
    obtain rfl := HX.out
    obtain rfl := HE.out
    rw [if_neg (by decide)] at C1
    clear HX HE hf
    go_enter Try.func39, Try.ntmps39
    go_wp2_with fail
    refine (C1.out _).mono ?_
    rintro e w1 ⟨rfl, hb1⟩
    have h1 := Lib.hid (St.call hb1 HSt.out)
    have q := (h1.out.at (i := 0) rfl).cell
    have f := (h1.out.at (i := 0) rfl).frozen
    have hb2 := Lib.hid (((h1.out.set 0 rfl 0 (.string ⟨#[]⟩)).set 0 rfl 1 (.int .i64 0)).set 0 rfl 2 (.string ⟨#[]⟩)).bel
    clear hb1
    go_wp2_with fail
    refine bodyPost_ret (v := .tuple #[entV ⟨⟨#[]⟩, 0, ⟨#[]⟩⟩, .int .i64 2]) (by simp [entV, results, Try.results39, go_sem, q]) rfl ⟨rfl, hb2.out⟩
  | true =>
    rw [hf, Bool.true_and] at HX HE
    rw [hf, if_pos rfl] at C1
    cases hA : areaB o l with
    | false =>
      rw [hA] at CA HX HE
      obtain rfl := HX.out
      obtain rfl := HE.out
      clear HX HE hf hA
      go_enter Try.func39, Try.ntmps39
      go_wp2_with fail
      refine (C1.out _).mono ?_
      rintro e w1 ⟨rfl, hb1⟩
      have h1 := Lib.hid (St.call hb1 HSt.out)
      have q := (h1.out.at (i := 0) rfl).cell
      have f := (h1.out.at (i := 0) rfl).frozen
      have q0 := (h1.out.at (i := 1) rfl).cell
      have hb2 := Lib.hid (((h1.out.set 0 rfl 0 (.string ⟨#[]⟩)).set 0 rfl 1 (.int .i64 0)).set 0 rfl 2 (.string ⟨#[]⟩)).bel
      clear hb1
      go_wp2_with fail
      refine (CA.out _).mono ?_
      rintro e w2 ⟨rfl, rfl⟩
      go_wp2_with fail
      refine bodyPost_ret (v := .tuple #[entV ⟨⟨#[]⟩, 0, ⟨#[]⟩⟩, .int .i64 2]) (by simp [entV, results, Try.results39, go_sem, q]) rfl ⟨rfl, hb2.out⟩
    | true =>
      rw [hA] at CA HX HE
      obtain rfl := HX.out
      obtain rfl := HE.out
      clear HX HE hf hA
      go_enter Try.func39, Try.ntmps39
      go_wp2_with fail
      refine (C1.out _).mono ?_
      rintro e w1 ⟨rfl, hb1⟩
      have h1 := Lib.hid (St.call hb1 HSt.out)
      have q0 := (h1.out.at (i := 1) rfl).cell
      clear hb1 C1
      go_wp2_with fail
      refine (CA.out _).mono ?_
      rintro e w2 ⟨rfl, rfl⟩
      go_wp2_with fail
      refine (C2.out _).mono ?_
      rintro e w2 ⟨rfl, hb2⟩
      have h2 := Lib.hid (St.call hb2 h1.out)
      clear hb2 C2 q0
      go_wp2_with fail
      refine (C3.out _).mono ?_
      rintro e w3 ⟨rfl, hb3⟩
      have h3 := Lib.hid (St.call hb3 h2.out)
      clear hb3 C3
      have q := (h3.out.at (i := 0) rfl).cell
      have f := (h3.out.at (i := 0) rfl).frozen
      have hb2 := Lib.hid (((h3.out.set 0 rfl 0 (.string ⟨#[67, 69]⟩)).set 0 rfl 1 (.int .i64 1)).set 0 rfl 2 (.string (S1 ++ S2 ++ S3))).bel
      go_wp2_with fail
      refine bodyPost_ret (v := .tuple #[entV ⟨ceS, 1, S1 ++ S2 ++ S3⟩, .int .i64 0]) (by simp [entV, ceS, results, Try.results39, go_sem, q]) rfl ⟨rfl, hb2.out⟩
end Go.Proofs.Ytnomodbcpndocaa
