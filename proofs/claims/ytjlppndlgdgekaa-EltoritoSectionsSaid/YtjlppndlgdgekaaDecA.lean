/-
  Decode of the program, for each string.
-/
import Derived.Test.YtjlppndlgdgekaaDecode
namespace Go.Proofs.Ytjlppndlgdgekaa
open Go.RowKit Go.Shelf
set_option linter.unusedVariables false
attribute [local go_sem] Oper.semAt_some

set_option maxRecDepth 100000 in
theorem decode_any (s : ByteArray) (w : World) : Calls Try.prog 13 #[.string s] w (DecRes s w) := by
  by_cases hs : s.size = 2048
  · exact decode_go s w hs
  · have hsI : ((s.size : Int) != 2048) = true := by rw [bne_iff_ne]; omega
    have HR : Hid (decR s.data.toList = (1, [])) := Lib.hid (by unfold decR; rw [if_pos (by simp; omega)])
    clear hs
    have hr0 := ((St.start w).new (g := w.heap.size) rfl #[.slice none 0 0] 22).new (g := w.heap.size + 1) (by simp) #[.int .i64 1] 24
    have q0 := (hr0.at (i := 1) rfl).cell 0
    have q1 := (hr0.at (i := 0) rfl).cell 0
    refine (callsIn_wide (n := 5)).1 ?_
    refine callsIn_of_wp_marks Try.func13 rfl trivial ?_ rfl
    simp only [Try.ntmps13, List.size_toArray, List.length_cons, List.length_nil, Nat.reduceAdd, Nat.reduceSub, Array.replicate_succ, Array.replicate_zero, List.push_toArray, List.append_toArray, List.nil_append, List.cons_append]
    gi_wp2
    refine ⟨.tuple #[dZ, .int .i64 1], ?_, hr0.bel, none, 0, ?_, ?_⟩
    · simp [results, Try.f13, go_sem, q0, q1]
    · rw [HR.out]; rfl
    · rw [HR.out]; exact SlAt.nil _ _ _
end Go.Proofs.Ytjlppndlgdgekaa
