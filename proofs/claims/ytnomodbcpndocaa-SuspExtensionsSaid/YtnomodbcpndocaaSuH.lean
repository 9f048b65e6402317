/-
  Chapter 24: Indicator of both.
-/
import Derived.Test.YtnomodbcpndocaaSuG
namespace Go.Proofs.Ytnomodbcpndocaa
open Go.RowKit
set_option linter.unusedVariables false

def spD (n : Int) : ByteArray := ⟨[190, 239, UInt8.ofNat n.toNat].toArray⟩
/-- The indicator's entry, and its error. -/
def indE (n : Int) : Ent := if n < 0 ∨ 255 < n then ⟨⟨#[]⟩, 0, ⟨#[]⟩⟩ else ⟨⟨#[83, 80]⟩, 1, spD n⟩
def indN (n : Int) : Int := if n < 0 ∨ 255 < n then 2 else 0
def entV (x : Ent) : Value := .agg #[.string x.sg, .int .i64 x.v, .string x.d]

set_option maxRecDepth 100000 in
set_option maxHeartbeats 1000000 in
theorem indicator_any (n : Int) (w : World) : Calls Try.prog 24 #[.int .i64 n] w fun e w' => e = .returned (.tuple #[entV (indE n), .int .i64 (indN n)]) ∧ Below w.heap.size w w' := by
  unfold indE indN
  by_cases h : n < 0 ∨ 255 < n
  · rw [if_pos h, if_pos h]
    by_cases h1 : n < 0
    · clear h
      go_enter Try.func24, Try.ntmps24
      go_wp2_with fail
      refine bodyPost_ret (v := .tuple #[entV ⟨⟨#[]⟩, 0, ⟨#[]⟩⟩, .int .i64 2]) (by simp [entV, results, Try.results24, go_sem]) rfl ⟨rfl, (Below.refl _ _).alloc (Nat.le_refl _) _⟩
    · have h2 : 255 < n := by omega
      clear h
      go_enter Try.func24, Try.ntmps24
      go_wp2_with fail
      refine bodyPost_ret (v := .tuple #[entV ⟨⟨#[]⟩, 0, ⟨#[]⟩⟩, .int .i64 2]) (by simp [entV, results, Try.results24, go_sem]) rfl ⟨rfl, (Below.refl _ _).alloc (Nat.le_refl _) _⟩
  · rw [if_neg h, if_neg h]
    have h1 : ¬ n < 0 := by omega
    have h2 : ¬ 255 < n := by omega
    obtain ⟨b, hb, hb2⟩ := byte_ex (show 0 ≤ n by omega) (by omega)
    have hD : spD n = ⟨[190, 239, b].toArray⟩ := by unfold spD; rw [hb2]
    rw [hD]
    subst hb
    have hbw := byte_wrap b
    clear h hb2 hD
    have hr := RowAt.new (w.alloc (.cells #[.string ⟨#[]⟩, .int .i64 0, .string ⟨#[]⟩] 41)) 5 #[.int .u8 190, .int .u8 239, .int .u8 (b.toNat : Int)]
    have hsz1 : (w.alloc (.cells #[.string ⟨#[]⟩, .int .i64 0, .string ⟨#[]⟩] 41)).heap.size = w.heap.size + 1 := by simp
    rw [hsz1] at hr
    have hcv := run_bytes_row (cap := 3) Try.underlying70 Try.underlying5 Try.underlying9 [190, 239, b] hr rfl 3 rfl
    clear hr hsz1
    go_enter Try.func24, Try.ntmps24
    go_wp2_with fail
    refine bodyPost_ret (v := .tuple #[entV ⟨⟨#[83, 80]⟩, 1, ⟨[190, 239, b].toArray⟩⟩, .int .i64 0]) (by simp [entV, results, Try.results24, go_sem]) rfl ⟨rfl, ?_⟩
    exact (((Below.refl _ _).alloc (Nat.le_refl _) _).alloc (by simp) _)
set_option maxRecDepth 100000 in
set_option maxHeartbeats 1000000 in
theorem rindicator_any (n : Int) (w : World) : Calls Try.prog 25 #[.int .i64 n] w fun e w' => e = .returned (.tuple #[entV (indE n), .int .i64 (indN n)]) ∧ Below w.heap.size w w' := by
  unfold indE indN
  by_cases h : n < 0 ∨ 255 < n
  · rw [if_pos h, if_pos h]
    by_cases h1 : n < 0
    · clear h
      go_enter Try.func25, Try.ntmps25
      go_wp2_with fail
      refine bodyPost_ret (v := .tuple #[entV ⟨⟨#[]⟩, 0, ⟨#[]⟩⟩, .int .i64 2]) (by simp [entV, results, Try.results25, go_sem]) rfl ⟨rfl, (Below.refl _ _).alloc (Nat.le_refl _) _⟩
    · have h2 : 255 < n := by omega
      clear h
      go_enter Try.func25, Try.ntmps25
      go_wp2_with fail
      refine bodyPost_ret (v := .tuple #[entV ⟨⟨#[]⟩, 0, ⟨#[]⟩⟩, .int .i64 2]) (by simp [entV, results, Try.results25, go_sem]) rfl ⟨rfl, (Below.refl _ _).alloc (Nat.le_refl _) _⟩
  · rw [if_neg h, if_neg h]
    have h1 : ¬ n < 0 := by omega
    have h2 : ¬ 255 < n := by omega
    obtain ⟨b, hb, hb2⟩ := byte_ex (show 0 ≤ n by omega) (by omega)
    have hD : spD n = ⟨[190, 239, b].toArray⟩ := by unfold spD; rw [hb2]
    rw [hD]
    subst hb
    have hbw := byte_wrap b
    clear h hb2 hD
    have hr := RowAt.new (w.alloc (.cells #[.string ⟨#[]⟩, .int .i64 0, .string ⟨#[]⟩] 41)) 5 #[.int .u8 (b.toNat : Int)]
    have hsz1 : (w.alloc (.cells #[.string ⟨#[]⟩, .int .i64 0, .string ⟨#[]⟩] 41)).heap.size = w.heap.size + 1 := by simp
    rw [hsz1] at hr
    have hcv := run_bytes_row (cap := 1) Try.underlying70 Try.underlying5 Try.underlying9 [b] hr rfl 1 rfl
    clear hr hsz1
    have hap : (⟨#[190, 239]⟩ : ByteArray) ++ ⟨#[b]⟩ = ⟨#[190, 239, b]⟩ := mk_append [190, 239] [b]
    go_enter Try.func25, Try.ntmps25
    go_wp2_with fail
    refine bodyPost_ret (v := .tuple #[entV ⟨⟨#[83, 80]⟩, 1, ⟨[190, 239, b].toArray⟩⟩, .int .i64 0]) (by simp [entV, results, Try.results25, go_sem]) rfl ⟨rfl, ?_⟩
    exact (((Below.refl _ _).alloc (Nat.le_refl _) _).alloc (by simp) _)
end Go.Proofs.Ytnomodbcpndocaa
