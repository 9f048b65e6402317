/-
  Chapter 24: Reference of both. Printed by gen_sui.py.
-/
import Derived.Test.YtnomodbcpndocaaSuH
namespace Go.Proofs.Ytnomodbcpndocaa
open Go.RowKit
set_option linter.unusedVariables false

def refD (i d s : ByteArray) (n : Int) : ByteArray := ⟨[UInt8.ofNat i.size, UInt8.ofNat d.size, UInt8.ofNat s.size, UInt8.ofNat n.toNat].toArray⟩ ++ i ++ d ++ s
def refN (i d s : ByteArray) (n : Int) : Int := if n < 0 ∨ 255 < n then 2 else if 247 < i.size + d.size + s.size then 7 else 0
def refE (i d s : ByteArray) (n : Int) : Ent := if refN i d s n = 0 then ⟨⟨#[69, 82]⟩, 1, refD i d s n⟩ else ⟨⟨#[]⟩, 0, ⟨#[]⟩⟩
theorem byteV_nat {n : Nat} (h : n ≤ 255) : byteV (UInt8.ofNat n) = .int .u8 (n : Int) := by
  unfold byteV
  congr 1
  rw [UInt8.toNat_ofNat']
  omega

set_option maxRecDepth 100000 in
set_option maxHeartbeats 2000000 in
theorem reference_any (i d s : ByteArray) (n : Int) (w : World) (hs : i.size + d.size + s.size ≤ 1000000) : Calls Try.prog 28 #[.string i, .string d, .string s, .int .i64 n] w fun e w' => e = .returned (.tuple #[entV (refE i d s n), .int .i64 (refN i d s n)]) ∧ Below w.heap.size w w' := by
  by_cases h : n < 0 ∨ 255 < n
  · have hN : refN i d s n = 2 := by unfold refN; rw [if_pos h]
    have hE : refE i d s n = ⟨⟨#[]⟩, 0, ⟨#[]⟩⟩ := by unfold refE; rw [hN, if_neg (by decide)]
    rw [hN, hE]
    clear hN hE
    by_cases h1 : n < 0
    · clear h
      go_enter Try.func28, Try.ntmps28
      go_wp2_with fail
      refine bodyPost_ret (v := .tuple #[entV ⟨⟨#[]⟩, 0, ⟨#[]⟩⟩, .int .i64 2]) (by simp [entV, results, Try.results28, go_sem]) rfl ⟨rfl, (Below.refl _ _).alloc (Nat.le_refl _) _⟩
    · have h2 : 255 < n := by omega
      clear h
      go_enter Try.func28, Try.ntmps28
      go_wp2_with fail
      refine bodyPost_ret (v := .tuple #[entV ⟨⟨#[]⟩, 0, ⟨#[]⟩⟩, .int .i64 2]) (by simp [entV, results, Try.results28, go_sem]) rfl ⟨rfl, (Below.refl _ _).alloc (Nat.le_refl _) _⟩
  · have h1 : ¬ n < 0 := by omega
    have h2 : ¬ 255 < n := by omega
    have w1 : IntKind.i64.wrap ((i.size : Int) + (d.size : Int)) = (i.size : Int) + (d.size : Int) := IntWalk.i64_in _ (by omega)
    have w2 : IntKind.i64.wrap ((i.size : Int) + (d.size : Int) + (s.size : Int)) = (i.size : Int) + (d.size : Int) + (s.size : Int) := IntWalk.i64_in _ (by omega)
    by_cases h3 : 247 < i.size + d.size + s.size
    · have hN : refN i d s n = 7 := by unfold refN; rw [if_neg h, if_pos h3]
      have hE : refE i d s n = ⟨⟨#[]⟩, 0, ⟨#[]⟩⟩ := by unfold refE; rw [hN, if_neg (by decide)]
      rw [hN, hE]
      have h4 : (247 : Int) < (i.size : Int) + (d.size : Int) + (s.size : Int) := by omega
      clear hN hE h3
      go_enter Try.func28, Try.ntmps28
      go_wp2_with fail
      refine bodyPost_ret (v := .tuple #[entV ⟨⟨#[]⟩, 0, ⟨#[]⟩⟩, .int .i64 7]) (by simp [entV, results, Try.results28, go_sem]) rfl ⟨rfl, (Below.refl _ _).alloc (Nat.le_refl _) _⟩
    · have hN : refN i d s n = 0 := by unfold refN; rw [if_neg h, if_neg h3]
      have hE : refE i d s n = ⟨⟨#[69, 82]⟩, 1, refD i d s n⟩ := by unfold refE; rw [hN, if_pos rfl]
      rw [hN, hE]
      have h4 : ¬ (247 : Int) < (i.size : Int) + (d.size : Int) + (s.size : Int) := by omega
      have w3 : IntKind.u8.wrap (i.size : Int) = (i.size : Int) := by rw [IntKind.wrap_u8]; omega
      have w4 : IntKind.u8.wrap (d.size : Int) = (d.size : Int) := by rw [IntKind.wrap_u8]; omega
      have w5 : IntKind.u8.wrap (s.size : Int) = (s.size : Int) := by rw [IntKind.wrap_u8]; omega
      have w6 : IntKind.u8.wrap n = n := by rw [IntKind.wrap_u8]; omega
      have hr := RowAt.new (w.alloc (.cells #[.string ⟨#[]⟩, .int .i64 0, .string ⟨#[]⟩] 41)) 5 #[.int .u8 (i.size : Int), .int .u8 (d.size : Int), .int .u8 (s.size : Int), .int .u8 n]
      have hsz1 : (w.alloc (.cells #[.string ⟨#[]⟩, .int .i64 0, .string ⟨#[]⟩] 41)).heap.size = w.heap.size + 1 := by simp
      rw [hsz1] at hr
      obtain ⟨L, hL⟩ : ∃ L : ByteArray, (⟨[UInt8.ofNat i.size, UInt8.ofNat d.size, UInt8.ofNat s.size, UInt8.ofNat n.toNat].toArray⟩ : ByteArray) = L := ⟨_, rfl⟩
      have hcv := run_bytes_row (cap := 4) Try.underlying70 Try.underlying5 Try.underlying9 [UInt8.ofNat i.size, UInt8.ofNat d.size, UInt8.ofNat s.size, UInt8.ofNat n.toNat] hr (by
        simp only [List.map_cons, List.map_nil]
        rw [byteV_nat (by omega), byteV_nat (by omega), byteV_nat (by omega), byteV_nat (by omega), Int.toNat_of_nonneg (by omega)]
        rfl) 4 rfl
      have hLz : L.size = 4 := by rw [← hL]; rfl
      unfold refD
      rw [hL] at hcv ⊢
      clear hr hsz1 hN hE hL h3
      go_enter Try.func28, Try.ntmps28
      go_wp2_with fail
      refine bodyPost_ret (v := .tuple #[entV ⟨⟨#[69, 82]⟩, 1, L ++ i ++ d ++ s⟩, .int .i64 0]) (by simp [entV, results, Try.results28, go_sem]) rfl ⟨rfl, ?_⟩
      exact (((Below.refl _ _).alloc (Nat.le_refl _) _).alloc (by simp) _)

set_option maxRecDepth 100000 in
set_option maxHeartbeats 2000000 in
theorem rreference_any (i d s : ByteArray) (n : Int) (w : World) (hs : i.size + d.size + s.size ≤ 1000000) : Calls Try.prog 29 #[.string i, .string d, .string s, .int .i64 n] w fun e w' => e = .returned (.tuple #[entV (refE i d s n), .int .i64 (refN i d s n)]) ∧ Below w.heap.size w w' := by
  by_cases h : n < 0 ∨ 255 < n
  · have hN : refN i d s n = 2 := by unfold refN; rw [if_pos h]
    have hE : refE i d s n = ⟨⟨#[]⟩, 0, ⟨#[]⟩⟩ := by unfold refE; rw [hN, if_neg (by decide)]
    rw [hN, hE]
    clear hN hE
    by_cases h1 : n < 0
    · clear h
      go_enter Try.func29, Try.ntmps29
      go_wp2_with fail
      refine bodyPost_ret (v := .tuple #[entV ⟨⟨#[]⟩, 0, ⟨#[]⟩⟩, .int .i64 2]) (by simp [entV, results, Try.results29, go_sem]) rfl ⟨rfl, (Below.refl _ _).alloc (Nat.le_refl _) _⟩
    · have h2 : 255 < n := by omega
      clear h
      go_enter Try.func29, Try.ntmps29
      go_wp2_with fail
      refine bodyPost_ret (v := .tuple #[entV ⟨⟨#[]⟩, 0, ⟨#[]⟩⟩, .int .i64 2]) (by simp [entV, results, Try.results29, go_sem]) rfl ⟨rfl, (Below.refl _ _).alloc (Nat.le_refl _) _⟩
  · have h1 : ¬ n < 0 := by omega
    have h2 : ¬ 255 < n := by omega
    have w1 : IntKind.i64.wrap ((i.size : Int) + (d.size : Int)) = (i.size : Int) + (d.size : Int) := IntWalk.i64_in _ (by omega)
    have w2 : IntKind.i64.wrap ((i.size : Int) + (d.size : Int) + (s.size : Int)) = (i.size : Int) + (d.size : Int) + (s.size : Int) := IntWalk.i64_in _ (by omega)
    by_cases h3 : 247 < i.size + d.size + s.size
    · have hN : refN i d s n = 7 := by unfold refN; rw [if_neg h, if_pos h3]
      have hE : refE i d s n = ⟨⟨#[]⟩, 0, ⟨#[]⟩⟩ := by unfold refE; rw [hN, if_neg (by decide)]
      rw [hN, hE]
      have h4 : (247 : Int) < (i.size : Int) + (d.size : Int) + (s.size : Int) := by omega
      clear hN hE h3
      go_enter Try.func29, Try.ntmps29
      go_wp2_with fail
      refine bodyPost_ret (v := .tuple #[entV ⟨⟨#[]⟩, 0, ⟨#[]⟩⟩, .int .i64 7]) (by simp [entV, results, Try.results29, go_sem]) rfl ⟨rfl, (Below.refl _ _).alloc (Nat.le_refl _) _⟩
    · have hN : refN i d s n = 0 := by unfold refN; rw [if_neg h, if_neg h3]
      have hE : refE i d s n = ⟨⟨#[69, 82]⟩, 1, refD i d s n⟩ := by unfold refE; rw [hN, if_pos rfl]
      rw [hN, hE]
      have h4 : ¬ (247 : Int) < (i.size : Int) + (d.size : Int) + (s.size : Int) := by omega
      have w3 : IntKind.u8.wrap (i.size : Int) = (i.size : Int) := by rw [IntKind.wrap_u8]; omega
      have w4 : IntKind.u8.wrap (d.size : Int) = (d.size : Int) := by rw [IntKind.wrap_u8]; omega
      have w5 : IntKind.u8.wrap (s.size : Int) = (s.size : Int) := by rw [IntKind.wrap_u8]; omega
      have w6 : IntKind.u8.wrap n = n := by rw [IntKind.wrap_u8]; omega
      have hr := RowAt.new (w.alloc (.cells #[.string ⟨#[]⟩, .int .i64 0, .string ⟨#[]⟩] 41)) 5 #[.int .u8 (i.size : Int), .int .u8 (d.size : Int), .int .u8 (s.size : Int), .int .u8 n]
      have hsz1 : (w.alloc (.cells #[.string ⟨#[]⟩, .int .i64 0, .string ⟨#[]⟩] 41)).heap.size = w.heap.size + 1 := by simp
      rw [hsz1] at hr
      obtain ⟨L, hL⟩ : ∃ L : ByteArray, (⟨[UInt8.ofNat i.size, UInt8.ofNat d.size, UInt8.ofNat s.size, UInt8.ofNat n.toNat].toArray⟩ : ByteArray) = L := ⟨_, rfl⟩
      have hcv := run_bytes_row (cap := 4) Try.underlying70 Try.underlying5 Try.underlying9 [UInt8.ofNat i.size, UInt8.ofNat d.size, UInt8.ofNat s.size, UInt8.ofNat n.toNat] hr (by
        simp only [List.map_cons, List.map_nil]
        rw [byteV_nat (by omega), byteV_nat (by omega), byteV_nat (by omega), byteV_nat (by omega), Int.toNat_of_nonneg (by omega)]
        rfl) 4 rfl
      have hLz : L.size = 4 := by rw [← hL]; rfl
      unfold refD
      rw [hL] at hcv ⊢
      clear hr hsz1 hN hE hL h3
      go_enter Try.func29, Try.ntmps29
      go_wp2_with fail
      refine bodyPost_ret (v := .tuple #[entV ⟨⟨#[69, 82]⟩, 1, L ++ i ++ d ++ s⟩, .int .i64 0]) (by simp [entV, results, Try.results29, go_sem]) rfl ⟨rfl, ?_⟩
      exact (((Below.refl _ _).alloc (Nat.le_refl _) _).alloc (by simp) _)
end Go.Proofs.Ytnomodbcpndocaa
