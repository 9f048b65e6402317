/-
  Chapter 52: slices.Repeat of a slice of one string.
-/
import Derived.Test.YtdmdfpdigoijoaaPwX
import Derived.Laws.CopyOwn
import Derived.Laws.Bits64b
import Derived.Deep.RegionLaw
namespace Go.Proofs.Ytdmdfpdigoijoaa
open Go.RowKit
set_option linter.unusedVariables false

theorem mask_n (n : Nat) (h : n ≤ 1000000) : bits .and .u64 (n : Int) 4294967295 = (n : Int) := by
  have h := bits_and_u64_nat n 4294967295 (by omega) (by omega)
  have e : n &&& 4294967295 = n % 4294967296 := Nat.and_two_pow_sub_one_eq_mod n 32
  rw [e, Nat.mod_eq_of_lt (by omega)] at h
  exact h
theorem mul64_one (n : Nat) (h : n ≤ 1000000) (w : World) : Calls Try.prog 87 #[.int .u64 1, .int .u64 (n : Int)] w fun e w' => e = .returned (.tuple #[.int .u64 0, .int .u64 (n : Int)]) ∧ w' = w := by
  have e1 := mask_n n h
  have e2 : bits .and .u64 1 4294967295 = 1 := by decide
  have e3 : (n : Int) / 4294967296 = 0 := by omega
  have e4 : IntKind.u64.wrap (n : Int) = (n : Int) := by rw [IntKind.wrap_u64]; omega
  have e5 : bits .and .u64 0 4294967295 = 0 := by decide
  go_enter Try.func87, Try.ntmps87
  go_wp2
  go_ret2
  exact ⟨rfl, rfl⟩
theorem mul_one (n : Nat) (h : n ≤ 1000000) (w : World) : Calls Try.prog 77 #[.int .u64 1, .int .u64 (n : Int)] w fun e w' => e = .returned (.tuple #[.int .u64 0, .int .u64 (n : Int)]) ∧ w' = w := by
  have c := mul64_one n h w
  go_enter Try.func77, Try.ntmps77
  go_wp2_with fail
  refine c.mono ?_
  rintro e w' ⟨rfl, rfl⟩
  go_wp2_with fail
  go_ret2
  exact ⟨rfl, rfl⟩

/-- The row of n strings of which the first m are s. -/
def rv (s : ByteArray) (n m : Nat) : List Value := List.replicate m (.string s) ++ List.replicate (n - m) (.string blankS)
theorem rv_length (s : ByteArray) (n m : Nat) (h : m ≤ n) : (rv s n m).length = n := by simp [rv]; omega
theorem rv_zero (s : ByteArray) (n : Nat) : rv s n 0 = List.replicate n (.string blankS) := by simp [rv]
theorem rv_full (s : ByteArray) (n : Nat) : rv s n n = strV (List.replicate n s) := by simp [rv, strV]
theorem rv_get (s : ByteArray) (n m j : Nat) (h : j < m) : (rv s n m)[j]? = some (.string s) := by
  unfold rv
  rw [List.getElem?_append_left (by simpa using h), List.getElem?_replicate, if_pos h]
theorem rv_splice (s : ByteArray) (n m k : Nat) (h : m + k ≤ n) : splice (rv s n m) m (List.replicate k (.string s)) = rv s n (m + k) := by
  unfold splice rv
  rw [List.take_append_of_le_length (by simp), List.take_of_length_le (by simp), List.drop_append, List.drop_of_length_le (by simp), List.drop_replicate, ← List.append_assoc, List.replicate_append_replicate]
  simp
  omega
theorem rv_made (n : Nat) (s : ByteArray) : (madeCells #[.string blankS] (n * 1)).toList = rv s n 0 := by
  rw [rv_zero, toList_madeCells_one, Nat.mul_one]
theorem own_row_full {w : World} {base g n : Nat} {e : TypeId} {xs : List Value} (h : w.ownsRow base e 1 (.slice (some ⟨g, 0, none⟩) n n) n xs) : w.heap[g]? = some (.cells xs.toArray e (0, 0)) := by
  rcases h.2 with ⟨h, _⟩ | ⟨g', cap, cur, hv, hb, hh, hc, hm, hs, ht⟩
  · cases h
  · injection hv with h1 _ h3
    injection h1 with h1
    injection h1 with h1
    subst h1 h3
    rw [List.take_of_length_le (by rw [Array.length_toList, hs]; exact Nat.le_refl _)] at ht
    rw [← ht]
    exact hh
set_option maxHeartbeats 1000000 in
set_option maxRecDepth 100000 in
theorem repeat_any (b off c n : Nat) (s : ByteArray) (w : World) (hc : w.cell? ⟨b, off, none⟩ = some (.string s)) (hlt : b < w.heap.size) (hn : n ≤ 1000000) :
    Calls Try.prog 56 #[.slice (some ⟨b, off, none⟩) 1 c, .int .i64 (n : Int)] w fun e w' => e = .returned (.slice (some ⟨w.heap.size, 0, none⟩) n n) ∧ w'.ownsRow w.heap.size 9 1 (.slice (some ⟨w.heap.size, 0, none⟩) n n) n (strV (List.replicate n s)) ∧ Below w.heap.size w w' := by
  obtain ⟨i0, hi, hz0, hz1, hz2⟩ := info_parts info_str
  have HC := Lib.hid hc
  obtain ⟨g, hg⟩ : ∃ g, w.heap.size = g := ⟨_, rfl⟩
  have e4 : IntKind.u64.wrap (n : Int) = (n : Int) := by rw [IntKind.wrap_u64]; omega
  have e5 : IntKind.i64.wrap (n : Int) = (n : Int) := IntWalk.i64_in _ (by omega)
  have cm := mul_one n hn
  go_enter Try.func56, Try.ntmps56
  go_wp2_with fail
  refine (cm _).mono ?_
  rintro e w1 ⟨rfl, rfl⟩
  obtain ⟨k0, hk0⟩ : ∃ k0, Nat.min 1 n = k0 := ⟨_, rfl⟩
  have HK0 : Hid (k0 ≤ n ∧ k0 ≤ 1 ∧ (0 < n → 0 < k0)) := Lib.hid (by rw [← hk0]; simp only [Nat.min_def]; split <;> omega)
  have HK1 := Lib.hid hk0
  clear hk0
  obtain ⟨cs0, hcs0⟩ : ∃ cs0, cs0 = List.replicate k0 (Value.string s) := ⟨_, rfl⟩
  have HCS := Lib.hid hcs0
  clear hcs0
  go_wp2_with first
    | (at_make; refine wpList_make_full _ rfl _ _ _ rfl w1.heap.size 9 i0 _ 1 Try.underlying22 hi hz0 hz1 _ _ _ _ n rfl rfl rfl rfl (by rw [hz2]; omega) (by unfold maxLen; omega) (Nat.le_refl _) ?_; intro w2 hown2 hg2; have HR2 : Hid (w2.heap[g]? = some (.cells (rv s n 0).toArray 9 (0, 0))) := Lib.hid (by have h := own_row_full hown2; rw [hg] at h; exact (rv_made n s) ▸ h); have HB2 := Lib.hid (below_of_grown hg2 (Nat.le_refl w1.heap.size) (by intro k hk; cases hk)); clear cm hown2 hg2)
    | (with_reducible refine wpList_copy_splice (o := ⟨some 33, _, _, _, _, _⟩) rfl _ _ _ _ rfl 9 Try.underlying22 (by kernel_rfl) _ _ _ _ _ _ rfl rfl g 0 (rv s n 0) 9 HR2.out cs0 (by rw [HCS.out, List.length_replicate, HK1.out]) (fun _ => ⟨rfl, _, rfl, ?_⟩) ?_ ?_ g w1 (by rw [← hg]; exact HB2.out) (Nat.le_refl _) ?_)
  case refine_1 =>
    intro j v hv
    rw [HCS.out, List.getElem?_replicate] at hv
    by_cases hj : j < k0
    · have hj0 : j = 0 := by have := HK0.out; omega
      subst hj0
      rw [if_pos hj] at hv
      injection hv with hv
      subst hv
      have hadd : (⟨b, off, none⟩ : Addr).add 0 = ⟨b, off, none⟩ := rfl
      rw [hadd]
      exact (HB2.out.cell (p := ⟨b, off, none⟩) hlt).trans HC.out
    · rw [if_neg hj] at hv; cases hv
  case refine_2 => rw [rv_length s n 0 (Nat.zero_le _), HCS.out, List.length_replicate]; have := HK0.out; omega
  case refine_3 => intro v hv; rw [HCS.out] at hv; obtain rfl := List.eq_of_mem_replicate hv; rfl
  intro w3 hg3 hb3
  have HL : Hid (cs0.length = k0) := Lib.hid (by rw [HCS.out, List.length_replicate])
  have HR3 : Hid (w3.heap[g]? = some (.cells (rv s n k0).toArray 9 (0, 0))) := Lib.hid (by have := hg3.out; rw [HCS.out, rv_splice s n 0 k0 (by have := HK0.out; omega), Nat.zero_add] at this; exact this)
  rw [HL.out]
  clear hg3 HR2 HB2
  have HB3 := Lib.hid hb3
  clear hb3 hc e4 e5
  go_wp2_with fail
  go_loopw [8] (fun v wr => ∃ m : Nat, m ≤ n ∧ Hid (0 < n → 0 < m) ∧ v = .int .i64 m ∧ Hid (wr.heap[g]? = some (.cells (rv s n m).toArray 9 (0, 0))) ∧ Below g w1 wr) (fun v _ => n - (intOf v).toNat)
  case atStart => exact ⟨k0, HK0.out.1, Lib.hid HK0.out.2.2, rfl, HR3, HB3.out⟩
  case round =>
    obtain ⟨m, hm, HM, rfl, HRR, hb⟩ := hrel
    by_cases hlt2 : m < n
    · have hltI : (m : Int) < (n : Int) := by omega
      have h0m : (0 : Int) ≤ (m : Int) := by omega
      go_wp2_with fail
      obtain ⟨k, hk⟩ : ∃ k, Nat.min m (n - m) = k := ⟨_, rfl⟩
      have HK : Hid (m + k ≤ n ∧ 0 < k ∧ k ≤ m) := Lib.hid (by have := HM.out; rw [← hk]; simp only [Nat.min_def]; split <;> omega)
      obtain ⟨cs, hcs⟩ : ∃ cs, cs = List.replicate k (Value.string s) := ⟨_, rfl⟩
      have HC2 := Lib.hid hcs
      have hcl : cs.length = Nat.min m (n - m) := by rw [hcs, List.length_replicate, hk]
      have HLEN := Lib.hid hcl
      have HSRC : Hid (∀ j v, cs[j]? = some v → wr.cell? ((⟨g, 0, none⟩ : Addr).add j) = some v) := Lib.hid (by
        intro j v hv
        rw [hcs, List.getElem?_replicate] at hv
        by_cases hj : j < k
        · rw [if_pos hj] at hv
          injection hv with hv
          subst hv
          have hadd : (⟨g, 0, none⟩ : Addr).add j = ⟨g, 0 + j, none⟩ := by unfold Addr.add; split <;> simp_all
          rw [hadd, Nat.zero_add, cell_of_row wr g j _ _ _ HRR.out, List.getElem?_toArray]
          exact rv_get s n m j (by have := HK.out; omega)
        · rw [if_neg hj] at hv; cases hv)
      have HFIT : Hid (m + cs.length ≤ (rv s n m).length) := Lib.hid (by rw [rv_length s n m hm, hcs, List.length_replicate]; exact HK.out.1)
      have HONE : Hid (∀ v ∈ cs, v.oneCell' = true) := Lib.hid (by intro v hv; rw [hcs] at hv; obtain rfl := List.eq_of_mem_replicate hv; rfl)
      have HBB := Lib.hid hb
      have hsum : IntKind.i64.wrap ((m : Int) + (k : Int)) = ((m + k : Nat) : Int) := by rw [IntWalk.i64_in _ (by have := HK.out; omega)]; omega
      have hclk : cs.length = k := by rw [hcs, List.length_replicate]
      have HCLK := Lib.hid hclk
      clear hk hcs hcl hb hclk
      have hsz1 : (Try.prog.info? 9).map (·.size) = some 1 := by kernel_rfl
      go_region_law (refine step_copy_splice rfl (.tmp 41) (.tmp 44) 22 22 rfl 9 Try.underlying22 hsz1 (some ⟨g, m, none⟩) (some ⟨g, 0, none⟩) (n - m) (n - m) m n (by go_simp; intro h; omega) (by go_simp) g m (rv s n m) 9 HRR.out cs HLEN.out (fun _ => ⟨rfl, _, rfl, HSRC.out⟩) HFIT.out HONE.out g w1 HBB.out.drew (Nat.le_refl _) ?_; intro w4 hg4 hb4)
      all_goals go_wp2_with fail
      have hr4 := hg4.out
      rw [HC2.out, rv_splice s n m k HK.out.1] at hr4
      rw [HCLK.out, hsum]
      refine ⟨⟨m + k, HK.out.1, Lib.hid (fun _ => by have := HK.out; omega), rfl, Lib.hid hr4⟩, ?_⟩
      have := HK.out
      simp only [intOf, Int.toNat_natCast]
      omega
    · have hge : ¬ (m : Int) < (n : Int) := by omega
      obtain rfl : m = n := by omega
      go_wp2_with fail
      go_ret
      refine ⟨rfl, ?_, hb⟩
      rw [← rv_full]
      exact ⟨by rw [rv_length _ _ _ (Nat.le_refl _), Nat.mul_one], .inr ⟨g, m, (rv s m m).toArray, rfl, Nat.le_refl _, HRR.out, Nat.le_refl _, by unfold maxLen; omega, by simp [rv_length], by rw [List.toList_toArray]; exact List.take_of_length_le (by rw [rv_length _ _ _ (Nat.le_refl _)]; omega)⟩⟩
end Go.Proofs.Ytdmdfpdigoijoaa
