/-
  Kind, the sync field, Repeat, the code of a string, of the program and of the reference.
-/
import Derived.Test.YtdjpnabkmanboaaRValid
import Derived.Test.YtdjpnabkmanboaaEdc
import Derived.Handy
namespace Go.Proofs.Ytdjpnabkmanboaa
open Go.RowKit
set_option linter.unusedVariables false

theorem bcell? (s : ByteArray) (i : Nat) (h : i < s.size) : s.data.toList[i]? = some s[i] := bytes_get s i h
theorem and32u_fin : ∀ k : Fin 256, bits BinOp.and IntKind.u8 (k.val : Int) 32 = if (k.val : Int) / 32 % 2 = 1 then 32 else 0 := by decide +kernel
theorem and32u (b : UInt8) : bits BinOp.and IntKind.u8 (b.toNat : Int) 32 = if (b.toNat : Int) / 32 % 2 = 1 then 32 else 0 := and32u_fin ⟨b.toNat, b.toNat_lt⟩

/-- The mode of a raw sector, or the error. -/
def kindR (s : ByteArray) : Int × Int :=
  if h : s.size = 2352 then
    if (s[15]'(by omega)).toNat = 1 then (0, 0) else if (s[15]'(by omega)).toNat ≠ 2 then (0, 10) else
      if (s[18]'(by omega)).toNat / 32 % 2 = 1 then (2, 0) else (1, 0)
  else (0, 1)

set_option maxHeartbeats 1000000 in
theorem kind_any (s : ByteArray) (w : World) (hs : s.size ≤ 140737488351232) :
    Calls Try.prog 19 #[.string s] w fun e w' => e = .returned (.tuple #[.int .i64 (kindR s).1, .int .i64 (kindR s).2]) ∧ w = w' := by
  by_cases h : s.size = 2352
  · have hz : ((s.size : Int) != 2352) = false := by rw [h]; rfl
    have l15 : 15 < s.size := by omega
    have l18 : 18 < s.size := by omega
    obtain ⟨b15, e15⟩ : ∃ b, s[15] = b := ⟨_, rfl⟩
    obtain ⟨b18, e18⟩ : ∃ b, s[18] = b := ⟨_, rfl⟩
    have hk : kindR s = if b15.toNat = 1 then (0, 0) else if b15.toNat ≠ 2 then (0, 10) else if b18.toNat / 32 % 2 = 1 then (2, 0) else (1, 0) := by
      unfold kindR
      rw [dif_pos h, e15, e18]
    have ha := and32u b18
    by_cases h1 : b15.toNat = 1
    · rw [hk, if_pos h1]
      have t1 : ((b15.toNat : Int) == 1) = true := by rw [h1]; rfl
      clear hk h1 h ha e18
      go_enter Try.func19, Try.ntmps19
      go_wp2_with fail
      go_ret2
      exact ⟨rfl, rfl⟩
    · have t1 : ((b15.toNat : Int) == 1) = false := by rw [beq_eq_false_iff_ne]; omega
      by_cases h2 : b15.toNat = 2
      · have t2 : ((b15.toNat : Int) != 2) = false := by rw [h2]; rfl
        by_cases h3 : b18.toNat / 32 % 2 = 1
        · rw [hk, if_neg h1, if_neg (by simpa using h2), if_pos h3]
          rw [if_pos (by omega)] at ha
          clear hk h1 h2 h3 h
          go_enter Try.func19, Try.ntmps19
          go_wp2_with fail
          go_ret2
          exact ⟨rfl, rfl⟩
        · rw [hk, if_neg h1, if_neg (by simpa using h2), if_neg h3]
          rw [if_neg (by omega)] at ha
          clear hk h1 h2 h3 h
          go_enter Try.func19, Try.ntmps19
          go_wp2_with fail
          go_ret2
          exact ⟨rfl, rfl⟩
      · have t2 : ((b15.toNat : Int) != 2) = true := by rw [bne_iff_ne]; omega
        rw [hk, if_neg h1, if_pos h2]
        clear hk h1 h2 h ha e18
        go_enter Try.func19, Try.ntmps19
        go_wp2_with fail
        go_ret2
        exact ⟨rfl, rfl⟩
  · have hz : ((s.size : Int) != 2352) = true := by rw [bne_iff_ne]; omega
    have hk : kindR s = (0, 1) := by unfold kindR; rw [dif_neg h]
    rw [hk]
    clear hk h
    go_enter Try.func19, Try.ntmps19
    go_wp2_with fail
    go_ret2
    exact ⟨rfl, rfl⟩

set_option maxHeartbeats 1000000 in
theorem rkind_any (s : ByteArray) (w : World) (hs : s.size ≤ 140737488351232) :
    Calls Try.prog 20 #[.string s] w fun e w' => e = .returned (.tuple #[.int .i64 (kindR s).1, .int .i64 (kindR s).2]) ∧ w = w' := by
  by_cases h : s.size = 2352
  · have hz : ((s.size : Int) != 2352) = false := by rw [h]; rfl
    have l15 : 15 < s.size := by omega
    have l18 : 18 < s.size := by omega
    obtain ⟨b15, e15⟩ : ∃ b, s[15] = b := ⟨_, rfl⟩
    obtain ⟨b18, e18⟩ : ∃ b, s[18] = b := ⟨_, rfl⟩
    have hk : kindR s = if b15.toNat = 1 then (0, 0) else if b15.toNat ≠ 2 then (0, 10) else if b18.toNat / 32 % 2 = 1 then (2, 0) else (1, 0) := by
      unfold kindR
      rw [dif_pos h, e15, e18]
    by_cases h1 : b15.toNat = 1
    · rw [hk, if_pos h1]
      have t1 : ((b15.toNat : Int) == 1) = true := by rw [h1]; rfl
      clear hk h1 h e18
      go_enter Try.func20, Try.ntmps20
      go_wp2_with fail
      go_ret2
      exact ⟨rfl, rfl⟩
    · have t1 : ((b15.toNat : Int) == 1) = false := by rw [beq_eq_false_iff_ne]; omega
      by_cases h2 : b15.toNat = 2
      · have t2 : ((b15.toNat : Int) != 2) = false := by rw [h2]; rfl
        by_cases h3 : b18.toNat / 32 % 2 = 1
        · rw [hk, if_neg h1, if_neg (by simpa using h2), if_pos h3]
          have ha : ((b18.toNat : Int) / 32 % 2 == 1) = true := by rw [beq_iff_eq]; omega
          clear hk h1 h2 h3 h
          go_enter Try.func20, Try.ntmps20
          go_wp2_with fail
          go_ret2
          exact ⟨rfl, rfl⟩
        · rw [hk, if_neg h1, if_neg (by simpa using h2), if_neg h3]
          have ha : ((b18.toNat : Int) / 32 % 2 == 1) = false := by rw [beq_eq_false_iff_ne]; omega
          clear hk h1 h2 h3 h
          go_enter Try.func20, Try.ntmps20
          go_wp2_with fail
          go_ret2
          exact ⟨rfl, rfl⟩
      · have t2 : ((b15.toNat : Int) != 2) = true := by rw [bne_iff_ne]; omega
        rw [hk, if_neg h1, if_pos h2]
        clear hk h1 h2 h e18
        go_enter Try.func20, Try.ntmps20
        go_wp2_with fail
        go_ret2
        exact ⟨rfl, rfl⟩
  · have hz : ((s.size : Int) != 2352) = true := by rw [bne_iff_ne]; omega
    have hk : kindR s = (0, 1) := by unfold kindR; rw [dif_neg h]
    rw [hk]
    clear hk h
    go_enter Try.func20, Try.ntmps20
    go_wp2_with fail
    go_ret2
    exact ⟨rfl, rfl⟩

set_option maxHeartbeats 1000000 in
theorem rep_any (b : UInt8) (n : Nat) (w : World) (hn : n ≤ 100000) :
    Calls Try.prog 36 #[.int .u8 (b.toNat : Int), .int .i64 (n : Int)] w fun e w' => e = .returned (.string ⟨(List.replicate n b).toArray⟩) ∧ Below w.heap.size w w' := by
  have hi : (Try.prog.info? 5).map (fun i => (i.zero, i.size, i.bytes)) = some (some (.int .u8 0), 1, 1) := by kernel_rfl
  go_enter Try.func36, Try.ntmps36
  go_wp2_with fail
  go_loopw [5, 6] (fun v i wr => ∃ k : Nat, k ≤ n ∧ i = .int .i64 k ∧ wr.ownsRow w.heap.size 5 1 v k ((List.replicate k b).map byteV) ∧ Below w.heap.size w wr) (fun _ i _ => n - (intOf i).toNat)
  case atStart => exact ⟨0, by omega, rfl, World.ownsRow_made _ _ _ (Nat.le_refl _) (by decide) rfl, (Below.refl _ _).alloc (Nat.le_refl _) _⟩
  case round =>
    obtain ⟨k, hk, rfl, hown, hb⟩ := hrel
    by_cases hlt : k < n
    · have hlt' : (k : Int) < (n : Int) := by omega
      go_wp2_with (at_builtin; refine wpList_app1 hown hi Try.underlying42 rfl (by unfold maxLen; omega) (by omega) hb.size rfl rfl rfl (by rfl) (by rfl) ?_; intro v1 w2 hown2 hb2 _)
      go_roundw
      case rel => exact ⟨k + 1, by omega, by go_num, by rw [List.replicate_succ', List.map_append]; exact hown2, hb.trans hb2⟩
      case measure => simp [intOf]; omega
    · obtain rfl : k = n := by omega
      have hge : ¬ (k : Int) < (k : Int) := by omega
      have hcv := own_string (P := Try.prog) wr 42 9 5 Try.underlying42 Try.underlying5 Try.underlying9 hown
      go_wp2_with fail
      go_ret
      exact ⟨rfl, hb⟩

def syncL : List UInt8 := [0, 255, 255, 255, 255, 255, 255, 255, 255, 255, 255, 0]
theorem rsync_any (w : World) :
    Calls Try.prog 34 #[] w fun e w' => e = .returned (.string ⟨syncL.toArray⟩) ∧ Below w.heap.size w w' := by
  have C := Lib.hid (fun w => rep_any 255 10 w (by omega))
  go_enter Try.func34, Try.ntmps34
  go_wp2_with fail
  refine (C.out _).mono ?_
  rintro e w1 ⟨rfl, hb1⟩
  have hz : (⟨(List.replicate 10 255).toArray⟩ : ByteArray).size = 10 := rfl
  go_wp2_with fail
  go_ret
  exact ⟨rfl, hb1⟩

def bytesV (l : List UInt8) : Array Value := (l.map byteV).toArray
set_option maxHeartbeats 1000000 in
theorem sync_any (w : World) :
    Calls Try.prog 29 #[] w fun e w' => e = .returned (.agg (bytesV syncL)) ∧ Below w.heap.size w w' := by
  go_enter Try.func29, Try.ntmps29
  go_wp2_with fail
  go_rounds 12
  exact bodyPost_ret (v := .agg #[.int .u8 0, .int .u8 255, .int .u8 255, .int .u8 255, .int .u8 255, .int .u8 255, .int .u8 255, .int .u8 255, .int .u8 255, .int .u8 255, .int .u8 255, .int .u8 0]) (by simp [results, Try.results29, go_sem]) rfl ⟨rfl, ((Below.refl _ _).alloc (Nat.le_refl _) _).alloc (by simp) _⟩

/-- The recorded code of a string's bytes from an offset on. -/
def codeL (l : List UInt8) (k : Nat) : List UInt8 := edcBs (edcL 0 (l.drop k))
theorem drop_extract (s : ByteArray) (k : Nat) : (s.extract k s.size).data.toList = s.data.toList.drop k := by
  rw [ByteArray.data_extract, Array.toList_extract]
  simp [List.take_of_length_le]
theorem sub_extract (s : ByteArray) (i j : Nat) : (s.extract i j).data.toList = (s.data.toList.take j).drop i := by
  rw [ByteArray.data_extract, Array.toList_extract, List.drop_take]
theorem code_any (s : ByteArray) (k : Nat) (w : World) (hk : k ≤ s.size) (hs : s.size ≤ 140737488351232) :
    Calls Try.prog 31 #[.string s, .int .i64 (k : Int)] w fun e w' => e = .returned (.string ⟨(codeL s.data.toList k).toArray⟩) ∧ Below w.heap.size w w' := by
  have hx : edcS (s.extract k s.size) = edcL 0 (s.data.toList.drop k) := by unfold edcS; rw [drop_extract]
  have hz : (s.extract k s.size).size ≤ 140737488351232 := by simp; omega
  have C1 := Lib.hid (fun w => edc_any (s.extract k s.size) w hz)
  rw [hx] at C1
  have C2 := Lib.hid (fun w => edcbytes_any (edcL 0 (s.data.toList.drop k)) w (edcL_lt _ (by omega)))
  have HR := Lib.hid (show codeL s.data.toList k = edcBs (edcL 0 (s.data.toList.drop k)) from rfl)
  have h1 : ¬ (s.size : Int) < (k : Int) := by omega
  clear hx hz
  generalize edcL 0 (s.data.toList.drop k) = c at *
  go_enter Try.func31, Try.ntmps31
  go_wp2_with fail
  refine (C1.out _).mono ?_
  rintro e w1 ⟨rfl, hb1⟩
  go_wp2_with fail
  refine (C2.out _).mono ?_
  rintro e w2 ⟨rfl, hb2⟩
  go_wp2_with fail
  go_ret
  exact ⟨by rw [HR.out]; rfl, hb1.trans (hb2.mono hb1.size)⟩
theorem rcode_any (s : ByteArray) (m : Int) (i n : Nat) (w : World) (hm : modeOk m = true) (hi : lCov m = (i : Int)) (hn : lData m + lCap m - lCov m = (n : Int)) (hk : i + n ≤ s.size) (hs : s.size ≤ 140737488351232) :
    Calls Try.prog 35 #[.string s, .int .i64 m] w fun e w' => e = .returned (.string ⟨(codeL (s.data.toList.take (i + n)) i).toArray⟩) ∧ Below w.heap.size w w' := by
  have C0 : Hid (∀ w, Calls Try.prog 18 #[.int .i64 m] w fun e w' => e = .returned (.tuple #[.int .i64 (i : Int), .int .i64 (n : Int), .int .i64 0]) ∧ w = w') := by
    have := fun w => rspan_any m w
    rwa [show spanV m = .tuple #[.int .i64 (i : Int), .int .i64 (n : Int), .int .i64 0] by unfold spanV; rw [if_pos hm, hi, ← hn, hi]] at this
  have hx : edcS (s.extract i (i + n)) = edcL 0 ((s.data.toList.take (i + n)).drop i) := by unfold edcS; rw [sub_extract]
  have hz : (s.extract i (i + n)).size ≤ 140737488351232 := by simp; omega
  have C1 := Lib.hid (fun w => redc_any (s.extract i (i + n)) w hz)
  rw [hx] at C1
  have C2 := Lib.hid (fun w => redcbytes_any (edcL 0 ((s.data.toList.take (i + n)).drop i)) w (edcL_lt _ (by omega)))
  have HR := Lib.hid (show codeL (s.data.toList.take (i + n)) i = edcBs (edcL 0 ((s.data.toList.take (i + n)).drop i)) from rfl)
  clear hx hz hi hn hm
  generalize edcL 0 ((s.data.toList.take (i + n)).drop i) = c at *
  go_enter Try.func35, Try.ntmps35
  go_wp2_with fail
  refine (C0.out _).mono ?_
  rintro e w' ⟨rfl, rfl⟩
  go_wp2_with fail
  refine (C1.out _).mono ?_
  rintro e w' ⟨rfl, rfl⟩
  go_wp2_with fail
  refine (C2.out _).mono ?_
  rintro e w2 ⟨rfl, hb2⟩
  go_wp2_with fail
  go_ret
  exact ⟨by rw [HR.out]; rfl, hb2⟩
end Go.Proofs.Ytdjpnabkmanboaa
