/-
  The reference's Decode.
-/
import Derived.Test.YtjlppndlgdgekaaRDecP
import Derived.Test.YtjlppndlgdgekaaAwake
import Derived.Deep.Cut
namespace Go.Proofs.Ytjlppndlgdgekaa
open Go.RowKit
set_option linter.unusedVariables false

theorem rdecode_size (s : ByteArray) (w : World) (hs : s.size ≠ 2048) : Calls Try.prog 14 #[.string s] w (DecRes s w) := by
  have hsI : ((s.size : Int) != 2048) = true := by rw [bne_iff_ne]; omega
  have HR : Hid (decR s.data.toList = (1, [])) := Lib.hid (by unfold decR; rw [if_pos (by simp; omega)])
  clear hs
  go_enter Try.func14, Try.ntmps14
  go_wp2_with fail
  go_ret2
  exact ⟨Below.refl _ _, none, 0, by rw [HR.out]; rfl, by rw [HR.out]; exact SlAt.nil _ _ _⟩

theorem drop30 {l : List UInt8} (h : l.length = 32) (h0 : 30 < l.length) (h1 : 31 < l.length) : l.drop 30 = [l[30], l[31]] := by
  rw [List.drop_eq_getElem_cons h0, List.drop_eq_getElem_cons h1, List.drop_eq_nil_of_le (by omega)]
theorem ent0 (s : ByteArray) (hs : s.size = 2048) : entAt s.data.toList 0 = (s.extract 0 32).data.toList := by
  rw [ext_data]
  rfl
theorem keyOk_bytes (s : ByteArray) (hs : s.size = 2048) (h0 : 0 < s.size) (h30 : 30 < s.size) (h31 : 31 < s.size) :
    keyOk (entAt s.data.toList 0) = (((s[0].toNat : Int) == 1) && ((((s[30].toNat : Int) == 85) && ((s[31].toNat : Int) == 170)) && (sumS (s.extract 0 32).data.toList == 0))) := by
  have hl : (entAt s.data.toList 0).length = 32 := by
    unfold entAt
    rw [List.length_take, List.length_drop]
    simp
    omega
  have g : ∀ j (hj : j < 32) (hjs : j < s.size), (entAt s.data.toList 0)[j]? = some s[j] := fun j hj hjs => by
    rw [entAt_get hj, Nat.mul_zero, Nat.zero_add]
    exact bytes_get s j hjs
  have e30 : (entAt s.data.toList 0)[30]'(by omega) = s[30] := by
    have := g 30 (by omega) h30
    rw [List.getElem?_eq_getElem (by omega)] at this
    exact Option.some.inj this
  have e31 : (entAt s.data.toList 0)[31]'(by omega) = s[31] := by
    have := g 31 (by omega) h31
    rw [List.getElem?_eq_getElem (by omega)] at this
    exact Option.some.inj this
  have e0 : byteL (entAt s.data.toList 0) 0 = (s[0].toNat : Int) := by
    unfold byteL
    rw [g 0 (by omega) h0]
    rfl
  unfold keyOk
  rw [e0, drop30 hl (by omega) (by omega), e30, e31, ent0 s hs]
  have b : ∀ (x : UInt8) (n : Nat), n < 256 → (x == UInt8.ofNat n) = ((x.toNat : Int) == (n : Int)) := fun x n hn => by
    rw [Bool.eq_iff_iff, beq_iff_eq, beq_iff_eq]
    constructor
    · intro h; rw [h, UInt8.toNat_ofNat']; omega
    · intro h; apply UInt8.toNat_inj.1; rw [UInt8.toNat_ofNat']; omega
  have b1 := b s[30] 85 (by omega)
  have b2 := b s[31] 170 (by omega)
  congr 2
  show (s[30] == 85 && (s[31] == 170 && true)) = _
  rw [Bool.and_true]
  exact congr (congrArg _ b1) b2

set_option maxRecDepth 100000 in
theorem rdecode_key (s : ByteArray) (w : World) (hs : s.size = 2048) (hk : keyOk (entAt s.data.toList 0) = false) : Calls Try.prog 14 #[.string s] w (DecRes s w) := by
  have h0 : 0 < s.size := by omega
  have h30 : 30 < s.size := by omega
  have h31 : 31 < s.size := by omega
  have hsI : (s.size : Int) = 2048 := by omega
  have HR : Hid (decR s.data.toList = (10, [])) := Lib.hid (by unfold decR; rw [if_neg (by simp; omega), hk]; rfl)
  have CS := Lib.hid (fun w => rsum_any (s.extract 0 32) w (by simp; omega))
  rw [keyOk_bytes s hs h0 h30 h31] at hk
  generalize sumS (s.extract 0 32).data.toList = Z at *
  by_cases a0 : (s[0].toNat : Int) = 1
  · have a0' : ((s[0].toNat : Int) != 1) = false := by rw [bne_eq_false_iff_eq]; exact a0
    by_cases a1 : (s[30].toNat : Int) = 85
    · have a1' : ((s[30].toNat : Int) != 85) = false := by rw [bne_eq_false_iff_eq]; exact a1
      by_cases a2 : (s[31].toNat : Int) = 170
      · have a2' : ((s[31].toNat : Int) != 170) = false := by rw [bne_eq_false_iff_eq]; exact a2
        have a3 : (Z != 0) = true := by
          rw [bne_iff_ne]
          intro h
          rw [a0, a1, a2, h] at hk
          simp at hk
        clear hk hs
        go_enter Try.func14, Try.ntmps14
        go_wp2_with fail
        refine (CS.out _).mono ?_
        rintro e w1 ⟨rfl, hb1⟩
        go_wp2_with fail
        go_ret2
        exact ⟨hb1, none, 0, by rw [HR.out]; rfl, by rw [HR.out]; exact SlAt.nil _ _ _⟩
      · have a2' : ((s[31].toNat : Int) != 170) = true := by rw [bne_iff_ne]; exact a2
        clear hk hs a2
        go_enter Try.func14, Try.ntmps14
        go_wp2_with fail
        go_ret2
        exact ⟨Below.refl _ _, none, 0, by rw [HR.out]; rfl, by rw [HR.out]; exact SlAt.nil _ _ _⟩
    · have a1' : ((s[30].toNat : Int) != 85) = true := by rw [bne_iff_ne]; exact a1
      clear hk hs a1
      go_enter Try.func14, Try.ntmps14
      go_wp2_with fail
      go_ret2
      exact ⟨Below.refl _ _, none, 0, by rw [HR.out]; rfl, by rw [HR.out]; exact SlAt.nil _ _ _⟩
  · have a0' : ((s[0].toNat : Int) != 1) = true := by rw [bne_iff_ne]; exact a0
    clear hk hs a0
    go_enter Try.func14, Try.ntmps14
    go_wp2_with fail
    go_ret2
    exact ⟨Below.refl _ _, none, 0, by rw [HR.out]; rfl, by rw [HR.out]; exact SlAt.nil _ _ _⟩

theorem keyOk_facts (s : ByteArray) (hs : s.size = 2048) (h0 : 0 < s.size) (h30 : 30 < s.size) (h31 : 31 < s.size) (hk : keyOk (entAt s.data.toList 0) = true) :
    (s[0].toNat : Int) = 1 ∧ (s[30].toNat : Int) = 85 ∧ (s[31].toNat : Int) = 170 ∧ sumS (s.extract 0 32).data.toList = 0 := by
  rw [keyOk_bytes s hs h0 h30 h31, Bool.and_eq_true, Bool.and_eq_true, Bool.and_eq_true, beq_iff_eq, beq_iff_eq, beq_iff_eq, beq_iff_eq] at hk
  exact ⟨hk.1, hk.2.1.1, hk.2.1.2, hk.2.2⟩
theorem ent0_get (s : ByteArray) (h1 : 1 < s.size) : byteL (entAt s.data.toList 0) 1 = (s[1].toNat : Int) := by
  unfold byteL
  rw [entAt_get (by omega), Nat.mul_zero, Nat.zero_add, bytes_get s 1 h1]
  rfl
set_option maxRecDepth 100000 in
theorem rdecode_plat (s : ByteArray) (w : World) (hs : s.size = 2048) (hk : keyOk (entAt s.data.toList 0) = true) (hp : platB (byteL (entAt s.data.toList 0) 1) = false) : Calls Try.prog 14 #[.string s] w (DecRes s w) := by
  have h0 : 0 < s.size := by omega
  have h1 : 1 < s.size := by omega
  have h30 : 30 < s.size := by omega
  have h31 : 31 < s.size := by omega
  have hsI : (s.size : Int) = 2048 := by omega
  have HR : Hid (decR s.data.toList = (14, [])) := Lib.hid (by unfold decR; rw [if_neg (by simp; omega), hk, if_pos rfl, hp]; rfl)
  have CS := Lib.hid (fun w => rsum_any (s.extract 0 32) w (by simp; omega))
  obtain ⟨a0, a1, a2, a3⟩ := keyOk_facts s hs h0 h30 h31 hk
  rw [a3] at CS
  rw [ent0_get s h1] at hp
  have CP := Lib.hid (fun w => rplat_any (s[1].toNat : Int) w)
  rw [hp] at CP
  have b1l := s[1].toNat_lt
  clear hk hs hp a3
  go_enter Try.func14, Try.ntmps14
  go_wp2_with fail
  refine (CS.out _).mono ?_
  rintro e w1 ⟨rfl, hb1⟩
  go_wp2_with fail
  refine (CP.out _).mono ?_
  rintro e w2 ⟨rfl, hb2⟩
  have hb3 := hb1.trans (hb2.mono hb1.size)
  go_wp2_with fail
  go_ret2
  exact ⟨hb3, none, 0, by rw [HR.out]; rfl, by rw [HR.out]; exact SlAt.nil _ _ _⟩
end Go.Proofs.Ytjlppndlgdgekaa
