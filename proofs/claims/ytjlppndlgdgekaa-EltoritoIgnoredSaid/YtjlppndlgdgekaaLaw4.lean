/-
  The walk of the law EltoritoIgnored.
-/
import Derived.Test.YtjlppndlgdgekaaLaw2
import Derived.Test.YtjlppndlgdgekaaIgn
namespace Go.Proofs.Ytjlppndlgdgekaa
open Go.RowKit
set_option linter.unusedVariables false

set_option maxHeartbeats 20000000 in
set_option maxRecDepth 100000 in
theorem ign_ok (A : Option Addr) (n cap : Nat) (l : List Img) (a : Nat) (c : UInt8) (w : World) (hl : l.length = n) (ha : a < 65536) (hE : encE l = 0) (hS : encStr l = ⟨(encL l).toArray⟩) (h0 : 1 ≤ n) (h1 : n ≤ 30) (hok : ∀ x ∈ l, ImOk x) (hsl : SlAt w w.heap.size A (flat encI l))
    (CE : ∀ wx, Below w.heap.size w wx → Calls Try.prog 11 #[.slice A n cap] wx (EncR l wx)) :
    Calls Try.prog 8 #[.slice A n cap, .int .u16 (a : Int), .int .u8 (c.toNat : Int)] w fun e w' => e = .returned (.bool true) ∧ Below w.heap.size w w' := by
  obtain ⟨S, hSS⟩ : ∃ S : ByteArray, S = ⟨(encL l).toArray⟩ := ⟨_, rfl⟩
  have hd : S.data.toList = encL l := by rw [hSS]
  have hsz : S.size = 2048 := by rw [hSS]; exact encS_size (by omega)
  obtain ⟨i, hi⟩ : ∃ i, i = 32 + a % 2016 := ⟨_, rfl⟩
  have hi32 : 32 ≤ i := by omega
  have hi48 : i < 2048 := by omega
  obtain ⟨e, he⟩ : ∃ e, e = i / 32 := ⟨_, rfl⟩
  obtain ⟨o, ho⟩ : ∃ o, o = i % 32 := ⟨_, rfl⟩
  have he1 : 1 ≤ e := by omega
  have he63 : e ≤ 63 := by omega
  have ho31 : o ≤ 31 := by omega
  obtain ⟨y, hy⟩ : ∃ y, (encL l)[i]? = some y := ⟨_, List.getElem?_eq_getElem (by rw [encL_length (by omega)]; omega)⟩
  have HR : Hid (matB n e o = false → decR (S.data.toList.set i (y ^^^ c)) = (0, l)) := Lib.hid (fun h => by
    rw [hd]
    rw [← hl, he, ho] at h
    exact cat_dec (ign_cat hok (by omega) _ hi32 h) hok (by omega) (by omega))
  have HO : Hid (S.data.toList[i]? = some y) := Lib.hid (by rw [hd]; exact hy)
  have HL : Hid (S.data.toList.length = 2048) := Lib.hid (by rw [hd]; exact encL_length (by omega))
  have HES : Hid (encStr l = S) := Lib.hid (by rw [hS, hSS])
  have HEE := Lib.hid hE
  have HCE := Lib.hid CE
  have HSL := Lib.hid hsl
  have HN := Lib.hid hl
  have HI := Lib.hid hi
  have HIE := Lib.hid he
  have HIO := Lib.hid ho
  have hszI : (S.size : Int) = 2048 := by omega
  have hn' : ¬ (30 : Int) < (n : Int) := by omega
  have e7 := u8_xor_nat y.toNat c.toNat y.toNat_lt c.toNat_lt
  have qi1 : (0 : Int) ≤ (i : Int) := by omega
  have qi2 : (i : Int) < 2048 := by omega
  clear hSS hd hsz hS hE CE hok hl hsl hy hi he ho hi32 hi48
  go_enter Try.func8, Try.ntmps8
  go_wp2_with fail
  refine (awake_any _).mono ?_
  rintro e w0 ⟨rfl, hb0⟩
  go_wp2_with fail
  refine (HCE.out _ hb0).mono ?_
  rintro e w1 ⟨rfl, hb1⟩
  rw [HES.out, HEE.out]
  have h3 : St w w1 [] := ⟨hb0.trans (hb1.mono hb0.size), fun r hr => (List.not_mem_nil hr).elim, List.Pairwise.nil⟩
  clear hb0 hb1
  go_upto_region 9 with fail
  rw [show (32 + (a : Int) % 2016) = (i : Int) by have := HI.out; omega]
  go_upto_region 10 with fail
  rw [show ((i : Int) / 32) = (e : Int) by have := HIE.out; omega, show ((i : Int) % 32) = (o : Int) by have := HIO.out; omega]
  have hO : ((o < 4) ∨ (4 ≤ o ∧ o < 6) ∨ (6 ≤ o ∧ o < 12) ∨ (12 ≤ o)) := by omega
  have hEc : ((e < 2) ∨ (2 ≤ e ∧ e % 2 = 0 ∧ e < 2 * n) ∨ (2 ≤ e ∧ e % 2 = 1 ∧ e < 2 * n) ∨ (2 ≤ e ∧ e % 2 = 0 ∧ 2 * n ≤ e ∧ n ≠ 1) ∨ (2 ≤ e ∧ e % 2 = 0 ∧ 2 * n ≤ e ∧ n = 1 ∧ e ≠ 2) ∨ (2 ≤ e ∧ e % 2 = 0 ∧ 2 * n ≤ e ∧ n = 1 ∧ e = 2 ∧ o ≠ 0) ∨ (2 ≤ e ∧ e % 2 = 0 ∧ 2 * n ≤ e ∧ n = 1 ∧ e = 2 ∧ o = 0) ∨ (2 ≤ e ∧ e % 2 = 1 ∧ 2 * n ≤ e ∧ n ≠ 1) ∨ (2 ≤ e ∧ e % 2 = 1 ∧ 2 * n ≤ e ∧ n = 1)) := by omega
  rcases hO with hO | hO | hO | hO
  · rcases hEc with hE | hE | hE | hE | hE | hE | hE | hE | hE
    · skip
      have p1 : (o : Int) < 4 := by omega
      have r1 : ¬ (2 : Int) ≤ (e : Int) := by omega
      have r3 : ¬ 2 * (n : Int) ≤ (e : Int) := by omega
      clear hO hE
      go_wp2_with fail
      go_ret
      exact ⟨rfl, h3.bel⟩
    · skip
      have p1 : (o : Int) < 4 := by omega
      have r1 : (2 : Int) ≤ (e : Int) := by omega
      have r2 : (((e : Int) % 2) == 0) = true := by rw [beq_iff_eq]; omega
      have r3 : ¬ 2 * (n : Int) ≤ (e : Int) := by omega
      clear hO hE
      go_wp2_with fail
      go_ret
      exact ⟨rfl, h3.bel⟩
    · skip
      have p1 : (o : Int) < 4 := by omega
      have r1 : (2 : Int) ≤ (e : Int) := by omega
      have r2 : (((e : Int) % 2) == 0) = false := by rw [beq_eq_false_iff_ne]; omega
      have r3 : ¬ 2 * (n : Int) ≤ (e : Int) := by omega
      clear hO hE
      go_wp2_with fail
      go_ret
      exact ⟨rfl, h3.bel⟩
    · skip
      have p1 : (o : Int) < 4 := by omega
      have r1 : (2 : Int) ≤ (e : Int) := by omega
      have r2 : (((e : Int) % 2) == 0) = true := by rw [beq_iff_eq]; omega
      have r3 : 2 * (n : Int) ≤ (e : Int) := by omega
      have r4 : (((n : Int)) == 1) = false := by rw [beq_eq_false_iff_ne]; omega
      have hM : matB n e o = false := by
        unfold matB
        split
        · exact decide_eq_false (by omega)
        · split
          · exact decide_eq_false (by omega)
          · exact decide_eq_false (by omega)
      clear hO hE
      have HR2' := HR.out hM
      have hcv := fun w => run_bytes_of_string (P := Try.prog) w 9 35 5 S Try.underlying9 Try.underlying35 Try.underlying5
      go_upto_region 18 with fail
      generalize grownCap w1 S.size 0 5 = cp
      have hwg : w.heap.size ≤ w1.heap.size := h3.bel.size
      have hB0 : BytesAt (w1.alloc (.cells (bytesRow S cp) 5 ((bytesRow S cp).size, (bytesRow S cp).size + 1))) w1.heap.size 5 S.data.toList := BytesAt.new w1 5 S cp
      have h4 := h3.other (.cells (bytesRow S cp) 5 ((bytesRow S cp).size, (bytesRow S cp).size + 1))
      generalize (w1.alloc (.cells (bytesRow S cp) 5 ((bytesRow S cp).size, (bytesRow S cp).size + 1))) = w4 at *
      generalize w1.heap.size = g at *
      clear h3 hcv
      have hcell := hB0.cell i y HO.out
      have hfr := hB0.frozen i (by rw [HL.out]; omega)
      obtain ⟨S2, hS2⟩ : ∃ S2 : ByteArray, S2 = ⟨(S.data.toList.set i (y ^^^ c)).toArray⟩ := ⟨_, rfl⟩
      have hB1 := hB0.set_ i (y ^^^ c)
      have hcs := hB1.drew.string (P := Try.prog) 35 9 Try.underlying35 Try.underlying5 Try.underlying9 cp
      rw [List.length_set, size_list, ← hS2, byteV, UInt8.toNat_xor] at hcs
      rw [byteV] at hcell
      have h5 := (h4.far (p := ⟨g, i, none⟩) hwg (fun r hr => (List.not_mem_nil hr).elim) (.int .u8 ((y.toNat ^^^ c.toNat : Nat) : Int))).drew
      have HR2 : Hid (decR S2.data.toList = (0, l)) := Lib.hid (by rw [hS2]; exact HR2')
      clear hS2 hB0 hB1 h4 HR2' HR
      go_wp2_with fail
      refine (decode_any S2 _).mono ?_
      rintro e' w5 ⟨hb5, A', c', rfl, hs5⟩
      rw [HR2.out] at hs5 ⊢
      dsimp only at hs5 ⊢
      have h6 := St.call hb5 h5
      clear hb5 h5
      have CS := Lib.hid (imgs_same A' A c' cap l w5 hs5 ((HSL.out.below h6.bel).mono h6.bel.size) (by have := HN.out; omega))
      rw [HN.out] at CS ⊢
      go_wp2_with fail
      refine CS.out.mono ?_
      rintro e' w6 ⟨rfl, hb6⟩
      have h7 := St.call hb6 h6
      go_wp2_with fail
      go_ret
      exact ⟨rfl, h7.bel⟩
    · skip
      have p1 : (o : Int) < 4 := by omega
      have r1 : (2 : Int) ≤ (e : Int) := by omega
      have r2 : (((e : Int) % 2) == 0) = true := by rw [beq_iff_eq]; omega
      have r3 : 2 * (n : Int) ≤ (e : Int) := by omega
      have r4 : (((n : Int)) == 1) = true := by rw [beq_iff_eq]; omega
      have r5 : (((e : Int)) == 2) = false := by rw [beq_eq_false_iff_ne]; omega
      have hM : matB n e o = false := by
        unfold matB
        split
        · exact decide_eq_false (by omega)
        · split
          · exact decide_eq_false (by omega)
          · exact decide_eq_false (by omega)
      clear hO hE
      have HR2' := HR.out hM
      have hcv := fun w => run_bytes_of_string (P := Try.prog) w 9 35 5 S Try.underlying9 Try.underlying35 Try.underlying5
      go_upto_region 18 with fail
      generalize grownCap w1 S.size 0 5 = cp
      have hwg : w.heap.size ≤ w1.heap.size := h3.bel.size
      have hB0 : BytesAt (w1.alloc (.cells (bytesRow S cp) 5 ((bytesRow S cp).size, (bytesRow S cp).size + 1))) w1.heap.size 5 S.data.toList := BytesAt.new w1 5 S cp
      have h4 := h3.other (.cells (bytesRow S cp) 5 ((bytesRow S cp).size, (bytesRow S cp).size + 1))
      generalize (w1.alloc (.cells (bytesRow S cp) 5 ((bytesRow S cp).size, (bytesRow S cp).size + 1))) = w4 at *
      generalize w1.heap.size = g at *
      clear h3 hcv
      have hcell := hB0.cell i y HO.out
      have hfr := hB0.frozen i (by rw [HL.out]; omega)
      obtain ⟨S2, hS2⟩ : ∃ S2 : ByteArray, S2 = ⟨(S.data.toList.set i (y ^^^ c)).toArray⟩ := ⟨_, rfl⟩
      have hB1 := hB0.set_ i (y ^^^ c)
      have hcs := hB1.drew.string (P := Try.prog) 35 9 Try.underlying35 Try.underlying5 Try.underlying9 cp
      rw [List.length_set, size_list, ← hS2, byteV, UInt8.toNat_xor] at hcs
      rw [byteV] at hcell
      have h5 := (h4.far (p := ⟨g, i, none⟩) hwg (fun r hr => (List.not_mem_nil hr).elim) (.int .u8 ((y.toNat ^^^ c.toNat : Nat) : Int))).drew
      have HR2 : Hid (decR S2.data.toList = (0, l)) := Lib.hid (by rw [hS2]; exact HR2')
      clear hS2 hB0 hB1 h4 HR2' HR
      go_wp2_with fail
      refine (decode_any S2 _).mono ?_
      rintro e' w5 ⟨hb5, A', c', rfl, hs5⟩
      rw [HR2.out] at hs5 ⊢
      dsimp only at hs5 ⊢
      have h6 := St.call hb5 h5
      clear hb5 h5
      have CS := Lib.hid (imgs_same A' A c' cap l w5 hs5 ((HSL.out.below h6.bel).mono h6.bel.size) (by have := HN.out; omega))
      rw [HN.out] at CS ⊢
      go_wp2_with fail
      refine CS.out.mono ?_
      rintro e' w6 ⟨rfl, hb6⟩
      have h7 := St.call hb6 h6
      go_wp2_with fail
      go_ret
      exact ⟨rfl, h7.bel⟩
    · skip
      have p1 : (o : Int) < 4 := by omega
      have r1 : (2 : Int) ≤ (e : Int) := by omega
      have r2 : (((e : Int) % 2) == 0) = true := by rw [beq_iff_eq]; omega
      have r3 : 2 * (n : Int) ≤ (e : Int) := by omega
      have r4 : (((n : Int)) == 1) = true := by rw [beq_iff_eq]; omega
      have r5 : (((e : Int)) == 2) = true := by rw [beq_iff_eq]; omega
      have r6 : (((o : Int)) == 0) = false := by rw [beq_eq_false_iff_ne]; omega
      have hM : matB n e o = false := by
        unfold matB
        split
        · exact decide_eq_false (by omega)
        · split
          · exact decide_eq_false (by omega)
          · exact decide_eq_false (by omega)
      clear hO hE
      have HR2' := HR.out hM
      have hcv := fun w => run_bytes_of_string (P := Try.prog) w 9 35 5 S Try.underlying9 Try.underlying35 Try.underlying5
      go_upto_region 18 with fail
      generalize grownCap w1 S.size 0 5 = cp
      have hwg : w.heap.size ≤ w1.heap.size := h3.bel.size
      have hB0 : BytesAt (w1.alloc (.cells (bytesRow S cp) 5 ((bytesRow S cp).size, (bytesRow S cp).size + 1))) w1.heap.size 5 S.data.toList := BytesAt.new w1 5 S cp
      have h4 := h3.other (.cells (bytesRow S cp) 5 ((bytesRow S cp).size, (bytesRow S cp).size + 1))
      generalize (w1.alloc (.cells (bytesRow S cp) 5 ((bytesRow S cp).size, (bytesRow S cp).size + 1))) = w4 at *
      generalize w1.heap.size = g at *
      clear h3 hcv
      have hcell := hB0.cell i y HO.out
      have hfr := hB0.frozen i (by rw [HL.out]; omega)
      obtain ⟨S2, hS2⟩ : ∃ S2 : ByteArray, S2 = ⟨(S.data.toList.set i (y ^^^ c)).toArray⟩ := ⟨_, rfl⟩
      have hB1 := hB0.set_ i (y ^^^ c)
      have hcs := hB1.drew.string (P := Try.prog) 35 9 Try.underlying35 Try.underlying5 Try.underlying9 cp
      rw [List.length_set, size_list, ← hS2, byteV, UInt8.toNat_xor] at hcs
      rw [byteV] at hcell
      have h5 := (h4.far (p := ⟨g, i, none⟩) hwg (fun r hr => (List.not_mem_nil hr).elim) (.int .u8 ((y.toNat ^^^ c.toNat : Nat) : Int))).drew
      have HR2 : Hid (decR S2.data.toList = (0, l)) := Lib.hid (by rw [hS2]; exact HR2')
      clear hS2 hB0 hB1 h4 HR2' HR
      go_wp2_with fail
      refine (decode_any S2 _).mono ?_
      rintro e' w5 ⟨hb5, A', c', rfl, hs5⟩
      rw [HR2.out] at hs5 ⊢
      dsimp only at hs5 ⊢
      have h6 := St.call hb5 h5
      clear hb5 h5
      have CS := Lib.hid (imgs_same A' A c' cap l w5 hs5 ((HSL.out.below h6.bel).mono h6.bel.size) (by have := HN.out; omega))
      rw [HN.out] at CS ⊢
      go_wp2_with fail
      refine CS.out.mono ?_
      rintro e' w6 ⟨rfl, hb6⟩
      have h7 := St.call hb6 h6
      go_wp2_with fail
      go_ret
      exact ⟨rfl, h7.bel⟩
    · skip
      have p1 : (o : Int) < 4 := by omega
      have r1 : (2 : Int) ≤ (e : Int) := by omega
      have r2 : (((e : Int) % 2) == 0) = true := by rw [beq_iff_eq]; omega
      have r3 : 2 * (n : Int) ≤ (e : Int) := by omega
      have r4 : (((n : Int)) == 1) = true := by rw [beq_iff_eq]; omega
      have r5 : (((e : Int)) == 2) = true := by rw [beq_iff_eq]; omega
      have r6 : (((o : Int)) == 0) = true := by rw [beq_iff_eq]; omega
      clear hO hE
      go_wp2_with fail
      go_ret
      exact ⟨rfl, h3.bel⟩
    · skip
      have p1 : (o : Int) < 4 := by omega
      have r1 : (2 : Int) ≤ (e : Int) := by omega
      have r2 : (((e : Int) % 2) == 0) = false := by rw [beq_eq_false_iff_ne]; omega
      have r3 : 2 * (n : Int) ≤ (e : Int) := by omega
      have r4 : (((n : Int)) == 1) = false := by rw [beq_eq_false_iff_ne]; omega
      have hM : matB n e o = false := by
        unfold matB
        split
        · exact decide_eq_false (by omega)
        · split
          · exact decide_eq_false (by omega)
          · exact decide_eq_false (by omega)
      clear hO hE
      have HR2' := HR.out hM
      have hcv := fun w => run_bytes_of_string (P := Try.prog) w 9 35 5 S Try.underlying9 Try.underlying35 Try.underlying5
      go_upto_region 18 with fail
      generalize grownCap w1 S.size 0 5 = cp
      have hwg : w.heap.size ≤ w1.heap.size := h3.bel.size
      have hB0 : BytesAt (w1.alloc (.cells (bytesRow S cp) 5 ((bytesRow S cp).size, (bytesRow S cp).size + 1))) w1.heap.size 5 S.data.toList := BytesAt.new w1 5 S cp
      have h4 := h3.other (.cells (bytesRow S cp) 5 ((bytesRow S cp).size, (bytesRow S cp).size + 1))
      generalize (w1.alloc (.cells (bytesRow S cp) 5 ((bytesRow S cp).size, (bytesRow S cp).size + 1))) = w4 at *
      generalize w1.heap.size = g at *
      clear h3 hcv
      have hcell := hB0.cell i y HO.out
      have hfr := hB0.frozen i (by rw [HL.out]; omega)
      obtain ⟨S2, hS2⟩ : ∃ S2 : ByteArray, S2 = ⟨(S.data.toList.set i (y ^^^ c)).toArray⟩ := ⟨_, rfl⟩
      have hB1 := hB0.set_ i (y ^^^ c)
      have hcs := hB1.drew.string (P := Try.prog) 35 9 Try.underlying35 Try.underlying5 Try.underlying9 cp
      rw [List.length_set, size_list, ← hS2, byteV, UInt8.toNat_xor] at hcs
      rw [byteV] at hcell
      have h5 := (h4.far (p := ⟨g, i, none⟩) hwg (fun r hr => (List.not_mem_nil hr).elim) (.int .u8 ((y.toNat ^^^ c.toNat : Nat) : Int))).drew
      have HR2 : Hid (decR S2.data.toList = (0, l)) := Lib.hid (by rw [hS2]; exact HR2')
      clear hS2 hB0 hB1 h4 HR2' HR
      go_wp2_with fail
      refine (decode_any S2 _).mono ?_
      rintro e' w5 ⟨hb5, A', c', rfl, hs5⟩
      rw [HR2.out] at hs5 ⊢
      dsimp only at hs5 ⊢
      have h6 := St.call hb5 h5
      clear hb5 h5
      have CS := Lib.hid (imgs_same A' A c' cap l w5 hs5 ((HSL.out.below h6.bel).mono h6.bel.size) (by have := HN.out; omega))
      rw [HN.out] at CS ⊢
      go_wp2_with fail
      refine CS.out.mono ?_
      rintro e' w6 ⟨rfl, hb6⟩
      have h7 := St.call hb6 h6
      go_wp2_with fail
      go_ret
      exact ⟨rfl, h7.bel⟩
    · skip
      have p1 : (o : Int) < 4 := by omega
      have r1 : (2 : Int) ≤ (e : Int) := by omega
      have r2 : (((e : Int) % 2) == 0) = false := by rw [beq_eq_false_iff_ne]; omega
      have r3 : 2 * (n : Int) ≤ (e : Int) := by omega
      have r4 : (((n : Int)) == 1) = true := by rw [beq_iff_eq]; omega
      have r5 : (((e : Int)) == 2) = false := by rw [beq_eq_false_iff_ne]; omega
      have hM : matB n e o = false := by
        unfold matB
        split
        · exact decide_eq_false (by omega)
        · split
          · exact decide_eq_false (by omega)
          · exact decide_eq_false (by omega)
      clear hO hE
      have HR2' := HR.out hM
      have hcv := fun w => run_bytes_of_string (P := Try.prog) w 9 35 5 S Try.underlying9 Try.underlying35 Try.underlying5
      go_upto_region 18 with fail
      generalize grownCap w1 S.size 0 5 = cp
      have hwg : w.heap.size ≤ w1.heap.size := h3.bel.size
      have hB0 : BytesAt (w1.alloc (.cells (bytesRow S cp) 5 ((bytesRow S cp).size, (bytesRow S cp).size + 1))) w1.heap.size 5 S.data.toList := BytesAt.new w1 5 S cp
      have h4 := h3.other (.cells (bytesRow S cp) 5 ((bytesRow S cp).size, (bytesRow S cp).size + 1))
      generalize (w1.alloc (.cells (bytesRow S cp) 5 ((bytesRow S cp).size, (bytesRow S cp).size + 1))) = w4 at *
      generalize w1.heap.size = g at *
      clear h3 hcv
      have hcell := hB0.cell i y HO.out
      have hfr := hB0.frozen i (by rw [HL.out]; omega)
      obtain ⟨S2, hS2⟩ : ∃ S2 : ByteArray, S2 = ⟨(S.data.toList.set i (y ^^^ c)).toArray⟩ := ⟨_, rfl⟩
      have hB1 := hB0.set_ i (y ^^^ c)
      have hcs := hB1.drew.string (P := Try.prog) 35 9 Try.underlying35 Try.underlying5 Try.underlying9 cp
      rw [List.length_set, size_list, ← hS2, byteV, UInt8.toNat_xor] at hcs
      rw [byteV] at hcell
      have h5 := (h4.far (p := ⟨g, i, none⟩) hwg (fun r hr => (List.not_mem_nil hr).elim) (.int .u8 ((y.toNat ^^^ c.toNat : Nat) : Int))).drew
      have HR2 : Hid (decR S2.data.toList = (0, l)) := Lib.hid (by rw [hS2]; exact HR2')
      clear hS2 hB0 hB1 h4 HR2' HR
      go_wp2_with fail
      refine (decode_any S2 _).mono ?_
      rintro e' w5 ⟨hb5, A', c', rfl, hs5⟩
      rw [HR2.out] at hs5 ⊢
      dsimp only at hs5 ⊢
      have h6 := St.call hb5 h5
      clear hb5 h5
      have CS := Lib.hid (imgs_same A' A c' cap l w5 hs5 ((HSL.out.below h6.bel).mono h6.bel.size) (by have := HN.out; omega))
      rw [HN.out] at CS ⊢
      go_wp2_with fail
      refine CS.out.mono ?_
      rintro e' w6 ⟨rfl, hb6⟩
      have h7 := St.call hb6 h6
      go_wp2_with fail
      go_ret
      exact ⟨rfl, h7.bel⟩
  · rcases hEc with hE | hE | hE | hE | hE | hE | hE | hE | hE
    · skip
      have p1 : ¬ (o : Int) < 4 := by omega
      have p2 : ¬ (6 : Int) ≤ (o : Int) := by omega
      have r1 : ¬ (2 : Int) ≤ (e : Int) := by omega
      have r3 : ¬ 2 * (n : Int) ≤ (e : Int) := by omega
      have hM : matB n e o = false := by
        unfold matB
        split
        · exact decide_eq_false (by omega)
        · split
          · exact decide_eq_false (by omega)
          · exact decide_eq_false (by omega)
      clear hO hE
      have HR2' := HR.out hM
      have hcv := fun w => run_bytes_of_string (P := Try.prog) w 9 35 5 S Try.underlying9 Try.underlying35 Try.underlying5
      go_upto_region 18 with fail
      generalize grownCap w1 S.size 0 5 = cp
      have hwg : w.heap.size ≤ w1.heap.size := h3.bel.size
      have hB0 : BytesAt (w1.alloc (.cells (bytesRow S cp) 5 ((bytesRow S cp).size, (bytesRow S cp).size + 1))) w1.heap.size 5 S.data.toList := BytesAt.new w1 5 S cp
      have h4 := h3.other (.cells (bytesRow S cp) 5 ((bytesRow S cp).size, (bytesRow S cp).size + 1))
      generalize (w1.alloc (.cells (bytesRow S cp) 5 ((bytesRow S cp).size, (bytesRow S cp).size + 1))) = w4 at *
      generalize w1.heap.size = g at *
      clear h3 hcv
      have hcell := hB0.cell i y HO.out
      have hfr := hB0.frozen i (by rw [HL.out]; omega)
      obtain ⟨S2, hS2⟩ : ∃ S2 : ByteArray, S2 = ⟨(S.data.toList.set i (y ^^^ c)).toArray⟩ := ⟨_, rfl⟩
      have hB1 := hB0.set_ i (y ^^^ c)
      have hcs := hB1.drew.string (P := Try.prog) 35 9 Try.underlying35 Try.underlying5 Try.underlying9 cp
      rw [List.length_set, size_list, ← hS2, byteV, UInt8.toNat_xor] at hcs
      rw [byteV] at hcell
      have h5 := (h4.far (p := ⟨g, i, none⟩) hwg (fun r hr => (List.not_mem_nil hr).elim) (.int .u8 ((y.toNat ^^^ c.toNat : Nat) : Int))).drew
      have HR2 : Hid (decR S2.data.toList = (0, l)) := Lib.hid (by rw [hS2]; exact HR2')
      clear hS2 hB0 hB1 h4 HR2' HR
      go_wp2_with fail
      refine (decode_any S2 _).mono ?_
      rintro e' w5 ⟨hb5, A', c', rfl, hs5⟩
      rw [HR2.out] at hs5 ⊢
      dsimp only at hs5 ⊢
      have h6 := St.call hb5 h5
      clear hb5 h5
      have CS := Lib.hid (imgs_same A' A c' cap l w5 hs5 ((HSL.out.below h6.bel).mono h6.bel.size) (by have := HN.out; omega))
      rw [HN.out] at CS ⊢
      go_wp2_with fail
      refine CS.out.mono ?_
      rintro e' w6 ⟨rfl, hb6⟩
      have h7 := St.call hb6 h6
      go_wp2_with fail
      go_ret
      exact ⟨rfl, h7.bel⟩
    · skip
      have p1 : ¬ (o : Int) < 4 := by omega
      have p2 : ¬ (6 : Int) ≤ (o : Int) := by omega
      have r1 : (2 : Int) ≤ (e : Int) := by omega
      have r2 : (((e : Int) % 2) == 0) = true := by rw [beq_iff_eq]; omega
      have r3 : ¬ 2 * (n : Int) ≤ (e : Int) := by omega
      have hM : matB n e o = false := by
        unfold matB
        split
        · exact decide_eq_false (by omega)
        · split
          · exact decide_eq_false (by omega)
          · exact decide_eq_false (by omega)
      clear hO hE
      have HR2' := HR.out hM
      have hcv := fun w => run_bytes_of_string (P := Try.prog) w 9 35 5 S Try.underlying9 Try.underlying35 Try.underlying5
      go_upto_region 18 with fail
      generalize grownCap w1 S.size 0 5 = cp
      have hwg : w.heap.size ≤ w1.heap.size := h3.bel.size
      have hB0 : BytesAt (w1.alloc (.cells (bytesRow S cp) 5 ((bytesRow S cp).size, (bytesRow S cp).size + 1))) w1.heap.size 5 S.data.toList := BytesAt.new w1 5 S cp
      have h4 := h3.other (.cells (bytesRow S cp) 5 ((bytesRow S cp).size, (bytesRow S cp).size + 1))
      generalize (w1.alloc (.cells (bytesRow S cp) 5 ((bytesRow S cp).size, (bytesRow S cp).size + 1))) = w4 at *
      generalize w1.heap.size = g at *
      clear h3 hcv
      have hcell := hB0.cell i y HO.out
      have hfr := hB0.frozen i (by rw [HL.out]; omega)
      obtain ⟨S2, hS2⟩ : ∃ S2 : ByteArray, S2 = ⟨(S.data.toList.set i (y ^^^ c)).toArray⟩ := ⟨_, rfl⟩
      have hB1 := hB0.set_ i (y ^^^ c)
      have hcs := hB1.drew.string (P := Try.prog) 35 9 Try.underlying35 Try.underlying5 Try.underlying9 cp
      rw [List.length_set, size_list, ← hS2, byteV, UInt8.toNat_xor] at hcs
      rw [byteV] at hcell
      have h5 := (h4.far (p := ⟨g, i, none⟩) hwg (fun r hr => (List.not_mem_nil hr).elim) (.int .u8 ((y.toNat ^^^ c.toNat : Nat) : Int))).drew
      have HR2 : Hid (decR S2.data.toList = (0, l)) := Lib.hid (by rw [hS2]; exact HR2')
      clear hS2 hB0 hB1 h4 HR2' HR
      go_wp2_with fail
      refine (decode_any S2 _).mono ?_
      rintro e' w5 ⟨hb5, A', c', rfl, hs5⟩
      rw [HR2.out] at hs5 ⊢
      dsimp only at hs5 ⊢
      have h6 := St.call hb5 h5
      clear hb5 h5
      have CS := Lib.hid (imgs_same A' A c' cap l w5 hs5 ((HSL.out.below h6.bel).mono h6.bel.size) (by have := HN.out; omega))
      rw [HN.out] at CS ⊢
      go_wp2_with fail
      refine CS.out.mono ?_
      rintro e' w6 ⟨rfl, hb6⟩
      have h7 := St.call hb6 h6
      go_wp2_with fail
      go_ret
      exact ⟨rfl, h7.bel⟩
    · skip
      have p1 : ¬ (o : Int) < 4 := by omega
      have p2 : ¬ (6 : Int) ≤ (o : Int) := by omega
      have r1 : (2 : Int) ≤ (e : Int) := by omega
      have r2 : (((e : Int) % 2) == 0) = false := by rw [beq_eq_false_iff_ne]; omega
      have r3 : ¬ 2 * (n : Int) ≤ (e : Int) := by omega
      have hM : matB n e o = false := by
        unfold matB
        split
        · exact decide_eq_false (by omega)
        · split
          · exact decide_eq_false (by omega)
          · exact decide_eq_false (by omega)
      clear hO hE
      have HR2' := HR.out hM
      have hcv := fun w => run_bytes_of_string (P := Try.prog) w 9 35 5 S Try.underlying9 Try.underlying35 Try.underlying5
      go_upto_region 18 with fail
      generalize grownCap w1 S.size 0 5 = cp
      have hwg : w.heap.size ≤ w1.heap.size := h3.bel.size
      have hB0 : BytesAt (w1.alloc (.cells (bytesRow S cp) 5 ((bytesRow S cp).size, (bytesRow S cp).size + 1))) w1.heap.size 5 S.data.toList := BytesAt.new w1 5 S cp
      have h4 := h3.other (.cells (bytesRow S cp) 5 ((bytesRow S cp).size, (bytesRow S cp).size + 1))
      generalize (w1.alloc (.cells (bytesRow S cp) 5 ((bytesRow S cp).size, (bytesRow S cp).size + 1))) = w4 at *
      generalize w1.heap.size = g at *
      clear h3 hcv
      have hcell := hB0.cell i y HO.out
      have hfr := hB0.frozen i (by rw [HL.out]; omega)
      obtain ⟨S2, hS2⟩ : ∃ S2 : ByteArray, S2 = ⟨(S.data.toList.set i (y ^^^ c)).toArray⟩ := ⟨_, rfl⟩
      have hB1 := hB0.set_ i (y ^^^ c)
      have hcs := hB1.drew.string (P := Try.prog) 35 9 Try.underlying35 Try.underlying5 Try.underlying9 cp
      rw [List.length_set, size_list, ← hS2, byteV, UInt8.toNat_xor] at hcs
      rw [byteV] at hcell
      have h5 := (h4.far (p := ⟨g, i, none⟩) hwg (fun r hr => (List.not_mem_nil hr).elim) (.int .u8 ((y.toNat ^^^ c.toNat : Nat) : Int))).drew
      have HR2 : Hid (decR S2.data.toList = (0, l)) := Lib.hid (by rw [hS2]; exact HR2')
      clear hS2 hB0 hB1 h4 HR2' HR
      go_wp2_with fail
      refine (decode_any S2 _).mono ?_
      rintro e' w5 ⟨hb5, A', c', rfl, hs5⟩
      rw [HR2.out] at hs5 ⊢
      dsimp only at hs5 ⊢
      have h6 := St.call hb5 h5
      clear hb5 h5
      have CS := Lib.hid (imgs_same A' A c' cap l w5 hs5 ((HSL.out.below h6.bel).mono h6.bel.size) (by have := HN.out; omega))
      rw [HN.out] at CS ⊢
      go_wp2_with fail
      refine CS.out.mono ?_
      rintro e' w6 ⟨rfl, hb6⟩
      have h7 := St.call hb6 h6
      go_wp2_with fail
      go_ret
      exact ⟨rfl, h7.bel⟩
    · skip
      have p1 : ¬ (o : Int) < 4 := by omega
      have p2 : ¬ (6 : Int) ≤ (o : Int) := by omega
      have r1 : (2 : Int) ≤ (e : Int) := by omega
      have r2 : (((e : Int) % 2) == 0) = true := by rw [beq_iff_eq]; omega
      have r3 : 2 * (n : Int) ≤ (e : Int) := by omega
      have r4 : (((n : Int)) == 1) = false := by rw [beq_eq_false_iff_ne]; omega
      have hM : matB n e o = false := by
        unfold matB
        split
        · exact decide_eq_false (by omega)
        · split
          · exact decide_eq_false (by omega)
          · exact decide_eq_false (by omega)
      clear hO hE
      have HR2' := HR.out hM
      have hcv := fun w => run_bytes_of_string (P := Try.prog) w 9 35 5 S Try.underlying9 Try.underlying35 Try.underlying5
      go_upto_region 18 with fail
      generalize grownCap w1 S.size 0 5 = cp
      have hwg : w.heap.size ≤ w1.heap.size := h3.bel.size
      have hB0 : BytesAt (w1.alloc (.cells (bytesRow S cp) 5 ((bytesRow S cp).size, (bytesRow S cp).size + 1))) w1.heap.size 5 S.data.toList := BytesAt.new w1 5 S cp
      have h4 := h3.other (.cells (bytesRow S cp) 5 ((bytesRow S cp).size, (bytesRow S cp).size + 1))
      generalize (w1.alloc (.cells (bytesRow S cp) 5 ((bytesRow S cp).size, (bytesRow S cp).size + 1))) = w4 at *
      generalize w1.heap.size = g at *
      clear h3 hcv
      have hcell := hB0.cell i y HO.out
      have hfr := hB0.frozen i (by rw [HL.out]; omega)
      obtain ⟨S2, hS2⟩ : ∃ S2 : ByteArray, S2 = ⟨(S.data.toList.set i (y ^^^ c)).toArray⟩ := ⟨_, rfl⟩
      have hB1 := hB0.set_ i (y ^^^ c)
      have hcs := hB1.drew.string (P := Try.prog) 35 9 Try.underlying35 Try.underlying5 Try.underlying9 cp
      rw [List.length_set, size_list, ← hS2, byteV, UInt8.toNat_xor] at hcs
      rw [byteV] at hcell
      have h5 := (h4.far (p := ⟨g, i, none⟩) hwg (fun r hr => (List.not_mem_nil hr).elim) (.int .u8 ((y.toNat ^^^ c.toNat : Nat) : Int))).drew
      have HR2 : Hid (decR S2.data.toList = (0, l)) := Lib.hid (by rw [hS2]; exact HR2')
      clear hS2 hB0 hB1 h4 HR2' HR
      go_wp2_with fail
      refine (decode_any S2 _).mono ?_
      rintro e' w5 ⟨hb5, A', c', rfl, hs5⟩
      rw [HR2.out] at hs5 ⊢
      dsimp only at hs5 ⊢
      have h6 := St.call hb5 h5
      clear hb5 h5
      have CS := Lib.hid (imgs_same A' A c' cap l w5 hs5 ((HSL.out.below h6.bel).mono h6.bel.size) (by have := HN.out; omega))
      rw [HN.out] at CS ⊢
      go_wp2_with fail
      refine CS.out.mono ?_
      rintro e' w6 ⟨rfl, hb6⟩
      have h7 := St.call hb6 h6
      go_wp2_with fail
      go_ret
      exact ⟨rfl, h7.bel⟩
    · skip
      have p1 : ¬ (o : Int) < 4 := by omega
      have p2 : ¬ (6 : Int) ≤ (o : Int) := by omega
      have r1 : (2 : Int) ≤ (e : Int) := by omega
      have r2 : (((e : Int) % 2) == 0) = true := by rw [beq_iff_eq]; omega
      have r3 : 2 * (n : Int) ≤ (e : Int) := by omega
      have r4 : (((n : Int)) == 1) = true := by rw [beq_iff_eq]; omega
      have r5 : (((e : Int)) == 2) = false := by rw [beq_eq_false_iff_ne]; omega
      have hM : matB n e o = false := by
        unfold matB
        split
        · exact decide_eq_false (by omega)
        · split
          · exact decide_eq_false (by omega)
          · exact decide_eq_false (by omega)
      clear hO hE
      have HR2' := HR.out hM
      have hcv := fun w => run_bytes_of_string (P := Try.prog) w 9 35 5 S Try.underlying9 Try.underlying35 Try.underlying5
      go_upto_region 18 with fail
      generalize grownCap w1 S.size 0 5 = cp
      have hwg : w.heap.size ≤ w1.heap.size := h3.bel.size
      have hB0 : BytesAt (w1.alloc (.cells (bytesRow S cp) 5 ((bytesRow S cp).size, (bytesRow S cp).size + 1))) w1.heap.size 5 S.data.toList := BytesAt.new w1 5 S cp
      have h4 := h3.other (.cells (bytesRow S cp) 5 ((bytesRow S cp).size, (bytesRow S cp).size + 1))
      generalize (w1.alloc (.cells (bytesRow S cp) 5 ((bytesRow S cp).size, (bytesRow S cp).size + 1))) = w4 at *
      generalize w1.heap.size = g at *
      clear h3 hcv
      have hcell := hB0.cell i y HO.out
      have hfr := hB0.frozen i (by rw [HL.out]; omega)
      obtain ⟨S2, hS2⟩ : ∃ S2 : ByteArray, S2 = ⟨(S.data.toList.set i (y ^^^ c)).toArray⟩ := ⟨_, rfl⟩
      have hB1 := hB0.set_ i (y ^^^ c)
      have hcs := hB1.drew.string (P := Try.prog) 35 9 Try.underlying35 Try.underlying5 Try.underlying9 cp
      rw [List.length_set, size_list, ← hS2, byteV, UInt8.toNat_xor] at hcs
      rw [byteV] at hcell
      have h5 := (h4.far (p := ⟨g, i, none⟩) hwg (fun r hr => (List.not_mem_nil hr).elim) (.int .u8 ((y.toNat ^^^ c.toNat : Nat) : Int))).drew
      have HR2 : Hid (decR S2.data.toList = (0, l)) := Lib.hid (by rw [hS2]; exact HR2')
      clear hS2 hB0 hB1 h4 HR2' HR
      go_wp2_with fail
      refine (decode_any S2 _).mono ?_
      rintro e' w5 ⟨hb5, A', c', rfl, hs5⟩
      rw [HR2.out] at hs5 ⊢
      dsimp only at hs5 ⊢
      have h6 := St.call hb5 h5
      clear hb5 h5
      have CS := Lib.hid (imgs_same A' A c' cap l w5 hs5 ((HSL.out.below h6.bel).mono h6.bel.size) (by have := HN.out; omega))
      rw [HN.out] at CS ⊢
      go_wp2_with fail
      refine CS.out.mono ?_
      rintro e' w6 ⟨rfl, hb6⟩
      have h7 := St.call hb6 h6
      go_wp2_with fail
      go_ret
      exact ⟨rfl, h7.bel⟩
    · skip
      have p1 : ¬ (o : Int) < 4 := by omega
      have p2 : ¬ (6 : Int) ≤ (o : Int) := by omega
      have r1 : (2 : Int) ≤ (e : Int) := by omega
      have r2 : (((e : Int) % 2) == 0) = true := by rw [beq_iff_eq]; omega
      have r3 : 2 * (n : Int) ≤ (e : Int) := by omega
      have r4 : (((n : Int)) == 1) = true := by rw [beq_iff_eq]; omega
      have r5 : (((e : Int)) == 2) = true := by rw [beq_iff_eq]; omega
      have r6 : (((o : Int)) == 0) = false := by rw [beq_eq_false_iff_ne]; omega
      have hM : matB n e o = false := by
        unfold matB
        split
        · exact decide_eq_false (by omega)
        · split
          · exact decide_eq_false (by omega)
          · exact decide_eq_false (by omega)
      clear hO hE
      have HR2' := HR.out hM
      have hcv := fun w => run_bytes_of_string (P := Try.prog) w 9 35 5 S Try.underlying9 Try.underlying35 Try.underlying5
      go_upto_region 18 with fail
      generalize grownCap w1 S.size 0 5 = cp
      have hwg : w.heap.size ≤ w1.heap.size := h3.bel.size
      have hB0 : BytesAt (w1.alloc (.cells (bytesRow S cp) 5 ((bytesRow S cp).size, (bytesRow S cp).size + 1))) w1.heap.size 5 S.data.toList := BytesAt.new w1 5 S cp
      have h4 := h3.other (.cells (bytesRow S cp) 5 ((bytesRow S cp).size, (bytesRow S cp).size + 1))
      generalize (w1.alloc (.cells (bytesRow S cp) 5 ((bytesRow S cp).size, (bytesRow S cp).size + 1))) = w4 at *
      generalize w1.heap.size = g at *
      clear h3 hcv
      have hcell := hB0.cell i y HO.out
      have hfr := hB0.frozen i (by rw [HL.out]; omega)
      obtain ⟨S2, hS2⟩ : ∃ S2 : ByteArray, S2 = ⟨(S.data.toList.set i (y ^^^ c)).toArray⟩ := ⟨_, rfl⟩
      have hB1 := hB0.set_ i (y ^^^ c)
      have hcs := hB1.drew.string (P := Try.prog) 35 9 Try.underlying35 Try.underlying5 Try.underlying9 cp
      rw [List.length_set, size_list, ← hS2, byteV, UInt8.toNat_xor] at hcs
      rw [byteV] at hcell
      have h5 := (h4.far (p := ⟨g, i, none⟩) hwg (fun r hr => (List.not_mem_nil hr).elim) (.int .u8 ((y.toNat ^^^ c.toNat : Nat) : Int))).drew
      have HR2 : Hid (decR S2.data.toList = (0, l)) := Lib.hid (by rw [hS2]; exact HR2')
      clear hS2 hB0 hB1 h4 HR2' HR
      go_wp2_with fail
      refine (decode_any S2 _).mono ?_
      rintro e' w5 ⟨hb5, A', c', rfl, hs5⟩
      rw [HR2.out] at hs5 ⊢
      dsimp only at hs5 ⊢
      have h6 := St.call hb5 h5
      clear hb5 h5
      have CS := Lib.hid (imgs_same A' A c' cap l w5 hs5 ((HSL.out.below h6.bel).mono h6.bel.size) (by have := HN.out; omega))
      rw [HN.out] at CS ⊢
      go_wp2_with fail
      refine CS.out.mono ?_
      rintro e' w6 ⟨rfl, hb6⟩
      have h7 := St.call hb6 h6
      go_wp2_with fail
      go_ret
      exact ⟨rfl, h7.bel⟩
    · skip
      omega
    · skip
      have p1 : ¬ (o : Int) < 4 := by omega
      have p2 : ¬ (6 : Int) ≤ (o : Int) := by omega
      have r1 : (2 : Int) ≤ (e : Int) := by omega
      have r2 : (((e : Int) % 2) == 0) = false := by rw [beq_eq_false_iff_ne]; omega
      have r3 : 2 * (n : Int) ≤ (e : Int) := by omega
      have r4 : (((n : Int)) == 1) = false := by rw [beq_eq_false_iff_ne]; omega
      have hM : matB n e o = false := by
        unfold matB
        split
        · exact decide_eq_false (by omega)
        · split
          · exact decide_eq_false (by omega)
          · exact decide_eq_false (by omega)
      clear hO hE
      have HR2' := HR.out hM
      have hcv := fun w => run_bytes_of_string (P := Try.prog) w 9 35 5 S Try.underlying9 Try.underlying35 Try.underlying5
      go_upto_region 18 with fail
      generalize grownCap w1 S.size 0 5 = cp
      have hwg : w.heap.size ≤ w1.heap.size := h3.bel.size
      have hB0 : BytesAt (w1.alloc (.cells (bytesRow S cp) 5 ((bytesRow S cp).size, (bytesRow S cp).size + 1))) w1.heap.size 5 S.data.toList := BytesAt.new w1 5 S cp
      have h4 := h3.other (.cells (bytesRow S cp) 5 ((bytesRow S cp).size, (bytesRow S cp).size + 1))
      generalize (w1.alloc (.cells (bytesRow S cp) 5 ((bytesRow S cp).size, (bytesRow S cp).size + 1))) = w4 at *
      generalize w1.heap.size = g at *
      clear h3 hcv
      have hcell := hB0.cell i y HO.out
      have hfr := hB0.frozen i (by rw [HL.out]; omega)
      obtain ⟨S2, hS2⟩ : ∃ S2 : ByteArray, S2 = ⟨(S.data.toList.set i (y ^^^ c)).toArray⟩ := ⟨_, rfl⟩
      have hB1 := hB0.set_ i (y ^^^ c)
      have hcs := hB1.drew.string (P := Try.prog) 35 9 Try.underlying35 Try.underlying5 Try.underlying9 cp
      rw [List.length_set, size_list, ← hS2, byteV, UInt8.toNat_xor] at hcs
      rw [byteV] at hcell
      have h5 := (h4.far (p := ⟨g, i, none⟩) hwg (fun r hr => (List.not_mem_nil hr).elim) (.int .u8 ((y.toNat ^^^ c.toNat : Nat) : Int))).drew
      have HR2 : Hid (decR S2.data.toList = (0, l)) := Lib.hid (by rw [hS2]; exact HR2')
      clear hS2 hB0 hB1 h4 HR2' HR
      go_wp2_with fail
      refine (decode_any S2 _).mono ?_
      rintro e' w5 ⟨hb5, A', c', rfl, hs5⟩
      rw [HR2.out] at hs5 ⊢
      dsimp only at hs5 ⊢
      have h6 := St.call hb5 h5
      clear hb5 h5
      have CS := Lib.hid (imgs_same A' A c' cap l w5 hs5 ((HSL.out.below h6.bel).mono h6.bel.size) (by have := HN.out; omega))
      rw [HN.out] at CS ⊢
      go_wp2_with fail
      refine CS.out.mono ?_
      rintro e' w6 ⟨rfl, hb6⟩
      have h7 := St.call hb6 h6
      go_wp2_with fail
      go_ret
      exact ⟨rfl, h7.bel⟩
    · skip
      have p1 : ¬ (o : Int) < 4 := by omega
      have p2 : ¬ (6 : Int) ≤ (o : Int) := by omega
      have r1 : (2 : Int) ≤ (e : Int) := by omega
      have r2 : (((e : Int) % 2) == 0) = false := by rw [beq_eq_false_iff_ne]; omega
      have r3 : 2 * (n : Int) ≤ (e : Int) := by omega
      have r4 : (((n : Int)) == 1) = true := by rw [beq_iff_eq]; omega
      have r5 : (((e : Int)) == 2) = false := by rw [beq_eq_false_iff_ne]; omega
      have hM : matB n e o = false := by
        unfold matB
        split
        · exact decide_eq_false (by omega)
        · split
          · exact decide_eq_false (by omega)
          · exact decide_eq_false (by omega)
      clear hO hE
      have HR2' := HR.out hM
      have hcv := fun w => run_bytes_of_string (P := Try.prog) w 9 35 5 S Try.underlying9 Try.underlying35 Try.underlying5
      go_upto_region 18 with fail
      generalize grownCap w1 S.size 0 5 = cp
      have hwg : w.heap.size ≤ w1.heap.size := h3.bel.size
      have hB0 : BytesAt (w1.alloc (.cells (bytesRow S cp) 5 ((bytesRow S cp).size, (bytesRow S cp).size + 1))) w1.heap.size 5 S.data.toList := BytesAt.new w1 5 S cp
      have h4 := h3.other (.cells (bytesRow S cp) 5 ((bytesRow S cp).size, (bytesRow S cp).size + 1))
      generalize (w1.alloc (.cells (bytesRow S cp) 5 ((bytesRow S cp).size, (bytesRow S cp).size + 1))) = w4 at *
      generalize w1.heap.size = g at *
      clear h3 hcv
      have hcell := hB0.cell i y HO.out
      have hfr := hB0.frozen i (by rw [HL.out]; omega)
      obtain ⟨S2, hS2⟩ : ∃ S2 : ByteArray, S2 = ⟨(S.data.toList.set i (y ^^^ c)).toArray⟩ := ⟨_, rfl⟩
      have hB1 := hB0.set_ i (y ^^^ c)
      have hcs := hB1.drew.string (P := Try.prog) 35 9 Try.underlying35 Try.underlying5 Try.underlying9 cp
      rw [List.length_set, size_list, ← hS2, byteV, UInt8.toNat_xor] at hcs
      rw [byteV] at hcell
      have h5 := (h4.far (p := ⟨g, i, none⟩) hwg (fun r hr => (List.not_mem_nil hr).elim) (.int .u8 ((y.toNat ^^^ c.toNat : Nat) : Int))).drew
      have HR2 : Hid (decR S2.data.toList = (0, l)) := Lib.hid (by rw [hS2]; exact HR2')
      clear hS2 hB0 hB1 h4 HR2' HR
      go_wp2_with fail
      refine (decode_any S2 _).mono ?_
      rintro e' w5 ⟨hb5, A', c', rfl, hs5⟩
      rw [HR2.out] at hs5 ⊢
      dsimp only at hs5 ⊢
      have h6 := St.call hb5 h5
      clear hb5 h5
      have CS := Lib.hid (imgs_same A' A c' cap l w5 hs5 ((HSL.out.below h6.bel).mono h6.bel.size) (by have := HN.out; omega))
      rw [HN.out] at CS ⊢
      go_wp2_with fail
      refine CS.out.mono ?_
      rintro e' w6 ⟨rfl, hb6⟩
      have h7 := St.call hb6 h6
      go_wp2_with fail
      go_ret
      exact ⟨rfl, h7.bel⟩
  · rcases hEc with hE | hE | hE | hE | hE | hE | hE | hE | hE
    · skip
      have p1 : ¬ (o : Int) < 4 := by omega
      have p2 : (6 : Int) ≤ (o : Int) := by omega
      have p3 : (o : Int) < 12 := by omega
      have r1 : ¬ (2 : Int) ≤ (e : Int) := by omega
      have r3 : ¬ 2 * (n : Int) ≤ (e : Int) := by omega
      clear hO hE
      go_wp2_with fail
      go_ret
      exact ⟨rfl, h3.bel⟩
    · skip
      have p1 : ¬ (o : Int) < 4 := by omega
      have p2 : (6 : Int) ≤ (o : Int) := by omega
      have p3 : (o : Int) < 12 := by omega
      have r1 : (2 : Int) ≤ (e : Int) := by omega
      have r2 : (((e : Int) % 2) == 0) = true := by rw [beq_iff_eq]; omega
      have r3 : ¬ 2 * (n : Int) ≤ (e : Int) := by omega
      have hM : matB n e o = false := by
        unfold matB
        split
        · exact decide_eq_false (by omega)
        · split
          · exact decide_eq_false (by omega)
          · exact decide_eq_false (by omega)
      clear hO hE
      have HR2' := HR.out hM
      have hcv := fun w => run_bytes_of_string (P := Try.prog) w 9 35 5 S Try.underlying9 Try.underlying35 Try.underlying5
      go_upto_region 18 with fail
      generalize grownCap w1 S.size 0 5 = cp
      have hwg : w.heap.size ≤ w1.heap.size := h3.bel.size
      have hB0 : BytesAt (w1.alloc (.cells (bytesRow S cp) 5 ((bytesRow S cp).size, (bytesRow S cp).size + 1))) w1.heap.size 5 S.data.toList := BytesAt.new w1 5 S cp
      have h4 := h3.other (.cells (bytesRow S cp) 5 ((bytesRow S cp).size, (bytesRow S cp).size + 1))
      generalize (w1.alloc (.cells (bytesRow S cp) 5 ((bytesRow S cp).size, (bytesRow S cp).size + 1))) = w4 at *
      generalize w1.heap.size = g at *
      clear h3 hcv
      have hcell := hB0.cell i y HO.out
      have hfr := hB0.frozen i (by rw [HL.out]; omega)
      obtain ⟨S2, hS2⟩ : ∃ S2 : ByteArray, S2 = ⟨(S.data.toList.set i (y ^^^ c)).toArray⟩ := ⟨_, rfl⟩
      have hB1 := hB0.set_ i (y ^^^ c)
      have hcs := hB1.drew.string (P := Try.prog) 35 9 Try.underlying35 Try.underlying5 Try.underlying9 cp
      rw [List.length_set, size_list, ← hS2, byteV, UInt8.toNat_xor] at hcs
      rw [byteV] at hcell
      have h5 := (h4.far (p := ⟨g, i, none⟩) hwg (fun r hr => (List.not_mem_nil hr).elim) (.int .u8 ((y.toNat ^^^ c.toNat : Nat) : Int))).drew
      have HR2 : Hid (decR S2.data.toList = (0, l)) := Lib.hid (by rw [hS2]; exact HR2')
      clear hS2 hB0 hB1 h4 HR2' HR
      go_wp2_with fail
      refine (decode_any S2 _).mono ?_
      rintro e' w5 ⟨hb5, A', c', rfl, hs5⟩
      rw [HR2.out] at hs5 ⊢
      dsimp only at hs5 ⊢
      have h6 := St.call hb5 h5
      clear hb5 h5
      have CS := Lib.hid (imgs_same A' A c' cap l w5 hs5 ((HSL.out.below h6.bel).mono h6.bel.size) (by have := HN.out; omega))
      rw [HN.out] at CS ⊢
      go_wp2_with fail
      refine CS.out.mono ?_
      rintro e' w6 ⟨rfl, hb6⟩
      have h7 := St.call hb6 h6
      go_wp2_with fail
      go_ret
      exact ⟨rfl, h7.bel⟩
    · skip
      have p1 : ¬ (o : Int) < 4 := by omega
      have p2 : (6 : Int) ≤ (o : Int) := by omega
      have p3 : (o : Int) < 12 := by omega
      have r1 : (2 : Int) ≤ (e : Int) := by omega
      have r2 : (((e : Int) % 2) == 0) = false := by rw [beq_eq_false_iff_ne]; omega
      have r3 : ¬ 2 * (n : Int) ≤ (e : Int) := by omega
      clear hO hE
      go_wp2_with fail
      go_ret
      exact ⟨rfl, h3.bel⟩
    · skip
      have p1 : ¬ (o : Int) < 4 := by omega
      have p2 : (6 : Int) ≤ (o : Int) := by omega
      have p3 : (o : Int) < 12 := by omega
      have r1 : (2 : Int) ≤ (e : Int) := by omega
      have r2 : (((e : Int) % 2) == 0) = true := by rw [beq_iff_eq]; omega
      have r3 : 2 * (n : Int) ≤ (e : Int) := by omega
      have r4 : (((n : Int)) == 1) = false := by rw [beq_eq_false_iff_ne]; omega
      have hM : matB n e o = false := by
        unfold matB
        split
        · exact decide_eq_false (by omega)
        · split
          · exact decide_eq_false (by omega)
          · exact decide_eq_false (by omega)
      clear hO hE
      have HR2' := HR.out hM
      have hcv := fun w => run_bytes_of_string (P := Try.prog) w 9 35 5 S Try.underlying9 Try.underlying35 Try.underlying5
      go_upto_region 18 with fail
      generalize grownCap w1 S.size 0 5 = cp
      have hwg : w.heap.size ≤ w1.heap.size := h3.bel.size
      have hB0 : BytesAt (w1.alloc (.cells (bytesRow S cp) 5 ((bytesRow S cp).size, (bytesRow S cp).size + 1))) w1.heap.size 5 S.data.toList := BytesAt.new w1 5 S cp
      have h4 := h3.other (.cells (bytesRow S cp) 5 ((bytesRow S cp).size, (bytesRow S cp).size + 1))
      generalize (w1.alloc (.cells (bytesRow S cp) 5 ((bytesRow S cp).size, (bytesRow S cp).size + 1))) = w4 at *
      generalize w1.heap.size = g at *
      clear h3 hcv
      have hcell := hB0.cell i y HO.out
      have hfr := hB0.frozen i (by rw [HL.out]; omega)
      obtain ⟨S2, hS2⟩ : ∃ S2 : ByteArray, S2 = ⟨(S.data.toList.set i (y ^^^ c)).toArray⟩ := ⟨_, rfl⟩
      have hB1 := hB0.set_ i (y ^^^ c)
      have hcs := hB1.drew.string (P := Try.prog) 35 9 Try.underlying35 Try.underlying5 Try.underlying9 cp
      rw [List.length_set, size_list, ← hS2, byteV, UInt8.toNat_xor] at hcs
      rw [byteV] at hcell
      have h5 := (h4.far (p := ⟨g, i, none⟩) hwg (fun r hr => (List.not_mem_nil hr).elim) (.int .u8 ((y.toNat ^^^ c.toNat : Nat) : Int))).drew
      have HR2 : Hid (decR S2.data.toList = (0, l)) := Lib.hid (by rw [hS2]; exact HR2')
      clear hS2 hB0 hB1 h4 HR2' HR
      go_wp2_with fail
      refine (decode_any S2 _).mono ?_
      rintro e' w5 ⟨hb5, A', c', rfl, hs5⟩
      rw [HR2.out] at hs5 ⊢
      dsimp only at hs5 ⊢
      have h6 := St.call hb5 h5
      clear hb5 h5
      have CS := Lib.hid (imgs_same A' A c' cap l w5 hs5 ((HSL.out.below h6.bel).mono h6.bel.size) (by have := HN.out; omega))
      rw [HN.out] at CS ⊢
      go_wp2_with fail
      refine CS.out.mono ?_
      rintro e' w6 ⟨rfl, hb6⟩
      have h7 := St.call hb6 h6
      go_wp2_with fail
      go_ret
      exact ⟨rfl, h7.bel⟩
    · skip
      have p1 : ¬ (o : Int) < 4 := by omega
      have p2 : (6 : Int) ≤ (o : Int) := by omega
      have p3 : (o : Int) < 12 := by omega
      have r1 : (2 : Int) ≤ (e : Int) := by omega
      have r2 : (((e : Int) % 2) == 0) = true := by rw [beq_iff_eq]; omega
      have r3 : 2 * (n : Int) ≤ (e : Int) := by omega
      have r4 : (((n : Int)) == 1) = true := by rw [beq_iff_eq]; omega
      have r5 : (((e : Int)) == 2) = false := by rw [beq_eq_false_iff_ne]; omega
      have hM : matB n e o = false := by
        unfold matB
        split
        · exact decide_eq_false (by omega)
        · split
          · exact decide_eq_false (by omega)
          · exact decide_eq_false (by omega)
      clear hO hE
      have HR2' := HR.out hM
      have hcv := fun w => run_bytes_of_string (P := Try.prog) w 9 35 5 S Try.underlying9 Try.underlying35 Try.underlying5
      go_upto_region 18 with fail
      generalize grownCap w1 S.size 0 5 = cp
      have hwg : w.heap.size ≤ w1.heap.size := h3.bel.size
      have hB0 : BytesAt (w1.alloc (.cells (bytesRow S cp) 5 ((bytesRow S cp).size, (bytesRow S cp).size + 1))) w1.heap.size 5 S.data.toList := BytesAt.new w1 5 S cp
      have h4 := h3.other (.cells (bytesRow S cp) 5 ((bytesRow S cp).size, (bytesRow S cp).size + 1))
      generalize (w1.alloc (.cells (bytesRow S cp) 5 ((bytesRow S cp).size, (bytesRow S cp).size + 1))) = w4 at *
      generalize w1.heap.size = g at *
      clear h3 hcv
      have hcell := hB0.cell i y HO.out
      have hfr := hB0.frozen i (by rw [HL.out]; omega)
      obtain ⟨S2, hS2⟩ : ∃ S2 : ByteArray, S2 = ⟨(S.data.toList.set i (y ^^^ c)).toArray⟩ := ⟨_, rfl⟩
      have hB1 := hB0.set_ i (y ^^^ c)
      have hcs := hB1.drew.string (P := Try.prog) 35 9 Try.underlying35 Try.underlying5 Try.underlying9 cp
      rw [List.length_set, size_list, ← hS2, byteV, UInt8.toNat_xor] at hcs
      rw [byteV] at hcell
      have h5 := (h4.far (p := ⟨g, i, none⟩) hwg (fun r hr => (List.not_mem_nil hr).elim) (.int .u8 ((y.toNat ^^^ c.toNat : Nat) : Int))).drew
      have HR2 : Hid (decR S2.data.toList = (0, l)) := Lib.hid (by rw [hS2]; exact HR2')
      clear hS2 hB0 hB1 h4 HR2' HR
      go_wp2_with fail
      refine (decode_any S2 _).mono ?_
      rintro e' w5 ⟨hb5, A', c', rfl, hs5⟩
      rw [HR2.out] at hs5 ⊢
      dsimp only at hs5 ⊢
      have h6 := St.call hb5 h5
      clear hb5 h5
      have CS := Lib.hid (imgs_same A' A c' cap l w5 hs5 ((HSL.out.below h6.bel).mono h6.bel.size) (by have := HN.out; omega))
      rw [HN.out] at CS ⊢
      go_wp2_with fail
      refine CS.out.mono ?_
      rintro e' w6 ⟨rfl, hb6⟩
      have h7 := St.call hb6 h6
      go_wp2_with fail
      go_ret
      exact ⟨rfl, h7.bel⟩
    · skip
      have p1 : ¬ (o : Int) < 4 := by omega
      have p2 : (6 : Int) ≤ (o : Int) := by omega
      have p3 : (o : Int) < 12 := by omega
      have r1 : (2 : Int) ≤ (e : Int) := by omega
      have r2 : (((e : Int) % 2) == 0) = true := by rw [beq_iff_eq]; omega
      have r3 : 2 * (n : Int) ≤ (e : Int) := by omega
      have r4 : (((n : Int)) == 1) = true := by rw [beq_iff_eq]; omega
      have r5 : (((e : Int)) == 2) = true := by rw [beq_iff_eq]; omega
      have r6 : (((o : Int)) == 0) = false := by rw [beq_eq_false_iff_ne]; omega
      have hM : matB n e o = false := by
        unfold matB
        split
        · exact decide_eq_false (by omega)
        · split
          · exact decide_eq_false (by omega)
          · exact decide_eq_false (by omega)
      clear hO hE
      have HR2' := HR.out hM
      have hcv := fun w => run_bytes_of_string (P := Try.prog) w 9 35 5 S Try.underlying9 Try.underlying35 Try.underlying5
      go_upto_region 18 with fail
      generalize grownCap w1 S.size 0 5 = cp
      have hwg : w.heap.size ≤ w1.heap.size := h3.bel.size
      have hB0 : BytesAt (w1.alloc (.cells (bytesRow S cp) 5 ((bytesRow S cp).size, (bytesRow S cp).size + 1))) w1.heap.size 5 S.data.toList := BytesAt.new w1 5 S cp
      have h4 := h3.other (.cells (bytesRow S cp) 5 ((bytesRow S cp).size, (bytesRow S cp).size + 1))
      generalize (w1.alloc (.cells (bytesRow S cp) 5 ((bytesRow S cp).size, (bytesRow S cp).size + 1))) = w4 at *
      generalize w1.heap.size = g at *
      clear h3 hcv
      have hcell := hB0.cell i y HO.out
      have hfr := hB0.frozen i (by rw [HL.out]; omega)
      obtain ⟨S2, hS2⟩ : ∃ S2 : ByteArray, S2 = ⟨(S.data.toList.set i (y ^^^ c)).toArray⟩ := ⟨_, rfl⟩
      have hB1 := hB0.set_ i (y ^^^ c)
      have hcs := hB1.drew.string (P := Try.prog) 35 9 Try.underlying35 Try.underlying5 Try.underlying9 cp
      rw [List.length_set, size_list, ← hS2, byteV, UInt8.toNat_xor] at hcs
      rw [byteV] at hcell
      have h5 := (h4.far (p := ⟨g, i, none⟩) hwg (fun r hr => (List.not_mem_nil hr).elim) (.int .u8 ((y.toNat ^^^ c.toNat : Nat) : Int))).drew
      have HR2 : Hid (decR S2.data.toList = (0, l)) := Lib.hid (by rw [hS2]; exact HR2')
      clear hS2 hB0 hB1 h4 HR2' HR
      go_wp2_with fail
      refine (decode_any S2 _).mono ?_
      rintro e' w5 ⟨hb5, A', c', rfl, hs5⟩
      rw [HR2.out] at hs5 ⊢
      dsimp only at hs5 ⊢
      have h6 := St.call hb5 h5
      clear hb5 h5
      have CS := Lib.hid (imgs_same A' A c' cap l w5 hs5 ((HSL.out.below h6.bel).mono h6.bel.size) (by have := HN.out; omega))
      rw [HN.out] at CS ⊢
      go_wp2_with fail
      refine CS.out.mono ?_
      rintro e' w6 ⟨rfl, hb6⟩
      have h7 := St.call hb6 h6
      go_wp2_with fail
      go_ret
      exact ⟨rfl, h7.bel⟩
    · skip
      omega
    · skip
      have p1 : ¬ (o : Int) < 4 := by omega
      have p2 : (6 : Int) ≤ (o : Int) := by omega
      have p3 : (o : Int) < 12 := by omega
      have r1 : (2 : Int) ≤ (e : Int) := by omega
      have r2 : (((e : Int) % 2) == 0) = false := by rw [beq_eq_false_iff_ne]; omega
      have r3 : 2 * (n : Int) ≤ (e : Int) := by omega
      have r4 : (((n : Int)) == 1) = false := by rw [beq_eq_false_iff_ne]; omega
      have hM : matB n e o = false := by
        unfold matB
        split
        · exact decide_eq_false (by omega)
        · split
          · exact decide_eq_false (by omega)
          · exact decide_eq_false (by omega)
      clear hO hE
      have HR2' := HR.out hM
      have hcv := fun w => run_bytes_of_string (P := Try.prog) w 9 35 5 S Try.underlying9 Try.underlying35 Try.underlying5
      go_upto_region 18 with fail
      generalize grownCap w1 S.size 0 5 = cp
      have hwg : w.heap.size ≤ w1.heap.size := h3.bel.size
      have hB0 : BytesAt (w1.alloc (.cells (bytesRow S cp) 5 ((bytesRow S cp).size, (bytesRow S cp).size + 1))) w1.heap.size 5 S.data.toList := BytesAt.new w1 5 S cp
      have h4 := h3.other (.cells (bytesRow S cp) 5 ((bytesRow S cp).size, (bytesRow S cp).size + 1))
      generalize (w1.alloc (.cells (bytesRow S cp) 5 ((bytesRow S cp).size, (bytesRow S cp).size + 1))) = w4 at *
      generalize w1.heap.size = g at *
      clear h3 hcv
      have hcell := hB0.cell i y HO.out
      have hfr := hB0.frozen i (by rw [HL.out]; omega)
      obtain ⟨S2, hS2⟩ : ∃ S2 : ByteArray, S2 = ⟨(S.data.toList.set i (y ^^^ c)).toArray⟩ := ⟨_, rfl⟩
      have hB1 := hB0.set_ i (y ^^^ c)
      have hcs := hB1.drew.string (P := Try.prog) 35 9 Try.underlying35 Try.underlying5 Try.underlying9 cp
      rw [List.length_set, size_list, ← hS2, byteV, UInt8.toNat_xor] at hcs
      rw [byteV] at hcell
      have h5 := (h4.far (p := ⟨g, i, none⟩) hwg (fun r hr => (List.not_mem_nil hr).elim) (.int .u8 ((y.toNat ^^^ c.toNat : Nat) : Int))).drew
      have HR2 : Hid (decR S2.data.toList = (0, l)) := Lib.hid (by rw [hS2]; exact HR2')
      clear hS2 hB0 hB1 h4 HR2' HR
      go_wp2_with fail
      refine (decode_any S2 _).mono ?_
      rintro e' w5 ⟨hb5, A', c', rfl, hs5⟩
      rw [HR2.out] at hs5 ⊢
      dsimp only at hs5 ⊢
      have h6 := St.call hb5 h5
      clear hb5 h5
      have CS := Lib.hid (imgs_same A' A c' cap l w5 hs5 ((HSL.out.below h6.bel).mono h6.bel.size) (by have := HN.out; omega))
      rw [HN.out] at CS ⊢
      go_wp2_with fail
      refine CS.out.mono ?_
      rintro e' w6 ⟨rfl, hb6⟩
      have h7 := St.call hb6 h6
      go_wp2_with fail
      go_ret
      exact ⟨rfl, h7.bel⟩
    · skip
      have p1 : ¬ (o : Int) < 4 := by omega
      have p2 : (6 : Int) ≤ (o : Int) := by omega
      have p3 : (o : Int) < 12 := by omega
      have r1 : (2 : Int) ≤ (e : Int) := by omega
      have r2 : (((e : Int) % 2) == 0) = false := by rw [beq_eq_false_iff_ne]; omega
      have r3 : 2 * (n : Int) ≤ (e : Int) := by omega
      have r4 : (((n : Int)) == 1) = true := by rw [beq_iff_eq]; omega
      have r5 : (((e : Int)) == 2) = false := by rw [beq_eq_false_iff_ne]; omega
      have hM : matB n e o = false := by
        unfold matB
        split
        · exact decide_eq_false (by omega)
        · split
          · exact decide_eq_false (by omega)
          · exact decide_eq_false (by omega)
      clear hO hE
      have HR2' := HR.out hM
      have hcv := fun w => run_bytes_of_string (P := Try.prog) w 9 35 5 S Try.underlying9 Try.underlying35 Try.underlying5
      go_upto_region 18 with fail
      generalize grownCap w1 S.size 0 5 = cp
      have hwg : w.heap.size ≤ w1.heap.size := h3.bel.size
      have hB0 : BytesAt (w1.alloc (.cells (bytesRow S cp) 5 ((bytesRow S cp).size, (bytesRow S cp).size + 1))) w1.heap.size 5 S.data.toList := BytesAt.new w1 5 S cp
      have h4 := h3.other (.cells (bytesRow S cp) 5 ((bytesRow S cp).size, (bytesRow S cp).size + 1))
      generalize (w1.alloc (.cells (bytesRow S cp) 5 ((bytesRow S cp).size, (bytesRow S cp).size + 1))) = w4 at *
      generalize w1.heap.size = g at *
      clear h3 hcv
      have hcell := hB0.cell i y HO.out
      have hfr := hB0.frozen i (by rw [HL.out]; omega)
      obtain ⟨S2, hS2⟩ : ∃ S2 : ByteArray, S2 = ⟨(S.data.toList.set i (y ^^^ c)).toArray⟩ := ⟨_, rfl⟩
      have hB1 := hB0.set_ i (y ^^^ c)
      have hcs := hB1.drew.string (P := Try.prog) 35 9 Try.underlying35 Try.underlying5 Try.underlying9 cp
      rw [List.length_set, size_list, ← hS2, byteV, UInt8.toNat_xor] at hcs
      rw [byteV] at hcell
      have h5 := (h4.far (p := ⟨g, i, none⟩) hwg (fun r hr => (List.not_mem_nil hr).elim) (.int .u8 ((y.toNat ^^^ c.toNat : Nat) : Int))).drew
      have HR2 : Hid (decR S2.data.toList = (0, l)) := Lib.hid (by rw [hS2]; exact HR2')
      clear hS2 hB0 hB1 h4 HR2' HR
      go_wp2_with fail
      refine (decode_any S2 _).mono ?_
      rintro e' w5 ⟨hb5, A', c', rfl, hs5⟩
      rw [HR2.out] at hs5 ⊢
      dsimp only at hs5 ⊢
      have h6 := St.call hb5 h5
      clear hb5 h5
      have CS := Lib.hid (imgs_same A' A c' cap l w5 hs5 ((HSL.out.below h6.bel).mono h6.bel.size) (by have := HN.out; omega))
      rw [HN.out] at CS ⊢
      go_wp2_with fail
      refine CS.out.mono ?_
      rintro e' w6 ⟨rfl, hb6⟩
      have h7 := St.call hb6 h6
      go_wp2_with fail
      go_ret
      exact ⟨rfl, h7.bel⟩
  · rcases hEc with hE | hE | hE | hE | hE | hE | hE | hE | hE
    · skip
      have p1 : ¬ (o : Int) < 4 := by omega
      have p2 : (6 : Int) ≤ (o : Int) := by omega
      have p3 : ¬ (o : Int) < 12 := by omega
      have r1 : ¬ (2 : Int) ≤ (e : Int) := by omega
      have r3 : ¬ 2 * (n : Int) ≤ (e : Int) := by omega
      have hM : matB n e o = false := by
        unfold matB
        split
        · exact decide_eq_false (by omega)
        · split
          · exact decide_eq_false (by omega)
          · exact decide_eq_false (by omega)
      clear hO hE
      have HR2' := HR.out hM
      have hcv := fun w => run_bytes_of_string (P := Try.prog) w 9 35 5 S Try.underlying9 Try.underlying35 Try.underlying5
      go_upto_region 18 with fail
      generalize grownCap w1 S.size 0 5 = cp
      have hwg : w.heap.size ≤ w1.heap.size := h3.bel.size
      have hB0 : BytesAt (w1.alloc (.cells (bytesRow S cp) 5 ((bytesRow S cp).size, (bytesRow S cp).size + 1))) w1.heap.size 5 S.data.toList := BytesAt.new w1 5 S cp
      have h4 := h3.other (.cells (bytesRow S cp) 5 ((bytesRow S cp).size, (bytesRow S cp).size + 1))
      generalize (w1.alloc (.cells (bytesRow S cp) 5 ((bytesRow S cp).size, (bytesRow S cp).size + 1))) = w4 at *
      generalize w1.heap.size = g at *
      clear h3 hcv
      have hcell := hB0.cell i y HO.out
      have hfr := hB0.frozen i (by rw [HL.out]; omega)
      obtain ⟨S2, hS2⟩ : ∃ S2 : ByteArray, S2 = ⟨(S.data.toList.set i (y ^^^ c)).toArray⟩ := ⟨_, rfl⟩
      have hB1 := hB0.set_ i (y ^^^ c)
      have hcs := hB1.drew.string (P := Try.prog) 35 9 Try.underlying35 Try.underlying5 Try.underlying9 cp
      rw [List.length_set, size_list, ← hS2, byteV, UInt8.toNat_xor] at hcs
      rw [byteV] at hcell
      have h5 := (h4.far (p := ⟨g, i, none⟩) hwg (fun r hr => (List.not_mem_nil hr).elim) (.int .u8 ((y.toNat ^^^ c.toNat : Nat) : Int))).drew
      have HR2 : Hid (decR S2.data.toList = (0, l)) := Lib.hid (by rw [hS2]; exact HR2')
      clear hS2 hB0 hB1 h4 HR2' HR
      go_wp2_with fail
      refine (decode_any S2 _).mono ?_
      rintro e' w5 ⟨hb5, A', c', rfl, hs5⟩
      rw [HR2.out] at hs5 ⊢
      dsimp only at hs5 ⊢
      have h6 := St.call hb5 h5
      clear hb5 h5
      have CS := Lib.hid (imgs_same A' A c' cap l w5 hs5 ((HSL.out.below h6.bel).mono h6.bel.size) (by have := HN.out; omega))
      rw [HN.out] at CS ⊢
      go_wp2_with fail
      refine CS.out.mono ?_
      rintro e' w6 ⟨rfl, hb6⟩
      have h7 := St.call hb6 h6
      go_wp2_with fail
      go_ret
      exact ⟨rfl, h7.bel⟩
    · skip
      have p1 : ¬ (o : Int) < 4 := by omega
      have p2 : (6 : Int) ≤ (o : Int) := by omega
      have p3 : ¬ (o : Int) < 12 := by omega
      have r1 : (2 : Int) ≤ (e : Int) := by omega
      have r2 : (((e : Int) % 2) == 0) = true := by rw [beq_iff_eq]; omega
      have r3 : ¬ 2 * (n : Int) ≤ (e : Int) := by omega
      have hM : matB n e o = false := by
        unfold matB
        split
        · exact decide_eq_false (by omega)
        · split
          · exact decide_eq_false (by omega)
          · exact decide_eq_false (by omega)
      clear hO hE
      have HR2' := HR.out hM
      have hcv := fun w => run_bytes_of_string (P := Try.prog) w 9 35 5 S Try.underlying9 Try.underlying35 Try.underlying5
      go_upto_region 18 with fail
      generalize grownCap w1 S.size 0 5 = cp
      have hwg : w.heap.size ≤ w1.heap.size := h3.bel.size
      have hB0 : BytesAt (w1.alloc (.cells (bytesRow S cp) 5 ((bytesRow S cp).size, (bytesRow S cp).size + 1))) w1.heap.size 5 S.data.toList := BytesAt.new w1 5 S cp
      have h4 := h3.other (.cells (bytesRow S cp) 5 ((bytesRow S cp).size, (bytesRow S cp).size + 1))
      generalize (w1.alloc (.cells (bytesRow S cp) 5 ((bytesRow S cp).size, (bytesRow S cp).size + 1))) = w4 at *
      generalize w1.heap.size = g at *
      clear h3 hcv
      have hcell := hB0.cell i y HO.out
      have hfr := hB0.frozen i (by rw [HL.out]; omega)
      obtain ⟨S2, hS2⟩ : ∃ S2 : ByteArray, S2 = ⟨(S.data.toList.set i (y ^^^ c)).toArray⟩ := ⟨_, rfl⟩
      have hB1 := hB0.set_ i (y ^^^ c)
      have hcs := hB1.drew.string (P := Try.prog) 35 9 Try.underlying35 Try.underlying5 Try.underlying9 cp
      rw [List.length_set, size_list, ← hS2, byteV, UInt8.toNat_xor] at hcs
      rw [byteV] at hcell
      have h5 := (h4.far (p := ⟨g, i, none⟩) hwg (fun r hr => (List.not_mem_nil hr).elim) (.int .u8 ((y.toNat ^^^ c.toNat : Nat) : Int))).drew
      have HR2 : Hid (decR S2.data.toList = (0, l)) := Lib.hid (by rw [hS2]; exact HR2')
      clear hS2 hB0 hB1 h4 HR2' HR
      go_wp2_with fail
      refine (decode_any S2 _).mono ?_
      rintro e' w5 ⟨hb5, A', c', rfl, hs5⟩
      rw [HR2.out] at hs5 ⊢
      dsimp only at hs5 ⊢
      have h6 := St.call hb5 h5
      clear hb5 h5
      have CS := Lib.hid (imgs_same A' A c' cap l w5 hs5 ((HSL.out.below h6.bel).mono h6.bel.size) (by have := HN.out; omega))
      rw [HN.out] at CS ⊢
      go_wp2_with fail
      refine CS.out.mono ?_
      rintro e' w6 ⟨rfl, hb6⟩
      have h7 := St.call hb6 h6
      go_wp2_with fail
      go_ret
      exact ⟨rfl, h7.bel⟩
    · skip
      have p1 : ¬ (o : Int) < 4 := by omega
      have p2 : (6 : Int) ≤ (o : Int) := by omega
      have p3 : ¬ (o : Int) < 12 := by omega
      have r1 : (2 : Int) ≤ (e : Int) := by omega
      have r2 : (((e : Int) % 2) == 0) = false := by rw [beq_eq_false_iff_ne]; omega
      have r3 : ¬ 2 * (n : Int) ≤ (e : Int) := by omega
      have hM : matB n e o = false := by
        unfold matB
        split
        · exact decide_eq_false (by omega)
        · split
          · exact decide_eq_false (by omega)
          · exact decide_eq_false (by omega)
      clear hO hE
      have HR2' := HR.out hM
      have hcv := fun w => run_bytes_of_string (P := Try.prog) w 9 35 5 S Try.underlying9 Try.underlying35 Try.underlying5
      go_upto_region 18 with fail
      generalize grownCap w1 S.size 0 5 = cp
      have hwg : w.heap.size ≤ w1.heap.size := h3.bel.size
      have hB0 : BytesAt (w1.alloc (.cells (bytesRow S cp) 5 ((bytesRow S cp).size, (bytesRow S cp).size + 1))) w1.heap.size 5 S.data.toList := BytesAt.new w1 5 S cp
      have h4 := h3.other (.cells (bytesRow S cp) 5 ((bytesRow S cp).size, (bytesRow S cp).size + 1))
      generalize (w1.alloc (.cells (bytesRow S cp) 5 ((bytesRow S cp).size, (bytesRow S cp).size + 1))) = w4 at *
      generalize w1.heap.size = g at *
      clear h3 hcv
      have hcell := hB0.cell i y HO.out
      have hfr := hB0.frozen i (by rw [HL.out]; omega)
      obtain ⟨S2, hS2⟩ : ∃ S2 : ByteArray, S2 = ⟨(S.data.toList.set i (y ^^^ c)).toArray⟩ := ⟨_, rfl⟩
      have hB1 := hB0.set_ i (y ^^^ c)
      have hcs := hB1.drew.string (P := Try.prog) 35 9 Try.underlying35 Try.underlying5 Try.underlying9 cp
      rw [List.length_set, size_list, ← hS2, byteV, UInt8.toNat_xor] at hcs
      rw [byteV] at hcell
      have h5 := (h4.far (p := ⟨g, i, none⟩) hwg (fun r hr => (List.not_mem_nil hr).elim) (.int .u8 ((y.toNat ^^^ c.toNat : Nat) : Int))).drew
      have HR2 : Hid (decR S2.data.toList = (0, l)) := Lib.hid (by rw [hS2]; exact HR2')
      clear hS2 hB0 hB1 h4 HR2' HR
      go_wp2_with fail
      refine (decode_any S2 _).mono ?_
      rintro e' w5 ⟨hb5, A', c', rfl, hs5⟩
      rw [HR2.out] at hs5 ⊢
      dsimp only at hs5 ⊢
      have h6 := St.call hb5 h5
      clear hb5 h5
      have CS := Lib.hid (imgs_same A' A c' cap l w5 hs5 ((HSL.out.below h6.bel).mono h6.bel.size) (by have := HN.out; omega))
      rw [HN.out] at CS ⊢
      go_wp2_with fail
      refine CS.out.mono ?_
      rintro e' w6 ⟨rfl, hb6⟩
      have h7 := St.call hb6 h6
      go_wp2_with fail
      go_ret
      exact ⟨rfl, h7.bel⟩
    · skip
      have p1 : ¬ (o : Int) < 4 := by omega
      have p2 : (6 : Int) ≤ (o : Int) := by omega
      have p3 : ¬ (o : Int) < 12 := by omega
      have r1 : (2 : Int) ≤ (e : Int) := by omega
      have r2 : (((e : Int) % 2) == 0) = true := by rw [beq_iff_eq]; omega
      have r3 : 2 * (n : Int) ≤ (e : Int) := by omega
      have r4 : (((n : Int)) == 1) = false := by rw [beq_eq_false_iff_ne]; omega
      have hM : matB n e o = false := by
        unfold matB
        split
        · exact decide_eq_false (by omega)
        · split
          · exact decide_eq_false (by omega)
          · exact decide_eq_false (by omega)
      clear hO hE
      have HR2' := HR.out hM
      have hcv := fun w => run_bytes_of_string (P := Try.prog) w 9 35 5 S Try.underlying9 Try.underlying35 Try.underlying5
      go_upto_region 18 with fail
      generalize grownCap w1 S.size 0 5 = cp
      have hwg : w.heap.size ≤ w1.heap.size := h3.bel.size
      have hB0 : BytesAt (w1.alloc (.cells (bytesRow S cp) 5 ((bytesRow S cp).size, (bytesRow S cp).size + 1))) w1.heap.size 5 S.data.toList := BytesAt.new w1 5 S cp
      have h4 := h3.other (.cells (bytesRow S cp) 5 ((bytesRow S cp).size, (bytesRow S cp).size + 1))
      generalize (w1.alloc (.cells (bytesRow S cp) 5 ((bytesRow S cp).size, (bytesRow S cp).size + 1))) = w4 at *
      generalize w1.heap.size = g at *
      clear h3 hcv
      have hcell := hB0.cell i y HO.out
      have hfr := hB0.frozen i (by rw [HL.out]; omega)
      obtain ⟨S2, hS2⟩ : ∃ S2 : ByteArray, S2 = ⟨(S.data.toList.set i (y ^^^ c)).toArray⟩ := ⟨_, rfl⟩
      have hB1 := hB0.set_ i (y ^^^ c)
      have hcs := hB1.drew.string (P := Try.prog) 35 9 Try.underlying35 Try.underlying5 Try.underlying9 cp
      rw [List.length_set, size_list, ← hS2, byteV, UInt8.toNat_xor] at hcs
      rw [byteV] at hcell
      have h5 := (h4.far (p := ⟨g, i, none⟩) hwg (fun r hr => (List.not_mem_nil hr).elim) (.int .u8 ((y.toNat ^^^ c.toNat : Nat) : Int))).drew
      have HR2 : Hid (decR S2.data.toList = (0, l)) := Lib.hid (by rw [hS2]; exact HR2')
      clear hS2 hB0 hB1 h4 HR2' HR
      go_wp2_with fail
      refine (decode_any S2 _).mono ?_
      rintro e' w5 ⟨hb5, A', c', rfl, hs5⟩
      rw [HR2.out] at hs5 ⊢
      dsimp only at hs5 ⊢
      have h6 := St.call hb5 h5
      clear hb5 h5
      have CS := Lib.hid (imgs_same A' A c' cap l w5 hs5 ((HSL.out.below h6.bel).mono h6.bel.size) (by have := HN.out; omega))
      rw [HN.out] at CS ⊢
      go_wp2_with fail
      refine CS.out.mono ?_
      rintro e' w6 ⟨rfl, hb6⟩
      have h7 := St.call hb6 h6
      go_wp2_with fail
      go_ret
      exact ⟨rfl, h7.bel⟩
    · skip
      have p1 : ¬ (o : Int) < 4 := by omega
      have p2 : (6 : Int) ≤ (o : Int) := by omega
      have p3 : ¬ (o : Int) < 12 := by omega
      have r1 : (2 : Int) ≤ (e : Int) := by omega
      have r2 : (((e : Int) % 2) == 0) = true := by rw [beq_iff_eq]; omega
      have r3 : 2 * (n : Int) ≤ (e : Int) := by omega
      have r4 : (((n : Int)) == 1) = true := by rw [beq_iff_eq]; omega
      have r5 : (((e : Int)) == 2) = false := by rw [beq_eq_false_iff_ne]; omega
      have hM : matB n e o = false := by
        unfold matB
        split
        · exact decide_eq_false (by omega)
        · split
          · exact decide_eq_false (by omega)
          · exact decide_eq_false (by omega)
      clear hO hE
      have HR2' := HR.out hM
      have hcv := fun w => run_bytes_of_string (P := Try.prog) w 9 35 5 S Try.underlying9 Try.underlying35 Try.underlying5
      go_upto_region 18 with fail
      generalize grownCap w1 S.size 0 5 = cp
      have hwg : w.heap.size ≤ w1.heap.size := h3.bel.size
      have hB0 : BytesAt (w1.alloc (.cells (bytesRow S cp) 5 ((bytesRow S cp).size, (bytesRow S cp).size + 1))) w1.heap.size 5 S.data.toList := BytesAt.new w1 5 S cp
      have h4 := h3.other (.cells (bytesRow S cp) 5 ((bytesRow S cp).size, (bytesRow S cp).size + 1))
      generalize (w1.alloc (.cells (bytesRow S cp) 5 ((bytesRow S cp).size, (bytesRow S cp).size + 1))) = w4 at *
      generalize w1.heap.size = g at *
      clear h3 hcv
      have hcell := hB0.cell i y HO.out
      have hfr := hB0.frozen i (by rw [HL.out]; omega)
      obtain ⟨S2, hS2⟩ : ∃ S2 : ByteArray, S2 = ⟨(S.data.toList.set i (y ^^^ c)).toArray⟩ := ⟨_, rfl⟩
      have hB1 := hB0.set_ i (y ^^^ c)
      have hcs := hB1.drew.string (P := Try.prog) 35 9 Try.underlying35 Try.underlying5 Try.underlying9 cp
      rw [List.length_set, size_list, ← hS2, byteV, UInt8.toNat_xor] at hcs
      rw [byteV] at hcell
      have h5 := (h4.far (p := ⟨g, i, none⟩) hwg (fun r hr => (List.not_mem_nil hr).elim) (.int .u8 ((y.toNat ^^^ c.toNat : Nat) : Int))).drew
      have HR2 : Hid (decR S2.data.toList = (0, l)) := Lib.hid (by rw [hS2]; exact HR2')
      clear hS2 hB0 hB1 h4 HR2' HR
      go_wp2_with fail
      refine (decode_any S2 _).mono ?_
      rintro e' w5 ⟨hb5, A', c', rfl, hs5⟩
      rw [HR2.out] at hs5 ⊢
      dsimp only at hs5 ⊢
      have h6 := St.call hb5 h5
      clear hb5 h5
      have CS := Lib.hid (imgs_same A' A c' cap l w5 hs5 ((HSL.out.below h6.bel).mono h6.bel.size) (by have := HN.out; omega))
      rw [HN.out] at CS ⊢
      go_wp2_with fail
      refine CS.out.mono ?_
      rintro e' w6 ⟨rfl, hb6⟩
      have h7 := St.call hb6 h6
      go_wp2_with fail
      go_ret
      exact ⟨rfl, h7.bel⟩
    · skip
      have p1 : ¬ (o : Int) < 4 := by omega
      have p2 : (6 : Int) ≤ (o : Int) := by omega
      have p3 : ¬ (o : Int) < 12 := by omega
      have r1 : (2 : Int) ≤ (e : Int) := by omega
      have r2 : (((e : Int) % 2) == 0) = true := by rw [beq_iff_eq]; omega
      have r3 : 2 * (n : Int) ≤ (e : Int) := by omega
      have r4 : (((n : Int)) == 1) = true := by rw [beq_iff_eq]; omega
      have r5 : (((e : Int)) == 2) = true := by rw [beq_iff_eq]; omega
      have r6 : (((o : Int)) == 0) = false := by rw [beq_eq_false_iff_ne]; omega
      have hM : matB n e o = false := by
        unfold matB
        split
        · exact decide_eq_false (by omega)
        · split
          · exact decide_eq_false (by omega)
          · exact decide_eq_false (by omega)
      clear hO hE
      have HR2' := HR.out hM
      have hcv := fun w => run_bytes_of_string (P := Try.prog) w 9 35 5 S Try.underlying9 Try.underlying35 Try.underlying5
      go_upto_region 18 with fail
      generalize grownCap w1 S.size 0 5 = cp
      have hwg : w.heap.size ≤ w1.heap.size := h3.bel.size
      have hB0 : BytesAt (w1.alloc (.cells (bytesRow S cp) 5 ((bytesRow S cp).size, (bytesRow S cp).size + 1))) w1.heap.size 5 S.data.toList := BytesAt.new w1 5 S cp
      have h4 := h3.other (.cells (bytesRow S cp) 5 ((bytesRow S cp).size, (bytesRow S cp).size + 1))
      generalize (w1.alloc (.cells (bytesRow S cp) 5 ((bytesRow S cp).size, (bytesRow S cp).size + 1))) = w4 at *
      generalize w1.heap.size = g at *
      clear h3 hcv
      have hcell := hB0.cell i y HO.out
      have hfr := hB0.frozen i (by rw [HL.out]; omega)
      obtain ⟨S2, hS2⟩ : ∃ S2 : ByteArray, S2 = ⟨(S.data.toList.set i (y ^^^ c)).toArray⟩ := ⟨_, rfl⟩
      have hB1 := hB0.set_ i (y ^^^ c)
      have hcs := hB1.drew.string (P := Try.prog) 35 9 Try.underlying35 Try.underlying5 Try.underlying9 cp
      rw [List.length_set, size_list, ← hS2, byteV, UInt8.toNat_xor] at hcs
      rw [byteV] at hcell
      have h5 := (h4.far (p := ⟨g, i, none⟩) hwg (fun r hr => (List.not_mem_nil hr).elim) (.int .u8 ((y.toNat ^^^ c.toNat : Nat) : Int))).drew
      have HR2 : Hid (decR S2.data.toList = (0, l)) := Lib.hid (by rw [hS2]; exact HR2')
      clear hS2 hB0 hB1 h4 HR2' HR
      go_wp2_with fail
      refine (decode_any S2 _).mono ?_
      rintro e' w5 ⟨hb5, A', c', rfl, hs5⟩
      rw [HR2.out] at hs5 ⊢
      dsimp only at hs5 ⊢
      have h6 := St.call hb5 h5
      clear hb5 h5
      have CS := Lib.hid (imgs_same A' A c' cap l w5 hs5 ((HSL.out.below h6.bel).mono h6.bel.size) (by have := HN.out; omega))
      rw [HN.out] at CS ⊢
      go_wp2_with fail
      refine CS.out.mono ?_
      rintro e' w6 ⟨rfl, hb6⟩
      have h7 := St.call hb6 h6
      go_wp2_with fail
      go_ret
      exact ⟨rfl, h7.bel⟩
    · skip
      omega
    · skip
      have p1 : ¬ (o : Int) < 4 := by omega
      have p2 : (6 : Int) ≤ (o : Int) := by omega
      have p3 : ¬ (o : Int) < 12 := by omega
      have r1 : (2 : Int) ≤ (e : Int) := by omega
      have r2 : (((e : Int) % 2) == 0) = false := by rw [beq_eq_false_iff_ne]; omega
      have r3 : 2 * (n : Int) ≤ (e : Int) := by omega
      have r4 : (((n : Int)) == 1) = false := by rw [beq_eq_false_iff_ne]; omega
      have hM : matB n e o = false := by
        unfold matB
        split
        · exact decide_eq_false (by omega)
        · split
          · exact decide_eq_false (by omega)
          · exact decide_eq_false (by omega)
      clear hO hE
      have HR2' := HR.out hM
      have hcv := fun w => run_bytes_of_string (P := Try.prog) w 9 35 5 S Try.underlying9 Try.underlying35 Try.underlying5
      go_upto_region 18 with fail
      generalize grownCap w1 S.size 0 5 = cp
      have hwg : w.heap.size ≤ w1.heap.size := h3.bel.size
      have hB0 : BytesAt (w1.alloc (.cells (bytesRow S cp) 5 ((bytesRow S cp).size, (bytesRow S cp).size + 1))) w1.heap.size 5 S.data.toList := BytesAt.new w1 5 S cp
      have h4 := h3.other (.cells (bytesRow S cp) 5 ((bytesRow S cp).size, (bytesRow S cp).size + 1))
      generalize (w1.alloc (.cells (bytesRow S cp) 5 ((bytesRow S cp).size, (bytesRow S cp).size + 1))) = w4 at *
      generalize w1.heap.size = g at *
      clear h3 hcv
      have hcell := hB0.cell i y HO.out
      have hfr := hB0.frozen i (by rw [HL.out]; omega)
      obtain ⟨S2, hS2⟩ : ∃ S2 : ByteArray, S2 = ⟨(S.data.toList.set i (y ^^^ c)).toArray⟩ := ⟨_, rfl⟩
      have hB1 := hB0.set_ i (y ^^^ c)
      have hcs := hB1.drew.string (P := Try.prog) 35 9 Try.underlying35 Try.underlying5 Try.underlying9 cp
      rw [List.length_set, size_list, ← hS2, byteV, UInt8.toNat_xor] at hcs
      rw [byteV] at hcell
      have h5 := (h4.far (p := ⟨g, i, none⟩) hwg (fun r hr => (List.not_mem_nil hr).elim) (.int .u8 ((y.toNat ^^^ c.toNat : Nat) : Int))).drew
      have HR2 : Hid (decR S2.data.toList = (0, l)) := Lib.hid (by rw [hS2]; exact HR2')
      clear hS2 hB0 hB1 h4 HR2' HR
      go_wp2_with fail
      refine (decode_any S2 _).mono ?_
      rintro e' w5 ⟨hb5, A', c', rfl, hs5⟩
      rw [HR2.out] at hs5 ⊢
      dsimp only at hs5 ⊢
      have h6 := St.call hb5 h5
      clear hb5 h5
      have CS := Lib.hid (imgs_same A' A c' cap l w5 hs5 ((HSL.out.below h6.bel).mono h6.bel.size) (by have := HN.out; omega))
      rw [HN.out] at CS ⊢
      go_wp2_with fail
      refine CS.out.mono ?_
      rintro e' w6 ⟨rfl, hb6⟩
      have h7 := St.call hb6 h6
      go_wp2_with fail
      go_ret
      exact ⟨rfl, h7.bel⟩
    · skip
      have p1 : ¬ (o : Int) < 4 := by omega
      have p2 : (6 : Int) ≤ (o : Int) := by omega
      have p3 : ¬ (o : Int) < 12 := by omega
      have r1 : (2 : Int) ≤ (e : Int) := by omega
      have r2 : (((e : Int) % 2) == 0) = false := by rw [beq_eq_false_iff_ne]; omega
      have r3 : 2 * (n : Int) ≤ (e : Int) := by omega
      have r4 : (((n : Int)) == 1) = true := by rw [beq_iff_eq]; omega
      have r5 : (((e : Int)) == 2) = false := by rw [beq_eq_false_iff_ne]; omega
      have hM : matB n e o = false := by
        unfold matB
        split
        · exact decide_eq_false (by omega)
        · split
          · exact decide_eq_false (by omega)
          · exact decide_eq_false (by omega)
      clear hO hE
      have HR2' := HR.out hM
      have hcv := fun w => run_bytes_of_string (P := Try.prog) w 9 35 5 S Try.underlying9 Try.underlying35 Try.underlying5
      go_upto_region 18 with fail
      generalize grownCap w1 S.size 0 5 = cp
      have hwg : w.heap.size ≤ w1.heap.size := h3.bel.size
      have hB0 : BytesAt (w1.alloc (.cells (bytesRow S cp) 5 ((bytesRow S cp).size, (bytesRow S cp).size + 1))) w1.heap.size 5 S.data.toList := BytesAt.new w1 5 S cp
      have h4 := h3.other (.cells (bytesRow S cp) 5 ((bytesRow S cp).size, (bytesRow S cp).size + 1))
      generalize (w1.alloc (.cells (bytesRow S cp) 5 ((bytesRow S cp).size, (bytesRow S cp).size + 1))) = w4 at *
      generalize w1.heap.size = g at *
      clear h3 hcv
      have hcell := hB0.cell i y HO.out
      have hfr := hB0.frozen i (by rw [HL.out]; omega)
      obtain ⟨S2, hS2⟩ : ∃ S2 : ByteArray, S2 = ⟨(S.data.toList.set i (y ^^^ c)).toArray⟩ := ⟨_, rfl⟩
      have hB1 := hB0.set_ i (y ^^^ c)
      have hcs := hB1.drew.string (P := Try.prog) 35 9 Try.underlying35 Try.underlying5 Try.underlying9 cp
      rw [List.length_set, size_list, ← hS2, byteV, UInt8.toNat_xor] at hcs
      rw [byteV] at hcell
      have h5 := (h4.far (p := ⟨g, i, none⟩) hwg (fun r hr => (List.not_mem_nil hr).elim) (.int .u8 ((y.toNat ^^^ c.toNat : Nat) : Int))).drew
      have HR2 : Hid (decR S2.data.toList = (0, l)) := Lib.hid (by rw [hS2]; exact HR2')
      clear hS2 hB0 hB1 h4 HR2' HR
      go_wp2_with fail
      refine (decode_any S2 _).mono ?_
      rintro e' w5 ⟨hb5, A', c', rfl, hs5⟩
      rw [HR2.out] at hs5 ⊢
      dsimp only at hs5 ⊢
      have h6 := St.call hb5 h5
      clear hb5 h5
      have CS := Lib.hid (imgs_same A' A c' cap l w5 hs5 ((HSL.out.below h6.bel).mono h6.bel.size) (by have := HN.out; omega))
      rw [HN.out] at CS ⊢
      go_wp2_with fail
      refine CS.out.mono ?_
      rintro e' w6 ⟨rfl, hb6⟩
      have h7 := St.call hb6 h6
      go_wp2_with fail
      go_ret
      exact ⟨rfl, h7.bel⟩
end Go.Proofs.Ytjlppndlgdgekaa
