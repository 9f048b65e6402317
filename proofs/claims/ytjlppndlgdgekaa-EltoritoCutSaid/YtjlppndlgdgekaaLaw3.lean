/-
  The walk of the law EltoritoCut.
-/
import Derived.Test.YtjlppndlgdgekaaLaw2
import Derived.Test.YtjlppndlgdgekaaCut
namespace Go.Proofs.Ytjlppndlgdgekaa
open Go.RowKit
set_option linter.unusedVariables false

set_option maxHeartbeats 2000000 in
set_option maxRecDepth 100000 in
theorem cut_ok (A : Option Addr) (k cap : Nat) (l : List Img) (c : Nat) (w : World) (hl : l.length = k + 1) (hc : c < 65536) (hE : encE l = 0) (hS : encStr l = ⟨(encL l).toArray⟩) (h0 : 1 ≤ k) (h1 : l.length ≤ 32) (hok : ∀ x ∈ l, ImOk x)
    (CE : ∀ wx, Below w.heap.size w wx → Calls Try.prog 11 #[.slice A (k + 1) cap] wx (EncR l wx)) :
    Calls Try.prog 9 #[.slice A (k + 1) cap, .int .u16 (c : Int)] w fun e w' => e = .returned (.bool true) ∧ Below w.heap.size w w' := by
  obtain ⟨S, hSS⟩ : ∃ S : ByteArray, S = ⟨(encL l).toArray⟩ := ⟨_, rfl⟩
  have hd : S.data.toList = encL l := by rw [hSS]
  have hsz : S.size = 2048 := by rw [hSS]; exact encS_size h1
  obtain ⟨N, hN⟩ : ∃ N, N = c % 1000 + 64 := ⟨_, rfl⟩
  obtain ⟨lo, hlo⟩ : ∃ lo : UInt8, lo = UInt8.ofNat (N % 256) := ⟨_, rfl⟩
  obtain ⟨hi, hhi⟩ : ∃ hi : UInt8, hi = UInt8.ofNat (N / 256) := ⟨_, rfl⟩
  have hlo' : lo.toNat = N % 256 := by rw [hlo, UInt8.toNat_ofNat']; omega
  have hhi' : hi.toNat = N / 256 := by rw [hhi, UInt8.toNat_ofNat']; omega
  have hk1 : l.length - 1 = k := by omega
  have HR1 : Hid (decR (S.data.toList.set (64 * k) 144) = (10, [])) := Lib.hid (by
    have := cut_one hok (by omega) h1
    rwa [hk1, ← hd] at this)
  have HR2 : Hid (decR ((((S.data.toList.set (64 * k) 144).set (64 * k) 145).set (64 * k + 2) lo).set (64 * k + 3) hi) = (10, [])) := Lib.hid (by
    have := cut_two hok (by omega) h1 (N := N) (by omega) (by omega) hlo' hhi'
    rwa [hk1, ← hd] at this)
  have HL : Hid (S.data.toList.length = 2048) := Lib.hid (by rw [hd]; exact encL_length h1)
  have HES : Hid (encStr l = S) := Lib.hid (by rw [hS, hSS])
  have HEE := Lib.hid hE
  have HCE := Lib.hid CE
  have hszI : (S.size : Int) = 2048 := by omega
  have hk32 : k ≤ 31 := by omega
  have hn' : ¬ (40 : Int) < ((k + 1 : Nat) : Int) := by omega
  have hn2 : ¬ ((k + 1 : Nat) : Int) < 2 := by omega
  have ea : IntKind.i64.wrap (((k + 1 : Nat) : Int) - 1) = (k : Int) := by rw [IntWalk.i64_in _ (by omega)]; omega
  have eb : IntKind.i64.wrap (64 * (k : Int)) = ((64 * k : Nat) : Int) := by rw [IntWalk.i64_in _ (by omega)]; omega
  clear hSS hd hsz hS hE CE h1 hok hlo hhi hl hk1
  go_enter Try.func9, Try.ntmps9
  go_wp2_with fail
  refine (awake_any _).mono ?_
  rintro e w0 ⟨rfl, hb0⟩
  go_wp2_with fail
  refine (HCE.out _ hb0).mono ?_
  rintro e w1 ⟨rfl, hb1⟩
  rw [HES.out, HEE.out]
  have h3 : St w w1 [] := ⟨hb0.trans (hb1.mono hb0.size), fun r hr => (List.not_mem_nil hr).elim, List.Pairwise.nil⟩
  clear hb0 hb1
  have hcv := fun w => run_bytes_of_string (P := Try.prog) w 9 35 5 S Try.underlying9 Try.underlying35 Try.underlying5
  go_upto_region 10 with fail
  generalize grownCap w1 S.size 0 5 = cp
  have hwg : w.heap.size ≤ w1.heap.size := h3.bel.size
  have hB0 : BytesAt (w1.alloc (.cells (bytesRow S cp) 5 ((bytesRow S cp).size, (bytesRow S cp).size + 1))) w1.heap.size 5 S.data.toList := BytesAt.new w1 5 S cp
  have h4 := h3.other (.cells (bytesRow S cp) 5 ((bytesRow S cp).size, (bytesRow S cp).size + 1))
  generalize (w1.alloc (.cells (bytesRow S cp) 5 ((bytesRow S cp).size, (bytesRow S cp).size + 1))) = w4 at *
  generalize w1.heap.size = g at *
  clear h3 hcv
  obtain ⟨M, hM⟩ : ∃ M : Nat, M = 64 * k := ⟨_, rfl⟩
  have hMI : 64 * (k : Int) = (M : Int) := by omega
  rw [hMI]
  rw [← hM] at HR1 HR2
  have hM1 : M ≤ 1984 := by omega
  clear ea eb hMI hM hn' hn2
  have hMl : (M : Int) < 2048 := by omega
  have hM0 : (0 : Int) ≤ (M : Int) := by omega
  obtain ⟨o, ho⟩ : ∃ o, S.data.toList[M]? = some o := ⟨_, List.getElem?_eq_getElem (by rw [HL.out]; omega)⟩
  have hcell := hB0.cell M o ho
  have hfr := hB0.frozen M (by rw [HL.out]; omega)
  have hB1 := (hB0.set_ M 144).drew
  obtain ⟨S1, hS1⟩ : ∃ S1 : ByteArray, S1 = ⟨(S.data.toList.set M 144).toArray⟩ := ⟨_, rfl⟩
  have hcs := hB1.string (P := Try.prog) 35 9 Try.underlying35 Try.underlying5 Try.underlying9 cp
  rw [List.length_set, size_list, ← hS1, show byteV 144 = .int .u8 144 from rfl] at hcs
  rw [show byteV 144 = .int .u8 144 from rfl] at hB1
  rw [byteV] at hcell
  have h5 := (h4.far (p := ⟨g, M, none⟩) hwg (fun r hr => (List.not_mem_nil hr).elim) (.int .u8 144)).drew
  have HRA : Hid (decR S1.data.toList = (10, [])) := Lib.hid (by rw [hS1]; exact HR1.out)
  clear hS1 hB0 h4 ho
  go_wp2_with fail
  refine (decode_any S1 _).mono ?_
  rintro e w5 ⟨hb5, A', c', rfl, _⟩
  rw [HRA.out]
  dsimp only
  have h6 := St.call hb5 h5
  have hB2 := hB1.below hb5 hB1.lt
  clear hB1 h5 hb5 hcell hfr hcs
  go_upto_region 15 with fail
  rw [show ((c : Int) % 1000 + 64) = (N : Int) by omega]
  obtain ⟨y0, z0⟩ : ∃ o, (S.data.toList.set M 144)[M]? = some o := ⟨_, List.getElem?_eq_getElem (by rw [List.length_set, HL.out]; omega)⟩
  obtain ⟨y2, z2⟩ : ∃ o, (S.data.toList.set M 144)[M + 2]? = some o := ⟨_, List.getElem?_eq_getElem (by rw [List.length_set, HL.out]; omega)⟩
  obtain ⟨y3, z3⟩ : ∃ o, (S.data.toList.set M 144)[M + 3]? = some o := ⟨_, List.getElem?_eq_getElem (by rw [List.length_set, HL.out]; omega)⟩
  have c0 := hB2.cell M y0 z0
  have c2 := hB2.cell (M + 2) y2 z2
  have c3 := hB2.cell (M + 3) y3 z3
  have f0 := hB2.frozen M (by rw [List.length_set, HL.out]; omega)
  have f2 := hB2.frozen (M + 2) (by rw [List.length_set, HL.out]; omega)
  have f3 := hB2.frozen (M + 3) (by rw [List.length_set, HL.out]; omega)
  rw [byteV] at c0 c2 c3
  have g2 : IntKind.i64.wrap ((M : Int) + 2) = ((M + 2 : Nat) : Int) := by rw [IntWalk.i64_in _ (by omega)]; omega
  have g3 : IntKind.i64.wrap ((M : Int) + 3) = ((M + 3 : Nat) : Int) := by rw [IntWalk.i64_in _ (by omega)]; omega
  have n2 : ((M + 2 : Nat) : Int) < 2048 := by omega
  have n3 : ((M + 3 : Nat) : Int) < 2048 := by omega
  have hN1 : 64 ≤ N := by omega
  have hN3 : N < 1064 := by omega
  have qlo : ((lo.toNat : Nat) : Int) = (N : Int) % 256 := by omega
  have qhi : ((hi.toNat : Nat) : Int) = (N : Int) / 256 := by omega
  have hB3 := ((hB2.set_ M 145).set_ (M + 2) lo).set_ (M + 3) hi
  obtain ⟨S2, hS2⟩ : ∃ S2 : ByteArray, S2 = ⟨((((S.data.toList.set M 144).set M 145).set (M + 2) lo).set (M + 3) hi).toArray⟩ := ⟨_, rfl⟩
  have hcs := hB3.string (P := Try.prog) 35 9 Try.underlying35 Try.underlying5 Try.underlying9 cp
  rw [List.length_set, List.length_set, List.length_set, List.length_set, size_list, ← hS2, show byteV 145 = .int .u8 145 from rfl, byteV, byteV, qlo, qhi] at hcs
  have h7 := ((h6.far (p := ⟨g, M, none⟩) hwg (fun r hr => (List.not_mem_nil hr).elim) (.int .u8 145)).far (p := ⟨g, M + 2, none⟩) hwg (fun r hr => (List.not_mem_nil hr).elim) (.int .u8 ((N : Int) % 256))).far (p := ⟨g, M + 3, none⟩) hwg (fun r hr => (List.not_mem_nil hr).elim) (.int .u8 ((N : Int) / 256))
  have HRB : Hid (decR S2.data.toList = (10, [])) := Lib.hid (by rw [hS2]; exact HR2.out)
  clear z0 z2 z3 hN qlo qhi hB2 hB3 hS2 h6 HR1 HR2 hlo' hhi'
  go_wp2_with fail
  refine (decode_any S2 _).mono ?_
  rintro e w6 ⟨hb6, A2, c2', rfl, _⟩
  rw [HRB.out]
  dsimp only
  have h8 := St.call hb6 h7
  go_wp2_with fail
  go_ret
  exact ⟨rfl, h8.bel⟩
set_option maxHeartbeats 2000000 in
set_option maxRecDepth 100000 in
theorem cut_skip (A : Option Addr) (n cap : Nat) (c : Int) (w : World) (h : 40 < n) :
    Calls Try.prog 9 #[.slice A n cap, .int .u16 c] w fun e w' => e = .returned (.bool true) ∧ Below w.heap.size w w' := by
  have h' : (40 : Int) < (n : Int) := by omega
  go_enter Try.func9, Try.ntmps9
  go_wp2_with fail
  refine (awake_any _).mono ?_
  rintro e w0 ⟨rfl, hb0⟩
  go_wp2_with fail
  go_ret
  exact ⟨rfl, hb0⟩
set_option maxHeartbeats 2000000 in
set_option maxRecDepth 100000 in
theorem cut_err (A : Option Addr) (n cap : Nat) (l : List Img) (c : Int) (w : World) (hn : n ≤ 40) (hE : encE l ≠ 0) (hS : encStr l = ⟨#[]⟩)
    (CE : ∀ wx, Below w.heap.size w wx → Calls Try.prog 11 #[.slice A n cap] wx (EncR l wx)) :
    Calls Try.prog 9 #[.slice A n cap, .int .u16 c] w fun e w' => e = .returned (.bool true) ∧ Below w.heap.size w w' := by
  have HCE := Lib.hid CE
  have hn' : ¬ (40 : Int) < (n : Int) := by omega
  obtain ⟨E, hG⟩ : ∃ E, encE l = E := ⟨_, rfl⟩
  rw [hG] at hE
  have HG := Lib.hid hG
  have HS := Lib.hid hS
  have hEb : (E != 0) = true := by rw [bne_iff_ne]; exact hE
  clear CE hn hG hS hE
  go_enter Try.func9, Try.ntmps9
  go_wp2_with fail
  refine (awake_any _).mono ?_
  rintro e w0 ⟨rfl, hb0⟩
  go_wp2_with fail
  refine (HCE.out _ hb0).mono ?_
  rintro e w1 ⟨rfl, hb1⟩
  rw [HG.out, HS.out]
  have hb2 := hb0.trans (hb1.mono hb0.size)
  go_wp2_with fail
  go_ret
  exact ⟨rfl, hb2⟩
set_option maxHeartbeats 2000000 in
set_option maxRecDepth 100000 in
theorem cut_few (A : Option Addr) (n cap : Nat) (l : List Img) (c : Int) (w : World) (hn : n < 2) (hE : encE l = 0) (hS : encStr l = ⟨(encL l).toArray⟩) (h1 : l.length ≤ 32)
    (CE : ∀ wx, Below w.heap.size w wx → Calls Try.prog 11 #[.slice A n cap] wx (EncR l wx)) :
    Calls Try.prog 9 #[.slice A n cap, .int .u16 c] w fun e w' => e = .returned (.bool true) ∧ Below w.heap.size w w' := by
  have HCE := Lib.hid CE
  have hn' : ¬ (40 : Int) < (n : Int) := by omega
  have hn2 : (n : Int) < 2 := by omega
  obtain ⟨S, hSS⟩ : ∃ S : ByteArray, S = ⟨(encL l).toArray⟩ := ⟨_, rfl⟩
  have hsz : S.size = 2048 := by rw [hSS]; exact encS_size h1
  have hszI : (S.size : Int) = 2048 := by omega
  have HS := Lib.hid (hS.trans hSS.symm)
  have HG := Lib.hid hE
  clear CE hn hS hE hSS hsz h1
  go_enter Try.func9, Try.ntmps9
  go_wp2_with fail
  refine (awake_any _).mono ?_
  rintro e w0 ⟨rfl, hb0⟩
  go_wp2_with fail
  refine (HCE.out _ hb0).mono ?_
  rintro e w1 ⟨rfl, hb1⟩
  rw [HG.out, HS.out]
  have hb2 := hb0.trans (hb1.mono hb0.size)
  go_wp2_with fail
  go_ret
  exact ⟨rfl, hb2⟩
theorem cut_any (A : Option Addr) (len cap : Nat) (l : List Img) (c : Int) (w : World) (h : IsL encI ImgG w A len cap l) (hc : (Lit.int IntKind.u16 c).wf = true) :
    Calls Try.prog 9 #[.slice A len cap, .int .u16 c] w fun e w' => e = .returned (.bool true) ∧ Below w.heap.size w w' := by
  obtain ⟨rfl, hlc, hcm, hsl, _⟩ := h
  by_cases hs : 40 < l.length
  · exact cut_skip A _ cap c w hs
  · rcases enc_ways l with ⟨hE, hS⟩ | ⟨hE, hS, h0, h1, hok⟩
    · exact cut_err A _ cap l c w (by omega) hE hS (enc_at hsl hlc hcm)
    · by_cases h2 : l.length < 2
      · exact cut_few A _ cap l c w h2 hE hS h1 (enc_at hsl hlc hcm)
      · obtain ⟨c0, c1⟩ := wf_u16 hc
        obtain ⟨k, hk⟩ : ∃ k, l.length = k + 1 := ⟨l.length - 1, by omega⟩
        have CE := enc_at hsl hlc hcm
        rw [hk] at CE ⊢
        have := cut_ok A k cap l c.toNat w hk (by omega) hE hS (by omega) h1 hok CE
        rw [Int.toNat_of_nonneg c0] at this
        exact this
end Go.Proofs.Ytjlppndlgdgekaa
