/-
  The walk of the law EltoritoKey.
-/
import Derived.Test.YtjlppndlgdgekaaLaw1
import Derived.Test.YtjlppndlgdgekaaKey
import Derived.Test.YtjlppndlgdgekaaBytesAt
import Derived.Deep.Cut
import Derived.Laws.BitsAllLaws
namespace Go.Proofs.Ytjlppndlgdgekaa
open Go.RowKit
set_option linter.unusedVariables false

theorem size_list (s : ByteArray) : s.data.toList.length = s.size := by simp
/-- A cell of a block of the call's own that is not on the list is written. -/
theorem St.far {w0 w : World} {rows : Rows} (h : St w0 w rows) {p : Addr} (hp : w0.heap.size ≤ p.block) (hne : ∀ r ∈ rows, r.1 ≠ p.block) (v : Value) : St w0 (w.setCell p v) rows :=
  ⟨h.1.setCell hp v, fun r hr => ⟨(h.2.1 r hr).1, (h.2.1 r hr).2.far (hne r hr) v⟩, h.2.2⟩
set_option maxHeartbeats 2000000 in
set_option maxRecDepth 100000 in
theorem key_ok (A : Option Addr) (n cap : Nat) (l : List Img) (a c : UInt8) (w : World) (hn : n ≤ 40) (hc0 : c ≠ 0) (hE : encE l = 0) (hS : encStr l = ⟨(encL l).toArray⟩) (h0 : 0 < l.length) (h1 : l.length ≤ 32) (hok : ∀ x ∈ l, ImOk x)
    (CE : ∀ wx, Below w.heap.size w wx → Calls Try.prog 11 #[.slice A n cap] wx (EncR l wx)) :
    Calls Try.prog 7 #[.slice A n cap, .int .u8 (a.toNat : Int), .int .u8 (c.toNat : Int)] w fun e w' => e = .returned (.bool true) ∧ Below w.heap.size w w' := by
  obtain ⟨S, hSS⟩ : ∃ S : ByteArray, S = ⟨(encL l).toArray⟩ := ⟨_, rfl⟩
  have hd : S.data.toList = encL l := by rw [hSS]
  have hsz : S.size = 2048 := by rw [hSS]; exact encS_size h1
  obtain ⟨m, hm⟩ : ∃ m, m = a.toNat % 32 := ⟨_, rfl⟩
  have hm32 : m < 32 := by omega
  obtain ⟨o, ho⟩ : ∃ o, (encL l)[m]? = some o := ⟨_, List.getElem?_eq_getElem (by rw [encL_length h1]; omega)⟩
  have HR : Hid (decR (S.data.toList.set m (o ^^^ c)) = (10, [])) := Lib.hid (by rw [hd]; exact key_dec h0 h1 hok hm32 ho (xor_ne hc0))
  have HO : Hid (S.data.toList[m]? = some o) := Lib.hid (by rw [hd]; exact ho)
  have HL : Hid (S.data.toList.length = 2048) := Lib.hid (by rw [hd]; exact encL_length h1)
  have HES : Hid (encStr l = S) := Lib.hid (by rw [hS, hSS])
  have HEE := Lib.hid hE
  have HCE := Lib.hid CE
  have hszI : (S.size : Int) = 2048 := by omega
  have hn' : ¬ (40 : Int) < (n : Int) := by omega
  have hcb : ((c.toNat : Int) == 0) = false := by
    rw [beq_eq_false_iff_ne]
    intro e
    exact hc0 (UInt8.toNat_inj.1 (by simpa using e))
  have e1 : IntKind.u8.wrap ((a.toNat : Int).tmod 32) = (m : Int) := by
    rw [IntKind.wrap_u8, Int.tmod_eq_emod_of_nonneg (by omega)]
    omega
  have e3 : (0 : Int) ≤ (m : Int) := by omega
  have e4 : (m : Int) < 2048 := by omega
  have e7 := u8_xor_nat o.toNat c.toNat o.toNat_lt c.toNat_lt
  subst hm
  clear hSS hd hsz ho hS hE CE h0 h1 hok hc0 hn
  go_enter Try.func7, Try.ntmps7
  go_wp2_with fail
  refine (awake_any _).mono ?_
  rintro e w0 ⟨rfl, hb0⟩
  go_wp2_with fail
  refine (HCE.out _ hb0).mono ?_
  rintro e w1 ⟨rfl, hb1⟩
  rw [HES.out, HEE.out]
  have h3 : St w w1 [] := ⟨hb0.trans (hb1.mono hb0.size), fun r hr => (List.not_mem_nil hr).elim, List.Pairwise.nil⟩
  clear hb0 hb1
  have hcv := fun w => run_bytes_of_string (P := Try.prog) w 9 35 5 S Try.underlying9 Try.underlying35 Try.underlying5
  go_upto_region 9 with fail
  generalize grownCap w1 S.size 0 5 = cp
  have hwg : w.heap.size ≤ w1.heap.size := h3.bel.size
  have hB0 : BytesAt (w1.alloc (.cells (bytesRow S cp) 5 ((bytesRow S cp).size, (bytesRow S cp).size + 1))) w1.heap.size 5 S.data.toList := BytesAt.new w1 5 S cp
  have h4 := h3.other (.cells (bytesRow S cp) 5 ((bytesRow S cp).size, (bytesRow S cp).size + 1))
  generalize (w1.alloc (.cells (bytesRow S cp) 5 ((bytesRow S cp).size, (bytesRow S cp).size + 1))) = w4 at *
  generalize w1.heap.size = g at *
  clear h3 hcv
  have hcell := hB0.cell (a.toNat % 32) o HO.out
  have hfr := hB0.frozen (a.toNat % 32) (by rw [HL.out]; omega)
  obtain ⟨S2, hS2⟩ : ∃ S2 : ByteArray, S2 = ⟨(S.data.toList.set (a.toNat % 32) (o ^^^ c)).toArray⟩ := ⟨_, rfl⟩
  have hB1 := hB0.set_ (a.toNat % 32) (o ^^^ c)
  have hcs := hB1.drew.string (P := Try.prog) 35 9 Try.underlying35 Try.underlying5 Try.underlying9 cp
  rw [List.length_set, size_list, ← hS2, byteV, UInt8.toNat_xor] at hcs
  rw [byteV] at hcell
  have h5 := (h4.far (p := ⟨g, a.toNat % 32, none⟩) hwg (fun r hr => (List.not_mem_nil hr).elim) (.int .u8 ((o.toNat ^^^ c.toNat : Nat) : Int))).drew
  have HR2 : Hid (decR S2.data.toList = (10, [])) := Lib.hid (by rw [hS2]; exact HR.out)
  clear hS2 hB0 hB1 h4
  go_wp2_with fail
  refine (decode_any S2 _).mono ?_
  rintro e w5 ⟨hb5, A', c', rfl, _⟩
  rw [HR2.out]
  dsimp only
  have h6 := St.call hb5 h5
  go_wp2_with fail
  go_ret
  exact ⟨rfl, h6.bel⟩
theorem u8_of {a : Int} (h : (Lit.int IntKind.u8 a).wf = true) : ∃ b : UInt8, a = (b.toNat : Int) := by
  obtain ⟨h0, h1⟩ := wf_u8 h
  exact ⟨UInt8.ofNat a.toNat, by rw [UInt8.toNat_ofNat']; omega⟩
theorem enc_at {A : Option Addr} {cap : Nat} {l : List Img} {w : World} (hsl : SlAt w w.heap.size A (flat encI l)) (hc : l.length ≤ cap) (hcm : cap ≤ maxLen) :
    ∀ wx, Below w.heap.size w wx → Calls Try.prog 11 #[.slice A l.length cap] wx (EncR l wx) :=
  fun wx hb => encode_any A cap l wx ((hsl.below hb).mono hb.size) hc hcm
set_option maxHeartbeats 2000000 in
set_option maxRecDepth 100000 in
theorem key_skip (A : Option Addr) (n cap : Nat) (a c : Int) (w : World) (h : 40 < n ∨ (n ≤ 40 ∧ c = 0)) :
    Calls Try.prog 7 #[.slice A n cap, .int .u8 a, .int .u8 c] w fun e w' => e = .returned (.bool true) ∧ Below w.heap.size w w' := by
  rcases h with h | ⟨h, rfl⟩
  · have h' : (40 : Int) < (n : Int) := by omega
    go_enter Try.func7, Try.ntmps7
    go_wp2_with fail
    refine (awake_any _).mono ?_
    rintro e w0 ⟨rfl, hb0⟩
    go_wp2_with fail
    go_ret
    exact ⟨rfl, hb0⟩
  · have h' : ¬ (40 : Int) < (n : Int) := by omega
    go_enter Try.func7, Try.ntmps7
    go_wp2_with fail
    refine (awake_any _).mono ?_
    rintro e w0 ⟨rfl, hb0⟩
    go_wp2_with fail
    go_ret
    exact ⟨rfl, hb0⟩
set_option maxHeartbeats 2000000 in
set_option maxRecDepth 100000 in
theorem key_err (A : Option Addr) (n cap : Nat) (l : List Img) (a c : Int) (w : World) (hn : n ≤ 40) (hc0 : c ≠ 0) (hE : encE l ≠ 0) (hS : encStr l = ⟨#[]⟩)
    (CE : ∀ wx, Below w.heap.size w wx → Calls Try.prog 11 #[.slice A n cap] wx (EncR l wx)) :
    Calls Try.prog 7 #[.slice A n cap, .int .u8 a, .int .u8 c] w fun e w' => e = .returned (.bool true) ∧ Below w.heap.size w w' := by
  have HCE := Lib.hid CE
  have hn' : ¬ (40 : Int) < (n : Int) := by omega
  have hcb : (c == 0) = false := by rw [beq_eq_false_iff_ne]; exact hc0
  obtain ⟨E, hG⟩ : ∃ E, encE l = E := ⟨_, rfl⟩
  rw [hG] at hE
  have HG := Lib.hid hG
  have HS := Lib.hid hS
  have hEb : (E != 0) = true := by rw [bne_iff_ne]; exact hE
  clear CE hc0 hn hG hS hE
  go_enter Try.func7, Try.ntmps7
  go_wp2_with fail
  refine (awake_any _).mono ?_
  rintro e w0 ⟨rfl, hb0⟩
  go_wp2_with fail
  refine (HCE.out _ hb0).mono ?_
  rintro e w1 ⟨rfl, hb1⟩
  rw [HG.out, HS.out]
  have hb2 := hb0.trans (hb1.mono hb0.size)
  go_wp2_with fail
  go_ret
  exact ⟨rfl, hb2⟩
theorem key_any (A : Option Addr) (len cap : Nat) (l : List Img) (a c : Int) (w : World) (h : IsL encI ImgG w A len cap l) (ha : (Lit.int IntKind.u8 a).wf = true) (hc : (Lit.int IntKind.u8 c).wf = true) :
    Calls Try.prog 7 #[.slice A len cap, .int .u8 a, .int .u8 c] w fun e w' => e = .returned (.bool true) ∧ Below w.heap.size w w' := by
  obtain ⟨rfl, hlc, hcm, hsl, _⟩ := h
  by_cases hs : 40 < l.length ∨ (l.length ≤ 40 ∧ c = 0)
  · exact key_skip A _ cap a c w hs
  · have hn : l.length ≤ 40 := by omega
    have hc0 : c ≠ 0 := by omega
    rcases enc_ways l with ⟨hE, hS⟩ | ⟨hE, hS, h0, h1, hok⟩
    · exact key_err A _ cap l a c w hn hc0 hE hS (enc_at hsl hlc hcm)
    · obtain ⟨a, rfl⟩ := u8_of ha
      obtain ⟨c, rfl⟩ := u8_of hc
      exact key_ok A _ cap l a c w hn (fun e => hc0 (by rw [e]; rfl)) hE hS h0 h1 hok (enc_at hsl hlc hcm)
end Go.Proofs.Ytjlppndlgdgekaa
