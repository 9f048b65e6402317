/-
  The walk of the law SectorDetects.
-/
import Derived.Test.YtdjpnabkmanboaaParseAny
import Derived.Test.YtdjpnabkmanboaaPlain2
import Derived.Test.YtdjpnabkmanboaaOpen
import Derived.Test.YtdjpnabkmanboaaBytesAt
import Derived.Deep.Cut
namespace Go.Proofs.Ytdjpnabkmanboaa
open Go.RowKit
set_option linter.unusedVariables false

/-- A cell of a block of the call's own that is not on the list is written. -/
theorem St.far {w0 w : World} {rows : Rows} (h : St w0 w rows) {p : Addr} (hp : w0.heap.size ≤ p.block) (hne : ∀ r ∈ rows, r.1 ≠ p.block) (v : Value) : St w0 (w.setCell p v) rows :=
  ⟨h.1.setCell hp v, fun r hr => ⟨(h.2.1 r hr).1, (h.2.1 r hr).2.far (hne r hr) v⟩, h.2.2⟩
theorem buildR_cases (x : Sec) : ∃ (s : ByteArray) (e : Int), buildR x = .tuple #[.string s, .int .i64 e] ∧ ((validB x = true ∧ s = ⟨(buildL x).toArray⟩ ∧ e = 0) ∨ e = 1) := by
  unfold buildR
  cases h : validB x with
  | true => exact ⟨_, _, by rw [if_pos rfl], .inl ⟨rfl, rfl, rfl⟩⟩
  | false => exact ⟨_, _, by rw [if_neg (by simp)], .inr rfl⟩

set_option maxHeartbeats 1000000 in
theorem detects_no (x : Sec) (a c : Int) (w : World) (hx : SecIn x) (ha0 : 0 ≤ a) (ha1 : a ≤ 65535) (hc0 : 0 ≤ c) (hc1 : c ≤ 4294967295) (h : validB x = false ∨ c = 0) :
    Calls Try.prog 9 #[secV x, .int .u16 a, .int .u32 c] w fun e w' => e = .returned (.bool true) ∧ Below w.heap.size w w' := by
  have C0 := Lib.hid (fun w => awake_any w)
  obtain ⟨S, er, hb, hS⟩ := buildR_cases x
  have C1 := Lib.hid (fun w => build_any x w hx.lba.1 hx.data)
  rw [hb] at C1
  have hh : (er != 0) = true ∨ (er = 0 ∧ c = 0) := by
    rcases hS with ⟨hv, _, rfl⟩ | rfl
    · rcases h with h | h
      · rw [hv] at h; cases h
      · exact .inr ⟨rfl, h⟩
    · exact .inl rfl
  clear hS h hb hx
  obtain ⟨lba, mode, fi, ch, su, co, data⟩ := x
  rw [secV] at *
  dsimp only at *
  rcases hh with hh | ⟨rfl, rfl⟩
  all_goals
    go_enter Try.func9, Try.ntmps9
    go_wp2_with fail
    refine (C0.out _).mono ?_
    rintro r w1 ⟨rfl, hb1⟩
    have h1 := St.call hb1 ((St.start w).alloc _ _)
    have q1 := (h1.at (i := 0) rfl).cell
    clear hb1
    go_wp2_with fail
    refine (C1.out _).mono ?_
    rintro r w2 ⟨rfl, hb2⟩
    have h2 := St.call hb2 h1
    clear hb2 h1 q1
    go_wp2_with fail
    go_ret
    exact ⟨rfl, h2.bel⟩

set_option maxRecDepth 100000 in
set_option maxHeartbeats 4000000 in
theorem detects_go (x : Sec) (a c : Nat) (w : World) (hx : SecIn x) (ha1 : a ≤ 65535) (hc1 : c < 4294967296) (hc0 : c ≠ 0) (hv : validB x = true) :
    Calls Try.prog 9 #[secV x, .int .u16 (a : Int), .int .u32 (c : Int)] w fun e w' => e = .returned (.bool true) ∧ Below w.heap.size w w' := by
  have C0 := Lib.hid (fun w => awake_any w)
  have C1 : Hid (∀ w, Calls Try.prog 11 #[secV x] w fun e w' => e = .returned (.tuple #[.string ⟨(buildL x).toArray⟩, .int .i64 0]) ∧ Below w.heap.size w w') := by
    have := fun w => build_any x w hx.lba.1 hx.data
    rwa [show buildR x = _ from if_pos hv] at this
  have hzB : (⟨(buildL x).toArray⟩ : ByteArray).size = 2352 := by rw [str_size, build_len hv]
  obtain ⟨E, cov, hE, hcov, a1, a2, a3, hp⟩ := build_nat hv
  obtain ⟨hm, _⟩ := valid_parts hv
  obtain ⟨n, hn⟩ : ∃ n, E = cov + n := ⟨E - cov, by omega⟩
  have C2 : Hid (∀ w, Calls Try.prog 17 #[.int .i64 x.mode] w fun e w' => e = .returned (.tuple #[.int .i64 (cov : Int), .int .i64 (n : Int), .int .i64 0]) ∧ Below w.heap.size w w') := by
    have := fun w => span_any x.mode w
    rwa [show spanV x.mode = .tuple #[.int .i64 (cov : Int), .int .i64 (n : Int), .int .i64 0] by unfold spanV; rw [if_pos hm, hE, hcov, hn]; congr 5; omega] at this
  have hn4 : 4 ≤ n := by omega
  obtain ⟨k0, hk0⟩ : ∃ k, a % (n - 3) = k := ⟨_, rfl⟩
  have hk0' : k0 + 4 ≤ n := by have := Nat.mod_lt a (show 0 < n - 3 by omega); omega
  obtain ⟨k, hk⟩ : ∃ k, k = cov + k0 := ⟨_, rfl⟩
  have hk1 : k + 4 ≤ 2352 := by omega
  have hbz : ∀ i, (burst (buildL x) k c i).length = 2352 := fun i => by rw [burst_length, build_len hv]
  obtain ⟨X, hX⟩ : ∃ X : ByteArray, X = ⟨(burst (buildL x) k c 4).toArray⟩ := ⟨_, rfl⟩
  have hXz : X.size = 2352 := by rw [hX, str_size, hbz]
  have hdet : kindR X = (x.mode, 0) → chkB X = false := by
    intro h
    rw [hX] at h ⊢
    exact burst_chk hv k c hc1 hc0 (by rw [hcov]; show cov ≤ k; omega) (by rw [hE]; show k + 4 ≤ E; omega) h
  have C3 := Lib.hid (fun w => kind_any X w (by omega))
  have C4 := Lib.hid (fun w => parse_any X w (by omega))
  have C5 := Lib.hid (fun w => check_any X w (by omega))
  have hpn := fun h : kindR X = (x.mode, 0) => parse_not h (hdet h)
  obtain ⟨y, ep, hpf, _⟩ := parse_form X
  have hep : kindR X = (x.mode, 0) → (ep != 0) = true := by
    intro h
    rcases hpn h with e | e
    · rw [hpf] at e; unfold noSec at e; injection e with e; injection e with e; injection e with _ e; injection e with e _; injection e with _ e; subst e; rfl
    · rw [hpf] at e; unfold noSec at e; injection e with e; injection e with e; injection e with _ e; injection e with e _; injection e with _ e; subst e; rfl
  rw [hpf] at C4
  obtain ⟨S, hSd⟩ : ∃ S : ByteArray, S = ⟨(buildL x).toArray⟩ := ⟨_, rfl⟩
  have hSl : S.data.toList = buildL x := by rw [hSd, list_str]
  rw [← hSd] at C1 hzB
  rw [← hSl] at hX
  have hbz' : ∀ i, (burst S.data.toList k c i).length = 2352 := fun i => by rw [hSl]; exact hbz i
  have hkm : ((a : Int)).tmod ((n : Int) - 3) = (k0 : Int) := by
    rw [show ((n : Int) - 3) = ((n - 3 : Nat) : Int) by omega, Int.tmod_eq_emod_of_nonneg (by omega)]
    omega
  have hnz : ¬ ((n : Int) - 3 = 0) := by omega
  have hks : (cov : Int) + (k0 : Int) = (k : Int) := by omega
  have z1 : ((S.size : Int) != 2352) = false := by rw [hzB]; rfl
  have z2 : ((c : Int) == 0) = false := by rw [beq_eq_false_iff_ne]; omega
  have z3 : ¬ (n : Int) < 4 := by omega
  have z4 : ¬ (cov : Int) < 0 := by omega
  have z5 : ¬ (S.size : Int) < (cov : Int) + (n : Int) := by omega
  have z6 : (cov : Int) ≤ 16 := by omega
  have z7 : (n : Int) ≤ 2348 := by omega
  have hcv := fun w => run_bytes_of_string (P := Try.prog) w 9 42 5 S Try.underlying9 Try.underlying42 Try.underlying5
  have HD := Lib.hid hdet
  have HE := Lib.hid hep
  have HX := Lib.hid hX
  have HB := Lib.hid hbz'
  have HZ := Lib.hid hzB
  obtain ⟨lba, mode, fi, ch, su, co, data⟩ := x
  obtain ⟨lba2, mode2, fi2, ch2, su2, co2, data2⟩ := y
  rw [secV] at *
  dsimp only at *
  generalize chkB X = K at *
  obtain ⟨kx, hkx⟩ : ∃ kx, kindR X = kx := ⟨_, rfl⟩
  rw [hkx] at C3 HD HE
  obtain ⟨km, ke⟩ := kx
  dsimp only at C3
  clear hdet hep hX hbz' hbz hzB hSl hSd hpn hpf hkx hv hx hE hcov hp hm hn hk0 hk hXz
  go_enter Try.func9, Try.ntmps9
  go_wp2_with fail
  refine (C0.out _).mono ?_
  rintro r w1 ⟨rfl, hb1⟩
  have h1 := St.call hb1 ((St.start w).alloc _ _)
  have q1 := (h1.at (i := 0) rfl).cell
  clear hb1
  go_wp2_with fail
  refine (C1.out _).mono ?_
  rintro r w2 ⟨rfl, hb2⟩
  have h2 := St.call hb2 h1
  clear hb2 h1 q1
  have q2 := (h2.at (i := 0) rfl).cell
  go_wp2_with fail
  refine (C2.out _).mono ?_
  rintro r w3 ⟨rfl, hb3⟩
  have h3 := St.call hb3 h2
  clear hb3 h2 q2
  go_wp2_with fail
  generalize grownCap w3 S.size 0 5 = cap
  have hwg : w.heap.size ≤ w3.heap.size := h3.bel.size
  have hlt3 := h3.lt (i := 0) rfl
  have hB0 : BytesAt ((w3.alloc (.cells (bytesRow S cap) 5 ((bytesRow S cap).size, (bytesRow S cap).size + 1))).drew) w3.heap.size 5 S.data.toList := (BytesAt.new w3 5 S cap).drew
  have h4 := (h3.other (.cells (bytesRow S cap) 5 ((bytesRow S cap).size, (bytesRow S cap).size + 1))).drew
  generalize ((w3.alloc (.cells (bytesRow S cap) 5 ((bytesRow S cap).size, (bytesRow S cap).size + 1))).drew) = w4 at *
  generalize w3.heap.size = g at *
  clear h3 hcv
  go_loopw [69] (fun i wr => ∃ j : Nat, j ≤ 4 ∧ i = .int .i64 j ∧ BytesAt wr g 5 (burst S.data.toList k c j) ∧ St w wr [(w.heap.size, 25, #[.int .i64 lba, .int .i64 mode, .int .i64 fi, .int .i64 ch, .int .i64 su, .int .i64 co, .string data])]) (fun i _ => 4 - (intOf i).toNat)
  case atStart => exact ⟨0, by omega, rfl, hB0, h4⟩
  case round =>
    obtain ⟨j, hj, rfl, hB, hst⟩ := hrel
    clear hB0 h4
    by_cases hlt : j < 4
    · have hlt' : (j : Int) < 4 := by omega
      have e1 : IntKind.i64.wrap ((k : Int) + (j : Int)) = ((k + j : Nat) : Int) := by rw [IntWalk.i64_in _ (by omega)]; omega
      have e2 : IntKind.i64.wrap (8 * (j:Int)) = ((8 * j : Nat) : Int) := by rw [IntWalk.i64_in _ (by omega)]; omega
      have e3 : (0:Int) ≤ ((k + j : Nat) : Int) := by omega
      have hzS := HZ.out
      have e4 : ((k + j : Nat) : Int) < (S.size : Int) := by omega
      have e5 : (0:Int) ≤ ((8 * j : Nat) : Int) := by omega
      have hl : k + j < S.data.toList.length := by rw [size_list]; omega
      clear hzS
      have hcell := hB.cell (k + j) S.data.toList[k + j] (by rw [burst_get _ _ _ _ _ (Nat.le_refl _), List.getElem?_eq_getElem hl])
      have hfr := hB.frozen (k + j) (by rw [burst_length]; exact hl)
      generalize hm : k + j = m at *
      generalize hx : S.data.toList[m] = x at *
      have e6 : IntKind.u8.wrap ((c : Int) / 2 ^ (8 * (j : Int)).toNat) = ((byteOf c j).toNat : Int) := by
        rw [byteOf_nat, IntKind.wrap_u8, show (8 * (j : Int)).toNat = 8 * j by omega, show (256 : Nat) ^ j = 2 ^ (8 * j) by rw [Nat.pow_mul]]
        exact (by simp : ((c : Int) / 2 ^ (8 * j) % 256) = (((c / 2 ^ (8 * j) % 256 : Nat)) : Int))
      have e7 := u8_xor_nat x.toNat (byteOf c j).toNat x.toNat_lt (byteOf c j).toNat_lt
      rw [byteV] at hcell
      go_wp2_with fail
      go_still_tail 13, (by kernel_rfl)
      change wpList _ _ _ _ _ (World.drew ..)
      go_wp2
      go_roundw
      case rel =>
        refine ⟨j + 1, by omega, by go_num, ?_, (hst.far (p := ⟨g, m, none⟩) hwg (by intro r hr; simp at hr; subst hr; show w.heap.size ≠ g; omega) _).drew⟩
        have hs2 := (hB.set_ m (x ^^^ byteOf c j)).drew
        rw [byteV, UInt8.toNat_xor] at hs2
        rw [burst, hm, show S.data.toList[m]?.getD 0 = x by rw [List.getElem?_eq_getElem hl, hx]; rfl]
        exact hs2
      case measure => simp [intOf]; omega
    · obtain rfl : j = 4 := by omega
      have hlt' : ¬ (((4 : Nat) : Int) < 4) := by omega
      have hcs := hB.string (P := Try.prog) 42 9 Try.underlying42 Try.underlying5 Try.underlying9 cap
      rw [burst_length, size_list, ← HX.out] at hcs
      have q := (hst.at (i := 0) rfl).cell
      by_cases hke : ke = 0
      · subst hke
        by_cases hkm : km = mode
        · subst hkm
          have hep := HE.out rfl
          have hK := HD.out rfl
          subst hK
          go_wp2_with fail
          refine (C3.out _).mono ?_
          rintro r w5 ⟨rfl, rfl⟩
          go_wp2_with fail
          refine (C4.out _).mono ?_
          rintro r w5 ⟨rfl, hb5⟩
          have h5 := St.call hb5 hst
          have hB5 := ((hB.below hb5 hB.lt).below ((Below.refl _ _).alloc (Nat.le_refl _) (.cells #[.int .i64 lba2, .int .i64 mode2, .int .i64 fi2, .int .i64 ch2, .int .i64 su2, .int .i64 co2, .string data2] 25)) (Nat.lt_of_lt_of_le hB.lt hb5.size)).string (P := Try.prog) 42 9 Try.underlying42 Try.underlying5 Try.underlying9 cap
          rw [burst_length, size_list, ← HX.out] at hB5
          clear hcs q hst hb5
          go_wp2_with fail
          refine (C5.out _).mono ?_
          rintro r w6 ⟨rfl, hb6⟩
          have h6 := St.call hb6 (h5.other _)
          clear hb6 h5 hB5
          go_wp2_with fail
          go_ret
          exact ⟨rfl, h6.bel⟩
        · have hkm' : (km != mode) = true := by rw [bne_iff_ne]; exact hkm
          go_wp2_with fail
          refine (C3.out _).mono ?_
          rintro r w5 ⟨rfl, rfl⟩
          go_wp2_with fail
          go_ret
          exact ⟨rfl, hst.bel⟩
      · have hke' : (ke != 0) = true := by rw [bne_iff_ne]; exact hke
        go_wp2_with fail
        refine (C3.out _).mono ?_
        rintro r w5 ⟨rfl, rfl⟩
        go_wp2_with fail
        go_ret
        exact ⟨rfl, hst.bel⟩

theorem detects_walk (x : Sec) (a c : Int) (w : World) (hx : SecIn x) (ha : (Lit.int IntKind.u16 a).wf = true) (hc : (Lit.int IntKind.u32 c).wf = true) :
    Calls Try.prog 9 #[secV x, .int .u16 a, .int .u32 c] w fun e w' => e = .returned (.bool true) ∧ Below w.heap.size w w' := by
  obtain ⟨a0, a1⟩ := wf_u16 ha
  obtain ⟨c0, c1⟩ := wf_u32 hc
  by_cases h : validB x = false ∨ c = 0
  · exact detects_no x a c w hx a0 a1 c0 c1 h
  · have hv : validB x = true := by
      cases hv : validB x with
      | true => rfl
      | false => exact absurd (.inl hv) h
    have hc0 : c ≠ 0 := fun e => h (.inr e)
    have := detects_go x a.toNat c.toNat w hx (by omega) (by omega) (by omega) hv
    rw [Int.toNat_of_nonneg a0, Int.toNat_of_nonneg c0] at this
    exact this
end Go.Proofs.Ytdjpnabkmanboaa
