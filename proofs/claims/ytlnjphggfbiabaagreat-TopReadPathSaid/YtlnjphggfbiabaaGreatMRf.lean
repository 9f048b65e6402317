/-
  reedsolomon: repair.
-/
import Derived.Test.YtlnjphggfbiabaaGreatMRd
import Derived.Deep.Cut
namespace Go.Proofs.YtlnjphggfbiabaaGreat
open Go.RowKit
set_option linter.unusedVariables false

def repS (half : Nat) : Nat → Nat × Nat
  | 0 => (1, 1)
  | k + 1 => (mulN (repS half k).1 2, mulN (repS half k).2 half)
theorem repS_lt (half : Nat) : ∀ k, (repS half k).1 < 256 ∧ (repS half k).2 < 256
  | 0 => ⟨by show 1 < 256; decide, by show 1 < 256; decide⟩
  | k + 1 => ⟨by show mulN (repS half k).1 2 < 256; exact mulN_lt (repS_lt half k).1, by show mulN (repS half k).2 half < 256; exact mulN_lt (repS_lt half k).2⟩
/-- The word behind k steps, from the last position on. -/
def repK (d psi omega : List Nat) (half : Nat) : Nat → List Nat
  | 0 => d
  | k + 1 => if atN psi (repS half k).2 = 0 then (repK d psi omega half k).set (d.length - 1 - k) (((repK d psi omega half k)[d.length - 1 - k]?.getD 0) ^^^ mulN (repS half k).1 (mulN (atN omega (repS half k).2) (invN (atN (derN psi) (repS half k).2)))) else repK d psi omega half k
def repN (d psi omega : List Nat) : List Nat := repK d psi omega (invN 2) d.length
theorem repK_length (d psi omega : List Nat) (half : Nat) : ∀ k, (repK d psi omega half k).length = d.length
  | 0 => rfl
  | k + 1 => by
    rw [repK]
    split
    · rw [List.length_set, repK_length]
    · exact repK_length d psi omega half k
theorem atN_lt {p : List Nat} (h : B8 p) (x : Nat) : atN p x < 256 := evaln_lt (fun n hn => h n (List.mem_reverse.1 hn))
theorem repK_b8 {d psi omega : List Nat} {half : Nat} (h : B8 d) : ∀ k, B8 (repK d psi omega half k)
  | 0 => h
  | k + 1 => by
    rw [repK]
    split
    · exact (repK_b8 h k).set (Nat.xor_lt_two_pow (n := 8) ((repK_b8 h k).getD _) (mulN_lt (repS_lt half k).1)) _
    · exact repK_b8 h k
def ofL (l : List Nat) : List UInt8 := l.map UInt8.ofNat
theorem ofL_sN (s : ByteArray) : ofL (sN s) = s.data.toList := by
  have := natS_sN s
  unfold natS at this
  have := congrArg (fun b : ByteArray => b.data.toList) this
  simpa [ofL] using this
theorem bytes_cell {w : World} {g e : Nat} {l : List Nat} (h : BytesAt w g e (ofL l)) (h8 : B8 l) {k n : Nat} (hk : l[k]? = some n) : w.cell? ⟨g, k, none⟩ = some (.int .u8 (n : Int)) := by
  rw [h.cell k (UInt8.ofNat n) (by unfold ofL; rw [List.getElem?_map, hk]; rfl)]
  unfold byteV
  rw [UInt8.toNat_ofNat', Nat.mod_eq_of_lt (h8.get hk)]
theorem bytes_set {w : World} {g e : Nat} {l : List Nat} (h : BytesAt w g e (ofL l)) (k n : Nat) (hn : n < 256) : BytesAt (w.setCell ⟨g, k, none⟩ (.int .u8 (n : Int))) g e (ofL (l.set k n)) := by
  have := h.set_ k (UInt8.ofNat n)
  unfold byteV at this
  rw [UInt8.toNat_ofNat', Nat.mod_eq_of_lt hn] at this
  unfold ofL
  rw [List.map_set]
  exact this
set_option maxRecDepth 100000 in
set_option maxHeartbeats 4000000 in
theorem repair_any (s : ByteArray) (A A' : Option Addr) (c c' : Nat) (psi omega : List Nat) (w : World) (h : SlAt w w.heap.size A (natV psi)) (h' : SlAt w w.heap.size A' (natV omega)) (hp : B8 psi) (ho : B8 omega) (hp0 : 0 < psi.length) (hpl : psi.length ≤ 100000) (hol : omega.length ≤ 100000) (hs : s.size ≤ 100000) :
    Calls Tryz.prog 78 #[.string s, .slice A psi.length c, .slice A' omega.length c'] w fun e w' => e = .returned (.string (natS (repN (sN s) psi omega))) ∧ Below w.heap.size w w' := by
  have HS := Lib.hid h
  have HS' := Lib.hid h'
  have HP := Lib.hid hp
  have HO := Lib.hid ho
  have CD := Lib.hid (fun w' (hb : Below w.heap.size w w') => derivative_any A c psi w' ((h.below hb).mono hb.size) hp0 hpl)
  have CI := Lib.hid (fun w' => inv_any 2 w')
  have CIV := Lib.hid (fun w' y => inv_any y w')
  have CA := Lib.hid (fun w' (hb : Below w.heap.size w w') x (hx : x < 256) => at_any A c psi x w' ((h.below hb).mono hb.size) hp (by omega) hx)
  have CO := Lib.hid (fun w' (hb : Below w.heap.size w w') x (hx : x < 256) => at_any A' c' omega x w' ((h'.below hb).mono hb.size) ho (by omega) hx)
  have CM := Lib.hid (fun w' x y (hx : x < 256) (hy : y < 256) => mul_any x y w' hx hy)
  have hh8 := invN_lt 2
  have HR : Hid (repN (sN s) psi omega = repK (sN s) psi omega (invN 2) s.size) := Lib.hid (by unfold repN; rw [sN_length])
  rw [HR.out]
  obtain ⟨half, hhalf⟩ : ∃ x, invN 2 = x := ⟨_, rfl⟩
  have HRS : Hid (∀ k, repK (sN s) psi omega half (k + 1) = if atN psi (repS half k).2 = 0 then (repK (sN s) psi omega half k).set (s.size - 1 - k) (((repK (sN s) psi omega half k)[s.size - 1 - k]?.getD 0) ^^^ mulN (repS half k).1 (mulN (atN omega (repS half k).2) (invN (atN (derN psi) (repS half k).2)))) else repK (sN s) psi omega half k) := Lib.hid (fun k => by rw [repK, sN_length])
  have HRL : Hid (∀ k, (repK (sN s) psi omega half k).length = s.size) := Lib.hid (fun k => by rw [repK_length, sN_length])
  have HR8 : Hid (∀ k, B8 (repK (sN s) psi omega half k)) := Lib.hid (fun k => repK_b8 (sN_b8 s) k)
  have HDL : Hid ((derN psi).length = psi.length - 1 ∧ B8 (derN psi)) := Lib.hid ⟨by unfold derN; rw [derK_length], derN_b8 hp⟩
  rw [hhalf] at CI hh8 ⊢
  obtain ⟨np, hnp⟩ : ∃ np, psi.length = np := ⟨_, rfl⟩
  obtain ⟨no, hno⟩ : ∃ no, omega.length = no := ⟨_, rfl⟩
  rw [hnp] at CD CA HDL hp0 hpl ⊢
  rw [hno] at CO hol ⊢
  obtain ⟨n, hn⟩ : ∃ n, s.size = n := ⟨_, rfl⟩
  have HN := Lib.hid hn
  rw [hn] at hs HRS HRL ⊢
  have hcv := run_bytes_of_string (P := Tryz.prog) w 9 75 5 s Tryz.underlying9 Tryz.underlying75 Tryz.underlying5
  rw [hn] at hcv
  generalize grownCap w n 0 5 = cap at *
  have hbn : Below w.heap.size w (World.drew (w.alloc (.cells (bytesRow s cap) 5 ((bytesRow s cap).size, (bytesRow s cap).size + 1)))) := ((Below.refl _ _).alloc (Nat.le_refl _) _).drew
  have hby : BytesAt (World.drew (w.alloc (.cells (bytesRow s cap) 5 ((bytesRow s cap).size, (bytesRow s cap).size + 1)))) w.heap.size 5 s.data.toList := BytesAt.drew (BytesAt.new w 5 s cap)
  rw [← ofL_sN] at hby
  have HBN := Lib.hid hbn
  have HBY := Lib.hid hby
  clear h h' hp ho hbn hby hn hnp hno hhalf HR
  go_enter Tryz.func78, Tryz.ntmps78
  go_wp2_with fail
  with_reducible refine (CD.out _ HBN.out).mono ?_
  rintro e w1 ⟨hb1, As, cs, rfl, hos⟩
  have HB1 := Lib.hid (HBN.out.trans (hb1.mono HBN.out.size))
  have HBY1 := Lib.hid (HBY.out.below hb1 HBY.out.lt)
  rw [HDL.out.1] at hos ⊢
  have HOS := Lib.hid (own_le (base' := w.heap.size + 1) hos (by simp))
  clear hb1 hos hcv HBY HBN CD
  go_wp2_with fail
  refine (CI.out w1).mono ?_
  rintro e w2 ⟨hb2, E2, rfl, _⟩
  have HB2 := Lib.hid (HB1.out.trans (hb2.mono HB1.out.size))
  have HBY2 := Lib.hid (HBY1.out.below hb2 HBY1.out.lt)
  have HOS2 := Lib.hid (own_all HOS.out hb2)
  have hg2 := HBY2.out.lt
  clear hb2 HBY1 HB1 HOS CI
  go_wp2_with fail
  go_loopw [11, 12, 13] (fun x v i wr => ∃ k : Nat, k ≤ n ∧ i = .int .i64 ((n : Int) - 1 - (k : Int)) ∧ x = .int .u8 (((repS half k).1 : Nat) : Int) ∧ v = .int .u8 (((repS half k).2 : Nat) : Int) ∧ BytesAt wr w.heap.size 5 (ofL (repK (sN s) psi omega half k)) ∧ wr.ownsRow (w.heap.size + 1) 5 1 (.slice As (np - 1) cs) (np - 1) (natV (derN psi)) ∧ Below w.heap.size w wr) (fun _ _ i _ => (intOf i + 1).toNat)
  case atStart => exact ⟨0, by omega, by simp, rfl, rfl, HBY2.out, HOS2.out, HB2.out⟩
  case round =>
    clear HBY2 HB2 HOS2
    obtain ⟨k, hk, rfl, rfl, rfl, hby, hos, hbel⟩ := hrel
    by_cases hlt : k < n
    · obtain ⟨j, hj⟩ : ∃ j, n - 1 - k = j := ⟨_, rfl⟩
      have hji : (n : Int) - 1 - (k : Int) = (j : Int) := by omega
      have h0j : (0 : Int) ≤ (j : Int) := by omega
      have hjn : (j : Int) < (n : Int) := by omega
      obtain ⟨O, hO⟩ : ∃ O, (repK (sN s) psi omega half k)[j]? = some O := ⟨_, List.getElem?_eq_getElem (by rw [HRL.out]; omega)⟩
      have hO8 := (HR8.out k).get hO
      have HCE : Hid (∀ w', Below wr.heap.size wr w' → w'.cell? ⟨w.heap.size, j, none⟩ = some (.int .u8 (O : Int)) ∧ w'.frozen? ⟨w.heap.size, j, none⟩ = false) := Lib.hid (fun w' hb => ⟨bytes_cell (hby.below hb hby.lt) (HR8.out k) hO, (hby.below hb hby.lt).frozen j (by unfold ofL; rw [List.length_map, HRL.out]; omega)⟩)
      have HRK := Lib.hid (HRS.out k)
      rw [hj, hO, Option.getD_some] at HRK
      obtain ⟨hX8, hV8⟩ := repS_lt half k
      have HS1 : Hid (repS half (k + 1) = (mulN (repS half k).1 2, mulN (repS half k).2 half)) := Lib.hid rfl
      generalize repS half k = RS at *
      obtain ⟨X, V⟩ := RS
      dsimp only at hX8 hV8 HRK HS1
      have hT8 := atN_lt HP.out V
      have C1 := Lib.hid (CA.out wr hbel V hV8)
      have HBYR := Lib.hid hby
      have HBE := Lib.hid hbel
      have HOR := Lib.hid hos
      have CS := Lib.hid (fun w' (hb : Below wr.heap.size wr w') x (hx : x < 256) => at_any As cs (derN psi) x w' (SlAt.of_own' (own_all HOR.out hb) (Nat.le_refl _)) HDL.out.2 (by rw [HDL.out.1]; omega) hx)
      rw [HDL.out.1] at CS
      have CX := Lib.hid (fun w' => CM.out w' X 2 hX8 (by decide))
      have CV := Lib.hid (fun w' => CM.out w' V half hV8 hh8)
      have hx1 := mulN_lt (b := 2) hX8
      have hv1 := mulN_lt (b := half) hV8
      generalize mulN V half = V1 at *
      rw [hji]
      clear hj hO hby hbel hos
      by_cases hz : atN psi V = 0
      · rw [if_pos hz] at HRK
        have hB : (((atN psi V : Nat) : Int) == 0) = true := by rw [beq_iff_eq]; omega
        have C2 := Lib.hid (fun w' (hb : Below wr.heap.size wr w') => CS.out w' hb V hV8)
        have C4 := Lib.hid (fun w' (hb : Below w.heap.size w w') => CO.out w' hb V hV8)
        have hA8 := atN_lt HO.out V
        generalize atN psi V = T at *
        generalize atN (derN psi) V = D at *
        have hi8 := invN_lt D
        have C3 := Lib.hid (fun w' => CIV.out w' D)
        generalize invN D = I at *
        generalize atN omega V = W0 at *
        have C5 := Lib.hid (fun w' => CM.out w' W0 I hA8 hi8)
        have hm5 := mulN_lt (b := I) hA8
        generalize mulN W0 I = M5 at *
        have C6 := Lib.hid (fun w' => CM.out w' X M5 hX8 hm5)
        have hm6 := mulN_lt (b := M5) hX8
        generalize mulN X M5 = M6 at *
        have hxx := u8_xor_nat O M6 hO8 hm6
        clear hz
        generalize mulN X 2 = X1 at *
        go_wp2_with fail
        with_reducible refine C1.out.mono ?_
        rintro e w3 ⟨rfl, hb3⟩
        have HB3 := Lib.hid hb3
        clear hb3 C1
        go_wp2_with fail
        with_reducible refine (C2.out w3 HB3.out).mono ?_
        rintro e w4 ⟨rfl, hb4⟩
        have HB4 := Lib.hid (HB3.out.trans (hb4.mono HB3.out.size))
        clear hb4 HB3
        go_wp2_with fail
        refine (C3.out w4).mono ?_
        rintro e w5 ⟨hb5, E5, rfl, _⟩
        have HB5 := Lib.hid (HB4.out.trans (hb5.mono HB4.out.size))
        clear hb5 HB4
        go_upto_region 10 with fail
        refine wp_region_any (by kernel_rfl) (wpAny_of_Z (S := fun w' => Below wr.heap.size wr w') (z := 13) _ _ _ _ ?_)
        have hHeld : Below wr.heap.size wr (World.drew w5) := HB5.out.drew
        change wpAnyZ _ _ _ _ _ _ _ _ _ (World.drew _)
        refine wpAnyZ_take (i := 0) (oi := ?o1) (v := ?v1) ?hi1 (by kernel_rfl) (by kernel_rfl) (by kernel_rfl) (by kernel_rfl) ?hq1 ?hy1 (by assumption) ?hr1
        case hi1 => (simp only [List.getElem?_toArray, List.getElem?_cons_zero]; rfl)
        case hy1 => ((refine .inl ⟨by rfl, ?_⟩); intro w hS; go_simp; (try with_reducible rfl))
        case hq1 => exact fun _ _ _ h => h
        (try simp only [Act.put, List.setIfInBounds_toArray, List.set_cons_zero, List.set_cons_succ])
        refine wpAnyZ_take (i := 1) (oi := ?o2) (v := ?v2) ?hi2 (by kernel_rfl) (by kernel_rfl) (by kernel_rfl) (by kernel_rfl) ?hq2 ?hy2 (by assumption) ?hr2
        case hi2 => (simp only [List.getElem?_toArray, List.getElem?_cons_succ, List.getElem?_cons_zero]; rfl)
        case hy2 => ((refine .inl ⟨by rfl, ?_⟩); intro w hS; go_simp; (try with_reducible rfl))
        case hq2 => exact fun _ _ _ h => h
        (try simp only [Act.put, List.setIfInBounds_toArray, List.set_cons_zero, List.set_cons_succ])
        refine wpAnyZ_take (i := 2) (oi := ?o3) (v := ?v3) ?hi3 (by kernel_rfl) (by kernel_rfl) (by kernel_rfl) (by kernel_rfl) ?hq3 ?hy3 (by assumption) ?hr3
        case hi3 => (simp only [List.getElem?_toArray, List.getElem?_cons_succ, List.getElem?_cons_zero]; rfl)
        case hy3 => ((refine .inl ⟨by rfl, ?_⟩); intro w hS; go_simp; (try with_reducible rfl))
        case hq3 => exact fun _ _ _ h => h
        (try simp only [Act.put, List.setIfInBounds_toArray, List.set_cons_zero, List.set_cons_succ])
        refine wpAnyZ_take (i := 3) (oi := ?o4) (v := ?v4) ?hi4 (by kernel_rfl) (by kernel_rfl) (by kernel_rfl) (by kernel_rfl) ?hq4 ?hy4 (by assumption) ?hr4
        case hi4 => (simp only [List.getElem?_toArray, List.getElem?_cons_succ, List.getElem?_cons_zero]; rfl)
        case hy4 => ((refine .inl ⟨by rfl, ?_⟩); intro w hS; have qc := (HCE.out w hS).1; go_simp; (try with_reducible rfl))
        case hq4 => exact fun _ _ _ h => h
        (try simp only [Act.put, List.setIfInBounds_toArray, List.set_cons_zero, List.set_cons_succ])
        refine wpAnyZ_take (i := 4) (oi := ?o5) (v := ?v5) ?hi5 (by kernel_rfl) (by kernel_rfl) (by kernel_rfl) (by kernel_rfl) ?hq5 ?hy5 (by assumption) ?hr5
        case hi5 => (simp only [List.getElem?_toArray, List.getElem?_cons_succ, List.getElem?_cons_zero]; rfl)
        case hy5 => ((refine .inl ⟨by rfl, ?_⟩); intro w hS; go_simp; (try with_reducible rfl))
        case hq5 => exact fun _ _ _ h => h
        (try simp only [Act.put, List.setIfInBounds_toArray, List.set_cons_zero, List.set_cons_succ])
        refine wpAnyZ_take (i := 5) (oi := ?o6) (v := ?v6) ?hi6 (by kernel_rfl) (by kernel_rfl) (by kernel_rfl) (by kernel_rfl) ?hq6 ?hy6 (by assumption) ?hr6
        case hi6 => (simp only [List.getElem?_toArray, List.getElem?_cons_succ, List.getElem?_cons_zero]; rfl)
        case hy6 => ((refine .inl ⟨by rfl, ?_⟩); intro w hS; go_simp; (try with_reducible rfl))
        case hq6 => exact fun _ _ _ h => h
        (try simp only [Act.put, List.setIfInBounds_toArray, List.set_cons_zero, List.set_cons_succ])
        refine wpAnyZ_take (i := 6) (oi := ?o7) (v := ?v7) ?hi7 (by kernel_rfl) (by kernel_rfl) (by kernel_rfl) (by kernel_rfl) ?hq7 ?hy7 (by assumption) ?hr7
        case hi7 => (simp only [List.getElem?_toArray, List.getElem?_cons_succ, List.getElem?_cons_zero]; rfl)
        case hy7 => ((refine .inl ⟨by rfl, ?_⟩); intro w hS; go_simp; (try with_reducible rfl))
        case hq7 => exact fun _ _ _ h => h
        (try simp only [Act.put, List.setIfInBounds_toArray, List.set_cons_zero, List.set_cons_succ])
        refine wpAnyZ_take (i := 8) (oi := ?o8) (v := ?v8) ?hi8 (by kernel_rfl) (by kernel_rfl) (by kernel_rfl) (by kernel_rfl) ?hq8 ?hy8 (by assumption) ?hr8
        case hi8 => (simp only [List.getElem?_toArray, List.getElem?_cons_succ, List.getElem?_cons_zero]; rfl)
        case hy8 => ((refine .inl ⟨by rfl, ?_⟩); intro w hS; go_simp; (try with_reducible rfl))
        case hq8 => exact fun _ _ _ h => h
        (try simp only [Act.put, List.setIfInBounds_toArray, List.set_cons_zero, List.set_cons_succ])
        refine wpAnyZ_one (i := 7) (by kernel_rfl) rfl (by kernel_rfl) (fun K hK => ?_)
        go_simp
        go_wp2_with (((with_reducible refine (C4.out _ (HBE.out.trans (hHeld.mono HBE.out.size))).mono ?_); rintro e w6 ⟨rfl, hb6⟩))
        refine hK.out _ _ (hHeld.trans (hb6.mono hHeld.size)) (fun hHeld => ?_)
        clear hK K
        (try simp only [Act.put, List.setIfInBounds_toArray, List.set_cons_zero, List.set_cons_succ])
        refine wpAnyZ_one (i := 9) (by kernel_rfl) rfl (by kernel_rfl) (fun K hK => ?_)
        go_simp
        go_wp2_with (((with_reducible refine (C5.out _).mono ?_); rintro e w8 ⟨rfl, rfl⟩))
        refine hK.out _ _ (hHeld) (fun hHeld => ?_)
        clear hK K
        (try simp only [Act.put, List.setIfInBounds_toArray, List.set_cons_zero, List.set_cons_succ])
        refine wpAnyZ_one (i := 10) (by kernel_rfl) rfl (by kernel_rfl) (fun K hK => ?_)
        go_simp
        go_wp2_with (((with_reducible refine (C6.out _).mono ?_); rintro e w9 ⟨rfl, rfl⟩))
        refine hK.out _ _ (hHeld) (fun hHeld => ?_)
        clear hK K
        (try simp only [Act.put, List.setIfInBounds_toArray, List.set_cons_zero, List.set_cons_succ])
        refine wpAnyZ_take (i := 11) (oi := ?o9) (v := ?v9) ?hi9 (by kernel_rfl) (by kernel_rfl) (by kernel_rfl) (by kernel_rfl) ?hq9 ?hy9 (by assumption) ?hr9
        case hi9 => (simp only [List.getElem?_toArray, List.getElem?_cons_succ, List.getElem?_cons_zero]; rfl)
        case hy9 => ((refine .inl ⟨by rfl, ?_⟩); intro w hS; go_simp; (try with_reducible rfl))
        case hq9 => exact fun _ _ _ h => h
        (try simp only [Act.put, List.setIfInBounds_toArray, List.set_cons_zero, List.set_cons_succ])
        refine wpAnyZ_take (i := 12) (oi := ?o10) (v := ?v10) ?hi10 (by kernel_rfl) (by kernel_rfl) (by kernel_rfl) (by kernel_rfl) ?hq10 ?hy10 (by assumption) ?hr10
        case hi10 => (simp only [List.getElem?_toArray, List.getElem?_cons_succ, List.getElem?_cons_zero]; rfl)
        case hy10 => ((refine .inl ⟨by rfl, ?_⟩); intro w hS; go_simp; (try with_reducible rfl))
        case hq10 => exact fun _ _ _ h => h
        (try simp only [Act.put, List.setIfInBounds_toArray, List.set_cons_zero, List.set_cons_succ])
        refine wpAnyZ_last (by kernel_rfl) rfl (fun K hK => ?_)
        have qf := (HCE.out _ hHeld).2
        have qg := (HCE.out _ hHeld).1
        have HB6 := Lib.hid hHeld
        go_simp
        refine hK.out _ _ ?_
        clear hK K
        (try simp only [Act.put])
        refine wpAnyZ_done (by kernel_rfl) ?_ _
        go_wp2_with fail
        refine (CX.out _).mono ?_
        rintro e w7 ⟨rfl, rfl⟩
        go_wp2_with fail
        refine (CV.out _).mono ?_
        rintro e w7 ⟨rfl, rfl⟩
        go_wp2_with fail
        go_roundw
        case rel => exact ⟨k + 1, by omega, by first | (congr 1; omega) | go_num, by rw [HS1.out], by rw [HS1.out], by rw [HRK.out]; exact bytes_set (HBYR.out.below HB6.out HBYR.out.lt) _ _ (Nat.xor_lt_two_pow (n := 8) hO8 hm6), own_set (own_all HOR.out HB6.out) (by omega), (HBE.out.trans (HB6.out.mono HBE.out.size)).setCell (p := ⟨w.heap.size, j, none⟩) (Nat.le_refl _) _⟩
        case measure => simp [intOf]; try omega
      · rw [if_neg hz] at HRK
        have hB : (((atN psi V : Nat) : Int) == 0) = false := by rw [beq_eq_false_iff_ne]; omega
        generalize atN psi V = T at *
        generalize mulN X 2 = X1 at *
        clear hz
        go_wp2_with fail
        with_reducible refine C1.out.mono ?_
        rintro e w3 ⟨rfl, hb3⟩
        have HB3 := Lib.hid hb3
        clear hb3 C1
        go_wp2_with fail
        refine (CX.out _).mono ?_
        rintro e w7 ⟨rfl, rfl⟩
        go_wp2_with fail
        refine (CV.out _).mono ?_
        rintro e w7 ⟨rfl, rfl⟩
        go_wp2_with fail
        go_roundw
        case rel => exact ⟨k + 1, by omega, by first | (congr 1; omega) | go_num, by rw [HS1.out], by rw [HS1.out], by rw [HRK.out]; exact HBYR.out.below HB3.out HBYR.out.lt, own_all HOR.out HB3.out, HBE.out.trans (HB3.out.mono HBE.out.size)⟩
        case measure => simp [intOf]; try omega
    · obtain rfl : k = n := by omega
      have hge : ¬ (0 : Int) ≤ (k : Int) - 1 - (k : Int) := by omega
      have hcs := fun cap' => hby.string (P := Tryz.prog) 75 9 Tryz.underlying75 Tryz.underlying5 Tryz.underlying9 cap'
      have HL : Hid ((ofL (repK (sN s) psi omega half k)).length = k) := Lib.hid (by unfold ofL; rw [List.length_map, HRL.out])
      rw [HL.out] at hcs
      go_wp2_with fail
      go_ret
      exact ⟨rfl, hbel⟩
end Go.Proofs.YtlnjphggfbiabaaGreat
