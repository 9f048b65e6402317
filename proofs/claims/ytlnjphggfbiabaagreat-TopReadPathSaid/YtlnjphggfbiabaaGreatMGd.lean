/-
  Polynomials over the field: Product, trim.
-/
import Derived.Test.YtlnjphggfbiabaaGreatMGc
import Derived.Deep.Cut
import Derived.BigQuiet
namespace Go.Proofs.YtlnjphggfbiabaaGreat
open Go.RowKit
set_option linter.unusedVariables false

/-- The first k products of f and the elements of q, added to out from o on. -/
def accK (out : List Nat) (o f : Nat) (q : List Nat) : Nat → List Nat
  | 0 => out
  | k + 1 => (accK out o f q k).set (o + k) (((accK out o f q k)[o + k]?.getD 0) ^^^ mulN f (q[k]?.getD 0))
def accA (out : List Nat) (o f : Nat) (q : List Nat) : List Nat := accK out o f q q.length
theorem accK_length (out : List Nat) (o f : Nat) (q : List Nat) : ∀ k, (accK out o f q k).length = out.length
  | 0 => rfl
  | k + 1 => by rw [accK, List.length_set, accK_length]
theorem accA_length (out : List Nat) (o f : Nat) (q : List Nat) : (accA out o f q).length = out.length := accK_length _ _ _ _ _
theorem B8.set {l : List Nat} (h : B8 l) {n : Nat} (hn : n < 256) (i : Nat) : B8 (l.set i n) := fun m hm => by
  rcases List.mem_or_eq_of_mem_set hm with h1 | h1
  · exact h m h1
  · rw [h1]; exact hn
theorem B8.getD {l : List Nat} (h : B8 l) (k : Nat) : l[k]?.getD 0 < 256 := by
  cases hk : l[k]? with
  | none => decide
  | some n => exact h n (List.mem_of_getElem? hk)
theorem accK_b8 {out : List Nat} {o f : Nat} {q : List Nat} (h : B8 out) (hf : f < 256) : ∀ k, B8 (accK out o f q k)
  | 0 => h
  | k + 1 => B8.set (accK_b8 h hf k) (Nat.xor_lt_two_pow (n := 8) (B8.getD (accK_b8 h hf k) _) (mulN_lt hf)) _
theorem accA_b8 {out : List Nat} {o f : Nat} {q : List Nat} (h : B8 out) (hf : f < 256) : B8 (accA out o f q) := accK_b8 h hf _
def prodK (p q : List Nat) : Nat → List Nat
  | 0 => List.replicate (p.length + q.length - 1) 0
  | i + 1 => accA (prodK p q i) i (p[i]?.getD 0) q
def prodN (p q : List Nat) : List Nat := if p = [] ∨ q = [] then [] else prodK p q p.length
theorem prodK_length (p q : List Nat) : ∀ i, (prodK p q i).length = p.length + q.length - 1
  | 0 => by simp [prodK]
  | i + 1 => by rw [prodK, accA_length, prodK_length]
theorem B8.zeros (n : Nat) : B8 (List.replicate n 0) := fun m hm => by rw [(List.mem_replicate.1 hm).2]; decide
theorem prodK_b8 {p q : List Nat} (hp : B8 p) : ∀ i, B8 (prodK p q i)
  | 0 => B8.zeros _
  | i + 1 => accA_b8 (prodK_b8 hp i) (hp.getD i)
theorem prodN_b8 {p q : List Nat} (hp : B8 p) : B8 (prodN p q) := by
  unfold prodN
  split
  · exact fun m hm => (List.not_mem_nil hm).elim
  · exact prodK_b8 hp _
theorem prodN_length {p q : List Nat} (hp : p ≠ []) (hq : q ≠ []) : (prodN p q).length = p.length + q.length - 1 := by
  unfold prodN
  rw [if_neg (by simp [hp, hq]), prodK_length]
theorem natV_set (l : List Nat) (i n : Nat) : (natV l).set i (.int .u8 (n : Int)) = natV (l.set i n) := by unfold natV; rw [List.map_set]
theorem natV_zeros (n : Nat) : List.replicate n (Value.int .u8 0) = natV (List.replicate n 0) := by simp [natV]
theorem info_byte : (Tryz.prog.info? 5).map (fun i => (i.zero, i.size, i.bytes)) = some (some (.int .u8 0), 1, 1) := by kernel_rfl
theorem run_mk8 {t : TypeId} (ht : Tryz.prog.underlying t = some (.slice 5)) (n : Nat) (hn : n ≤ 16777216) (w : World) : (Instr.makeSlice t (.int .i64 (n : Int)) (.int .i64 (n : Int))).run Tryz.prog w = .ok (.slice (some ⟨w.heap.size, 0, none⟩) n n) (w.alloc (.cells (madeCells #[.int .u8 0] n) 5)) := by
  obtain ⟨i, hi, hz, hs, hb⟩ := info_parts info_byte
  have := run_makeSlice (w := w) t 5 i _ ht hi hz .i64 .i64 (n : Int) (n : Int) (by omega) (by omega) (by rw [hs]; omega) (by rw [hb]; omega) (by omega)
  rw [hs] at this
  simpa [Value.cells] using this
/-- A made slice of bytes. -/
theorem made_bytes (w : World) (n : Nat) (hn : n ≤ maxLen) : (w.alloc (.cells (madeCells #[.int .u8 0] n) 5)).ownsRow w.heap.size 5 1 (.slice (some ⟨w.heap.size, 0, none⟩) n n) n (natV (List.replicate n 0)) := by
  have h := World.ownsRow_lit (base := w.heap.size) (e := 5) (size := 1) w (madeCells #[.int .u8 0] n) n (Nat.le_refl _) hn (by simp [madeCells])
  rw [toList_madeCells_one, natV_zeros] at h
  exact h
theorem own_nat {w : World} {base g n c e : Nat} {l : List Nat} (h : w.ownsRow base e 1 (.slice (some ⟨g, 0, none⟩) n c) n (natV l)) {k x : Nat} (hk : l[k]? = some x) : w.cell? ⟨g, k, none⟩ = some (.int .u8 (x : Int)) := by
  have hlt := (List.getElem?_eq_some_iff.1 hk).1
  have hn : l.length = n := by have := h.1; rw [natV_length] at this; omega
  rw [h.cellAt k (by omega)]
  exact natV_get hk
theorem own_nat_set {w : World} {base g n c e : Nat} {l : List Nat} (h : w.ownsRow base e 1 (.slice (some ⟨g, 0, none⟩) n c) n (natV l)) (k x : Nat) : (w.setCell ⟨g, k, none⟩ (.int .u8 (x : Int))).ownsRow base e 1 (.slice (some ⟨g, 0, none⟩) n c) n (natV (l.set k x)) := by
  rw [← natV_set]
  exact (h.stored k _).1
/-- What Product answers. -/
def ProdRes (R : List Nat) (w : World) (e : Ending) (w' : World) : Prop :=
  Below w.heap.size w w' ∧ ∃ A c, e = .returned (.slice A R.length c) ∧ w'.ownsRow w.heap.size 5 1 (.slice A R.length c) R.length (natV R)
set_option maxRecDepth 100000 in
set_option maxHeartbeats 4000000 in
theorem product_any (A A' : Option Addr) (c c' : Nat) (p q : List Nat) (w : World) (h : SlAt w w.heap.size A (natV p)) (h' : SlAt w w.heap.size A' (natV q)) (hp : B8 p) (hq : B8 q) (hpl : p.length ≤ 100000) (hql : q.length ≤ 100000) :
    Calls Tryz.prog 104 #[.slice A p.length c, .slice A' q.length c'] w (ProdRes (prodN p q) w) := by
  have HS := Lib.hid h
  have HS' := Lib.hid h'
  have HP := Lib.hid hp
  have HQ := Lib.hid hq
  by_cases hp0 : p = []
  · subst hp0
    have HE : Hid (prodN [] q = []) := Lib.hid (by unfold prodN; rw [if_pos (.inl rfl)])
    rw [HE.out]
    clear h h' hp hq
    go_enter Tryz.func104, Tryz.ntmps104
    go_wp2_with fail
    go_ret
    exact ⟨Below.refl _ _, none, 0, rfl, World.ownsRow_nil _ _ _ _⟩
  · by_cases hq0 : q = []
    · subst hq0
      have HE : Hid (prodN p [] = []) := Lib.hid (by unfold prodN; rw [if_pos (.inr rfl)])
      rw [HE.out]
      have hpp := List.length_pos_iff.2 hp0
      generalize p.length = n at *
      have hnB : ((n : Int) == 0) = false := by rw [beq_eq_false_iff_ne]; omega
      clear h h' hp hq hp0
      go_enter Tryz.func104, Tryz.ntmps104
      go_wp2_with fail
      go_ret
      exact ⟨Below.refl _ _, none, 0, rfl, World.ownsRow_nil _ _ _ _⟩
    · have hpp := List.length_pos_iff.2 hp0
      have hqp := List.length_pos_iff.2 hq0
      have HE : Hid (prodN p q = prodK p q p.length) := Lib.hid (by unfold prodN; rw [if_neg (by simp [hp0, hq0])])
      have HL : Hid (∀ i, (prodK p q i).length = p.length + q.length - 1) := Lib.hid (prodK_length p q)
      rw [HE.out]
      obtain ⟨n, hn⟩ : ∃ n, p.length = n := ⟨_, rfl⟩
      obtain ⟨m, hm⟩ : ∃ m, q.length = m := ⟨_, rfl⟩
      have HN := Lib.hid hn
      have HM := Lib.hid hm
      rw [hn, hm] at HL
      rw [hn] at hpl hpp ⊢
      rw [hm] at hql hqp ⊢
      have hnB : ((n : Int) == 0) = false := by rw [beq_eq_false_iff_ne]; omega
      have hmB : ((m : Int) == 0) = false := by rw [beq_eq_false_iff_ne]; omega
      obtain ⟨N, hN⟩ : ∃ N, n + m - 1 = N := ⟨_, rfl⟩
      rw [hN] at HL
      have hNI : (n : Int) + (m : Int) - 1 = (N : Int) := by omega
      have hmk := fun w' => run_mk8 Tryz.underlying75 N (by omega) w'
      clear h h' hp hq hp0 hq0 hn hm HE
      go_enter Tryz.func104, Tryz.ntmps104
      go_wp2_with fail
      have hmade := made_bytes w N (by unfold maxLen; omega)
      have hbm := (Below.refl w.heap.size w).alloc (Nat.le_refl _) (.cells (madeCells #[.int .u8 0] N) 5)
      go_loopw [27] (fun i wr => ∃ k : Nat, k ≤ n ∧ i = .int .i64 k ∧ wr.ownsRow w.heap.size 5 1 (.slice (some ⟨w.heap.size, 0, none⟩) N N) N (natV (prodK p q k)) ∧ Below w.heap.size w wr) (fun i _ => n - (intOf i).toNat)
      case atStart => exact ⟨0, by omega, rfl, by rw [prodK, HN.out, HM.out, hN]; exact hmade, hbm⟩
      case round =>
        clear hmade hbm
        obtain ⟨wo, rfl⟩ : ∃ wo : World, wo = wr := ⟨_, rfl⟩
        obtain ⟨i, hi, rfl, hown, hbel⟩ := hrel
        by_cases hlt : i < n
        · obtain ⟨x, hx⟩ : ∃ x, p[i]? = some x := ⟨p[i]'(by rw [HN.out]; exact hlt), List.getElem?_eq_getElem _⟩
          obtain ⟨b, off, hA, hb⟩ := HS.out.natAddr (by rw [HN.out]; omega)
          obtain ⟨b', off', hA', hb'⟩ := HS'.out.natAddr (by rw [HM.out]; omega)
          have HAA := Lib.hid (show A = some ⟨b, off, none⟩ ∧ A' = some ⟨b', off', none⟩ from ⟨hA, hA'⟩)
          subst hA hA'
          have q1 := (HS.out.below hbel).nat rfl hx
          have hx8 := HP.out.get hx
          have hltI : (i : Int) < (n : Int) := by omega
          have h0i : (0 : Int) ≤ (i : Int) := by omega
          have HPK : Hid (prodK p q (i + 1) = accK (prodK p q i) i x q m) := Lib.hid (by rw [prodK, hx, Option.getD_some, accA, HM.out])
          have HB8 := Lib.hid (prodK_b8 (q := q) HP.out i)
          obtain ⟨P0, hP0⟩ : ∃ P0, prodK p q i = P0 := ⟨_, rfl⟩
          have HP0L : Hid (P0.length = N) := Lib.hid (by rw [← hP0]; exact HL.out i)
          rw [hP0] at hown HPK HB8
          have HOW := Lib.hid hown
          have HBE := Lib.hid hbel
          clear hx hP0 hown hbel
          go_wp2_with fail
          go_loopw [34] (fun j wr => ∃ k : Nat, k ≤ m ∧ j = .int .i64 k ∧ wr.ownsRow w.heap.size 5 1 (.slice (some ⟨w.heap.size, 0, none⟩) N N) N (natV (accK P0 i x q k)) ∧ Below w.heap.size w wr) (fun j _ => m - (intOf j).toNat)
          case atStart => exact ⟨0, by omega, rfl, HOW.out, HBE.out⟩
          case round =>
            clear HOW HBE q1
            obtain ⟨k, hk, rfl, hown, hbel⟩ := hrel
            by_cases hltk : k < m
            · obtain ⟨y, hy⟩ : ∃ y, q[k]? = some y := ⟨q[k]'(by rw [HM.out]; exact hltk), List.getElem?_eq_getElem _⟩
              have q2 := (HS'.out.below hbel).nat rfl hy
              have hltkI : (k : Int) < (m : Int) := by omega
              have h0k : (0 : Int) ≤ (k : Int) := by omega
              have hy8 := HQ.out.get hy
              have HB8k := accK_b8 (o := i) (q := q) HB8.out hx8 k
              have HAK : Hid (accK P0 i x q (k + 1) = (accK P0 i x q k).set (i + k) (((accK P0 i x q k)[i + k]?.getD 0) ^^^ mulN x y)) := Lib.hid (by rw [accK, hy, Option.getD_some])
              obtain ⟨O, hO⟩ : ∃ O, (accK P0 i x q k)[i + k]? = some O := ⟨_, List.getElem?_eq_getElem (by rw [accK_length, HP0L.out]; omega)⟩
              rw [hO, Option.getD_some] at HAK
              have hO8 := HB8k.get hO
              have HCELL := Lib.hid (own_nat (own_drewN hown 1) hO)
              have C := Lib.hid (fun w' => mul_any x y w' hx8 hy8)
              have hM8 := mulN_lt (b := y) hx8
              have hX := u8_xor_nat O (mulN x y) hO8 hM8
              generalize mulN x y = M at *
              have hik0 : (0 : Int) ≤ (i : Int) + (k : Int) := by omega
              have hik1 : (i : Int) + (k : Int) < (N : Int) := by omega
              have hik2 : ((i : Int) + (k : Int)).toNat = i + k := by omega
              have hik3 : IntKind.i64.wrap ((i : Int) + (k : Int)) = (i : Int) + (k : Int) := IntWalk.i64_in _ (by omega)
              have HOW := Lib.hid hown
              have HBE := Lib.hid hbel
              clear hy hO hown hbel HB8k
              go_upto_region 10 with fail
              refine wp_region_any (by kernel_rfl) (wpAny_of_Z (S := fun w' => w'.cell? ⟨w.heap.size, i + k, none⟩ = some (.int .u8 (O : Int))) (z := 11) _ _ _ _ ?_)
              have hHeld : wr.drew.cell? ⟨w.heap.size, i + k, none⟩ = some (.int .u8 (O : Int)) := HCELL.out
              have hfz : wr.drew.frozen? ⟨w.heap.size, i + k, none⟩ = false := (own_drewN HOW.out 1).frozenAt (i + k)
              change wpAnyZ _ _ _ _ _ _ _ _ _ (World.drew _)
              refine wpAnyZ_take (i := 0) (oi := ?o1) (v := ?v1) ?hi1 (by kernel_rfl) (by kernel_rfl) (by kernel_rfl) (by kernel_rfl) ?hq1 ?hy1 (by assumption) ?hr1
              case hi1 => (simp only [List.getElem?_toArray, List.getElem?_cons_zero]; rfl)
              case hy1 => ((refine .inl ⟨by rfl, ?_⟩); intro w hS; go_simp; (try with_reducible rfl))
              case hq1 => exact fun _ _ _ h => h
              (try simp only [Act.put, List.setIfInBounds_toArray, List.set_cons_zero, List.set_cons_succ])
              refine wpAnyZ_take (i := 1) (oi := ?o2) (v := ?v2) ?hi2 (by kernel_rfl) (by kernel_rfl) (by kernel_rfl) (by kernel_rfl) ?hq2 ?hy2 (by assumption) ?hr2
              case hi2 => (simp only [List.getElem?_toArray, List.getElem?_cons_succ, List.getElem?_cons_zero]; rfl)
              case hy2 => ((refine .inl ⟨by rfl, ?_⟩); intro w hS; go_simp; (try with_reducible rfl))
              case hq2 => exact fun _ _ _ h => h
              (try simp only [Act.put, List.setIfInBounds_toArray, List.set_cons_zero, List.set_cons_succ])
              refine wpAnyZ_take (i := 2) (oi := ?o3) (v := ?v3) ?hi3 (by kernel_rfl) (by kernel_rfl) (by kernel_rfl) (by kernel_rfl) ?hq3 ?hy3 (by assumption) ?hr3
              case hi3 => (simp only [List.getElem?_toArray, List.getElem?_cons_succ, List.getElem?_cons_zero]; rfl)
              case hy3 => ((refine .inl ⟨by rfl, ?_⟩); intro w hS; go_simp; (try with_reducible rfl))
              case hq3 => exact fun _ _ _ h => h
              (try simp only [Act.put, List.setIfInBounds_toArray, List.set_cons_zero, List.set_cons_succ])
              refine wpAnyZ_take (i := 3) (oi := ?o4) (v := ?v4) ?hi4 (by kernel_rfl) (by kernel_rfl) (by kernel_rfl) (by kernel_rfl) ?hq4 ?hy4 (by assumption) ?hr4
              case hi4 => (simp only [List.getElem?_toArray, List.getElem?_cons_succ, List.getElem?_cons_zero]; rfl)
              case hy4 => ((refine .inl ⟨by rfl, ?_⟩); intro w hS; go_simp; (try with_reducible rfl))
              case hq4 => exact fun _ _ _ h => h
              (try simp only [Act.put, List.setIfInBounds_toArray, List.set_cons_zero, List.set_cons_succ])
              refine wpAnyZ_take (i := 4) (oi := ?o5) (v := ?v5) ?hi5 (by kernel_rfl) (by kernel_rfl) (by kernel_rfl) (by kernel_rfl) ?hq5 ?hy5 (by assumption) ?hr5
              case hi5 => (simp only [List.getElem?_toArray, List.getElem?_cons_succ, List.getElem?_cons_zero]; rfl)
              case hy5 => ((refine .inl ⟨by rfl, ?_⟩); intro w hS; go_simp; (try with_reducible rfl))
              case hq5 => exact fun _ _ _ h => h
              (try simp only [Act.put, List.setIfInBounds_toArray, List.set_cons_zero, List.set_cons_succ])
              refine wpAnyZ_take (i := 5) (oi := ?o6) (v := ?v6) ?hi6 (by kernel_rfl) (by kernel_rfl) (by kernel_rfl) (by kernel_rfl) ?hq6 ?hy6 (by assumption) ?hr6
              case hi6 => (simp only [List.getElem?_toArray, List.getElem?_cons_succ, List.getElem?_cons_zero]; rfl)
              case hy6 => ((refine .inl ⟨by rfl, ?_⟩); intro w hS; go_simp; (try with_reducible rfl))
              case hq6 => exact fun _ _ _ h => h
              (try simp only [Act.put, List.setIfInBounds_toArray, List.set_cons_zero, List.set_cons_succ])
              refine wpAnyZ_take (i := 6) (oi := ?o7) (v := ?v7) ?hi7 (by kernel_rfl) (by kernel_rfl) (by kernel_rfl) (by kernel_rfl) ?hq7 ?hy7 (by assumption) ?hr7
              case hi7 => (simp only [List.getElem?_toArray, List.getElem?_cons_succ, List.getElem?_cons_zero]; rfl)
              case hy7 => ((refine .inl ⟨by rfl, ?_⟩); intro w hS; go_simp; (try with_reducible rfl))
              case hq7 => exact fun _ _ _ h => h
              (try simp only [Act.put, List.setIfInBounds_toArray, List.set_cons_zero, List.set_cons_succ])
              refine wpAnyZ_take (i := 7) (oi := ?o8) (v := ?v8) ?hi8 (by kernel_rfl) (by kernel_rfl) (by kernel_rfl) (by kernel_rfl) ?hq8 ?hy8 (by assumption) ?hr8
              case hi8 => (simp only [List.getElem?_toArray, List.getElem?_cons_succ, List.getElem?_cons_zero]; rfl)
              case hy8 => ((refine .inl ⟨by rfl, ?_⟩); intro w hS; go_simp; (try with_reducible rfl))
              case hq8 => exact fun _ _ _ h => h
              (try simp only [Act.put, List.setIfInBounds_toArray, List.set_cons_zero, List.set_cons_succ])
              refine wpAnyZ_one (i := 8) (by kernel_rfl) rfl (by kernel_rfl) (fun K hK => ?_)
              go_simp
              go_wp2_with (((with_reducible refine (C.out _).mono ?_); rintro e w9 ⟨rfl, rfl⟩))
              refine hK.out _ _ (hHeld) (fun hHeld => ?_)
              clear hK K
              (try simp only [Act.put, List.setIfInBounds_toArray, List.set_cons_zero, List.set_cons_succ])
              refine wpAnyZ_take (i := 9) (oi := ?o9) (v := ?v9) ?hi9 (by kernel_rfl) (by kernel_rfl) (by kernel_rfl) (by kernel_rfl) ?hq9 ?hy9 (by assumption) ?hr9
              case hi9 => (simp only [List.getElem?_toArray, List.getElem?_cons_succ, List.getElem?_cons_zero]; rfl)
              case hy9 => ((refine .inl ⟨by rfl, ?_⟩); intro w hS; go_simp; (try with_reducible rfl))
              case hq9 => exact fun _ _ _ h => h
              (try simp only [Act.put, List.setIfInBounds_toArray, List.set_cons_zero, List.set_cons_succ])
              refine wpAnyZ_take (i := 10) (oi := ?o10) (v := ?v10) ?hi10 (by kernel_rfl) (by kernel_rfl) (by kernel_rfl) (by kernel_rfl) ?hq10 ?hy10 (by assumption) ?hr10
              case hi10 => (simp only [List.getElem?_toArray, List.getElem?_cons_succ, List.getElem?_cons_zero]; rfl)
              case hy10 => ((refine .inl ⟨by rfl, ?_⟩); intro w hS; go_simp; (try with_reducible rfl))
              case hq10 => exact fun _ _ _ h => h
              (try simp only [Act.put, List.setIfInBounds_toArray, List.set_cons_zero, List.set_cons_succ])
              refine wpAnyZ_last (by kernel_rfl) rfl (fun K hK => ?_)
              go_simp
              refine hK.out _ _ ?_
              clear hK K
              (try simp only [Act.put])
              refine wpAnyZ_done (by kernel_rfl) ?_ _
              go_wp2_with fail
              go_roundw
              case rel => first | exact ⟨k + 1, by omega, by go_num, by rw [HAK.out]; exact own_nat_set (own_drewN HOW.out 1) _ _, HBE.out.drew.setCell (p := ⟨w.heap.size, i + k, none⟩) (Nat.le_refl _) _⟩ | ((repeat apply Exists.intro); exact ⟨⟨k + 1, by omega, by simp, by rw [HAK.out]; exact own_nat_set (own_drewN HOW.out 1) _ _, HBE.out.drew.setCell (p := ⟨w.heap.size, i + k, none⟩) (Nat.le_refl _) _⟩, rfl⟩)
              case measure => simp [intOf]; omega
            · obtain rfl : k = m := by omega
              have hge : ¬ (k : Int) < (k : Int) := by omega
              go_wp2_with fail
              go_roundw
              case rel => first | exact ⟨i + 1, by omega, by go_num, by rw [HPK.out]; exact hown, hbel⟩ | ((repeat apply Exists.intro); exact ⟨⟨i + 1, by omega, by simp, by rw [HPK.out]; exact hown, hbel⟩, rfl⟩)
              case measure => simp [intOf]; omega
        · obtain rfl : i = n := by omega
          have hge : ¬ (i : Int) < (i : Int) := by omega
          go_wp2_with fail
          go_ret
          exact ⟨hbel, _, N, by rw [HL.out]; rfl, by rw [HL.out]; exact hown⟩
end Go.Proofs.YtlnjphggfbiabaaGreat
