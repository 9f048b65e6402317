/-
  circ.Lost: every offset that it answers lies in a data frame that a scratch touches.
-/
import Derived.Test.YtlnjphggfbiabaaGreatMAppD
import Derived.Deep.CutRange
namespace Go.Proofs.YtlnjphggfbiabaaGreat
open Go.RowKit
set_option linter.unusedVariables false

def encP (p : Nat × Nat) : List Value := [.int .i64 (p.1 : Int), .int .i64 (p.2 : Int)]
theorem encP_length (p : Nat × Nat) : (encP p).length = 2 := rfl
theorem SlAt.pair {w : World} {B : Nat} {l : List (Nat × Nat)} {b off : Nat} (h : SlAt w B (some ⟨b, off, none⟩) (flat encP l)) {k : Nat} {x : Nat × Nat} (hk : l[k]? = some x) :
    w.cell? ⟨b, off + k * 2, none⟩ = some (.int .i64 (x.1 : Int)) ∧ w.cell? ⟨b, off + k * 2 + 1, none⟩ = some (.int .i64 (x.2 : Int)) := by
  have c : ∀ j, j < 2 → ∀ u, (encP x)[j]? = some u → w.cell? ⟨b, off + (k * 2 + j), none⟩ = some u := fun j hj u hu => by
    obtain ⟨b', off', e, _, hc⟩ := h (k * 2 + j) u ((flat_get encP_length l k j x hk hj).trans hu)
    injection e with e
    injection e with e1 e2 _
    subst e1 e2
    exact hc
  refine ⟨c 0 (by omega) _ rfl, ?_⟩
  rw [Nat.add_assoc]
  exact c 1 (by omega) _ rfl
theorem own_bool_len {w : World} {base g n c e : Nat} {l : List Bool} (h : w.ownsRow base e 1 (.slice (some ⟨g, 0, none⟩) n c) n (boolV l)) : l.length = n := by have := h.1; rw [boolV_length] at this; omega
theorem own_bool_set {w : World} {base g n c e : Nat} {l : List Bool} (h : w.ownsRow base e 1 (.slice (some ⟨g, 0, none⟩) n c) n (boolV l)) (k : Nat) (x : Bool) : (w.setCell ⟨g, k, none⟩ (.bool x)).ownsRow base e 1 (.slice (some ⟨g, 0, none⟩) n c) n (boolV (l.set k x)) := by
  rw [← boolV_set]
  exact (h.stored k _).1
theorem own_set_b {W : World} {base e size n g j b m c : Nat} {u : Value} {xs : List Value} (h : W.ownsRow base e size (.slice (some ⟨b, 0, none⟩) m c) n xs) (hne : b ≠ g) : (W.setCell ⟨g, j, none⟩ u).ownsRow base e size (.slice (some ⟨b, 0, none⟩) m c) n xs := by
  refine ⟨h.1, ?_⟩
  rcases h.2 with ⟨h2, _⟩ | ⟨k, cap, cur, hv, hb, hh, r⟩
  · cases h2
  · refine .inr ⟨k, cap, cur, hv, hb, ?_, r⟩
    injection hv with hv
    injection hv with hv
    injection hv with hv
    have h1 : (W.setCell ⟨g, j, none⟩ u).heap[k]? = W.heap[k]? := Below.heap_setCell W _ _ k (by rw [← hv]; exact hne)
    rw [h1]
    exact hh
theorem boolV_falses (n : Nat) : List.replicate n (Value.bool false) = boolV (List.replicate n false) := by simp [boolV]
theorem info_bool : (Tryz.prog.info? 4).map (fun i => (i.zero, i.size, i.bytes)) = some (some (.bool false), 1, 1) := by kernel_rfl
theorem run_mkb {t : TypeId} (ht : Tryz.prog.underlying t = some (.slice 4)) (n : Nat) (hn : n ≤ 16777216) (w : World) : (Instr.makeSlice t (.int .i64 (n : Int)) (.int .i64 (n : Int))).run Tryz.prog w = .ok (.slice (some ⟨w.heap.size, 0, none⟩) n n) (w.alloc (.cells (madeCells #[.bool false] n) 4)) := by
  obtain ⟨i, hi, hz, hs, hb⟩ := info_parts info_bool
  have := run_makeSlice (w := w) t 4 i _ ht hi hz .i64 .i64 (n : Int) (n : Int) (by omega) (by omega) (by rw [hs]; omega) (by rw [hb]; omega) (by omega)
  rw [hs] at this
  simpa [Value.cells] using this
theorem made_bools (w : World) (n : Nat) (hn : n ≤ maxLen) : (w.alloc (.cells (madeCells #[.bool false] n) 4)).ownsRow w.heap.size 4 1 (.slice (some ⟨w.heap.size, 0, none⟩) n n) n (boolV (List.replicate n false)) := by
  have h := World.ownsRow_lit (base := w.heap.size) (e := 4) (size := 1) w (madeCells #[.bool false] n) n (Nat.le_refl _) hn (by simp [madeCells])
  rw [toList_madeCells_one, boolV_falses] at h
  exact h
/-- The two tables of Lost: gone (in a box) and touched. -/
structure LoB (H : Nat) (w0 w : World) (d N : Nat) (G T : List Bool) : Prop where
  own1 : w.ownsRow H 4 1 (.slice (some ⟨H, 0, none⟩) N N) N (boolV G)
  box : RowAt w (H + 1) 65 #[.slice (some ⟨H, 0, none⟩) N N]
  own2 : w.ownsRow (H + 2) 4 1 (.slice (some ⟨H + 2, 0, none⟩) d d) d (boolV T)
  bel : Below H w0 w
section
variable {H : Nat} {w0 w w' : World} {d N : Nat} {G T : List Bool}
theorem LoB.lt (h : LoB H w0 w d N G T) : H + 2 < w.heap.size := (h.own2.lt (H + 2) rfl).2
theorem LoB.below {B : Nat} (h : LoB H w0 w d N G T) (hb : Below B w w') (hB : H + 3 ≤ B) : LoB H w0 w' d N G T :=
  ⟨own_below h.own1 hb (fun k hk => by have : H = k := Option.some.inj hk; omega), h.box.below hb (by omega), own_below h.own2 hb (fun k hk => by have : H + 2 = k := Option.some.inj hk; omega), h.bel.trans (hb.mono (by omega))⟩
theorem LoB.call (h : LoB H w0 w d N G T) (hb : Below w.heap.size w w') : LoB H w0 w' d N G T := h.below hb h.lt
theorem LoB.alloc (h : LoB H w0 w d N G T) (o : Obj) : LoB H w0 (w.alloc o) d N G T := h.call ((Below.refl _ _).alloc (Nat.le_refl _) o)
theorem LoB.setG (h : LoB H w0 w d N G T) (k : Nat) : LoB H w0 (w.setCell ⟨H, k, none⟩ (.bool true)) d N (G.set k true) T :=
  ⟨own_bool_set h.own1 k true, h.box.far (p := ⟨H, k, none⟩) (by show H + 1 ≠ H; omega) _, own_set_b h.own2 (by omega), h.bel.setCell (p := ⟨H, k, none⟩) (Nat.le_refl _) _⟩
theorem LoB.setT (h : LoB H w0 w d N G T) (k : Nat) : LoB H w0 (w.setCell ⟨H + 2, k, none⟩ (.bool true)) d N G (T.set k true) :=
  ⟨own_set_b h.own1 (by omega), h.box.far (p := ⟨H + 2, k, none⟩) (by show H + 1 ≠ H + 2; omega) _, own_bool_set h.own2 k true, h.bel.setCell (p := ⟨H + 2, k, none⟩) (by show H ≤ H + 2; omega) _⟩
theorem LoB.grown {base n : Nat} {v : Value} {xs : List Value} (h : LoB H w0 w d N G T) (ho : w.ownsRow base 3 1 v n xs) (hg : w.grownBy w' v.ownBlock) (hb : H ≤ base) : LoB H w0 w' d N G T :=
  ⟨own_grown h.own1 hg (fun k hk e => own_ne ho h.own1 (by decide) k e.symm hk.symm), h.box.grown hg (fun e => own_row_ne ho h.box (by decide) (H + 1) e.symm rfl), own_grown h.own2 hg (fun k hk e => own_ne ho h.own2 (by decide) k e.symm hk.symm), h.bel.grown hg (by have := h.lt; omega) (fun k hk => Nat.le_trans hb (ho.lt k hk).1)⟩
theorem LoB.lenG (h : LoB H w0 w d N G T) : G.length = N := own_bool_len h.own1
theorem LoB.lenT (h : LoB H w0 w d N G T) : T.length = d := own_bool_len h.own2
end
/-- What is touched is near a scratch. -/
def TouchOk (l : List (Nat × Nat)) (T : List Bool) : Prop := ∀ f : Nat, T[f]? = some true → ∃ p ∈ l, p.1 ≤ f + 108 ∧ f < p.1 + p.2
theorem TouchOk.set {l : List (Nat × Nat)} {T : List Bool} (h : TouchOk l T) {a c f : Nat} (hp : (a, c) ∈ l) (h1 : a ≤ f + 108) (h2 : f < a + c) : TouchOk l (T.set f true) := fun g hg => by
  by_cases e : f = g
  · subst e; exact ⟨_, hp, h1, h2⟩
  · rw [List.getElem?_set_ne e] at hg; exact h g hg
theorem TouchOk.none (l : List (Nat × Nat)) (n : Nat) : TouchOk l (List.replicate n false) := fun f hf => by
  rw [List.getElem?_replicate] at hf
  split at hf <;> simp at hf
end Go.Proofs.YtlnjphggfbiabaaGreat

/-
  circ.Lost: the walk.
-/
namespace Go.Proofs.YtlnjphggfbiabaaGreat
open Go.RowKit
set_option linter.unusedVariables false

theorem LoB.start (w : World) (d N : Nat) (hd : d ≤ 1000000) (hN : N ≤ 1000000) : LoB w.heap.size w (((w.alloc (.cells (madeCells #[.bool false] N) 4)).alloc (.cells #[.slice (some ⟨w.heap.size, 0, none⟩) N N] 65)).alloc (.cells (madeCells #[.bool false] d) 4)) d N (List.replicate N false) (List.replicate d false) := by
  have e1 : (w.alloc (.cells (madeCells #[.bool false] N) 4)).heap.size = w.heap.size + 1 := by simp
  have e2 : ((w.alloc (.cells (madeCells #[.bool false] N) 4)).alloc (.cells #[.slice (some ⟨w.heap.size, 0, none⟩) N N] 65)).heap.size = w.heap.size + 2 := by simp
  have r1 := RowAt.new (w.alloc (.cells (madeCells #[.bool false] N) 4)) 65 #[.slice (some ⟨w.heap.size, 0, none⟩) N N]
  have r2 := made_bools ((w.alloc (.cells (madeCells #[.bool false] N) 4)).alloc (.cells #[.slice (some ⟨w.heap.size, 0, none⟩) N N] 65)) d (by unfold maxLen; omega)
  rw [e1] at r1
  rw [e2] at r2
  exact ⟨((made_bools w N (by unfold maxLen; omega)).alloc _).alloc _, r1.alloc _, r2, (((Below.refl _ _).alloc (Nat.le_refl _) _).alloc (by simp) _).alloc (by simp; omega) _⟩
/-- An offset of a frame that a scratch is near to. -/
def LostOk (d : Nat) (l : List (Nat × Nat)) (k : Nat) : Prop := ∃ f i, k = 24 * f + i ∧ i < 24 ∧ f < d ∧ ∃ p ∈ l, p.1 ≤ f + 108 ∧ f < p.1 + p.2
set_option maxRecDepth 100000 in
set_option maxHeartbeats 8000000 in
theorem lost_any (d : Nat) (A : Option Addr) (c0 : Nat) (l : List (Nat × Nat)) (w : World) (h1 : 1 ≤ d) (h2 : d ≤ 10000) (h : SlAt w w.heap.size A (flat encP l)) (hl : l.length ≤ 1000) (hfit : ∀ p ∈ l, 1 ≤ p.2 ∧ p.1 + p.2 ≤ d + 108) :
    Calls Tryz.prog 7 #[.int .i64 (d : Int), .slice A l.length c0] w fun e w' => Below w.heap.size w w' ∧ ∃ A' c' out, e = .returned (.tuple #[.slice A' (List.length out) c', .int .i64 0]) ∧ w'.ownsRow w.heap.size 3 1 (.slice A' out.length c') out.length (posV out) ∧ ∀ k ∈ out, LostOk d l k := by
  have CF := Lib.hid (frames_any d w h1 (by omega))
  have HS := Lib.hid h
  have HF := Lib.hid hfit
  obtain ⟨n, hn⟩ : ∃ n, l.length = n := ⟨_, rfl⟩
  have HN := Lib.hid hn
  rw [hn] at hl ⊢
  obtain ⟨N, hNd⟩ : ∃ N, d + 108 = N := ⟨_, rfl⟩
  rw [hNd] at CF
  have hN0 : ¬ (N : Int) = 0 := by omega
  have hN0' : ((N : Int) == 0) = false := by simp; omega
  have hmk1 := fun w' => run_mkb Tryz.underlying65 N (by omega) w'
  have hmk2 := fun w' => run_mkb Tryz.underlying65 d (by omega) w'
  clear h hfit hn
  go_enter Tryz.func7, Tryz.ntmps7
  go_wp2_with fail
  refine CF.out.mono ?_
  rintro e w1 ⟨rfl, rfl⟩
  go_wp2_with fail
  go_loopw [28] (fun i wr => ∃ k G T, k ≤ n ∧ i = .int .i64 (Int.ofNat k) ∧ LoB w.heap.size w wr d N G T ∧ Hid (TouchOk l T)) (fun i _ => n - (intOf i).toNat)
  case atStart =>
    exact ⟨0, List.replicate N false, List.replicate d false, by omega, rfl, LoB.start w d N (by omega) (by omega), Lib.hid (TouchOk.none _ _)⟩
  case round =>
    obtain ⟨k, G, T, hk, rfl, hlob, HT⟩ := hrel
    have q0 := hlob.box.cell
    have HLB := Lib.hid hlob
    by_cases hlt : k < n
    · obtain ⟨p, hp⟩ : ∃ p, l[k]? = some p := ⟨l[k]'(by rw [HN.out]; exact hlt), List.getElem?_eq_getElem _⟩
      obtain ⟨b, off, hA, hb⟩ : ∃ b off, A = some ⟨b, off, none⟩ ∧ b < w.heap.size := by
        obtain ⟨b, off, hA, hb, _⟩ := SlAt.one HS.out (by rw [flat_length encP_length, HN.out]; omega)
        exact ⟨b, off, hA, hb⟩
      subst hA
      obtain ⟨q1, q2⟩ := (HS.out.below hlob.bel).pair hp
      have hpm := List.mem_of_getElem? hp
      obtain ⟨hp1, hp2⟩ := HF.out p hpm
      have HPM := Lib.hid hpm
      obtain ⟨a, c⟩ := p
      dsimp only at q1 q2 hp1 hp2 HPM
      have HCF := Lib.hid (fun w' => fits_ok a c N w' hp1 (by omega) (by omega))
      have hltI : (k : Int) < (n : Int) := by omega
      have h0k : (0 : Int) ≤ (k : Int) := by omega
      have h0c : (0 : Int) ≤ (c : Int) := by omega
      clear hlob hp hpm
      go_wp2_with fail
      refine (HCF.out _).mono ?_
      rintro e w2 ⟨rfl, hb2⟩
      have HB2 := Lib.hid ((HLB.out.alloc (.cells #[.int .i64 (a : Int), .int .i64 (c : Int)] 28)).call hb2)
      have hsb := (RowAt.new wr 28 #[.int .i64 (a : Int), .int .i64 (c : Int)]).below hb2 (by simp)
      have qs := hsb.cell
      have HSB := Lib.hid hsb
      have HH3 := Lib.hid HLB.out.lt
      generalize wr.heap.size = sb at *
      clear HLB hsb hb2 HCF
      go_wp2_with fail
      have qx := own_bool_len HB2.out.own1
      have q3 := HB2.out.box.cell
      go_loopw [38] (fun i wx => ∃ (j : Nat) (G' : List Bool), j ≤ c ∧ i = .int .i64 (j : Int) ∧ LoB w.heap.size w wx d N G' T ∧ RowAt wx sb 28 #[.int .i64 (a : Int), .int .i64 (c : Int)]) (fun i _ => c - (intOf i).toNat)
      case atStart => exact ⟨0, G, by omega, rfl, HB2.out, HSB.out⟩
      case round =>
        clear HSB qs q3 qx HB2
        obtain ⟨j, G', hj, rfl, hlb, hsb⟩ := hrel
        have q3 := hlb.box.cell
        have qs := hsb.cell
        by_cases hjc : j < c
        · obtain ⟨bv, hbv⟩ : ∃ bv, G'[a + j]? = some bv := ⟨G'[a + j]'(by rw [hlb.lenG]; omega), List.getElem?_eq_getElem _⟩
          have q4 := own_bool hlb.own1 hbv
          have f4 := hlb.own1.frozenAt (a + j)
          have hjI : (j : Int) < (c : Int) := by omega
          have h0j : (0 : Int) ≤ (j : Int) := by omega
          have h0i : (0 : Int) ≤ (a : Int) + (j : Int) := by omega
          have hiI : (a : Int) + (j : Int) < (N : Int) := by omega
          have eti : ((a : Int) + (j : Int)).toNat = a + j := by omega
          have HX := Lib.hid hlb
          have HY := Lib.hid hsb
          clear hlb hsb hbv
          go_wp2_with fail
          go_roundw
          case rel => exact ⟨j + 1, _, by omega, by go_num, HX.out.setG (a + j), HY.out.far (p := ⟨w.heap.size, a + j, none⟩) (by show sb ≠ w.heap.size; have := HH3.out; omega) _⟩
          case measure => simp [intOf]; omega
        · obtain rfl : j = c := by omega
          have hjI : ¬ (j : Int) < (j : Int) := by omega
          have HX := Lib.hid hlb
          have HY := Lib.hid hsb
          clear hlb hsb
          go_upto_region 16 with fail
          have qs := HY.out.cell
          go_cut [12] from 48 to 51 (fun v wx => ∃ f0 : Nat, v = .int .i64 (f0 : Int) ∧ a ≤ f0 + 108 ∧ wx = wr)
          case first =>
            by_cases ha : a ≤ 108
            · have g1 : ¬ (0 : Int) < (a : Int) - 108 := by omega
              have g2 : ¬ (108 : Int) < (a : Int) := by omega
              go_wp2_with fail
              go_meet
              exact ⟨0, rfl, by omega, rfl⟩
            · have g1 : (0 : Int) < (a : Int) - 108 := by omega
              have g2 : (108 : Int) < (a : Int) := by omega
              go_wp2_with fail
              go_meet
              exact ⟨a - 108, by congr 1; omega, by omega, rfl⟩
          case rest =>
            obtain ⟨f0, rfl, hf0, rfl⟩ := hcut
            go_wp2_with fail
            go_loopw [12] (fun v wx => ∃ (f : Nat) (T' : List Bool), a ≤ f + 108 ∧ v = .int .i64 (f : Int) ∧ LoB w.heap.size w wx d N G' T' ∧ RowAt wx sb 28 #[.int .i64 (a : Int), .int .i64 (j : Int)] ∧ Hid (TouchOk l T')) (fun v _ => d - (intOf v).toNat)
            case atStart => exact ⟨f0, T, hf0, rfl, HX.out, HY.out, HT⟩
            case round =>
              clear HX HY HT qs
              obtain ⟨f, T', hfa, rfl, hlb, hsb, HT2⟩ := hrel
              have qs := hsb.cell
              have h0f : (0 : Int) ≤ (f : Int) := by omega
              have HX2 := Lib.hid hlb
              have HY2 := Lib.hid hsb
              by_cases hfd : f < d ∧ f < a + j
              · obtain ⟨bv, hbv⟩ : ∃ bv, T'[f]? = some bv := ⟨T'[f]'(by rw [hlb.lenT]; omega), List.getElem?_eq_getElem _⟩
                have hfI : (f : Int) < (d : Int) := by omega
                have hfI2 : (f : Int) < (a : Int) + (j : Int) := by omega
                have q4 := own_bool hlb.own2 hbv
                have f4 := hlb.own2.frozenAt f
                clear hlb hsb hbv
                by_cases hs : (a : Int) + (j : Int) < (d : Int)
                · go_wp2_with fail
                  go_roundw
                  case rel => exact ⟨f + 1, _, by omega, by go_num, HX2.out.setT f, HY2.out.far (p := ⟨w.heap.size + 1 + 1, f, none⟩) (by show sb ≠ w.heap.size + 1 + 1; have := HH3.out; omega) _, Lib.hid (HT2.out.set HPM.out (by omega) (by omega))⟩
                  case measure => simp [intOf]; omega
                · go_wp2_with fail
                  go_roundw
                  case rel => exact ⟨f + 1, _, by omega, by go_num, HX2.out.setT f, HY2.out.far (p := ⟨w.heap.size + 1 + 1, f, none⟩) (by show sb ≠ w.heap.size + 1 + 1; have := HH3.out; omega) _, Lib.hid (HT2.out.set HPM.out (by omega) (by omega))⟩
                  case measure => simp [intOf]; omega
              · clear hlb hsb
                by_cases hs : (a : Int) + (j : Int) < (d : Int)
                · have hge : ¬ (f : Int) < (a : Int) + (j : Int) := by omega
                  go_wp2_with fail
                  go_roundw
                  case rel => exact ⟨k + 1, _, _, by omega, by first | go_num | (congr 1; show (k : Int) + 1 = _; omega), HX2.out, HT2⟩
                  case measure => simp [intOf]; omega
                · have hge : ¬ (f : Int) < (d : Int) := by omega
                  go_wp2_with fail
                  go_roundw
                  case rel => exact ⟨k + 1, _, _, by omega, by first | go_num | (congr 1; show (k : Int) + 1 = _; omega), HX2.out, HT2⟩
                  case measure => simp [intOf]; omega
    · obtain rfl : k = n := by omega
      have hge : ¬ (k : Int) < (k : Int) := by omega
      clear q0 hlob
      go_wp2_with fail
      go_loopw [13, 68] (fun v i wx => ∃ (f : Nat) (A' : Option Addr) (c' : Nat) (out : List Nat), f ≤ d ∧ i = .int .i64 (f : Int) ∧ v = .slice A' out.length c' ∧ wx.ownsRow w.heap.size 3 1 (.slice A' out.length c') out.length (posV out) ∧ LoB w.heap.size w wx d N G T ∧ Hid (∀ x ∈ out, LostOk d l x) ∧ out.length ≤ 28 * f) (fun _ i _ => d - (intOf i).toNat)
      case atStart => exact ⟨0, none, 0, [], by omega, rfl, rfl, World.ownsRow_nil _ _ _ _, HLB.out, Lib.hid (fun x hx => (List.not_mem_nil hx).elim), by simp⟩
      case round =>
        clear HLB
        obtain ⟨f, A1, c1, out, hf, rfl, rfl, hown, hlb, HOK, hol⟩ := hrel
        by_cases hfd : f < d
        · obtain ⟨bv, hbv⟩ : ∃ bv, T[f]? = some bv := ⟨T[f]'(by rw [hlb.lenT]; omega), List.getElem?_eq_getElem _⟩
          have hfI : (f : Int) < (d : Int) := by omega
          have h0f : (0 : Int) ≤ (f : Int) := by omega
          have q4 := own_bool hlb.own2 hbv
          have HX := Lib.hid hlb
          have HO := Lib.hid hown
          cases bv with
          | false =>
            clear hlb hown hbv
            go_wp2_with fail
            go_roundw
            case rel => exact ⟨f + 1, A1, c1, out, by omega, by go_num, rfl, HO.out, HX.out, HOK, by omega⟩
            case measure => simp [intOf]; omega
          | true =>
            have HTF := Lib.hid (HT.out f hbv)
            have HCOL := Lib.hid (fun (ho : RowAt (wr.alloc (.cells #[.slice none 0 0] 29)) wr.heap.size 29 #[.slice none 0 0]) => collect_lost f (w.heap.size + 1) wr.heap.size (wr.alloc (.cells #[.slice none 0 0] 29))
              (fun i W => ∃ er A c, List.length er ≤ i ∧ (∀ x ∈ er, x < 28) ∧ Below wr.heap.size wr W ∧ RowAt W wr.heap.size 29 #[.slice A er.length c] ∧ W.ownsRow wr.heap.size 3 1 (.slice A er.length c) er.length (posV er))
              ⟨[], none, 0, Nat.le_refl _, fun x hx => (List.not_mem_nil hx).elim, (Below.refl _ _).alloc (Nat.le_refl _) _, ho, World.ownsRow_nil _ _ _ _⟩ (by omega)
              (fun i W hi hI => by
                obtain ⟨er, A, c, hel, hex, hbW, hrW, hoW⟩ := hI
                have hL := HX.out.below hbW HX.out.lt
                refine (lost1_any i (f + 4 * i) (w.heap.size + 1) wr.heap.size w.heap.size N G er A c wr.heap.size W hL.box (own_base hL.own1 (Nat.zero_le _)) hL.lenG hrW hoW (by omega) (by omega) (by omega) hbW.size (Nat.le_refl _)).mono ?_
                rintro e w' ⟨rfl, hb', A', c', er', her, _, _, hr', ho'⟩
                refine ⟨rfl, er', A', c', ?_, ?_, hbW.trans hb', hr', ho'⟩
                · rcases her with rfl | rfl
                  · omega
                  · rw [List.length_append]; show er.length + 1 ≤ i + 1; omega
                · rcases her with rfl | rfl
                  · exact hex
                  · intro x hx
                    rcases List.mem_append.1 hx with hx | hx
                    · exact hex x hx
                    · rw [List.mem_singleton.1 hx]; exact hi))
            clear hlb hown hbv
            go_wp2_with fail
            refine (HCOL.out (RowAt.new _ _ _)).mono ?_
            rintro e w2 ⟨rfl, er, A, c, hel, hex, hb2, hr2, ho2⟩
            have HL := Lib.hid (HX.out.call hb2)
            have HO1 := Lib.hid (own_all HO.out hb2)
            have HSP : Hid (∀ b, (Value.slice A1 out.length c1).ownBlock = some b → (Value.slice A er.length c).ownBlock ≠ some b) := Lib.hid (fun b hb e => by
              have h1 := (HO.out.lt b hb).2
              have h2 := (ho2.lt b e).1
              omega)
            have HGE := Lib.hid HX.out.lt
            have HHL := Lib.hid hb2.size
            have HEX := Lib.hid hex
            have HR := Lib.hid hr2
            have HE := Lib.hid ho2
            have qe := hr2.cell
            obtain ⟨m, hm⟩ : ∃ m, er.length = m := ⟨_, rfl⟩
            have HM := Lib.hid hm
            rw [hm] at hel HSP HR HE qe
            generalize wr.heap.size = ge at *
            clear HCOL hex hb2 hr2 ho2 q4 HX HO hm
            go_wp2_with fail
            go_loopw [13, 81] (fun v i wx => ∃ (j : Nat) (A2 : Option Addr) (c2 : Nat) (out2 : List Nat), j ≤ m ∧ i = .int .i64 (j : Int) ∧ v = .slice A2 out2.length c2 ∧ wx.ownsRow w.heap.size 3 1 (.slice A2 out2.length c2) out2.length (posV out2) ∧
              Hid (∀ b, (Value.slice A2 out2.length c2).ownBlock = some b → (Value.slice A m c).ownBlock ≠ some b) ∧ LoB w.heap.size w wx d N G T ∧ RowAt wx ge 29 #[.slice A m c] ∧ wx.ownsRow ge 3 1 (.slice A m c) m (posV er) ∧ Hid (∀ x ∈ out2, LostOk d l x) ∧ out2.length ≤ 28 * f + j) (fun _ i _ => m - (intOf i).toNat)
            case atStart => exact ⟨0, A1, c1, out, by omega, rfl, rfl, HO1.out, HSP, HL.out, HR.out, HE.out, HOK, by omega⟩
            case round =>
              clear HO1 HSP HL HR HE qe HOK
              obtain ⟨j, A2, c2, out2, hj, rfl, rfl, ho2, HSEP, hl2, hr2, he2, HK2, hn2⟩ := hrel
              have HO2 := Lib.hid ho2
              have HL2 := Lib.hid hl2
              have HR2 := Lib.hid hr2
              have HE2 := Lib.hid he2
              have qe := hr2.cell
              by_cases hjm : j < m
              · obtain ⟨x, hx⟩ : ∃ x, er[j]? = some x := ⟨er[j]'(by rw [HM.out]; exact hjm), List.getElem?_eq_getElem _⟩
                have hse := SlAt.of_own' he2 (Nat.le_refl _)
                obtain ⟨eb, eo, hAe, heb⟩ := hse.posAddr (by rw [HM.out]; omega)
                subst hAe
                have q5 := hse.pos rfl hx
                have hx28 := HEX.out x (List.mem_of_getElem? hx)
                have hjI : (j : Int) < (m : Int) := by omega
                have h0j : (0 : Int) ≤ (j : Int) := by omega
                clear ho2 hl2 hr2 he2 hse hx
                by_cases hm4 : m > 4
                · have hm4I : (4 : Int) < (m : Int) := by omega
                  by_cases hx24 : x < 24
                  · have hxI : (x : Int) < 24 := by omega
                    have HKN : Hid (∀ y ∈ out2 ++ [24 * f + x], LostOk d l y) := Lib.hid (fun y hy => by
                      rcases List.mem_append.1 hy with hy | hy
                      · exact HK2.out y hy
                      · rw [List.mem_singleton.1 hy]
                        exact ⟨f, x, rfl, hx24, hfd, HTF.out⟩)
                    have e24 : ((24 * f + x : Nat) : Int) = 24 * (f : Int) + (x : Int) := by omega
                    have HE24 := Lib.hid e24
                    clear e24
                    go_wp2_with (at_builtin; refine wpList_app1D HO2.out info_intp Tryz.underlying29 rfl (by unfold maxLen; omega) (by omega) HL2.out.bel.size rfl rfl rfl (by rfl) (by rfl) ?_; intro v5 w6 hown6 hb6 hg6 hwh6; have HL6 := Lib.hid (HL2.out.grown HO2.out hg6 (Nat.le_refl _)); have HR6 := Lib.hid (HR2.out.grown hg6 (fun e' => own_row_ne HO2.out HR2.out (by decide) ge e'.symm rfl)); have HE6 := Lib.hid (own_grown HE2.out hg6 (fun k hk e' => HSEP.out k e'.symm hk)); obtain ⟨A6, c6, hv6⟩ := own_slice hown6; subst hv6; have HO6 := Lib.hid hown6; have HSEP6 : Hid (∀ b, (Value.slice A6 (out2.length + 1) c6).ownBlock = some b → (Value.slice (some ⟨eb, eo, none⟩) m c).ownBlock ≠ some b) := Lib.hid (fun b hb e' => hwh6.elim (fun h6 => HSEP.out b (h6.symm.trans hb) e') (fun h6 => by have h7 := h6 b hb; have h8 := (HE2.out.lt b e').2; omega)); clear hown6 hb6 hg6 hwh6)
                    have hl6 : (out2 ++ [24 * f + x]).length = out2.length + 1 := by rw [List.length_append]; rfl
                    go_roundw
                    case rel =>
                      refine ⟨j + 1, A6, c6, out2 ++ [24 * f + x], by omega, by go_num, by rw [hl6], ?_, by rw [hl6]; exact HSEP6, HL6.out, HR6.out, HE6.out, HKN, by omega⟩
                      have h9 := HO6.out
                      rw [← HE24.out] at h9
                      rw [hl6, ← posV_snoc]
                      exact h9
                    case measure => simp [intOf]; omega
                  · have hxI : ¬ (x : Int) < 24 := by omega
                    go_wp2_with fail
                    go_roundw
                    case rel => exact ⟨j + 1, A2, c2, out2, by omega, by go_num, rfl, HO2.out, HSEP, HL2.out, HR2.out, HE2.out, HK2, by omega⟩
                    case measure => simp [intOf]; omega
                · have hm4I : ¬ (4 : Int) < (m : Int) := by omega
                  go_wp2_with fail
                  go_roundw
                  case rel => exact ⟨j + 1, A2, c2, out2, by omega, by go_num, rfl, HO2.out, HSEP, HL2.out, HR2.out, HE2.out, HK2, by omega⟩
                  case measure => simp [intOf]; omega
              · obtain rfl : j = m := by omega
                have hjI : ¬ (j : Int) < (j : Int) := by omega
                clear ho2 hl2 hr2 he2
                go_wp2_with fail
                go_roundw
                case rel => exact ⟨f + 1, A2, c2, out2, by omega, by go_num, rfl, HO2.out, HL2.out, HK2, by omega⟩
                case measure => simp [intOf]; omega
        · obtain rfl : f = d := by omega
          have hfI : ¬ (f : Int) < (f : Int) := by omega
          have HX := Lib.hid hlb
          have HO := Lib.hid hown
          clear hlb hown
          go_wp2_with fail
          go_ret2
          exact ⟨HX.out.bel, A1, c1, out, rfl, HO.out, HOK.out⟩
end Go.Proofs.YtlnjphggfbiabaaGreat
