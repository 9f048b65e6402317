/-
  sector: chapters 2 and 7, the program alone (gen_sec.py).
-/
import Derived.Test.YtlnjphggfbiabaaGreatSe3
import Derived.Deep.Cut
import Derived.Deep.CutRange
import Derived.Deep.DrawnRows
import Derived.Deep.RegionHeld3
import Derived.Deep.RegionWith
namespace Go.Proofs.YtlnjphggfbiabaaGreat
open Go.RowKit
set_option linter.unusedVariables false
attribute [local go_sem ↓] Go.wp_at_zero Go.wp_at_succ

/-- The byte at a place, as a number. -/
def bI (s : ByteArray) (i : Nat) : Int := ((s.data.toList[i]?.getD 0).toNat : Int)
theorem bI_eq (s : ByteArray) (i : Nat) (h : i < s.size) : ((s[i]).toNat : Int) = bI s i := by
  unfold bI
  rw [bytes_get s i h]
  rfl
theorem bI_bd (s : ByteArray) (i : Nat) : 0 ≤ bI s i ∧ bI s i ≤ 255 := by
  unfold bI
  have := (s.data.toList[i]?.getD 0).toNat_lt
  omega
def decB (s : ByteArray) : Bool := decide (decOk (bI s 12) (bI s 13) (bI s 14))
def frontB (s : ByteArray) : Bool := s.data.toList.take 12 == syncL
def zeroB (s : ByteArray) : Bool := (s.data.toList.take 2076).drop 2068 == List.replicate 8 0
def twinB (s : ByteArray) : Bool := (s.data.toList.take 20).drop 16 == (s.data.toList.take 24).drop 20
def lbaS (s : ByteArray) : Int := (60 * unV (bI s 12) + unV (bI s 13)) * 75 + unV (bI s 14) - 150
def goodB (s : ByteArray) (m : Int) : Bool := decB s && (frontB s && if m = 0 then zeroB s else (twinB s && decide (bI s 17 ≤ 31)))
def secOf (s : ByteArray) (m : Int) : Sec :=
  if m = 0 then ⟨lbaS s, m, 0, 0, 0, 0, s.extract 16 2064⟩ else ⟨lbaS s, m, bI s 16, bI s 17, bI s 18, bI s 19, s.extract 24 (24 + lCap m).toNat⟩
def noSec (e : Int) : Value := .tuple #[.agg #[.int .i64 0, .int .i64 0, .int .i64 0, .int .i64 0, .int .i64 0, .int .i64 0, .string ⟨#[]⟩], .int .i64 e]
def parseV (s : ByteArray) : Value :=
  if (kindR s).2 ≠ 0 then noSec (kindR s).2 else
  if goodB s (kindR s).1 = true then (if chkB s = true then .tuple #[secV7 (secOf s (kindR s).1), .int .i64 0] else noSec 9) else noSec 10

theorem front_eq (s : ByteArray) : ((s.extract 0 12).toList == (⟨syncL.toArray⟩ : ByteArray).toList) = frontB s := by
  rw [Lib.toList_data, Lib.toList_data, sub_extract]
  rfl
theorem zero_eq (s : ByteArray) : ((s.extract 2068 2076).toList == (⟨(List.replicate 8 (0 : UInt8)).toArray⟩ : ByteArray).toList) = zeroB s := by
  rw [Lib.toList_data, Lib.toList_data, sub_extract]
  rfl
theorem twin_eq (s : ByteArray) : ((s.extract 16 20).toList == (s.extract 20 24).toList) = twinB s := by
  rw [Lib.toList_data, Lib.toList_data, sub_extract, sub_extract]
  rfl

set_option maxRecDepth 100000 in
theorem parse_kind (s : ByteArray) (w : World) (hs : s.size ≤ 140737488351232) (hk : (kindR s).2 ≠ 0) :
    Calls Tryz.prog 19 #[.string s] w fun e w' => e = .returned (parseV s) ∧ Below w.heap.size w w' := by
  have C0 := Lib.hid (fun w => kind_any s w hs)
  have HR := Lib.hid (show parseV s = noSec (kindR s).2 from if_pos hk)
  have h0 : ((kindR s).2 != 0) = true := by simpa using hk
  generalize kindR s = k at *
  obtain ⟨k1, k2⟩ := k
  dsimp only at *
  clear hk
  go_enter Tryz.func19, Tryz.ntmps19
  go_wp2_with fail
  refine (C0.out _).mono ?_
  rintro e w1 ⟨rfl, rfl⟩
  go_wp2_with fail
  refine bodyPost_ret (v := noSec k2) (by simp [noSec, results, Tryz.results19, go_sem]) rfl ⟨by rw [HR.out], ?_⟩
  exact (Below.refl _ _).alloc (Nat.le_refl _) _
theorem dec_form (s : ByteArray) : ∃ x0 x1 x2 er : Int, decR (bI s 12) (bI s 13) (bI s 14) = .tuple #[.agg #[.int .i64 x0, .int .i64 x1, .int .i64 x2], .int .i64 er] ∧
    ((er = 0 ∧ decB s = true ∧ msfOk x0 x1 x2 = true ∧ lbaS s = (60 * x0 + x1) * 75 + x2 - 150) ∨ (er = 10 ∧ decB s = false)) := by
  by_cases h : decOk (bI s 12) (bI s 13) (bI s 14)
  · exact ⟨_, _, _, 0, decR_ok h, .inl ⟨rfl, decide_eq_true h, h.2.2.2, rfl⟩⟩
  · exact ⟨_, _, _, 10, decR_no h, .inr ⟨rfl, decide_eq_false h⟩⟩
theorem dec_calls (s : ByteArray) (hs : s.size = 2352) (w : World) : Calls Tryz.prog 51 #[.string s, .int .i64 12] w fun e w' => e = .returned (decR (bI s 12) (bI s 13) (bI s 14)) ∧ Below w.heap.size w w' :=
  decode_any7 s 12 w (by omega) (by omega) _ _ _ (bI_eq s 12 (by omega)) (bI_eq s 13 (by omega)) (bI_eq s 14 (by omega))

def syncV : Array Value := #[.int .u8 0, .int .u8 255, .int .u8 255, .int .u8 255, .int .u8 255, .int .u8 255, .int .u8 255, .int .u8 255, .int .u8 255, .int .u8 255, .int .u8 255, .int .u8 0]
def syncS : ByteArray := ⟨syncL.toArray⟩
def zeroS : ByteArray := ⟨(List.replicate 8 (0 : UInt8)).toArray⟩
theorem front_str {w0 w : World} {rows : Rows} (h : St w0 w rows) {i g : Nat} (hi : rows[i]? = some (g, 103, syncV)) : (convert 75 9 (.slice (some ⟨g, 0, none⟩) 12 12)).run Tryz.prog w = .ok (.string syncS) w :=
  own_lit w syncL syncV 12 rfl rfl (by unfold maxLen; omega) _ g (h.at hi)
def zeroV8 : Array Value := #[.int .u8 0, .int .u8 0, .int .u8 0, .int .u8 0, .int .u8 0, .int .u8 0, .int .u8 0, .int .u8 0]
theorem make8 (w : World) : (Instr.makeSlice 75 (.int .i64 8) (.int .i64 8)).run Tryz.prog w = .ok (.slice (some ⟨w.heap.size, 0, none⟩) 8 8) (w.alloc (.cells zeroV8 5)) := by kernel_rfl
theorem zero_at {w : World} {g : Nat} {t : TypeId} (h : RowAt w g t zeroV8) : (convert 75 9 (.slice (some ⟨g, 0, none⟩) 8 8)).run Tryz.prog w = .ok (.string zeroS) w :=
  own_lit w (List.replicate 8 0) zeroV8 8 rfl rfl (by unfold maxLen; omega) _ g h

theorem four {w0 w : World} {rest : Rows} {g : Nat} {t : TypeId} {a b c d : Value} (h : St w0 w ((g, t, #[a, b, c, d]) :: rest)) : w.cell? ⟨g, 0, none⟩ = some a ∧ w.cell? ⟨g, 1, none⟩ = some b ∧ w.cell? ⟨g, 2, none⟩ = some c ∧ w.cell? ⟨g, 3, none⟩ = some d :=
  ⟨(h.at (i := 0) rfl).cell 0, (h.at (i := 0) rfl).cell 1, (h.at (i := 0) rfl).cell 2, (h.at (i := 0) rfl).cell 3⟩

theorem four3 {w0 w : World} {r0 r1 r2 : Nat × TypeId × Array Value} {rest : Rows} {g : Nat} {t : TypeId} {a b c d : Value} (h : St w0 w (r0 :: r1 :: r2 :: (g, t, #[a, b, c, d]) :: rest)) : w.cell? ⟨g, 0, none⟩ = some a ∧ w.cell? ⟨g, 1, none⟩ = some b ∧ w.cell? ⟨g, 2, none⟩ = some c ∧ w.cell? ⟨g, 3, none⟩ = some d :=
  ⟨(h.at (i := 3) rfl).cell 0, (h.at (i := 3) rfl).cell 1, (h.at (i := 3) rfl).cell 2, (h.at (i := 3) rfl).cell 3⟩

set_option maxRecDepth 100000 in
set_option maxHeartbeats 1000000 in
theorem parse_one (s : ByteArray) (w : World) (hs : s.size = 2352) (hk : kindR s = (0, 0)) :
    Calls Tryz.prog 19 #[.string s] w fun e w' => e = .returned (parseV s) ∧ Below w.heap.size w w' := by
  have C0 : Hid (∀ w, Calls Tryz.prog 48 #[.string s] w fun e w' => e = .returned (.tuple #[.int .i64 0, .int .i64 0]) ∧ w = w') := by
    have := fun w => kind_any s w (by omega)
    rwa [hk] at this
  have C1 : Hid (∀ w, Calls Tryz.prog 49 #[.int .i64 0] w fun e w' => e = .returned (.tuple #[.agg #[.int .u8 1, .int .i64 16, .int .i64 2048, .int .i64 0], .bool true]) ∧ Below w.heap.size w w') := fun w => layouts_ok 0 w rfl
  have C2 : Hid (∀ w, Calls Tryz.prog 50 #[.agg #[.int .u8 1, .int .i64 16, .int .i64 2048, .int .i64 0]] w fun e w' => e = .returned (.int .i64 2064) ∧ Below w.heap.size w w') := fun w => ledc_any 0 w
  have C3 := Lib.hid (fun w => dec_calls s hs w)
  have C4 : Hid (∀ w, Calls Tryz.prog 52 #[] w fun e w' => e = .returned (.agg syncV) ∧ Below w.heap.size w w') := fun w => sync_any w
  have C5 := Lib.hid (fun w => check_any s w (by omega))
  obtain ⟨x0, x1, x2, er, hdr, hcase⟩ := dec_form s
  rw [hdr] at C3
  have HF : Hid (((s.extract 0 12).toList == syncS.toList) = frontB s) := front_eq s
  have HZ : Hid (((s.extract 2068 2076).toList == zeroS.toList) = zeroB s) := zero_eq s
  have HR : Hid (parseV s = if goodB s 0 = true then (if chkB s = true then .tuple #[secV7 (secOf s 0), .int .i64 0] else noSec 9) else noSec 10) := by
    show parseV s = _
    unfold parseV
    rw [hk]
    rfl
  have HG : Hid (goodB s 0 = (decB s && (frontB s && zeroB s))) := rfl
  have HX : Hid (secOf s 0 = ⟨lbaS s, 0, 0, 0, 0, 0, s.extract 16 2064⟩) := rfl
  generalize parseV s = R at *
  generalize goodB s 0 = G at *
  generalize secOf s 0 = X at *
  generalize chkB s = K at *
  generalize decB s = dB at *
  generalize frontB s = qB at *
  generalize zeroB s = zB at *
  have e1 : ¬ (s.size : Int) < 2064 := by omega
  have e2 : ¬ (s.size : Int) < 2076 := by omega
  have e3 : ¬ (s.size : Int) < 12 := by omega
  have e4 : (2064 : Int) ≤ (s.size : Int) := by omega
  have e5 : (2076 : Int) ≤ (s.size : Int) := by omega
  have e6 : (12 : Int) ≤ (s.size : Int) := by omega
  clear hdr hk hs
  go_enter Tryz.func19, Tryz.ntmps19
  go_wp2_with fail
  refine (C0.out _).mono ?_
  rintro e w1 ⟨rfl, rfl⟩
  go_wp2_with fail
  refine (C1.out _).mono ?_
  rintro e w2 ⟨rfl, hb2⟩
  have h2 := St.call hb2 ((St.start w).alloc _ _)
  clear hb2
  have q2 := (h2.at (i := 0) rfl).cell
  go_wp2_with fail
  have h3 := h2.alloc #[.int .u8 1, .int .i64 16, .int .i64 2048, .int .i64 0] 95
  have h3a := h3.drew
  have h3b := (h3.new (World.size_alloc _ _) #[.int .i64 0, .int .i64 0, .int .i64 0, .int .i64 0, .int .i64 0, .int .i64 0, .string ⟨#[]⟩] 56).drew
  go_cut [8] from 27 to 34 (fun x wx => ∃ g, x = .pointer (some ⟨g, 0, none⟩) ∧ St w wx [(g, 56, #[.int .i64 0, .int .i64 0, .int .i64 0, .int .i64 0, .int .i64 0, .int .i64 0, .string (s.extract 16 2064)]), (w2.heap.size, 95, #[.int .u8 1, .int .i64 16, .int .i64 2048, .int .i64 0]), (w.heap.size, 56, #[.int .i64 0, .int .i64 0, .int .i64 0, .int .i64 0, .int .i64 0, .int .i64 0, .string ⟨#[]⟩])])
  case first =>
    go_region_held3 (fun w' => St w w' [(w2.heap.size, 95, #[.int .u8 1, .int .i64 16, .int .i64 2048, .int .i64 0]), (w.heap.size, 56, #[.int .i64 0, .int .i64 0, .int .i64 0, .int .i64 0, .int .i64 0, .int .i64 0, .string ⟨#[]⟩])] ∧ w'.cell? ⟨w2.heap.size, 0, none⟩ = some (.int .u8 1) ∧ w'.cell? ⟨w2.heap.size, 1, none⟩ = some (.int .i64 16) ∧ w'.cell? ⟨w2.heap.size, 2, none⟩ = some (.int .i64 2048) ∧ w'.cell? ⟨w2.heap.size, 3, none⟩ = some (.int .i64 0))
      (first | with_reducible exact St.keep1 (fun _ h => four h) h3a | with_reducible exact St.keep1 (fun _ h => four h) (h3.other _).drew | with_reducible exact St.keepO (fun _ h => four h) (by assumption) | with_reducible exact St.keep (fun _ h => four h) (by assumption) (by assumption) | with_reducible exact St.keep1 (fun _ h => four h) (z.other _) | with_reducible exact St.keep1 (fun _ h => four h) (St.set7 z _ _ _ _ _ _ _).drop1)
      ((go_at_call 50; refine (C2.out _).mono ?_; rintro e w5 ⟨rfl, hb5⟩; first | (with_reducible have z := St.call hb5 h3b; have z1 := (z.at (i := 0) rfl).cell; have z2 := (z.at (i := 0) rfl).frozen) | with_reducible have z := St.call hb5 h3a))
    all_goals
      go_wp2_with fail
      go_meet
      first | with_reducible exact ⟨_, rfl, z.new rfl _ _⟩ | exact ⟨_, rfl, St.set7 z _ _ _ _ _ _ _⟩
  case rest =>
    obtain ⟨g, rfl, h5⟩ := hcut
    clear h3 h3a h3b h2
    go_wp2_with fail
    refine (C3.out _).mono ?_
    rintro e w6 ⟨rfl, hb6⟩
    have h6 := St.call hb6 h5
    clear h5 hb6
    go_wp2_with fail
    refine (C4.out _).mono ?_
    rintro e w7 ⟨rfl, hb7⟩
    have h7 := St.call hb7 (h6.alloc _ _)
    clear h6 hb7
    rw [syncV]
    go_upto_region 8 with fail
    have h8 := h7.alloc syncV 103
    rw [show w7.alloc (.cells syncV 103) = w7.alloc (.cells #[.int .u8 0, .int .u8 255, .int .u8 255, .int .u8 255, .int .u8 255, .int .u8 255, .int .u8 255, .int .u8 255, .int .u8 255, .int .u8 255, .int .u8 255, .int .u8 0] 103) from rfl] at h8
    generalize w7.alloc (.cells #[.int .u8 0, .int .u8 255, .int .u8 255, .int .u8 255, .int .u8 255, .int .u8 255, .int .u8 255, .int .u8 255, .int .u8 255, .int .u8 255, .int .u8 255, .int .u8 0] 103) = W8 at h8 ⊢
    clear h7
    go_cut [11] from 41 to 49 (fun x wx => x = .bool (dB && qB) ∧ St w wx [(w7.heap.size, 103, syncV), (w6.heap.size, 100, #[.int .i64 x0, .int .i64 x1, .int .i64 x2]), (g, 56, #[.int .i64 0, .int .i64 0, .int .i64 0, .int .i64 0, .int .i64 0, .int .i64 0, .string (s.extract 16 2064)]), (w2.heap.size, 95, #[.int .u8 1, .int .i64 16, .int .i64 2048, .int .i64 0]), (w.heap.size, 56, #[.int .i64 0, .int .i64 0, .int .i64 0, .int .i64 0, .int .i64 0, .int .i64 0, .string ⟨#[]⟩])])
    case first =>
      have hcv := fun k => front_str (h8.drewN k) (i := 0) rfl
      have hcv0 := front_str h8 (i := 0) rfl
      have hq := HF.out
      rcases hcase with ⟨rfl, hd, hm, hL⟩ | ⟨rfl, hd⟩
      · subst hd
        go_quiet (fail)
        go_wp2_with fail
        go_meet
        exact ⟨rfl, h8.drewN _⟩
      · subst hd
        go_quiet (fail)
        go_wp2_with fail
        go_meet
        exact ⟨rfl, h8.drewN _⟩
    case rest =>
      obtain ⟨rfl, h9⟩ := hcut
      clear h8
      generalize hbq : (dB && qB) = b1 at *
      have HBQ := Lib.hid hbq
      clear hbq
      cases b1 with
      | false =>
        have q9 := (h9.at (i := 4) rfl).cell
        have f9 := (h9.at (i := 4) rfl).frozen
        go_upto_region 10 with fail
        go_quiet (fail)
        go_wp2_with fail
        refine bodyPost_ret (v := noSec 10) (by simp [noSec, results, Tryz.results19, go_sem, q9]) rfl ⟨?_, ?_⟩
        · rw [HR.out, HG.out, ← Bool.and_assoc, HBQ.out, Bool.false_and, if_neg (by simp)]
        · first | with_reducible exact below_drewN (h9.bel7 (i := 4) rfl _ _ _ _ _ _ _) _ | with_reducible exact (h9.drewN _).bel7 (i := 4) rfl _ _ _ _ _ _ _
      | true =>
        go_upto_region 10 with fail
        generalize wc = W9 at *
        have hmk := make8
        have hcz := fun w' : World => zero_at (RowAt.new w' 5 zeroV8)
        have hczd := fun w' : World => zero_at (w := (w'.alloc (.cells zeroV8 5)).drew) (RowAt.new w' 5 zeroV8)
        have h9a := h9.drew
        have h9b := (h9.alloc zeroV8 5).drew
        have hq := HZ.out
        go_cut [11] from 52 to 62 (fun x wx => x = .bool zB ∧ St w wx [(w7.heap.size, 103, syncV), (w6.heap.size, 100, #[.int .i64 x0, .int .i64 x1, .int .i64 x2]), (g, 56, #[.int .i64 0, .int .i64 0, .int .i64 0, .int .i64 0, .int .i64 0, .int .i64 0, .string (s.extract 16 2064)]), (w2.heap.size, 95, #[.int .u8 1, .int .i64 16, .int .i64 2048, .int .i64 0]), (w.heap.size, 56, #[.int .i64 0, .int .i64 0, .int .i64 0, .int .i64 0, .int .i64 0, .int .i64 0, .string ⟨#[]⟩])])
        case first =>
          obtain ⟨l0, l1, l2, l3⟩ := four3 h9
          have hlt := h9.lt (i := 3) rfl
          go_region_with ((go_at_call 50; refine (C2.out _).mono ?_; rintro e w5 ⟨rfl, hb5⟩; first | (with_reducible have y := St.call hb5 h9b; have y1 := zero_at (y.at (i := 0) rfl); have z := y.drop1) | with_reducible have z := St.call hb5 h9a))
          all_goals
            go_wp2_with fail
            go_meet
            first | with_reducible exact ⟨rfl, z⟩ | with_reducible exact ⟨rfl, z.other _⟩
        case rest =>
          obtain ⟨rfl, h10⟩ := hcut
          clear hmk hcz hczd h9a h9b h9 hq HF HZ
          have q10 := (h10.at (i := 4) rfl).cell
          have f10 := (h10.at (i := 4) rfl).frozen
          cases zB with
          | false =>
            go_wp2_with fail
            refine bodyPost_ret (v := noSec 10) (by simp [noSec, results, Tryz.results19, go_sem, q10]) rfl ⟨?_, ?_⟩
            · rw [HR.out, HG.out, ← Bool.and_assoc, HBQ.out, Bool.and_false, if_neg (by simp)]
            · with_reducible exact h10.bel7 (i := 4) rfl _ _ _ _ _ _ _
          | true =>
            go_upto_region 16 with fail
            have HGT : Hid (G = true) := by rw [HG.out, ← Bool.and_assoc, HBQ.out]; rfl
            go_wp2_with fail
            refine (C5.out _).mono ?_
            rintro e w11 ⟨rfl, hb11⟩
            have h11 := St.call hb11 h10
            clear h10 hb11 q10 f10
            have q11 := (h11.at (i := 4) rfl).cell
            have f11 := (h11.at (i := 4) rfl).frozen
            cases K with
            | false =>
              go_wp2_with fail
              refine bodyPost_ret (v := noSec 9) (by simp [noSec, results, Tryz.results19, go_sem, q11]) rfl ⟨?_, ?_⟩
              · rw [HR.out, HGT.out, if_pos rfl, if_neg (by simp)]
              · with_reducible exact h11.bel7 (i := 4) rfl _ _ _ _ _ _ _
            | true =>
              rcases hcase with ⟨rfl, hd, hm, hL⟩ | ⟨rfl, hd⟩
              · have C6 := Lib.hid (fun w => tolba_any x0 x1 x2 w hm)
                rw [msfV] at C6
                have HL := Lib.hid hL
                have hmr := msfOk_iff.1 hm
                obtain ⟨m0, m1, s0, s1, f0, f1⟩ := hmr
                have qm := (h11.at (i := 1) rfl).cell
                have qx := (h11.at (i := 2) rfl).cell
                have fx := (h11.at (i := 2) rfl).frozen
                clear hm hL
                go_wp2_with fail
                refine (C6.out _).mono ?_
                rintro e w12 ⟨rfl, hb12⟩
                have h12 := St.call hb12 h11
                clear hb12 q11 f11 qm qx fx h11
                have q12 := (h12.at (i := 4) rfl).cell
                have f12 := (h12.at (i := 4) rfl).frozen
                have qx := (h12.at (i := 2) rfl).cell
                have fx := (h12.at (i := 2) rfl).frozen
                have hne1 := h12.ne (i := 2) (j := 4) rfl rfl (by decide)
                have hne2 := hne1.symm
                generalize (60 * x0 + x1) * 75 + x2 - 150 = LBA at *
                go_wp2_with fail
                refine bodyPost_ret (v := .tuple #[.agg #[.int .i64 LBA, .int .i64 0, .int .i64 0, .int .i64 0, .int .i64 0, .int .i64 0, .string (s.extract 16 2064)], .int .i64 0]) (by simp [results, Tryz.results19, go_sem, q12]) rfl ⟨?_, ?_⟩
                · rw [HR.out, HGT.out, if_pos rfl, if_pos trivial, HX.out, HL.out]; rfl
                · with_reducible exact (h12.set 2 rfl 0 _).bel7 (i := 4) rfl _ _ _ _ _ _ _
              · rw [hd] at HBQ
                exact absurd HBQ.out (by simp)
set_option maxRecDepth 100000 in
set_option maxHeartbeats 1000000 in
theorem parse_two (s : ByteArray) (m n2 : Int) (E : Nat) (w : World) (hs : s.size = 2352) (hk : kindR s = (m, 0)) (hm : modeOk m = true) (hm0 : m ≠ 0) (hn2 : lCap m = n2) (hE : (E : Int) = 24 + n2) (hE1 : E ≤ 2348) (hE0 : 24 ≤ E) :
    Calls Tryz.prog 19 #[.string s] w fun e w' => e = .returned (parseV s) ∧ Below w.heap.size w w' := by
  have C0 : Hid (∀ w, Calls Tryz.prog 48 #[.string s] w fun e w' => e = .returned (.tuple #[.int .i64 m, .int .i64 0]) ∧ w = w') := by
    have := fun w => kind_any s w (by omega)
    rwa [hk] at this
  have hlay : layV m = .agg #[.int .u8 2, .int .i64 24, .int .i64 n2, .int .i64 16] := by unfold layV lByte lData lCov; rw [if_neg hm0, if_neg hm0, if_neg hm0, hn2]
  have C1 : Hid (∀ w, Calls Tryz.prog 49 #[.int .i64 m] w fun e w' => e = .returned (.tuple #[.agg #[.int .u8 2, .int .i64 24, .int .i64 n2, .int .i64 16], .bool true]) ∧ Below w.heap.size w w') := by
    have := fun w => layouts_ok m w hm
    rwa [hlay] at this
  have C2 : Hid (∀ w, Calls Tryz.prog 50 #[.agg #[.int .u8 2, .int .i64 24, .int .i64 n2, .int .i64 16]] w fun e w' => e = .returned (.int .i64 (E : Int)) ∧ Below w.heap.size w w') := by
    have := fun w => ledc_any m w
    rwa [hlay, show lData m + lCap m = (E : Int) by rw [hn2, hE]; unfold lData; rw [if_neg hm0]] at this
  have C3 := Lib.hid (fun w => dec_calls s hs w)
  have C4 : Hid (∀ w, Calls Tryz.prog 52 #[] w fun e w' => e = .returned (.agg syncV) ∧ Below w.heap.size w w') := fun w => sync_any w
  have C5 := Lib.hid (fun w => check_any s w (by omega))
  obtain ⟨x0, x1, x2, er, hdr, hcase⟩ := dec_form s
  rw [hdr] at C3
  have HF : Hid (((s.extract 0 12).toList == syncS.toList) = frontB s) := front_eq s
  have HT : Hid (((s.extract 16 20).toList == (s.extract 20 24).toList) = twinB s) := twin_eq s
  have HR : Hid (parseV s = if goodB s m = true then (if chkB s = true then .tuple #[secV7 (secOf s m), .int .i64 0] else noSec 9) else noSec 10) := by
    show parseV s = _
    unfold parseV
    rw [hk]
    rfl
  have HG : Hid (goodB s m = (decB s && (frontB s && (twinB s && decide (bI s 17 ≤ 31))))) := by
    show goodB s m = _
    unfold goodB
    rw [if_neg hm0]
  have HX : Hid (secOf s m = ⟨lbaS s, m, bI s 16, bI s 17, bI s 18, bI s 19, s.extract 24 E⟩) := by
    show secOf s m = _
    unfold secOf
    rw [if_neg hm0, hn2, ← hE]
    rfl
  obtain ⟨SB, hSB⟩ : ∃ SB, SB = s.extract 16 20 := ⟨_, rfl⟩
  have hz : SB.size = 4 := by rw [hSB]; simp; omega
  have hby : ∀ i (h : i < 4), (SB[i]'(by omega)).toNat = bI s (16 + i) := by
    intro i h
    have h1 : SB.data.toList[i]? = s.data.toList[16 + i]? := by
      rw [hSB, sub_extract, List.getElem?_drop, List.getElem?_take_of_lt (by omega)]
    rw [bytes_get SB i (by omega), bytes_get s (16 + i) (by omega)] at h1
    rw [Option.some.inj h1]
    exact bI_eq s (16 + i) (by omega)
  have l0 : 0 < SB.size := by omega
  have l1 : 1 < SB.size := by omega
  have l2 : 2 < SB.size := by omega
  have l3 : 3 < SB.size := by omega
  have i1 : (1 : Int) < (SB.size : Int) := by omega
  have i2 : (2 : Int) < (SB.size : Int) := by omega
  have i3 : (3 : Int) < (SB.size : Int) := by omega
  have g0 : ((SB[0]'l0).toNat : Int) = bI s 16 := hby 0 (by omega)
  have g1 : ((SB[1]'l1).toNat : Int) = bI s 17 := hby 1 (by omega)
  have g2 : ((SB[2]'l2).toNat : Int) = bI s 18 := hby 2 (by omega)
  have g3 : ((SB[3]'l3).toNat : Int) = bI s 19 := hby 3 (by omega)
  have r0 := bI_bd s 16
  have r1 := bI_bd s 17
  have r2 := bI_bd s 18
  have r3 := bI_bd s 19
  rw [← hSB] at HT
  have hSB' := hSB.symm
  have t0 : (m == 0) = false := by rw [beq_eq_false_iff_ne]; exact hm0
  generalize bI s 16 = y0 at *
  generalize bI s 17 = y1 at *
  generalize bI s 18 = y2 at *
  generalize bI s 19 = y3 at *
  generalize parseV s = R at *
  generalize goodB s m = G at *
  generalize secOf s m = X at *
  generalize chkB s = K at *
  generalize decB s = dB at *
  generalize frontB s = qB at *
  generalize twinB s = tB at *
  have e1 : ¬ (s.size : Int) < (E : Int) := by omega
  have e2 : (24 : Int) ≤ (E : Int) := by omega
  have e3 : (E : Int) ≤ (s.size : Int) := by omega
  have e4 : (24 : Int) ≤ (s.size : Int) := by omega
  have e5 : (20 : Int) ≤ (s.size : Int) := by omega
  have e6 : (12 : Int) ≤ (s.size : Int) := by omega
  obtain ⟨r0, r0'⟩ := r0
  obtain ⟨r1, r1'⟩ := r1
  obtain ⟨r2, r2'⟩ := r2
  obtain ⟨r3, r3'⟩ := r3
  clear hdr hk hs hby hz hSB hlay hm0 hn2 hE hE1 hE0 hm
  go_enter Tryz.func19, Tryz.ntmps19
  go_wp2_with fail
  refine (C0.out _).mono ?_
  rintro e w1 ⟨rfl, rfl⟩
  go_wp2_with fail
  refine (C1.out _).mono ?_
  rintro e w2 ⟨rfl, hb2⟩
  have h2 := St.call hb2 ((St.start w).alloc _ _)
  clear hb2
  have q2 := (h2.at (i := 0) rfl).cell
  go_wp2_with fail
  have h3 := h2.alloc #[.int .u8 2, .int .i64 24, .int .i64 n2, .int .i64 16] 95
  have h3a := h3.drew
  have h3b := (h3.new (World.size_alloc _ _) #[.int .i64 0, .int .i64 0, .int .i64 0, .int .i64 0, .int .i64 0, .int .i64 0, .string ⟨#[]⟩] 56).drew
  go_cut [8] from 27 to 34 (fun x wx => ∃ g, x = .pointer (some ⟨g, 0, none⟩) ∧ St w wx [(g, 56, #[.int .i64 0, .int .i64 m, .int .i64 0, .int .i64 0, .int .i64 0, .int .i64 0, .string (s.extract 24 E)]), (w2.heap.size, 95, #[.int .u8 2, .int .i64 24, .int .i64 n2, .int .i64 16]), (w.heap.size, 56, #[.int .i64 0, .int .i64 0, .int .i64 0, .int .i64 0, .int .i64 0, .int .i64 0, .string ⟨#[]⟩])])
  case first =>
    go_region_held3 (fun w' => St w w' [(w2.heap.size, 95, #[.int .u8 2, .int .i64 24, .int .i64 n2, .int .i64 16]), (w.heap.size, 56, #[.int .i64 0, .int .i64 0, .int .i64 0, .int .i64 0, .int .i64 0, .int .i64 0, .string ⟨#[]⟩])] ∧ w'.cell? ⟨w2.heap.size, 0, none⟩ = some (.int .u8 2) ∧ w'.cell? ⟨w2.heap.size, 1, none⟩ = some (.int .i64 24) ∧ w'.cell? ⟨w2.heap.size, 2, none⟩ = some (.int .i64 n2) ∧ w'.cell? ⟨w2.heap.size, 3, none⟩ = some (.int .i64 16))
      (first | with_reducible exact St.keep1 (fun _ h => four h) h3a | with_reducible exact St.keep1 (fun _ h => four h) (h3.other _).drew | with_reducible exact St.keepO (fun _ h => four h) (by assumption) | with_reducible exact St.keep (fun _ h => four h) (by assumption) (by assumption) | with_reducible exact St.keep1 (fun _ h => four h) (z.other _) | with_reducible exact St.keep1 (fun _ h => four h) (St.set7 z _ _ _ _ _ _ _).drop1)
      ((go_at_call 50; refine (C2.out _).mono ?_; rintro e w5 ⟨rfl, hb5⟩; first | (with_reducible have z := St.call hb5 h3b; have z1 := (z.at (i := 0) rfl).cell; have z2 := (z.at (i := 0) rfl).frozen) | with_reducible have z := St.call hb5 h3a))
    all_goals
      go_wp2_with fail
      go_meet
      first | with_reducible exact ⟨_, rfl, z.new rfl _ _⟩ | exact ⟨_, rfl, St.set7 z _ _ _ _ _ _ _⟩
  case rest =>
    obtain ⟨g, rfl, h5⟩ := hcut
    clear h3 h3a h3b h2
    go_wp2_with fail
    refine (C3.out _).mono ?_
    rintro e w6 ⟨rfl, hb6⟩
    have h6 := St.call hb6 h5
    clear h5 hb6
    go_wp2_with fail
    refine (C4.out _).mono ?_
    rintro e w7 ⟨rfl, hb7⟩
    have h7 := St.call hb7 (h6.alloc _ _)
    clear h6 hb7
    rw [syncV]
    go_upto_region 8 with fail
    have h8 := h7.alloc syncV 103
    rw [show w7.alloc (.cells syncV 103) = w7.alloc (.cells #[.int .u8 0, .int .u8 255, .int .u8 255, .int .u8 255, .int .u8 255, .int .u8 255, .int .u8 255, .int .u8 255, .int .u8 255, .int .u8 255, .int .u8 255, .int .u8 0] 103) from rfl] at h8
    generalize w7.alloc (.cells #[.int .u8 0, .int .u8 255, .int .u8 255, .int .u8 255, .int .u8 255, .int .u8 255, .int .u8 255, .int .u8 255, .int .u8 255, .int .u8 255, .int .u8 255, .int .u8 0] 103) = W8 at h8 ⊢
    clear h7
    go_cut [11] from 41 to 49 (fun x wx => x = .bool (dB && qB) ∧ St w wx [(w7.heap.size, 103, syncV), (w6.heap.size, 100, #[.int .i64 x0, .int .i64 x1, .int .i64 x2]), (g, 56, #[.int .i64 0, .int .i64 m, .int .i64 0, .int .i64 0, .int .i64 0, .int .i64 0, .string (s.extract 24 E)]), (w2.heap.size, 95, #[.int .u8 2, .int .i64 24, .int .i64 n2, .int .i64 16]), (w.heap.size, 56, #[.int .i64 0, .int .i64 0, .int .i64 0, .int .i64 0, .int .i64 0, .int .i64 0, .string ⟨#[]⟩])])
    case first =>
      have hcv := fun k => front_str (h8.drewN k) (i := 0) rfl
      have hcv0 := front_str h8 (i := 0) rfl
      have hq := HF.out
      rcases hcase with ⟨rfl, hd, hm, hL⟩ | ⟨rfl, hd⟩
      · subst hd
        go_quiet (fail)
        go_wp2_with fail
        go_meet
        exact ⟨rfl, h8.drewN _⟩
      · subst hd
        go_quiet (fail)
        go_wp2_with fail
        go_meet
        exact ⟨rfl, h8.drewN _⟩
    case rest =>
      obtain ⟨rfl, h9⟩ := hcut
      clear h8
      go_upto_region 12 with fail
      have qx := (h9.at (i := 2) rfl).cell
      have fx := (h9.at (i := 2) rfl).frozen
      go_still_tail 14, (by kernel_rfl)
      change wpList _ _ _ _ _ (World.drew ..)
      go_upto_region 13 with fail
      have h10 := ((((h9.set 2 rfl 2 (.int .i64 y0)).set 2 rfl 3 (.int .i64 y1)).set 2 rfl 4 (.int .i64 y2)).set 2 rfl 5 (.int .i64 y3)).drew
      go_cut [11] from 79 to 91 (fun x wx => x = .bool G ∧ St w wx [(w7.heap.size, 103, syncV), (w6.heap.size, 100, #[.int .i64 x0, .int .i64 x1, .int .i64 x2]), (g, 56, #[.int .i64 0, .int .i64 m, .int .i64 y0, .int .i64 y1, .int .i64 y2, .int .i64 y3, .string (s.extract 24 E)]), (w2.heap.size, 95, #[.int .u8 2, .int .i64 24, .int .i64 n2, .int .i64 16]), (w.heap.size, 56, #[.int .i64 0, .int .i64 0, .int .i64 0, .int .i64 0, .int .i64 0, .int .i64 0, .string ⟨#[]⟩])])
      case first =>
        generalize hbq : (dB && qB) = b1 at *
        have HBQ := Lib.hid hbq
        clear hbq
        have ht := HT.out
        cases b1 with
        | false =>
          go_wp2_with fail
          go_meet
          exact ⟨by rw [HG.out, ← Bool.and_assoc, HBQ.out]; rfl, h10⟩
        | true =>
          cases tB with
          | false =>
            go_wp2_with fail
            go_meet
            exact ⟨by rw [HG.out, ← Bool.and_assoc, HBQ.out]; rfl, h10⟩
          | true =>
            by_cases h31 : y1 ≤ 31
            · go_wp2_with fail
              go_meet
              exact ⟨by rw [HG.out, ← Bool.and_assoc, HBQ.out, decide_eq_true h31]; rfl, h10⟩
            · go_wp2_with fail
              go_meet
              exact ⟨by rw [HG.out, ← Bool.and_assoc, HBQ.out, decide_eq_false (by omega)]; rfl, h10⟩
      case rest =>
        clear h10 h9 qx fx
        obtain ⟨rfl, h10⟩ := hcut
        have q10 := (h10.at (i := 4) rfl).cell
        have f10 := (h10.at (i := 4) rfl).frozen
        cases G with
        | false =>
          go_wp2_with fail
          refine bodyPost_ret (v := noSec 10) (by simp [noSec, results, Tryz.results19, go_sem, q10]) rfl ⟨?_, ?_⟩
          · rw [HR.out]; simp
          · with_reducible exact h10.bel7 (i := 4) rfl _ _ _ _ _ _ _
        | true =>
          go_wp2_with fail
          refine (C5.out _).mono ?_
          rintro e w11 ⟨rfl, hb11⟩
          have h11 := St.call hb11 h10
          clear h10 hb11 q10 f10
          have q11 := (h11.at (i := 4) rfl).cell
          have f11 := (h11.at (i := 4) rfl).frozen
          cases K with
          | false =>
            go_wp2_with fail
            refine bodyPost_ret (v := noSec 9) (by simp [noSec, results, Tryz.results19, go_sem, q11]) rfl ⟨?_, ?_⟩
            · rw [HR.out]; simp
            · with_reducible exact h11.bel7 (i := 4) rfl _ _ _ _ _ _ _
          | true =>
            rcases hcase with ⟨rfl, hd, hm, hL⟩ | ⟨rfl, hd⟩
            · have C6 := Lib.hid (fun w => tolba_any x0 x1 x2 w hm)
              rw [msfV] at C6
              have HL := Lib.hid hL
              have hmr := msfOk_iff.1 hm
              obtain ⟨m0, m1, s0, s1, f0, f1⟩ := hmr
              have qm := (h11.at (i := 1) rfl).cell
              have qx := (h11.at (i := 2) rfl).cell
              have fx := (h11.at (i := 2) rfl).frozen
              clear hm hL
              go_wp2_with fail
              refine (C6.out _).mono ?_
              rintro e w12 ⟨rfl, hb12⟩
              have h12 := St.call hb12 h11
              clear hb12 q11 f11 qm qx fx h11
              have q12 := (h12.at (i := 4) rfl).cell
              have f12 := (h12.at (i := 4) rfl).frozen
              have qx := (h12.at (i := 2) rfl).cell
              have fx := (h12.at (i := 2) rfl).frozen
              have hne1 := h12.ne (i := 2) (j := 4) rfl rfl (by decide)
              have hne2 := hne1.symm
              generalize (60 * x0 + x1) * 75 + x2 - 150 = LBA at *
              go_wp2_with fail
              refine bodyPost_ret (v := .tuple #[.agg #[.int .i64 LBA, .int .i64 m, .int .i64 y0, .int .i64 y1, .int .i64 y2, .int .i64 y3, .string (s.extract 24 E)], .int .i64 0]) (by simp [results, Tryz.results19, go_sem, q12]) rfl ⟨?_, ?_⟩
              · rw [HR.out, HX.out, HL.out]; simp [secV7]
              · with_reducible exact (h12.set 2 rfl 0 _).bel7 (i := 4) rfl _ _ _ _ _ _ _
            · have := HG.out
              rw [hd] at this
              exact absurd this (by simp)
theorem kind_split {s : ByteArray} (h : (kindR s).2 = 0) : s.size = 2352 ∧ ∃ m, kindR s = (m, 0) ∧ modeOk m = true := by
  obtain ⟨hz, hm⟩ := kindR_ok h
  exact ⟨hz, (kindR s).1, by rw [← h], hm⟩
theorem parse_any (s : ByteArray) (w : World) (hs : s.size ≤ 140737488351232) :
    Calls Tryz.prog 19 #[.string s] w fun e w' => e = .returned (parseV s) ∧ Below w.heap.size w w' := by
  by_cases h : (kindR s).2 = 0
  · obtain ⟨hz, m, hk, hm⟩ := kind_split h
    rcases modeOk_iff.1 hm with e | e | e
    · subst e; exact parse_one s w hz hk
    · subst e; exact parse_two s 1 2048 2072 w hz hk hm (by omega) rfl rfl (by omega) (by omega)
    · subst e; exact parse_two s 2 2324 2348 w hz hk hm (by omega) rfl rfl (by omega) (by omega)
  · exact parse_kind s w hs h
/-- How many bytes of a sector are no parity. -/
def lTop (m : Int) : Nat := if m = 2 then 2352 else 2076
def seg (l : List UInt8) (i j : Nat) : List UInt8 := (l.take j).drop i
theorem seg_zero (l : List UInt8) (k : Nat) : seg l 0 k = l.take k := by unfold seg; rw [List.drop_zero]
theorem seg_take (l : List UInt8) {i j T : Nat} (h : j ≤ T) : seg (l.take T) i j = seg l i j := by
  unfold seg
  rw [List.take_take, Nat.min_eq_left h]
theorem seg_at (l : List UInt8) {i j T : Nat} (hij : j < i) (hT : i ≤ T) (l' : List UInt8) (h : l.take T = l'.take T) : l[j]? = l'[j]? := by
  have h1 : (l.take T)[j]? = l[j]? := List.getElem?_take_of_lt (by omega)
  have h2 : (l'.take T)[j]? = l'[j]? := List.getElem?_take_of_lt (by omega)
  rw [← h1, ← h2, h]

theorem size_list (s : ByteArray) : s.data.toList.length = s.size := by simp
theorem ba_ext {a b : ByteArray} (h : a.data.toList = b.data.toList) : a = b := by
  apply ByteArray.ext
  exact Array.toList_inj.1 h
theorem bI_at {s : ByteArray} {i : Nat} {b : UInt8} (h : s.data.toList[i]? = some b) : bI s i = (b.toNat : Int) := by
  unfold bI
  rw [h]
  rfl
theorem kind_b (s : ByteArray) (h : s.size = 2352) : kindR s = if bI s 15 = 1 then (0, 0) else if bI s 15 ≠ 2 then (0, 10) else if bI s 18 / 32 % 2 = 1 then (2, 0) else (1, 0) := by
  have h15 := bI_eq s 15 (by omega)
  have h18 := bI_eq s 18 (by omega)
  unfold kindR
  rw [dif_pos h]
  by_cases c1 : bI s 15 = 1
  · rw [if_pos c1, if_pos (show (s[15]'(by omega)).toNat = 1 by omega)]
  · rw [if_neg c1, if_neg (show ¬ (s[15]'(by omega)).toNat = 1 by omega)]
    by_cases c2 : bI s 15 = 2
    · rw [if_neg (show ¬ (s[15]'(by omega)).toNat ≠ 2 by omega), if_neg (show ¬ bI s 15 ≠ 2 by omega)]
      by_cases c3 : bI s 18 / 32 % 2 = 1
      · rw [if_pos c3, if_pos (show (s[18]'(by omega)).toNat / 32 % 2 = 1 by omega)]
      · rw [if_neg c3, if_neg (show ¬ (s[18]'(by omega)).toNat / 32 % 2 = 1 by omega)]
    · rw [if_pos (show (s[15]'(by omega)).toNat ≠ 2 by omega), if_pos (show bI s 15 ≠ 2 by omega)]
section
variable {s s' : ByteArray} {T : Nat}
theorem bI_same (h : s.data.toList.take T = s'.data.toList.take T) {i : Nat} (hi : i < T) : bI s i = bI s' i := by
  unfold bI
  rw [seg_at _ (Nat.lt_succ_self i) hi _ h]
theorem seg_same (h : s.data.toList.take T = s'.data.toList.take T) {i j : Nat} (hj : j ≤ T) : seg s.data.toList i j = seg s'.data.toList i j := by
  rw [← seg_take s.data.toList hj, ← seg_take s'.data.toList hj, h]
theorem ext_same (h : s.data.toList.take T = s'.data.toList.take T) {i j : Nat} (hj : j ≤ T) : s.extract i j = s'.extract i j := by
  apply ba_ext
  rw [sub_extract, sub_extract]
  exact seg_same h hj
theorem kind_same (hs : s.size = 2352) (hs' : s'.size = 2352) (h : s.data.toList.take T = s'.data.toList.take T) (hT : 2076 ≤ T) : kindR s = kindR s' := by
  rw [kind_b s hs, kind_b s' hs', bI_same h (i := 15) (by omega), bI_same h (i := 18) (by omega)]
theorem good_same (h : s.data.toList.take T = s'.data.toList.take T) (hT : 2076 ≤ T) (m : Int) : goodB s m = goodB s' m := by
  have f : frontB s = frontB s' := by
    unfold frontB
    have := seg_same h (i := 0) (j := 12) (by omega)
    rw [seg_zero, seg_zero] at this
    rw [this]
  have z : zeroB s = zeroB s' := by
    have := seg_same h (i := 2068) (j := 2076) (by omega)
    unfold zeroB
    unfold seg at this
    rw [this]
  have t : twinB s = twinB s' := by
    have t1 := seg_same h (i := 16) (j := 20) (by omega)
    have t2 := seg_same h (i := 20) (j := 24) (by omega)
    unfold twinB
    unfold seg at t1 t2
    rw [t1, t2]
  unfold goodB decB
  rw [f, z, t, bI_same h (i := 12) (by omega), bI_same h (i := 13) (by omega), bI_same h (i := 14) (by omega), bI_same h (i := 17) (by omega)]
theorem top_bd (m : Int) : 2076 ≤ lTop m ∧ lTop m ≤ 2352 := by unfold lTop; split <;> omega
theorem sec_eq {m : Int} (hm : modeOk m = true) (h : s.data.toList.take (lTop m) = s'.data.toList.take (lTop m)) : secOf s m = secOf s' m := by
  have hb := top_bd m
  have hl : lbaS s = lbaS s' := by unfold lbaS; rw [bI_same h (i := 12) (by omega), bI_same h (i := 13) (by omega), bI_same h (i := 14) (by omega)]
  unfold secOf
  rw [hl]
  by_cases h0 : m = 0
  · rw [if_pos h0, if_pos h0, ext_same h (j := 2064) (by omega)]
  · rw [if_neg h0, if_neg h0, bI_same h (i := 16) (by omega), bI_same h (i := 17) (by omega), bI_same h (i := 18) (by omega), bI_same h (i := 19) (by omega), ext_same h]
    rcases modeOk_iff.1 hm with e | e | e
    · exact absurd e h0
    · subst e; show (24 + 2048 : Int).toNat ≤ 2076; decide
    · subst e; show (24 + 2324 : Int).toNat ≤ 2352; decide
theorem chk_same {m : Int} (hm : modeOk m = true) (hk : kindR s = (m, 0)) (hk' : kindR s' = (m, 0)) (h : s.data.toList.take (lTop m) = s'.data.toList.take (lTop m)) : chkB s = chkB s' := by
  unfold chkB
  rw [hk, hk', if_pos rfl, if_pos rfl]
  unfold chkL
  have hE : (lData m + lCap m).toNat + 4 ≤ lTop m := by
    rcases modeOk_iff.1 hm with e | e | e
    · subst e; decide
    · subst e; decide
    · subst e; decide
  have h1 := seg_same h (i := 0) (j := (lData m + lCap m).toNat) (by omega)
  rw [seg_zero, seg_zero] at h1
  have h2 := seg_same h (i := (lData m + lCap m).toNat) hE
  unfold seg at h2
  show (codeL (s.data.toList.take (lData m + lCap m).toNat) (lCov m).toNat == (s.data.toList.take ((lData m + lCap m).toNat + 4)).drop (lData m + lCap m).toNat) = _
  rw [h1, h2]
end
theorem seg_mid (P M R : List UInt8) {i j : Nat} (hi : i = P.length) (hj : j = P.length + M.length) : seg (P ++ (M ++ R)) i j = M := by
  subst hi hj
  unfold seg
  rw [← List.append_assoc, List.take_append_of_le_length (by simp), List.take_of_length_le (by simp), List.drop_left]
theorem unOk_of {n : Int} (h0 : 0 ≤ n) (h1 : n < 100) : unOk (bcdV n) ∧ unV (bcdV n) = n := by
  obtain ⟨a, b, _⟩ := un_bcd (n := n) ⟨h0, by omega⟩
  refine ⟨?_, a⟩
  unfold unE at b
  by_cases h : unOk (bcdV n)
  · exact h
  · rw [if_neg h] at b; omega

/-- What Build makes is parsed as what it was made of. -/
theorem good_build {x : Sec} (hv : validB x = true) : goodB ⟨(buildL x).toArray⟩ x.mode = true ∧ secOf ⟨(buildL x).toArray⟩ x.mode = x := by
  obtain ⟨h0, h1, h2, h3⟩ := valid_parts hv
  have hl := list_str (buildL x)
  have hsub : subOk x = true := by
    have hv' := hv
    unfold validB at hv'
    simp only [Bool.and_eq_true] at hv'
    exact hv'.2
  obtain ⟨E, c, hE, hc, a1, a2, a3, hp⟩ := build_nat hv
  obtain ⟨r, hr⟩ := build_head x
  have hm := msfN_ok (n := x.lba + 150) (by omega) (by omega)
  obtain ⟨m0, m1, s0, s1, f0, f1⟩ := msfOk_iff.1 hm
  have hh : headL x = syncL ++ ([bcdB ((x.lba + 150) / 75 / 60), bcdB ((x.lba + 150) / 75 % 60), bcdB ((x.lba + 150) % 75)] ++ [UInt8.ofNat (lByte x.mode).toNat]) := rfl
  have g12 : (buildL x)[12]? = some (bcdB ((x.lba + 150) / 75 / 60)) := by rw [hr, hh]; rfl
  have g13 : (buildL x)[13]? = some (bcdB ((x.lba + 150) / 75 % 60)) := by rw [hr, hh]; rfl
  have g14 : (buildL x)[14]? = some (bcdB ((x.lba + 150) % 75)) := by rw [hr, hh]; rfl
  have b12 : bI ⟨(buildL x).toArray⟩ 12 = bcdV ((x.lba + 150) / 75 / 60) := by rw [bI_at (by rw [hl]; exact g12), bcdB_nat m0 m1]
  have b13 : bI ⟨(buildL x).toArray⟩ 13 = bcdV ((x.lba + 150) / 75 % 60) := by rw [bI_at (by rw [hl]; exact g13), bcdB_nat s0 (by omega)]
  have b14 : bI ⟨(buildL x).toArray⟩ 14 = bcdV ((x.lba + 150) % 75) := by rw [bI_at (by rw [hl]; exact g14), bcdB_nat f0 (by omega)]
  obtain ⟨o0, v0⟩ := unOk_of m0 m1
  obtain ⟨o1, v1⟩ := unOk_of s0 (by omega)
  obtain ⟨o2, v2⟩ := unOk_of f0 (by omega)
  have hd : decB ⟨(buildL x).toArray⟩ = true := by
    unfold decB
    rw [b12, b13, b14]
    exact decide_eq_true ⟨o0, o1, o2, by rw [v0, v1, v2]; exact hm⟩
  have hlba : lbaS ⟨(buildL x).toArray⟩ = x.lba := by
    unfold lbaS
    rw [b12, b13, b14, v0, v1, v2]
    omega
  have hf : frontB ⟨(buildL x).toArray⟩ = true := by
    unfold frontB
    rw [hl, hr, hh]
    exact beq_self_eq_true _
  by_cases hm0 : x.mode = 0
  · have hE' : E = 2064 := by
      have e1 : lData x.mode = 16 := if_pos hm0
      have e2 : lCap x.mode = 2048 := by unfold lCap; rw [if_neg (by omega)]
      omega
    have hcl : (codedL x).length = 2068 := by unfold codedL; rw [List.length_append, hp, codeL_len]; omega
    have hz : zeroB ⟨(buildL x).toArray⟩ = true := by
      unfold zeroB
      rw [hl]
      have e : buildL x = codedL x ++ (List.replicate 8 0 ++ List.replicate 276 0) := by
        unfold buildL
        rw [hcl]
        rfl
      have := seg_mid (codedL x) (List.replicate 8 0) (List.replicate 276 0) (i := 2068) (j := 2076) hcl.symm (by rw [hcl]; rfl)
      unfold seg at this
      rw [e, this]
      exact beq_self_eq_true _
    refine ⟨by unfold goodB; rw [hd, hf, if_pos hm0, hz]; rfl, ?_⟩
    unfold secOf
    rw [if_pos hm0, hlba]
    have hd : (⟨(buildL x).toArray⟩ : ByteArray).extract 16 2064 = x.data := by
      apply ba_ext
      rw [sub_extract, hl]
      have e : buildL x = headL x ++ (x.data.data.toList ++ (codeL (preL x) (lCov x.mode).toNat ++ List.replicate (2352 - (codedL x).length) 0)) := by
        have : preL x = headL x ++ x.data.data.toList := if_pos hm0
        unfold buildL
        rw [show codedL x = preL x ++ codeL (preL x) (lCov x.mode).toNat from rfl]
        conv => lhs; rw [List.append_assoc]
        conv => lhs; arg 1; rw [this]
        rw [List.append_assoc]
      have hdl := size_list x.data
      have hcap : lCap x.mode = 2048 := by unfold lCap; rw [if_neg (by omega)]
      have := seg_mid (headL x) x.data.data.toList (codeL (preL x) (lCov x.mode).toNat ++ List.replicate (2352 - (codedL x).length) 0) (i := 16) (j := 2064) rfl (by rw [show (headL x).length = 16 from rfl]; omega)
      unfold seg at this
      rw [e, this]
    rw [hd]
    unfold subOk at hsub
    rw [if_pos hm0] at hsub
    obtain ⟨lba, mode, fi, ch, su, co, data⟩ := x
    simp at hsub hm0 ⊢
    omega
  · have hsb := hsub
    unfold subOk at hsb
    rw [if_neg hm0] at hsb
    simp only [Bool.and_eq_true, btw_iff] at hsb
    obtain ⟨⟨⟨⟨⟨p0, p1⟩, c0, c1⟩, u0, u1⟩, w0, w1⟩, _⟩ := hsb
    have e : buildL x = headL x ++ (subBs x ++ (subBs x ++ (x.data.data.toList ++ (codeL (preL x) (lCov x.mode).toNat ++ List.replicate (2352 - (codedL x).length) 0)))) := by
      have : preL x = headL x ++ (subBs x ++ subBs x) ++ x.data.data.toList := if_neg hm0
      unfold buildL
      rw [show codedL x = preL x ++ codeL (preL x) (lCov x.mode).toNat from rfl]
      conv => lhs; rw [List.append_assoc]
      conv => lhs; arg 1; rw [this]
      simp only [List.append_assoc]
    have hhl : (headL x).length = 16 := rfl
    have hsl : (subBs x).length = 4 := rfl
    have ht : twinB ⟨(buildL x).toArray⟩ = true := by
      unfold twinB
      rw [hl]
      have t1 := seg_mid (headL x) (subBs x) (subBs x ++ (x.data.data.toList ++ (codeL (preL x) (lCov x.mode).toNat ++ List.replicate (2352 - (codedL x).length) 0))) (i := 16) (j := 20) rfl rfl
      have t2 := seg_mid (headL x ++ subBs x) (subBs x) (x.data.data.toList ++ (codeL (preL x) (lCov x.mode).toNat ++ List.replicate (2352 - (codedL x).length) 0)) (i := 20) (j := 24) rfl rfl
      rw [List.append_assoc] at t2
      unfold seg at t1 t2
      rw [e, t1, t2]
      exact beq_self_eq_true _
    have hb : ∀ (n : Int) (i : Nat), 0 ≤ n → n ≤ 255 → (buildL x)[i]? = some (UInt8.ofNat n.toNat) → bI ⟨(buildL x).toArray⟩ i = n := by
      intro n i hn0 hn1 hi
      rw [bI_at (by rw [hl]; exact hi)]
      simp
      omega
    have g16 := hb x.fi 16 p0 p1 (by rw [e]; rfl)
    have g17 := hb x.ch 17 c0 (by omega) (by rw [e]; rfl)
    have g18 := hb x.su 18 u0 u1 (by rw [e]; rfl)
    have g19 := hb x.co 19 w0 w1 (by rw [e]; rfl)
    refine ⟨by unfold goodB; rw [hd, hf, if_neg hm0, ht, g17]; simp; exact c1, ?_⟩
    unfold secOf
    rw [if_neg hm0, hlba, g16, g17, g18, g19]
    have hd : (⟨(buildL x).toArray⟩ : ByteArray).extract 24 (24 + lCap x.mode).toNat = x.data := by
      apply ba_ext
      rw [sub_extract, hl]
      have hdl := size_list x.data
      have := seg_mid (headL x ++ (subBs x ++ subBs x)) x.data.data.toList (codeL (preL x) (lCov x.mode).toNat ++ List.replicate (2352 - (codedL x).length) 0) (i := 24) (j := (24 + lCap x.mode).toNat) rfl (by rw [List.length_append, List.length_append, hhl, hsl]; omega)
      simp only [List.append_assoc] at this
      unfold seg at this
      rw [e, this]
    rw [hd]

/-- What agrees with a built sector but for the parity is parsed as its contents. -/
theorem back_build {x : Sec} (hv : validB x = true) {s : ByteArray} (hs : s.size = 2352) (h : s.data.toList.take (lTop x.mode) = (buildL x).take (lTop x.mode)) :
    kindR s = (x.mode, 0) ∧ parseV s = .tuple #[secV7 x, .int .i64 0] := by
  have hb := top_bd x.mode
  have hz : (⟨(buildL x).toArray⟩ : ByteArray).size = 2352 := by rw [str_size, build_len hv]
  have h' : s.data.toList.take (lTop x.mode) = (⟨(buildL x).toArray⟩ : ByteArray).data.toList.take (lTop x.mode) := by rw [list_str]; exact h
  obtain ⟨h0, _⟩ := valid_parts hv
  have hk : kindR s = (x.mode, 0) := (kind_same hs hz h' hb.1).trans (kind_build hv)
  obtain ⟨g, e⟩ := good_build hv
  have hg : goodB s x.mode = true := (good_same h' hb.1 _).trans g
  have hx : secOf s x.mode = x := (sec_eq h0 h').trans e
  have hc : chkB s = true := (chk_same h0 hk (kind_build hv) h').trans (chk_build hv)
  refine ⟨hk, ?_⟩
  unfold parseV
  rw [hk, if_neg (by simp), if_pos hg, if_pos hc, hx]
end Go.Proofs.YtlnjphggfbiabaaGreat
