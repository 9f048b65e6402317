/-
  productcode.Decode: a sector whose erased places can be peeled is restored.
-/
import Derived.Test.YtlnjphggfbiabaaGreatMFj
import Derived.Test.YtlnjphggfbiabaaGreatMFi
namespace Go.Proofs.YtlnjphggfbiabaaGreat
open Go.RowKit Go.Maps
set_option linter.unusedVariables false

theorem offL_nil {D C : List Nat} (hc : SecOk C) (h : OffL D C []) : D = C := List.ext_getElem? fun j => h.2.2 j (by simp)
set_option maxRecDepth 100000 in
set_option maxHeartbeats 8000000 in
theorem pdec_any (s : ByteArray) (er C : List Nat) (A : Option Addr) (c : Nat) (w : World) (h : SlAt w w.heap.size A (posV er)) (hp : er.Pairwise (· < ·)) (hlt : ∀ a ∈ er, 12 ≤ a ∧ a < 2352) (hl : er.length ≤ 3000) (hc : SecOk C) (ho : OffL (sN s) C er) (hf : peelF er = []) :
    Calls Tryz.prog 18 #[.string s, .int .i64 0, .slice A er.length c] w fun e w' => Below w.heap.size w w' ∧ ∃ cnt : Int, e = .returned (.tuple #[.string (natS C), .int .i64 cnt, .int .i64 0]) := by
  have hs : s.size = 2352 := by rw [← sN_length]; exact ho.1
  have HC := Lib.hid hc
  have HOFF := Lib.hid ho
  have HF := Lib.hid hf
  have HSZ := Lib.hid hs
  have CF := Lib.hid (first_one w)
  have CS := Lib.hid (set_any er A c w h hp hlt hl)
  obtain ⟨m, hm⟩ : ∃ m, er.length = m := ⟨_, rfl⟩
  have HM := Lib.hid hm
  rw [hm] at hl CS ⊢
  clear h hp hlt hm hc ho hf
  go_enter Tryz.func18, Tryz.ntmps18
  go_wp2_with fail
  refine CF.out.mono ?_
  rintro e w1 ⟨rfl, rfl⟩
  go_wp2_with fail
  refine CS.out.mono ?_
  rintro e w1 ⟨hb1, b, hbw, rfl, hs1⟩
  have HB1 := Lib.hid hb1
  have HS1 := Lib.hid hs1
  have HBW := Lib.hid hbw
  have hcv := run_bytes_of_string (P := Tryz.prog) w1 9 75 5 s Tryz.underlying9 Tryz.underlying75 Tryz.underlying5
  rw [hs] at hcv
  generalize grownCap w1 2352 0 5 = cap at *
  have HW2 : Hid (Below w.heap.size w (World.drew (w1.alloc (.cells (bytesRow s cap) 5 ((bytesRow s cap).size, (bytesRow s cap).size + 1)))) ∧ BytesAt (World.drew (w1.alloc (.cells (bytesRow s cap) 5 ((bytesRow s cap).size, (bytesRow s cap).size + 1)))) w1.heap.size 5 (ofL (sN s)) ∧ SetAt (World.drew (w1.alloc (.cells (bytesRow s cap) 5 ((bytesRow s cap).size, (bytesRow s cap).size + 1)))) b m er) := Lib.hid (by
    refine ⟨(hb1.alloc hb1.size _).drew, ?_, hs1.below ((Below.refl _ _).alloc (Nat.le_refl _) _).drew hs1.lt⟩
    rw [ofL_sN]
    exact BytesAt.new w1 5 s cap)
  have HG1 := Lib.hid hb1.size
  clear CF CS hb1 hs1 hbw
  go_wp2_with fail
  generalize World.drew (w1.alloc (.cells (bytesRow s cap) 5 ((bytesRow s cap).size, (bytesRow s cap).size + 1))) = w2 at *
  generalize w1.heap.size = g at *
  clear hcv HB1 HS1
  go_loopw [13] (fun i wr => ∃ (D l : List Nat), i = .int .i64 0 ∧ BytesAt wr g 5 (ofL D) ∧ SetAt wr b m l ∧ Below w.heap.size w wr ∧ Hid (OffL D C l ∧ peelF er = peelF l)) (fun _ wr => mapLen wr b)
  case atStart => exact ⟨sN s, er, rfl, HW2.out.2.1, HW2.out.2.2, HW2.out.1, Lib.hid ⟨HOFF.out, rfl⟩⟩
  case round =>
    clear HW2
    obtain ⟨D, l, rfl, hby, hst, hbel, HH⟩ := hrel
    have HML := Lib.hid hst.mapLen
    have HBE := Lib.hid hbel
    have CP := Lib.hid (pass_any g cap b m l C D wr HC.out HH.out.1 hby hst)
    clear hby hst hbel
    go_wp2_with fail
    refine CP.out.mono ?_
    rintro e w3 ⟨hbo, ch, D2, rfl, hby2, hof2, hst2, hch2⟩
    have HB3 := Lib.hid (hbo.down HBE.out HBE.out.size HG1.out HBW.out)
    have HBY2 := Lib.hid hby2
    have HOF2 := Lib.hid hof2
    have HST2 := Lib.hid hst2
    by_cases hlt : (peelP l).length < l.length
    · have HLT := Lib.hid hlt
      rw [show decide ((peelP l).length < l.length) = true by simpa using hlt]
      clear hbo hby2 hof2 hst2 hch2 CP hlt
      have HREL : Hid ((∃ D l, Value.int IntKind.i64 0 = Value.int IntKind.i64 0 ∧ BytesAt w3 g 5 (ofL D) ∧ SetAt w3 b m l ∧ Below w.heap.size w w3 ∧ Hid (OffL D C l ∧ peelF er = peelF l)) ∧ mapLen w3 b < mapLen wr b) := Lib.hid ⟨⟨D2, peelP l, rfl, HBY2.out, HST2.out, HB3.out, Lib.hid ⟨HOF2.out, HH.out.2.trans (peelF_go HLT.out)⟩⟩, by rw [HST2.out.mapLen, HML.out]; exact HLT.out⟩
      cases ch with
      | true =>
        go_wp2_with fail
        exact ⟨(let ⟨D, l, _, h⟩ := HREL.out.1; ⟨D, l, rfl, h⟩), HREL.out.2⟩
      | false =>
        go_wp2_with fail
        exact ⟨(let ⟨D, l, _, h⟩ := HREL.out.1; ⟨D, l, rfl, h⟩), HREL.out.2⟩
    · have hchf : ch = false := by
        cases ch with
        | true => exact absurd (hch2 rfl) hlt
        | false => rfl
      subst hchf
      rw [show decide ((peelP l).length < l.length) = false by simpa using hlt]
      obtain ⟨hpf, hpp⟩ := peelF_end hlt
      have hnil : peelP l = [] := by rw [hpp, ← hpf, ← HH.out.2]; exact HF.out
      rw [hnil] at hof2 hst2
      have hDC := offL_nil HC.out hof2
      rw [hDC] at hby2
      have hln := hst2.len 3
      have HBYC := Lib.hid hby2
      have CSO := Lib.hid (sound_ok C (some ⟨g, 0, none⟩) cap w3 (by
        have h9 := bytes_slat (s := natS C) (w := w3) (g := g) (e := 5) (by
          have h10 := hby2
          rw [← sN_natS HC.out.b8, ofL_sN] at h10
          exact h10)
        rw [sN_natS HC.out.b8] at h9
        exact h9) HC.out)
      clear hbo hby2 hof2 hst2 hch2 CP hlt hpf hpp hnil hDC HBY2 HOF2 HST2
      go_wp2_with fail
      refine CSO.out.mono ?_
      rintro e w4 ⟨rfl, hb4⟩
      have HB4 := Lib.hid (HB3.out.trans (hb4.mono HB3.out.size))
      have HBY4 := Lib.hid (HBYC.out.below hb4 HBYC.out.lt)
      clear hb4 CSO hln HBYC HB3
      go_wp2_with fail
      have HCL := HC.out.len
      have HCLH := Lib.hid HCL
      clear HCL
      go_loopw [16, 69] (fun v i wx => ∃ (k cnt : Nat), k ≤ 2352 ∧ cnt ≤ k ∧ i = .int .i64 (k : Int) ∧ v = .int .i64 (cnt : Int) ∧ BytesAt wx g 5 (ofL C) ∧ Below w.heap.size w wx) (fun _ i _ => 2352 - (intOf i).toNat)
      case atStart => exact ⟨0, 0, by omega, by omega, rfl, rfl, HBY4.out, HB4.out⟩
      case round =>
        clear HBY4 HB4
        obtain ⟨k, cnt, hk, hcnt, rfl, rfl, hby, hbel⟩ := hrel
        have HBY := Lib.hid hby
        have HB := Lib.hid hbel
        by_cases hkn : k < 2352
        · have hkI : (k : Int) < 2352 := by omega
          have h0k : (0 : Int) ≤ (k : Int) := by omega
          obtain ⟨x, hx⟩ : ∃ x, C[k]? = some x := ⟨C[k]'(by rw [HCLH.out]; exact hkn), List.getElem?_eq_getElem _⟩
          have q1 := bytes_cell hby HC.out.b8 hx
          have hks : k < s.size := by rw [HSZ.out]; exact hkn
          obtain ⟨y, hy⟩ : ∃ y, s[k].toNat = y := ⟨_, rfl⟩
          have hksI : (k : Int) < (s.size : Int) := by omega
          clear hby hbel hx
          go_upto_region 21 with fail
          go_quiet (fail)
          by_cases hxy : x = y
          · subst hxy
            go_wp2_with fail
            exact ⟨⟨k + 1, cnt, by omega, by omega, by go_num, rfl, HBY.out.drewN _, below_drewN HB.out _⟩, by simp [intOf]; omega⟩
          · have hxyI : ((x : Int) == (y : Int)) = false := by rw [beq_eq_false_iff_ne]; omega
            have hxyJ : ¬ (x : Int) = (y : Int) := by omega
            go_wp2_with fail
            exact ⟨⟨k + 1, cnt + 1, by omega, by omega, by go_num, by go_num, HBY.out.drewN _, below_drewN HB.out _⟩, by simp [intOf]; omega⟩
        · obtain rfl : k = 2352 := by omega
          have hkI : ¬ (2352 : Int) < 2352 := by omega
          have hcv := hby.string (P := Tryz.prog) 75 9 Tryz.underlying75 Tryz.underlying5 Tryz.underlying9 cap
          rw [show (ofL C).length = 2352 by unfold ofL; rw [List.length_map, HCLH.out]] at hcv
          have e9 : (⟨(ofL C).toArray⟩ : ByteArray) = natS C := rfl
          rw [e9] at hcv
          clear hby hbel e9
          go_wp2_with fail
          refine bodyPost_ret (v := .tuple #[.string (natS C), .int .i64 (cnt : Int), .int .i64 0]) (by simp [results, Tryz.results18, go_sem]) rfl ⟨HB.out, cnt, rfl⟩
end Go.Proofs.YtlnjphggfbiabaaGreat

/-
  Plain theory: productcode.Encode makes sectors all words of which are codewords; bytes ahead of the parity stay.
-/
namespace Go.Proofs.YtlnjphggfbiabaaGreat
open Go.RowKit
set_option linter.unusedVariables false

def parL (wl : List Nat) : List Nat := wl.drop (wl.length - 2)
/-- A word as productcode has them: its last two places are parity and are no others. -/
structure WordOk (wl : List Nat) (m p1 p2 : Nat) : Prop where
  len : wl.length = m + 2
  m1 : 1 ≤ m
  m2 : m ≤ 43
  q1 : wl[m]? = some p1
  q2 : wl[m + 1]? = some p2
  ne : p1 ≠ p2
  n1 : p1 ∉ wl.take m
  n2 : p2 ∉ wl.take m
  lt : ∀ a ∈ wl, a < 2352
theorem WordOk.par {wl : List Nat} {m p1 p2 : Nat} (h : WordOk wl m p1 p2) : parL wl = [p1, p2] := by
  unfold parL
  rw [h.len, Nat.add_sub_cancel]
  apply List.ext_getElem?
  intro i
  rw [List.getElem?_drop]
  match i with
  | 0 => exact h.q1
  | 1 => exact h.q2
  | i + 2 => rw [List.getElem?_eq_none (by rw [h.len]; omega)]; rfl
theorem set_self (l : List Nat) (i : Nat) : l.set i (l[i]?.getD 0) = l := by
  apply List.ext_getElem?
  intro j
  rw [List.getElem?_set]
  by_cases h : i = j
  · subst h
    by_cases h2 : i < l.length
    · rw [if_pos rfl, if_pos h2, List.getElem?_eq_getElem h2]; rfl
    · rw [if_pos rfl, if_neg h2, List.getElem?_eq_none (by omega)]
  · rw [if_neg h]
theorem enc_sym {d wl : List Nat} {m p1 p2 k a : Nat} (h : WordOk wl m p1 p2) (hk : k < m) (ha : wl[k]? = some a) : (rsEnc (takeN d (wl.take m)) 2)[k]? = some (d[a]?.getD 0) := by
  unfold rsEnc
  rw [List.getElem?_append_left (by rw [takeN_length, List.length_take, h.len]; omega)]
  exact takeN_get (by rw [List.getElem?_take_of_lt hk]; exact ha)
theorem put_data {d wl : List Nat} {m p1 p2 : Nat} (h : WordOk wl m p1 p2) : ∀ k, k ≤ m → putK d wl (rsEnc (takeN d (wl.take m)) 2) k = d
  | 0, _ => rfl
  | k + 1, hk => by
    obtain ⟨a, ha⟩ : ∃ a, wl[k]? = some a := ⟨_, List.getElem?_eq_getElem (by rw [h.len]; omega)⟩
    rw [putK, put_data h k (by omega), enc_sym h (by omega) ha, ha]
    exact set_self d a
theorem encStep_form {d wl : List Nat} {m p1 p2 : Nat} (h : WordOk wl m p1 p2) : encStep d wl = (d.set p1 ((rsEnc (takeN d (wl.take m)) 2)[m]?.getD 0)).set p2 ((rsEnc (takeN d (wl.take m)) 2)[m + 1]?.getD 0) := by
  unfold encStep putN
  rw [h.len, Nat.add_sub_cancel, putK, putK, put_data h m (Nat.le_refl _), h.q1, h.q2]
  rfl
theorem encStep_keep {d wl : List Nat} {m p1 p2 j : Nat} (h : WordOk wl m p1 p2) (hj : j ∉ parL wl) : (encStep d wl)[j]? = d[j]? := by
  rw [h.par] at hj
  rw [encStep_form h, List.getElem?_set_ne (fun e => hj (by rw [← e]; simp)), List.getElem?_set_ne (fun e => hj (by rw [← e]; simp))]
theorem encStep_code {d wl : List Nat} {m p1 p2 : Nat} (h : WordOk wl m p1 p2) (hd : d.length = 2352) (h8 : B8 d) : takeN (encStep d wl) wl = rsEnc (takeN d (wl.take m)) 2 := by
  have hl : (rsEnc (takeN d (wl.take m)) 2).length = m + 2 := by
    rw [(rsEnc_len (takeN_b8 h8 _)).1, takeN_length, List.length_take, h.len]
    omega
  have lp1 := h.lt p1 (List.mem_of_getElem? h.q1)
  have lp2 := h.lt p2 (List.mem_of_getElem? h.q2)
  apply List.ext_getElem?
  intro k
  by_cases hk : k < m + 2
  · obtain ⟨a, ha⟩ : ∃ a, wl[k]? = some a := ⟨_, List.getElem?_eq_getElem (by rw [h.len]; omega)⟩
    rw [takeN_get ha, encStep_form h]
    by_cases hkm : k < m
    · rw [enc_sym h hkm ha]
      have hin : a ∈ wl.take m := by
        refine List.mem_iff_getElem?.2 ⟨k, ?_⟩
        rw [List.getElem?_take_of_lt hkm]; exact ha
      rw [List.getElem?_set_ne (fun e => h.n2 (by rw [e]; exact hin)), List.getElem?_set_ne (fun e => h.n1 (by rw [e]; exact hin))]
    · by_cases hk1 : k = m
      · subst hk1
        have e : a = p1 := by rw [h.q1] at ha; injection ha with ha; exact ha.symm
        rw [e, List.getElem?_set_ne (fun e => h.ne e.symm), List.getElem?_set_self (by omega), List.getElem?_eq_getElem (by rw [hl]; omega)]
        rfl
      · obtain rfl : k = m + 1 := by omega
        have e : a = p2 := by rw [h.q2] at ha; injection ha with ha; exact ha.symm
        rw [e, List.getElem?_set_self (by rw [List.length_set]; omega), List.getElem?_eq_getElem (by rw [hl]; omega)]
        rfl
  · rw [List.getElem?_eq_none (by rw [takeN_length, h.len]; omega), List.getElem?_eq_none (by rw [hl]; omega)]
def WOk (wl : List Nat) : Prop := ∃ m p1 p2, WordOk wl m p1 p2
theorem encStep_len {d wl : List Nat} (h8 : B8 d) : (encStep d wl).length = d.length ∧ B8 (encStep d wl) := encStep_ok h8
theorem fold_keep : ∀ (ws : List (List Nat)) (d : List Nat) (j : Nat), (∀ wl ∈ ws, WOk wl ∧ j ∉ parL wl) → (ws.foldl encStep d)[j]? = d[j]?
  | [], _, _, _ => rfl
  | wl :: ws, d, j, h => by
    obtain ⟨⟨m, p1, p2, hw⟩, hj⟩ := h wl List.mem_cons_self
    rw [List.foldl_cons, fold_keep ws _ j (fun w hw => h w (List.mem_cons_of_mem _ hw)), encStep_keep hw hj]
theorem fold_len : ∀ (ws : List (List Nat)) (d : List Nat), B8 d → (ws.foldl encStep d).length = d.length ∧ B8 (ws.foldl encStep d)
  | [], _, h => ⟨rfl, h⟩
  | wl :: ws, d, h => by
    obtain ⟨h1, h2⟩ := encStep_len (wl := wl) h
    rw [List.foldl_cons]
    obtain ⟨h3, h4⟩ := fold_len ws _ h2
    exact ⟨h3.trans h1, h4⟩
theorem fold_code : ∀ (ws : List (List Nat)) (d : List Nat), d.length = 2352 → B8 d → (∀ wl ∈ ws, WOk wl) → ws.Pairwise (fun a b => ∀ x ∈ parL b, x ∉ a) →
    ∀ wl ∈ ws, ∀ i, i < 2 → evalN (takeN (ws.foldl encStep d) wl) (powN i) = 0
  | [], _, _, _, _, _, wl, h, _, _ => by cases h
  | w :: ws, d, hd, h8, hok, hp, wl, hwl, i, hi => by
    obtain ⟨h1, h2⟩ := encStep_len (wl := w) h8
    obtain ⟨hp1, hp2⟩ := List.pairwise_cons.1 hp
    rw [List.foldl_cons]
    rcases List.mem_cons.1 hwl with rfl | hm
    · obtain ⟨m, p1, p2, hw⟩ := hok wl List.mem_cons_self
      have e : takeN (ws.foldl encStep (encStep d wl)) wl = takeN (encStep d wl) wl := by
        unfold takeN
        refine List.map_congr_left fun a ha => ?_
        rw [fold_keep ws _ a (fun b hb => ⟨hok b (List.mem_cons_of_mem _ hb), fun hx => hp1 b hb a hx ha⟩)]
      rw [e, encStep_code hw hd h8]
      exact rsEnc_code (.inl rfl) (takeN_b8 h8 _) hi
    · exact fold_code ws _ (h1.trans hd) h2 (fun b hb => hok b (List.mem_cons_of_mem _ hb)) hp2 wl hm i hi
/-! ### The words -/
theorem pwL_get {n i : Nat} (hi : i < 26) : (pwL n)[i]? = some (12 + 2 * (n / 2 + 43 * i) + n % 2) := by
  unfold pwL
  rw [List.getElem?_map, List.getElem?_range hi]
  rfl
theorem pwL_mem {n x : Nat} : x ∈ pwL n ↔ ∃ i, i < 26 ∧ x = 12 + 2 * (n / 2 + 43 * i) + n % 2 := by
  unfold pwL
  rw [List.mem_map]
  constructor
  · rintro ⟨i, hi, rfl⟩; exact ⟨i, List.mem_range.1 hi, rfl⟩
  · rintro ⟨i, hi, rfl⟩; exact ⟨i, List.mem_range.2 hi, rfl⟩
theorem pwL_ok {n : Nat} (hn : n < 86) : WordOk (pwL n) 24 (12 + 2 * (n / 2 + 43 * 24) + n % 2) (12 + 2 * (n / 2 + 43 * 25) + n % 2) where
  len := by simp [pwL]
  m1 := by decide
  m2 := by decide
  q1 := pwL_get (by decide)
  q2 := pwL_get (by decide)
  ne := by omega
  n1 := fun h => by
    obtain ⟨k, hk⟩ := List.mem_iff_getElem?.1 h
    have hk2 := (List.getElem?_eq_some_iff.1 hk).1
    rw [List.length_take] at hk2
    rw [List.getElem?_take_of_lt (by omega), pwL_get (by omega)] at hk
    injection hk with hk
    omega
  n2 := fun h => by
    obtain ⟨k, hk⟩ := List.mem_iff_getElem?.1 h
    have hk2 := (List.getElem?_eq_some_iff.1 hk).1
    rw [List.length_take] at hk2
    rw [List.getElem?_take_of_lt (by omega), pwL_get (by omega)] at hk
    injection hk with hk
    omega
  lt := fun a ha => by
    obtain ⟨i, hi, rfl⟩ := pwL_mem.1 ha
    omega
theorem qwL_take (n : Nat) : (qwL n).take 43 = (List.range 43).map (fun i => 12 + 2 * ((44 * i + 43 * (n / 2)) % 1118) + n % 2) := by
  unfold qwL
  rw [List.take_append_of_le_length (by simp), List.take_of_length_le (by simp)]
theorem qwL_low {n x : Nat} (h : x ∈ (qwL n).take 43) : x < 2248 := by
  rw [qwL_take] at h
  obtain ⟨i, hi, rfl⟩ := List.mem_map.1 h
  omega
theorem qwL_mem {n x : Nat} (h : x ∈ qwL n) : x < 2248 ∨ x = 12 + 2 * (1118 + n / 2) + n % 2 ∨ x = 12 + 2 * (1144 + n / 2) + n % 2 := by
  unfold qwL at h
  rcases List.mem_append.1 h with h | h
  · obtain ⟨i, hi, rfl⟩ := List.mem_map.1 h
    left
    omega
  · simp only [List.mem_cons, List.not_mem_nil, or_false] at h
    exact .inr h
theorem qwL_ok {n : Nat} (hn : n < 52) : WordOk (qwL n) 43 (12 + 2 * (1118 + n / 2) + n % 2) (12 + 2 * (1144 + n / 2) + n % 2) where
  len := by simp [qwL]
  m1 := by decide
  m2 := by decide
  q1 := by unfold qwL; rw [List.getElem?_append_right (by simp)]; simp
  q2 := by unfold qwL; rw [List.getElem?_append_right (by simp)]; simp
  ne := by omega
  n1 := fun h => by have := qwL_low h; omega
  n2 := fun h => by have := qwL_low h; omega
  lt := fun a ha => by
    rcases qwL_mem ha with h | h | h <;> omega
theorem wordsL_ok {wl : List Nat} (h : wl ∈ wordsL) : WOk wl ∧ ∀ x ∈ parL wl, 2076 ≤ x := by
  unfold wordsL at h
  rcases List.mem_append.1 h with h | h
  · obtain ⟨n, hn, rfl⟩ := List.mem_map.1 h
    have hn := List.mem_range.1 hn
    refine ⟨⟨_, _, _, pwL_ok hn⟩, fun x hx => ?_⟩
    rw [(pwL_ok hn).par] at hx
    simp only [List.mem_cons, List.not_mem_nil, or_false] at hx
    rcases hx with rfl | rfl <;> omega
  · obtain ⟨n, hn, rfl⟩ := List.mem_map.1 h
    have hn := List.mem_range.1 hn
    refine ⟨⟨_, _, _, qwL_ok hn⟩, fun x hx => ?_⟩
    rw [(qwL_ok hn).par] at hx
    simp only [List.mem_cons, List.not_mem_nil, or_false] at hx
    rcases hx with rfl | rfl <;> omega
theorem wordsL_pair : wordsL.Pairwise (fun a b => ∀ x ∈ parL b, x ∉ a) := by
  unfold wordsL
  refine List.pairwise_append.2 ⟨?_, ?_, ?_⟩
  · refine List.pairwise_map.2 ?_
    refine List.Pairwise.imp_of_mem ?_ (List.pairwise_lt_range (n := 86))
    intro a b ha hb hab x hx hxa
    have ha := List.mem_range.1 ha
    have hb := List.mem_range.1 hb
    rw [(pwL_ok hb).par] at hx
    obtain ⟨i, hi, e⟩ := pwL_mem.1 hxa
    simp only [List.mem_cons, List.not_mem_nil, or_false] at hx
    rcases hx with h | h <;> omega
  · refine List.pairwise_map.2 ?_
    refine List.Pairwise.imp_of_mem ?_ (List.pairwise_lt_range (n := 52))
    intro a b ha hb hab x hx hxa
    have ha := List.mem_range.1 ha
    have hb := List.mem_range.1 hb
    rw [(qwL_ok hb).par] at hx
    simp only [List.mem_cons, List.not_mem_nil, or_false] at hx
    rcases qwL_mem hxa with h2 | h2 | h2 <;> rcases hx with h | h <;> omega
  · intro a ha b hb x hx hxa
    obtain ⟨n, hn, rfl⟩ := List.mem_map.1 ha
    obtain ⟨k, hk, rfl⟩ := List.mem_map.1 hb
    have hn := List.mem_range.1 hn
    have hk := List.mem_range.1 hk
    rw [(qwL_ok hk).par] at hx
    obtain ⟨i, hi, e⟩ := pwL_mem.1 hxa
    simp only [List.mem_cons, List.not_mem_nil, or_false] at hx
    rcases hx with h | h <;> omega
/-- Encode: all words are codewords, and what lies ahead of the parity stays. -/
theorem penc_ok {d : List Nat} (hd : d.length = 2352) (h8 : B8 d) : SecOk (pencN d) ∧ ∀ j, j < 2076 → (pencN d)[j]? = d[j]? := by
  obtain ⟨h1, h2⟩ := fold_len wordsL d h8
  refine ⟨⟨h1.trans hd, h2, fold_code wordsL d hd h8 (fun wl hw => (wordsL_ok hw).1) wordsL_pair⟩, fun j hj => ?_⟩
  refine fold_keep wordsL d j (fun wl hw => ⟨(wordsL_ok hw).1, fun hx => ?_⟩)
  have := (wordsL_ok hw).2 j hx
  omega
end Go.Proofs.YtlnjphggfbiabaaGreat
