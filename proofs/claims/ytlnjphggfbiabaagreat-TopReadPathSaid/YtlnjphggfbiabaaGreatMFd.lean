/-
  productcode.Encode.
-/
import Derived.Test.YtlnjphggfbiabaaGreatMFb
import Derived.Test.YtlnjphggfbiabaaGreatMTa
import Derived.Test.YtlnjphggfbiabaaGreatHeld
import Derived.Sort.CutIn
namespace Go.Proofs.YtlnjphggfbiabaaGreat
open Go.RowKit Go.Shelf
set_option linter.unusedVariables false
attribute [local go_sem] Oper.semAt_some

theorem bytes_own {W W' : World} {row : Option Nat} {g e B : Nat} {l : List UInt8} (h : BytesAt W g e l) (hg : W.grownBy W' row) (hr : ∀ r, row = some r → B ≤ r ∧ ∃ o : Obj, W.heap[r]? = some o ∧ o.isCells = false) : BytesAt W' g e l := by
  obtain ⟨C, fr, hC, h2⟩ := h
  refine ⟨C, fr, ?_, h2⟩
  rw [hg.block g (Array.getElem?_eq_some_iff.1 hC).1 (fun e => ?_)]
  · exact hC
  · obtain ⟨_, o, ho, hc⟩ := hr g e.symm
    rw [hC] at ho
    injection ho with ho
    subst ho
    cases hc
theorem bytes_grown {W W' : World} {row : Option Nat} {g e : Nat} {l : List UInt8} (h : BytesAt W g e l) (hg : W.grownBy W' row) (hne : row ≠ some g) : BytesAt W' g e l := by
  obtain ⟨C, fr, hC, h2⟩ := h
  exact ⟨C, fr, (hg.block g (Array.getElem?_eq_some_iff.1 hC).1 (fun e => hne e.symm)).trans hC, h2⟩
theorem keeps_bytes {W W' : World} {g e : Nat} {l : List UInt8} (h : BytesAt W g e l) (hg : W.grownBy W' (some g)) : KeepsOthers W W' :=
  KeepsOthers.of_grownBy hg fun j o hj ho => by
    obtain ⟨C, fr, hC, _⟩ := h
    injection hj with hj
    subst hj
    rw [hC] at ho
    injection ho with ho
    subst ho
    rfl
def encStep (d wl : List Nat) : List Nat := putN d wl (rsEnc (takeN d (wl.take (wl.length - 2))) 2)
def pencK (d : List Nat) (k : Nat) : List Nat := (wordsL.take k).foldl encStep d
def pencN (d : List Nat) : List Nat := wordsL.foldl encStep d
theorem encStep_ok {d wl : List Nat} (h : B8 d) : (encStep d wl).length = d.length ∧ B8 (encStep d wl) :=
  ⟨putK_length _ _ _ _, putK_b8 h (rsEnc_len (takeN_b8 h _)).2 _⟩
theorem pencK_succ {d : List Nat} {k : Nat} {wl : List Nat} (h : wordsL[k]? = some wl) : pencK d (k + 1) = encStep (pencK d k) wl := by
  unfold pencK
  rw [List.take_add_one, h]
  simp
theorem pencK_ok {d : List Nat} (h : B8 d) : ∀ k, (pencK d k).length = d.length ∧ B8 (pencK d k)
  | 0 => ⟨rfl, h⟩
  | k + 1 => by
    obtain ⟨h1, h2⟩ := pencK_ok h k
    cases hk : wordsL[k]? with
    | none =>
      have hl : wordsL.length ≤ k := List.getElem?_eq_none_iff.1 hk
      have : pencK d (k + 1) = pencK d k := by unfold pencK; rw [List.take_of_length_le hl, List.take_of_length_le (by omega)]
      rw [this]
      exact ⟨h1, h2⟩
    | some wl =>
      rw [pencK_succ hk, (encStep_ok h2).1]
      exact ⟨h1, (encStep_ok h2).2⟩
theorem pencK_full (d : List Nat) : pencK d 138 = pencN d := by
  unfold pencK pencN
  rw [List.take_of_length_le (by rw [wordsL_length]; exact Nat.le_refl _)]
/-- The words lie within the sector. -/
theorem wordsL_in {wl : List Nat} (h : wl ∈ wordsL) : (wl.length = 26 ∨ wl.length = 45) ∧ ∀ a ∈ wl, 12 ≤ a ∧ a < 2352 := by
  unfold wordsL at h
  rcases List.mem_append.1 h with h | h
  · obtain ⟨n, hn, rfl⟩ := List.mem_map.1 h
    have hn := List.mem_range.1 hn
    refine ⟨.inl (by simp [pwL]), fun a ha => ?_⟩
    obtain ⟨i, hi, rfl⟩ := List.mem_map.1 ha
    have hi := List.mem_range.1 hi
    omega
  · obtain ⟨n, hn, rfl⟩ := List.mem_map.1 h
    have hn := List.mem_range.1 hn
    refine ⟨.inr (by simp [qwL]), fun a ha => ?_⟩
    unfold qwL at ha
    rcases List.mem_append.1 ha with ha | ha
    · obtain ⟨i, hi, rfl⟩ := List.mem_map.1 ha
      have hi := List.mem_range.1 hi
      omega
    · simp only [List.mem_cons, List.not_mem_nil, or_false] at ha
      rcases ha with rfl | rfl <;> omega
/-- What holds between the rounds of Encode: the box of the first offset, that of the slice, the bytes. -/
def PeI (w0 : World) (b6 b8 g cap : Nat) (d : List Nat) (_ : Unit) (pre : List Wd) (W : World) : Prop :=
  Below w0.heap.size w0 W ∧ RowAt W b6 3 #[.int .i64 12] ∧ RowAt W b8 75 #[.slice (some ⟨g, 0, none⟩) 2352 cap] ∧ BytesAt W g 5 (ofL (pencK d pre.length)) ∧ w0.heap.size ≤ g
theorem PeI.below {w0 A B : World} {b6 b8 g cap : Nat} {d : List Nat} {pre : List Wd} (h : PeI w0 b6 b8 g cap d () pre A) (hb : Below A.heap.size A B) : PeI w0 b6 b8 g cap d () pre B :=
  ⟨h.1.trans (hb.mono h.1.size), h.2.1.below hb h.2.1.lt, h.2.2.1.below hb h.2.2.1.lt, h.2.2.2.1.below hb h.2.2.2.1.lt, h.2.2.2.2⟩
theorem PeI.own {w0 : World} {b6 b8 g cap B : Nat} {d : List Nat} (hB : w0.heap.size ≤ B) (σ : Unit) : OwnFrom B (PeI w0 b6 b8 g cap d σ) := by
  rintro pre W W' row ⟨h1, h2, h3, h4, h5⟩ hg hr
  exact ⟨h1.grown hg h1.size (fun k e => Nat.le_trans hB (hr k e).1), rowAt_own h2 hg hr, rowAt_own h3 hg hr, bytes_own h4 hg hr, h5⟩
set_option maxRecDepth 100000 in
set_option maxHeartbeats 8000000 in
theorem penc_any (s : ByteArray) (w : World) (hs : s.size = 2352) :
    Calls Tryz.prog 31 #[.string s, .int .i64 0] w fun e w' => e = .returned (.tuple #[.string (natS (pencN (sN s))), .int .i64 0]) ∧ Below w.heap.size w w' := by
  have HS := Lib.hid hs
  have CF := Lib.hid (first_one w)
  have hcv := run_bytes_of_string (P := Tryz.prog) (w.alloc (.cells #[.int .i64 12] 3)) 9 75 5 s Tryz.underlying9 Tryz.underlying75 Tryz.underlying5
  have hcap := grownCap_ge (w.alloc (.cells #[.int .i64 12] 3)) s.size 0 5
  rw [hs] at hcv hcap
  generalize grownCap (w.alloc (.cells #[.int .i64 12] 3)) 2352 0 5 = cap at *
  refine (callsIn_wide (n := 5)).1 ?_
  refine callsIn_of_wp_marks Tryz.func31 rfl trivial ?_ rfl
  simp only [Tryz.ntmps31, List.size_toArray, List.length_cons, List.length_nil, Nat.reduceAdd, Nat.reduceSub, Array.replicate_succ, Array.replicate_zero, List.push_toArray, List.append_toArray, List.nil_append, List.cons_append]
  refine wpIn_wide.2 ?_
  go_wp2_with fail
  refine CF.out.mono ?_
  rintro e w1 ⟨rfl, rfl⟩
  go_wp2_with fail
  refine (words_any _).mono ?_
  rintro e w2 ⟨rfl, hw2⟩
  have H0 : Hid (PeI w w.heap.size (w.heap.size + 1 + 1) (w.heap.size + 1) cap (sN s) () [] w2) := Lib.hid (by
    rw [hw2]
    have h1 := RowAt.new w 3 #[.int .i64 12]
    have h2 := BytesAt.new (w.alloc (.cells #[.int .i64 12] 3)) 5 s cap
    have h3 := RowAt.new ((w.alloc (.cells #[.int .i64 12] 3)).alloc (.cells (bytesRow s cap) 5 ((bytesRow s cap).size, (bytesRow s cap).size + 1))) 75 #[.slice (some ⟨w.heap.size + 1, 0, none⟩) 2352 cap]
    simp only [World.size_alloc] at h2 h3
    have hb : Below w.heap.size w (((w.alloc (.cells #[.int .i64 12] 3)).alloc (.cells (bytesRow s cap) 5 ((bytesRow s cap).size, (bytesRow s cap).size + 1))).alloc (.cells #[.slice (some ⟨w.heap.size + 1, 0, none⟩) 2352 cap] 75)) := (((Below.refl _ _).alloc (Nat.le_refl _) _).alloc (by simp) _).alloc (by simp; omega) _
    refine ⟨hb.drew, (h1.alloc _).alloc _, h3, ?_, Nat.le_succ _⟩
    have h4 : ofL (pencK (sN s) ([] : List Wd).length) = s.data.toList := ofL_sN s
    rw [h4]
    exact (h2.below ((Below.refl _ _).alloc (Nat.le_refl _) _) h2.lt).drew)
  clear hw2 hcv CF
  go_wp2_with fail
  refine (wpIn_wide (n := 5)).1 ?_
  refine range_own rfl (by omega) (gf := 82) (lb := #[]) rfl trivial (enters_of Tryz.func82 (by kernel_rfl) rfl)
    (encs := Wd.enc) (fun _ => rfl) (I := PeI w w.heap.size (w.heap.size + 1 + 1) (w.heap.size + 1) cap (sN s)) (Px := WdP) (words1_seq _ (fun pre A B h hb => h.below hb)) (fun σ => PeI.own H0.out.1.size σ) (fun pre => WdP.own pre) H0.out
    (fun x => { tmps := #[.string s, .int .i64 0, undef, undef, .string ⟨#[]⟩, .int .i64 0, .pointer (some ⟨w.heap.size, 0, none⟩), .bool true, .pointer (some ⟨w.heap.size + 1 + 1, 0, none⟩), .slice x.A x.l.length x.c, undef, undef, undef,
      .tuple #[.int .i64 12, .bool true], .int .i64 0, .tuple #[.int .i64 12, .bool true], .int .i64 12, .bool true, .bool true, .bool false, .bool false, .string s, .int .i64 2352, .bool false, .bool false, .string s,
      .slice (some ⟨w.heap.size + 1, 0, none⟩) 2352 cap, .func (.func 82) #[] #[], .slice x.A x.l.length x.c, undef, undef, undef, undef, undef, undef, undef, undef, undef, undef, undef, undef, undef, undef, undef, undef, undef, undef, undef, undef], defers := [] }) ?assign ?body ?done
  case assign =>
    rintro l ⟨xA, xc, xl⟩ W K hK
    dsimp only [Wd.enc] at hK ⊢
    gi_wp2
    exact hK
  case body =>
    rintro l σ pre ⟨xA, xc, xl⟩ W hI ⟨hwo, hpm, hwl⟩
    dsimp only at hwo hwl ⊢
    obtain ⟨h1, h2, h3, h4, h5⟩ := hI
    obtain ⟨hwn, hwi⟩ := wordsL_in (List.mem_of_getElem? hwl)
    have HWL := Lib.hid hwl
    have HWI := Lib.hid hwi
    obtain ⟨hpl, hp8⟩ := pencK_ok (sN_b8 s) pre.length
    rw [sN_length, HS.out] at hpl
    obtain ⟨D, hD⟩ : ∃ D, pencK (sN s) pre.length = D := ⟨_, rfl⟩
    have HDD := Lib.hid hD
    rw [hD] at hpl hp8 h4
    obtain ⟨xg, xk, hv, _, _, hxk⟩ := own_form hwo (by omega)
    injection hv with hA _ hc
    subst hA hc
    obtain ⟨n, hn⟩ : ∃ n, xl.length = n := ⟨_, rfl⟩
    have HN := Lib.hid hn
    obtain ⟨m, hm⟩ : ∃ m, n = m + 2 := ⟨n - 2, by omega⟩
    rw [hn] at hwo hwn hxk ⊢
    have HO := Lib.hid hwo
    have H1 := Lib.hid h1
    have H2 := Lib.hid h2
    have H3 := Lib.hid h3
    have H4 := Lib.hid h4
    have H5 := Lib.hid h5
    have HPL := Lib.hid hpl
    have HP8 := Lib.hid hp8
    have hm1 : 24 ≤ m := by omega
    have hm2 : m ≤ 43 := by omega
    have hmI : (n : Int) - 2 = (m : Int) := by omega
    have hmw : IntKind.i64.wrap ((n : Int) - 2) = (m : Int) := by rw [hmI]; exact IntWalk.i64_in _ (by omega)
    have hmw2 : IntKind.i64.wrap (m : Int) = (m : Int) := IntWalk.i64_in _ (by omega)
    have hmk : (m : Int) ≤ (xc : Int) := by omega
    have hm0 : (0 : Int) ≤ (m : Int) := by omega
    have HTL : Hid ((xl.take m).length = m) := Lib.hid (by rw [List.length_take]; omega)
    have CT := Lib.hid (fun (w' : World) (hb : Below W.heap.size W w') => take_any D (xl.take m) (some ⟨w.heap.size + 1, 0, none⟩) (some ⟨xg, 0, none⟩) cap xc w'
      (by
        have h9 := bytes_slat (s := natS D) (w := w') (g := w.heap.size + 1) (e := 5) (by
          have h10 := H4.out.below hb H4.out.lt
          rw [← sN_natS HP8.out, ofL_sN] at h10
          exact h10)
        rw [sN_natS HP8.out] at h9
        exact h9)
      (by
        have h9 := slat_take (SlAt.of_own' (own_all HO.out hb) (Nat.le_refl _)) m
        unfold posV at h9 ⊢
        rw [List.map_take]
        exact h9) HP8.out (fun a ha => by have := HWI.out a (List.mem_of_mem_take ha); rw [HPL.out]; exact this) (by rw [HTL.out]; omega) (by rw [HPL.out]; omega))
    rw [HTL.out, HPL.out] at CT
    obtain ⟨SY, hSY⟩ : ∃ SY, rsEnc (takeN D (xl.take m)) 2 = SY := ⟨_, rfl⟩
    have HXE := Lib.hid hSY
    have HSL : Hid (SY.length = n ∧ B8 SY) := Lib.hid (by
      rw [← hSY]
      obtain ⟨h1, h2⟩ := rsEnc_len (par := 2) (takeN_b8 HP8.out (xl.take m))
      rw [h1, takeN_length, HTL.out]
      exact ⟨hm.symm, h2⟩)
    have HST : Hid (encStep D xl = putN D xl SY) := Lib.hid (by unfold encStep; rw [hn, hm, Nat.add_sub_cancel, hSY])
    clear hSY
    have hn45 : n ≤ 45 := by omega
    clear h1 h2 h3 h4 h5 hwo hwi hwl hpl hp8 hn hD hwn hpm hm
    gi_upto_region 7 with fail
    refine wpIn_held_of (S := fun w' => Below W.heap.size W w') (by kernel_rfl) (by kernel_rfl) (by rintro ⟨a, w, h⟩; exact h) (Below.refl _ _).drew (fun hHeld => ?_)
    refine wpAnyH_take (i := 0) (oi := ?o301) (v := ?v301) ?hi301 (by kernel_rfl) (by kernel_rfl) (by kernel_rfl) ?hq301 ?hy301 (by assumption) ?hr301
    case hi301 => (simp only [List.getElem?_toArray, List.getElem?_cons_zero]; rfl)
    case hy301 => ((refine .inl ⟨by rfl, ?_⟩); intro w hS; have q8 := (H3.out.below hS H3.out.lt).cell; go_simp; (try with_reducible rfl))
    case hq301 => exact fun _ _ _ h => h
    (simp only [Act.put, List.setIfInBounds_toArray, List.set_cons_zero, List.set_cons_succ])
    refine wpAnyH_take (i := 1) (oi := ?o302) (v := ?v302) ?hi302 (by kernel_rfl) (by kernel_rfl) (by kernel_rfl) ?hq302 ?hy302 (by assumption) ?hr302
    case hi302 => (simp only [List.getElem?_toArray, List.getElem?_cons_succ, List.getElem?_cons_zero]; rfl)
    case hy302 => ((refine .inl ⟨by rfl, ?_⟩); intro w hS; go_simp; (try with_reducible rfl))
    case hq302 => exact fun _ _ _ h => h
    (simp only [Act.put, List.setIfInBounds_toArray, List.set_cons_zero, List.set_cons_succ])
    refine wpAnyH_take (i := 2) (oi := ?o303) (v := ?v303) ?hi303 (by kernel_rfl) (by kernel_rfl) (by kernel_rfl) ?hq303 ?hy303 (by assumption) ?hr303
    case hi303 => (simp only [List.getElem?_toArray, List.getElem?_cons_succ, List.getElem?_cons_zero]; rfl)
    case hy303 => ((refine .inl ⟨by rfl, ?_⟩); intro w hS; go_simp; (try with_reducible rfl))
    case hq303 => exact fun _ _ _ h => h
    (simp only [Act.put, List.setIfInBounds_toArray, List.set_cons_zero, List.set_cons_succ])
    refine wpAnyH_take (i := 3) (oi := ?o304) (v := ?v304) ?hi304 (by kernel_rfl) (by kernel_rfl) (by kernel_rfl) ?hq304 ?hy304 (by assumption) ?hr304
    case hi304 => (simp only [List.getElem?_toArray, List.getElem?_cons_succ, List.getElem?_cons_zero]; rfl)
    case hy304 => ((refine .inl ⟨by rfl, ?_⟩); intro w hS; go_simp; (try with_reducible rfl))
    case hq304 => exact fun _ _ _ h => h
    (simp only [Act.put, List.setIfInBounds_toArray, List.set_cons_zero, List.set_cons_succ])
    refine wpAnyH_take (i := 4) (oi := ?o305) (v := ?v305) ?hi305 (by kernel_rfl) (by kernel_rfl) (by kernel_rfl) ?hq305 ?hy305 (by assumption) ?hr305
    case hi305 => (simp only [List.getElem?_toArray, List.getElem?_cons_succ, List.getElem?_cons_zero]; rfl)
    case hy305 => ((refine .inl ⟨by rfl, ?_⟩); intro w hS; go_simp; (try with_reducible rfl))
    case hq305 => exact fun _ _ _ h => h
    (simp only [Act.put, List.setIfInBounds_toArray, List.set_cons_zero, List.set_cons_succ])
    refine wpAnyH_take (i := 5) (oi := ?o306) (v := ?v306) ?hi306 (by kernel_rfl) (by kernel_rfl) (by kernel_rfl) ?hq306 ?hy306 (by assumption) ?hr306
    case hi306 => (simp only [List.getElem?_toArray, List.getElem?_cons_succ, List.getElem?_cons_zero]; rfl)
    case hy306 => ((refine .inl ⟨by rfl, ?_⟩); intro w hS; go_simp; (try with_reducible rfl))
    case hq306 => exact fun _ _ _ h => h
    (simp only [Act.put, List.setIfInBounds_toArray, List.set_cons_zero, List.set_cons_succ])
    refine wpAnyH_take (i := 6) (oi := ?o307) (v := ?v307) ?hi307 (by kernel_rfl) (by kernel_rfl) (by kernel_rfl) ?hq307 ?hy307 (by assumption) ?hr307
    case hi307 => (simp only [List.getElem?_toArray, List.getElem?_cons_succ, List.getElem?_cons_zero]; rfl)
    case hy307 => ((refine .inl ⟨by rfl, ?_⟩); intro w hS; have q6 := (H2.out.below hS H2.out.lt).cell; go_simp; (try with_reducible rfl))
    case hq307 => exact fun _ _ _ h => h
    (simp only [Act.put, List.setIfInBounds_toArray, List.set_cons_zero, List.set_cons_succ])
    refine wpAnyH_ready (rs := [7]) (by kernel_rfl) (by simp) ?_
    refine AllReadyH.cons rfl (fun K hK => ?_) AllReadyH.nil
    go_simp
    go_wp2_with ((with_reducible refine (CT.out _ hHeld).mono ?_); rintro e w3 ⟨rfl, hb3⟩)
    refine hK.out _ _ (hHeld.trans (hb3.mono hHeld.size)) (fun hHeld1 => ?_)
    clear hK K
    (try simp only [Act.put, List.setIfInBounds_toArray, List.set_cons_zero, List.set_cons_succ])
    clear hb3
    clear hHeld; have hHeld := hHeld1; clear hHeld1
    refine wpAnyH_take (i := 8) (oi := ?o308) (v := ?v308) ?hi308 (by kernel_rfl) (by kernel_rfl) (by kernel_rfl) ?hq308 ?hy308 (by assumption) ?hr308
    case hi308 => (simp only [List.getElem?_toArray, List.getElem?_cons_succ, List.getElem?_cons_zero]; rfl)
    case hy308 => ((refine .inl ⟨by rfl, ?_⟩); intro w hS; go_simp; (try with_reducible rfl))
    case hq308 => exact fun _ _ _ h => h
    (simp only [Act.put, List.setIfInBounds_toArray, List.set_cons_zero, List.set_cons_succ])
    refine wpAnyH_done (by kernel_rfl) ?_ _
    clear hmw hmw2 hmk hm0
    gi_upto_region 8 with fail
    refine wpIn_list_of (by kernel_rfl) (by rintro ⟨a, w, h⟩; exact h) ?_
    have CE := Lib.hid (rsencode_any (natS (takeN D (xl.take m))) 2 w3 (Or.inl rfl) (by rw [natS_size, takeN_length, HTL.out]; omega) (by rw [natS_size, takeN_length, HTL.out]; omega))
    rw [sN_natS (takeN_b8 HP8.out _), HXE.out] at CE
    have HH3 := Lib.hid hHeld
    clear hHeld CT
    go_wp2_with fail
    refine CE.out.mono ?_
    rintro e w4 ⟨rfl, hb4⟩
    have HB4 := Lib.hid (HH3.out.trans (hb4.mono HH3.out.size))
    clear hb4 CE HH3
    go_wp2_with fail
    gi_upto_region 9 with fail
    refine wpIn_list_of (by kernel_rfl) (by rintro ⟨a, w, h⟩; exact h) ?_
    have q8 := (H3.out.below HB4.out H3.out.lt).cell
    have q6 := (H2.out.below HB4.out H2.out.lt).cell
    have CP := Lib.hid (put_any D xl SY (w.heap.size + 1) cap (some ⟨xg, 0, none⟩) xc w4 (H4.out.below HB4.out H4.out.lt) (by rw [HN.out]; exact own_all HO.out HB4.out) HP8.out HSL.out.2 (by rw [HSL.out.1, HN.out]) (by rw [HPL.out]; exact HWI.out) (by rw [HN.out]; omega) (by rw [HPL.out]; omega))
    rw [HN.out, HPL.out] at CP
    go_wp2_with fail
    refine CP.out.mono ?_
    rintro e w5 ⟨rfl, hg5, hby5⟩
    have HG5 := Lib.hid hg5
    have HB5 := Lib.hid hby5
    clear hg5 hby5 CP q8 q6
    go_wp2_with fail
    have hk : KeepsOthers W w5 := (KeepsOthers.of_below HB4.out).trans (keeps_bytes (H4.out.below HB4.out H4.out.lt) HG5.out)
    refine ⟨hk, (H1.out.trans (HB4.out.mono H1.out.size)).grown HG5.out (Nat.le_trans H1.out.size HB4.out.size) (fun k e => by cases e; exact H5.out), (H2.out.below HB4.out H2.out.lt).grown HG5.out (by simp), (H3.out.below HB4.out H3.out.lt).grown HG5.out (by simp), ?_, H5.out⟩
    have h9 := HB5.out
    have e9 : putN D xl SY = pencK (sN s) (pre ++ [(⟨some ⟨xg, 0, none⟩, xc, xl⟩ : Wd)]).length := by
      rw [List.length_append]
      show _ = pencK (sN s) (pre.length + 1)
      rw [pencK_succ HWL.out, HDD.out, HST.out]
    rw [e9] at h9
    exact h9
  case done =>
    rintro D σ xs W hD hS ⟨h1, h2, h3, h4, h5⟩ hK
    have hxl : xs.length = 138 := by
      have := congrArg List.length (show xs.map (·.l) = wordsL from hS)
      rw [List.length_map, wordsL_length] at this
      exact this
    rw [hxl, pencK_full] at h4
    have hpl : (ofL (pencN (sN s))).length = 2352 := by
      unfold ofL
      rw [List.length_map, ← pencK_full, (pencK_ok (sN_b8 s) 138).1, sN_length, HS.out]
    have hcv := h4.string (P := Tryz.prog) 75 9 Tryz.underlying75 Tryz.underlying5 Tryz.underlying9 cap
    rw [hpl] at hcv
    have e9 : (⟨(ofL (pencN (sN s))).toArray⟩ : ByteArray) = natS (pencN (sN s)) := rfl
    rw [e9] at hcv
    have q8 := h3.cell
    have hg := grownBy_putObj' W D (.deferred none)
    have HF := Lib.hid (h1.grown hg h1.size (fun k e => by cases e; have := H0.out.1.size; omega))
    clear h1 h2 h3 h4 h5 hg e9 hpl
    gi_wp2
    go_wp2_with fail
    refine ⟨by simp, .inl ⟨_, _, rfl, run_takeDeferred hK, ?_⟩⟩
    refine ⟨.tuple #[.string (natS (pencN (sN s))), .int .i64 0], ?_, rfl, HF.out⟩
    simp [results, Tryz.f31, go_sem]
end Go.Proofs.YtlnjphggfbiabaaGreat
