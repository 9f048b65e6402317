/-
  The walk of the law PacketwriterSessions.
-/
import Derived.Test.YtdmdfpdigoijoaaPwSe4
import Derived.Test.YtdmdfpdigoijoaaOpenL
namespace Go.Proofs.Ytdmdfpdigoijoaa
open Go.ChangeShapes Go.WideShapes Go.ChangeAt Go.RowKit Go.Deep
set_option linter.unusedVariables false

set_option maxRecDepth 100000 in
set_option maxHeartbeats 2000000 in
theorem exec_bad (A A' A2 : Option Addr) (c c' c2 : Nat) (img : Img) (S : List Ses) (ws : List Wr) (st ct n : Int) (w : World) (hs : SlAt w w.heap.size A (strV img)) (h : WrAt w w.heap.size A' ws) (hi : img.length ≤ 1000000) (hw : ws.length ≤ 1000000) (hx : ∀ x ∈ ws, x.bl.length ≤ 1000000) (hS : nSt ws ≤ 1000000)
    (hE : (cutR img ws n).2 ≠ 0) :
    Calls Try.prog 31 #[.agg #[.slice A img.length c, .slice A2 S.length c2], .agg #[.int .i64 st, .int .i64 ct], .slice A' ws.length c', .int .i64 n] w (ExeRes (exeR img ws n st ct S) w) := by
  have HA : Hid (Arg w A A' img ws) := Lib.hid ⟨hs, h⟩
  have CC := Lib.hid (fun w s h => cut_any A A' c c' img ws n w s h hi hw hx (by omega))
  obtain ⟨R, hR⟩ : ∃ R, cutR img ws n = R := ⟨_, rfl⟩
  have HF : Hid (exeR img ws n st ct S = ([], [], (cutR img ws n).2)) := Lib.hid (by unfold exeR; rw [if_pos hE])
  rw [hR] at HF hE
  have HR := Lib.hid hR
  obtain ⟨E, hE2⟩ : ∃ E, R.2 = E := ⟨_, rfl⟩
  have HE := Lib.hid hE2
  rw [hE2] at HF hE
  obtain ⟨li, hli⟩ : ∃ li, img.length = li := ⟨_, rfl⟩
  obtain ⟨m, hm⟩ : ∃ m, ws.length = m := ⟨_, rfl⟩
  obtain ⟨ls, hls⟩ : ∃ ls, S.length = ls := ⟨_, rfl⟩
  rw [hli, hm] at CC
  rw [hli, hm, hls]
  clear hs h hi hw hx hS hli hm hls hR hE2
  have HSt := Lib.hid (((((St.start w).new (g := w.heap.size) rfl #[.slice A li c, .slice A2 ls c2] 55).new (g := w.heap.size + 1) (by simp) #[.int .i64 st, .int .i64 ct] 57).new (g := w.heap.size + 1 + 1) (by simp) #[.int .i64 n] 3).new (g := w.heap.size + 1 + 1 + 1) (by simp) #[.slice none 0 0, .slice none 0 0] 55)
  go_enter Try.func31, Try.ntmps31
  have q0 := (HSt.out.at (i := 3) rfl).cell
  have q2 := (HSt.out.at (i := 1) rfl).cell
  go_wp2_with fail
  refine (CC.out _ (HA.out.below HSt.out.bel).s (HA.out.below HSt.out.bel).t).mono ?_
  rintro e w1 ⟨hb1, A1, c1, rfl, hs1⟩
  rw [HR.out, HE.out]
  have H1 := Lib.hid (St.call hb1 HSt.out)
  clear hb1 hs1 q0 q2 HSt
  have f2 := (H1.out.at (i := 0) rfl).frozen
  have q2 := (H1.out.at (i := 0) rfl).cell
  have H2 := Lib.hid ((H1.out.set 0 rfl 0 (.slice none 0 0)).set 0 rfl 1 (.slice none 0 0))
  go_wp2_with fail
  have q3 := (H2.out.at (i := 0) rfl).cell
  exact bodyPost_ret (v := .tuple #[.agg #[.slice none 0 0, .slice none 0 0], .int .i64 E]) (by simp [results, Try.results31, go_sem, q3]) rfl ⟨H2.out.bel, none, 0, none, 0, by rw [HF.out]; rfl, by rw [HF.out]; exact SlAt.nil _ _ _, by rw [HF.out]; exact SlAt.nil _ _ _⟩
theorem exec_any (A A' A2 : Option Addr) (c c' c2 : Nat) (img : Img) (S : List Ses) (ws : List Wr) (st ct n : Int) (w : World) (hs : SlAt w w.heap.size A (strV img)) (h2 : SlAt w w.heap.size A2 (flat encSe S)) (h : WrAt w w.heap.size A' ws) (hi : img.length ≤ 1000000) (hw : ws.length ≤ 1000000) (hx : ∀ x ∈ ws, x.bl.length ≤ 1000000) (hS : nSt ws ≤ 1000000) (hl : S.length ≤ 1000) :
    Calls Try.prog 31 #[.agg #[.slice A img.length c, .slice A2 S.length c2], .agg #[.int .i64 st, .int .i64 ct], .slice A' ws.length c', .int .i64 n] w (ExeRes (exeR img ws n st ct S) w) := by
  by_cases hE : (cutR img ws n).2 = 0
  · obtain ⟨hv, h0, hn⟩ := cutR_zero rfl hE
    obtain ⟨N, rfl⟩ : ∃ N : Nat, n = N := ⟨n.toNat, by omega⟩
    exact exec_go A A' A2 c c' c2 img S ws st ct N w hs h2 h hi hw hx hS hl hv (by omega)
  · exact exec_bad A A' A2 c c' c2 img S ws st ct n w hs h hi hw hx hS hE

instance : Inhabited Ses := ⟨⟨0, 0, false⟩⟩
/-- A disc that came in. -/
structure Dsc where
  A : Option Addr
  c : Nat
  img : Img
  A2 : Option Addr
  c2 : Nat
  S : List Ses
def discV (x : Dsc) : Value := .agg #[.slice x.A x.img.length x.c, .slice x.A2 x.S.length x.c2]
structure DscIn (w : World) (x : Dsc) : Prop where
  s : SlAt w w.heap.size x.A (strV x.img)
  t : SlAt w w.heap.size x.A2 (flat encSe x.S)
structure Spn where
  st : Int
  ct : Int
def spanV (x : Spn) : Value := .agg #[.int .i64 x.st, .int .i64 x.ct]
section
variable {H : Type} {enc : TypeId × Value → H} {w : World} {base : Nat} {spare : Nat → Bool} {held : Bool}
set_option maxRecDepth 100000 in
theorem open_ses {n : Nat} {cs : List Value} {y : DataW H × List MemPlace} (hl : cs.length = 3) (h : DataW.trod enc Try.prog w base spare held n 65 cs = some y) : ∃ x, cs = encSe x ∧ True := by
  have c3 : Try.prog.cellsOf 3 = 1 := by kernel_rfl
  have c4 : Try.prog.cellsOf 4 = 1 := by kernel_rfl
  match cs, hl with
  | [a0, a1, a2], _ =>
    obtain ⟨xs, n, _, hx, _, hlen, hg⟩ := DataW.trod_struct Try.underlying65 h
    match xs, hlen with
    | [y0, y1, y2], _ =>
      have g0 := hg 0 _ rfl
      have g1 := hg 1 _ rfl
      have g2 := hg 2 _ rfl
      simp [c3, c4] at g0 g1 g2
      obtain ⟨n0, e0, _, k0⟩ := DataW.trod_int Try.underlying3 g0
      obtain ⟨n1, e1, _, k1⟩ := DataW.trod_int Try.underlying3 g1
      obtain ⟨n2, e2, _⟩ := DataW.trod_bool Try.underlying4 g2
      simp at e0 e1 e2
      subst e0 e1 e2
      exact ⟨⟨n0, n1, n2⟩, rfl, trivial⟩
theorem slice_of {t e : TypeId} {fuel : Nat} {a : Value} {y : DataW H × List MemPlace} (ht : Try.prog.underlying t = some (.slice e)) (h : DataW.trod enc Try.prog w base spare held fuel t [a] = some y) : ∃ A l c, a = .slice A l c := by
  rcases open_slice ht h with ⟨hc, _⟩ | ⟨ad, l, c, m, n, D, Pl, hc, _⟩
  · simp at hc; exact ⟨_, _, _, hc⟩
  · simp at hc; exact ⟨_, _, _, hc⟩
set_option maxRecDepth 100000 in
theorem open_disc {r : Reach} {b0 : Nat} {v : Value} {d : DataW H} {p : List MemPlace} (hv : Value.okWide Try.prog w r b0 55 v) (h : DataW.Trod enc Try.prog w base spare held 55 v d p) :
    ∃ x : Dsc, v = discV x ∧ DscIn w x := by
  have c25 : Try.prog.cellsOf 55 = 2 := by kernel_rfl
  have c1 : Try.prog.cellsOf 23 = 1 := by kernel_rfl
  have c2 : Try.prog.cellsOf 53 = 1 := by kernel_rfl
  obtain ⟨cs, rfl, hsz⟩ := okWide_struct Try.underlying55 hv
  obtain ⟨l⟩ := cs
  have hl := hsz.trans c25
  clear hsz
  match l, hl with
  | [a0, a1], _ =>
    obtain ⟨fuel, hf⟩ := h
    obtain ⟨xs, n, _, hx, _, hlen, hg⟩ := DataW.trod_struct Try.underlying55 hf
    match xs, hlen with
    | [y0, y1], _ =>
      have g0 := hg 0 _ rfl
      have g1 := hg 1 _ rfl
      simp [Value.cells, c1, c2] at g0 g1
      obtain ⟨A, l, c, rfl⟩ := slice_of Try.underlying23 g0
      obtain ⟨A2, l2, c3, rfl⟩ := slice_of Try.underlying53 g1
      obtain ⟨im, him⟩ := open_strs Try.underlying23 Try.underlying9 (by kernel_rfl) g0
      obtain ⟨S, hS⟩ := open_list (α := Ses) (encA := encSe) (Good := fun _ => True) (k := 3) encSe_length (by decide) Try.underlying53 (by kernel_rfl) (fun n cs y hl hy => open_ses hl hy) g1
      obtain ⟨h1, _, _, h4, _⟩ := him.strs
      obtain ⟨k1, _, _, k4, _⟩ := hS
      subst h1 k1
      exact ⟨⟨A, c, im, A2, c3, S⟩, rfl, h4, k4⟩
set_option maxRecDepth 100000 in
theorem open_span {r : Reach} {b0 : Nat} {v : Value} {d : DataW H} {p : List MemPlace} (hv : Value.okWide Try.prog w r b0 57 v) (h : DataW.Trod enc Try.prog w base spare held 57 v d p) :
    ∃ x : Spn, v = spanV x ∧ True := by
  have c25 : Try.prog.cellsOf 57 = 2 := by kernel_rfl
  have c1 : Try.prog.cellsOf 3 = 1 := by kernel_rfl
  obtain ⟨cs, rfl, hsz⟩ := okWide_struct Try.underlying57 hv
  obtain ⟨l⟩ := cs
  have hl := hsz.trans c25
  clear hsz
  match l, hl with
  | [a0, a1], _ =>
    obtain ⟨fuel, hf⟩ := h
    obtain ⟨xs, n, _, hx, _, hlen, hg⟩ := DataW.trod_struct Try.underlying57 hf
    match xs, hlen with
    | [y0, y1], _ =>
      have g0 := hg 0 _ rfl
      have g1 := hg 1 _ rfl
      simp [Value.cells, c1] at g0 g1
      obtain ⟨n0, e0, _, k0⟩ := DataW.trod_int Try.underlying3 g0
      obtain ⟨n1, e1, _, k1⟩ := DataW.trod_int Try.underlying3 g1
      simp at e0 e1
      subst e0 e1
      exact ⟨⟨n0, n1⟩, rfl, trivial⟩
end
theorem noclose_steps {ws : List Wr} (h : ws.any (·.close) = false) : ∀ s ∈ stepsL ws, s.cl = false := by
  intro s hs
  unfold stepsL at hs
  obtain ⟨x, hx, hs⟩ := List.mem_flatMap.1 hs
  have hc : x.close = false := by
    cases hq : x.close with
    | false => rfl
    | true =>
      have : ws.any (·.close) = true := List.any_eq_true.2 ⟨x, hx, hq⟩
      rw [h] at this; cases this
  unfold stepsW at hs
  rw [hc, if_neg (by simp), List.append_nil] at hs
  unfold stepsB at hs
  obtain ⟨i, hi, rfl⟩ := List.mem_map.1 hs
  rfl
theorem noclose_ses {st ct : Int} {steps : List Stp} {S : List Ses} (h : ∀ s ∈ steps, s.cl = false) : ∀ k, sesK st ct steps S k = S
  | 0 => rfl
  | k + 1 => by
    have ih := noclose_ses (st := st) (ct := ct) (S := S) h k
    cases hs : steps[k]? with
    | none => unfold sesK; rw [hs]; exact ih
    | some s => rw [sesK_succ hs, h s (List.mem_of_getElem? hs), if_neg (by simp)]; exact ih
theorem exeR_len {img : Img} {ws : List Wr} {n st ct : Int} {S : List Ses} (hg : FewG img ws) : (exeR img ws n st ct S).1.length ≤ 1000000 ∧ (exeR img ws n st ct S).2.1.length ≤ 1000000 := by
  unfold exeR
  split
  · exact ⟨Nat.zero_le _, Nat.zero_le _⟩
  · split
    · exact ⟨Nat.zero_le _, Nat.zero_le _⟩
    · rename_i h
      exact ⟨cutR_len' hg, by dsimp only; omega⟩
theorem exeR_same {img : Img} {ws : List Wr} {n st ct : Int} {S : List Ses} (h : (exeR img ws n st ct S).2.2 = 0) (hc : ws.any (·.close) = false) : (exeR img ws n st ct S).2.1 = S := by
  unfold exeR at h ⊢
  split at h
  · rename_i h1; exact absurd h h1
  · rename_i h1
    rw [if_neg h1]
    split at h
    · cases h
    · rename_i h2
      rw [if_neg h2]
      exact noclose_ses (noclose_steps hc) _
set_option maxRecDepth 100000 in
set_option maxHeartbeats 4000000 in
theorem sessions_walk (x : Dsc) (y : Spn) (A' : Option Addr) (len' cap' : Nat) (ws : List Wr) (n : Int) (w : World) (i0 : DscIn w x) (i1 : True) (i2 : IsL encW (WrG w) w A' len' cap' ws) (i3 : (Lit.int .i64 n).wf = true) :
    Calls Try.prog 8 #[discV x, spanV y, .slice A' len' cap', .int .i64 n] w fun e w' => e = .returned (.bool true) ∧ Below w.heap.size w w' := by
  obtain ⟨A, c, img, A2, c2, S⟩ := x
  obtain ⟨st, ct⟩ := y
  obtain ⟨hs, h2⟩ := i0
  obtain ⟨rfl, _, _, hw⟩ := i2.wrs
  unfold discV spanV
  dsimp only at hs h2 ⊢
  have HA : Hid (Arg w A A' img ws) := Lib.hid ⟨hs, hw⟩
  have HS2 := Lib.hid h2
  have CF := Lib.hid (fun w h => few_any A A' c cap' img ws w h)
  have CE := Lib.hid (fun w s t h gi gw gx gn gl => exec_any A A' A2 c cap' c2 img S ws st ct n w s t h gi gw gx gn gl)
  have CR := Lib.hid (fun w s t h gi gw gx gn gl => rexec_any A A' A2 c cap' c2 img S ws st ct n w s t h gi gw gx gn gl)
  have CC := Lib.hid (fun w h gl => scontains_any A' cap' ws w h gl)
  clear i2 i3 hs hw h2
  obtain ⟨li, hli⟩ : ∃ li, img.length = li := ⟨_, rfl⟩
  obtain ⟨lw, hlw⟩ : ∃ lw, ws.length = lw := ⟨_, rfl⟩
  obtain ⟨ls, hls⟩ : ∃ ls, S.length = ls := ⟨_, rfl⟩
  have HLI := Lib.hid hli
  have HLW := Lib.hid hlw
  have HLS := Lib.hid hls
  rw [hli, hlw] at CF
  rw [hli, hlw, hls] at CE CR ⊢
  rw [hlw] at CC
  clear hli hlw hls
  have HSt := Lib.hid (((St.start w).new (g := w.heap.size) rfl #[.slice A li c, .slice A2 ls c2] 55).new (g := w.heap.size + 1) (by simp) #[.int .i64 st, .int .i64 ct] 57)
  go_enter Try.func8, Try.ntmps8
  go_wp2_with fail
  refine (awake_any _).mono ?_
  rintro e w0 ⟨rfl, hb0⟩
  have H0 := Lib.hid (St.call hb0 HSt.out)
  clear hb0 HSt
  have q0 := (H0.out.at (i := 1) rfl).cell
  have q1 := (H0.out.at (i := 0) rfl).cell
  go_wp2_with fail
  refine (CF.out _ (HA.out.below H0.out.bel).t).mono ?_
  rintro e w' ⟨rfl, rfl⟩
  cases hF : fewB img ws with
  | false =>
    clear hF
    go_wp2_with fail
    go_ret
    exact ⟨rfl, H0.out.bel⟩
  | true =>
  have HG := Lib.hid (few_of hF)
  have hli6 : li ≤ 600 := by rw [← HLI.out]; exact HG.out.i
  have hlw6 : lw ≤ 30 := by rw [← HLW.out]; exact HG.out.w
  clear hF
  by_cases h20 : 20 < ls
  · have h20I : (20 : Int) < (ls : Int) := by omega
    go_wp2_with fail
    go_ret
    exact ⟨rfl, H0.out.bel⟩
  · have h20I : ¬ (20 : Int) < (ls : Int) := by omega
    have HA0 := Lib.hid (HA.out.below H0.out.bel)
    have HT0 := Lib.hid ((HS2.out.below H0.out.bel).mono H0.out.bel.size)
    have hn6 := HG.out.n
    go_wp2_with fail
    refine (CE.out _ HA0.out.s HT0.out HA0.out.t (by omega) (by omega) HG.out.x6 (by omega) (by omega)).mono ?_
    rintro e w1 ⟨hb1, B1, d1, B2, d2, rfl, hs1, ht1⟩
    obtain ⟨R, hR⟩ : ∃ R, exeR img ws n st ct S = R := ⟨_, rfl⟩
    have HRL := Lib.hid (exeR_len (n := n) (st := st) (ct := ct) (S := S) HG.out)
    have HRS := Lib.hid (fun h hc => exeR_same (img := img) (ws := ws) (n := n) (st := st) (ct := ct) (S := S) h hc)
    rw [hR] at hs1 ht1 HRL HRS CR ⊢
    have H1 := Lib.hid ((St.call hb1 H0.out).new (g := w1.heap.size) rfl #[.slice B1 R.1.length d1, .slice B2 R.2.1.length d2] 55)
    have hbA : Below w1.heap.size w1 (w1.alloc (.cells #[.slice B1 R.1.length d1, .slice B2 R.2.1.length d2] 55)) := (Below.refl _ _).alloc (Nat.le_refl _) _
    have HX1 := Lib.hid (And.intro ((hs1.below hbA).mono hbA.size) ((ht1.below hbA).mono hbA.size))
    clear hb1 hs1 ht1 hbA q0 q1 HA0 HT0 hR
    have hlt0 := (St.call (Below.refl _ _) H1.out).lt (i := 2) rfl
    have q0 := (H1.out.at (i := 2) rfl).cell
    have q1 := (H1.out.at (i := 1) rfl).cell
    have q9 := (H1.out.at (i := 0) rfl).cell
    go_wp2_with fail
    have HA1 := Lib.hid (HA.out.below H1.out.bel)
    have HT1 := Lib.hid ((HS2.out.below H1.out.bel).mono H1.out.bel.size)
    obtain ⟨g1, hg1⟩ : ∃ g1, w1.heap.size = g1 := ⟨_, rfl⟩
    rw [hg1] at H1 ⊢
    generalize w1.alloc (.cells #[.slice B1 R.1.length d1, .slice B2 R.2.1.length d2] 55) = W1 at *
    refine (CR.out _ HA1.out.s HT1.out HA1.out.t (by omega) (by omega) HG.out.x4 (by omega) (by omega)).mono ?_
    rintro e w2 ⟨hb2, E1, f1, E2, f2, rfl, hs2, ht2⟩
    have H2 := Lib.hid ((St.call hb2 H1.out).new (g := w2.heap.size) rfl #[.slice E1 R.1.length f1, .slice E2 R.2.1.length f2] 55)
    have hbA : Below w2.heap.size w2 (w2.alloc (.cells #[.slice E1 R.1.length f1, .slice E2 R.2.1.length f2] 55)) := (Below.refl _ _).alloc (Nat.le_refl _) _
    have hbB := hb2.trans (hbA.mono hb2.size)
    have HX2 := Lib.hid (And.intro ((hs2.below hbA).mono hbA.size) (And.intro ((ht2.below hbA).mono hbA.size) (And.intro ((HX1.out.1.below hbB).mono hbB.size) ((HX1.out.2.below hbB).mono hbB.size))))
    clear hb2 hs2 ht2 hbA hbB q0 q1 q9 HA1 HT1 HX1 H1 H0 hlt0 hg1
    have q0 := (H2.out.at (i := 3) rfl).cell
    have q9 := (H2.out.at (i := 1) rfl).cell
    have q8 := (H2.out.at (i := 0) rfl).cell
    go_wp2_with fail
    have HA2 := Lib.hid (HA.out.below H2.out.bel)
    have HT2 := Lib.hid ((HS2.out.below H2.out.bel).mono H2.out.bel.size)
    obtain ⟨g2, hg2⟩ : ∃ g2, w2.heap.size = g2 := ⟨_, rfl⟩
    rw [hg2] at H2 ⊢
    generalize w2.alloc (.cells #[.slice E1 R.1.length f1, .slice E2 R.2.1.length f2] 55) = W2 at *
    refine (samedisc_same B1 E1 B2 E2 d1 f1 d2 f2 R.1 R.2.1 _ HX2.out.2.2.1 HX2.out.1 HX2.out.2.2.2 HX2.out.2.1 HRL.out.1 HRL.out.2).mono ?_
    rintro e w3 ⟨rfl, hb3⟩
    have HT3 := Lib.hid ((HT2.out.below hb3).mono hb3.size)
    have HU3 := Lib.hid ((HX2.out.2.2.2.below hb3).mono hb3.size)
    have HA3 := Lib.hid (HA2.out.below hb3)
    have H3 := Lib.hid (St.call hb3 H2.out)
    clear q0 q9 q8 hb3 hg2 HA2 HT2 HX2 H2
    go_wp2_with fail
    refine (CC.out _ HA3.out.t (by omega)).mono ?_
    rintro e w4 ⟨rfl, hb4⟩
    have HT4 := Lib.hid ((HT3.out.below hb4).mono hb4.size)
    have HU4 := Lib.hid ((HU3.out.below hb4).mono hb4.size)
    have H4 := Lib.hid (St.call hb4 H3.out)
    obtain ⟨b, hb⟩ : ∃ b, ws.any (·.close) = b := ⟨_, rfl⟩
    have HBC := Lib.hid hb
    rw [hb]
    clear hb4 hb HT3 HU3 H3
    obtain ⟨E, hE⟩ : ∃ E, R.2.2 = E := ⟨_, rfl⟩
    have HEE := Lib.hid hE
    rw [hE]
    clear hE
    by_cases hE0 : E = 0
    · subst hE0
      cases b with
      | true =>
        go_wp2_with fail
        go_ret
        exact ⟨rfl, H4.out.bel⟩
      | false =>
        have hsame := HRS.out HEE.out HBC.out
        rw [hsame] at HU4 H4 ⊢
        have q0 := (H4.out.at (i := 3) rfl).cell
        have q9 := (H4.out.at (i := 1) rfl).cell
        have HSM := Lib.hid hsame
        clear hsame
        rw [HLS.out] at q9
        have CEQ := Lib.hid (fun w h h' => eqses_same B2 A2 d2 c2 S w h h' (by have := HLS.out; omega))
        rw [HLS.out] at CEQ ⊢
        go_wp2_with fail
        refine (CEQ.out _ HU4.out HT4.out).mono ?_
        rintro e w5 ⟨rfl, hb5⟩
        go_wp2_with fail
        go_ret
        exact ⟨rfl, (St.call hb5 H4.out).bel⟩
    · have hE1 : (E != 0) = true := by simp [hE0]
      cases b
      all_goals
        go_wp2_with fail
        go_ret
        exact ⟨rfl, H4.out.bel⟩
end Go.Proofs.Ytdmdfpdigoijoaa
