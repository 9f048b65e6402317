/-
  Chapter 52: the writer: Append.
-/
import Derived.Test.YtdmdfpdigoijoaaPwX
import Derived.Test.YtdmdfpdigoijoaaPwK
import Derived.Test.YtdmdfpdigoijoaaStep
namespace Go.Proofs.Ytdmdfpdigoijoaa
open Go.RowKit
set_option linter.unusedVariables false

/-- Block g and the row r alone have been written to; blocks may have been made. -/
structure Two (w w' : World) (g : Nat) (r : Option Nat) : Prop where
  os : w'.os = w.os
  tape : w'.tape = w.tape
  output : w'.output = w.output
  size : w.heap.size ≤ w'.heap.size
  block : ∀ k, k < w.heap.size → k ≠ g → some k ≠ r → w'.heap[k]? = w.heap[k]?
theorem Two.refl (w : World) (g : Nat) (r : Option Nat) : Two w w g r := ⟨rfl, rfl, rfl, Nat.le_refl _, fun _ _ _ _ => rfl⟩
theorem Two.below {w w1 w2 : World} {g : Nat} {r : Option Nat} (h : Two w w1 g r) (hb : Below w1.heap.size w1 w2) : Two w w2 g r :=
  ⟨hb.os.trans h.os, hb.tape.trans h.tape, hb.output.trans h.output, Nat.le_trans h.size hb.size, fun k hk h1 h2 => (hb.block k (Nat.lt_of_lt_of_le hk h.size)).trans (h.block k hk h1 h2)⟩
theorem Two.grown {w w1 w2 : World} {g : Nat} {r r' : Option Nat} (h : Two w w1 g r) (hg : w1.grownBy w2 r') (hr : r' = r ∨ ∃ k, r' = some k ∧ w.heap.size ≤ k) : Two w w2 g r :=
  ⟨hg.os.trans h.os, hg.tape.trans h.tape, hg.output.trans h.output, Nat.le_trans h.size hg.size, fun k hk h1 h2 => (hg.block k (Nat.lt_of_lt_of_le hk h.size) (by
    rcases hr with rfl | ⟨j, rfl, hj⟩
    · exact h2
    · intro e; injection e with e; omega)).trans (h.block k hk h1 h2)⟩
theorem Two.set {w w1 : World} {g j : Nat} {r : Option Nat} {u : Value} (h : Two w w1 g r) : Two w (w1.setCell ⟨g, j, none⟩ u) g r :=
  ⟨h.os, h.tape, h.output, by simpa using h.size, fun k hk h1 h2 => (Below.heap_setCell w1 ⟨g, j, none⟩ u k (show k ≠ g from h1)).trans (h.block k hk h1 h2)⟩
theorem Two.drew {w w1 : World} {g : Nat} {r : Option Nat} (h : Two w w1 g r) : Two w w1.drew g r := ⟨h.os, h.tape, h.output, h.size, h.block⟩
theorem Two.toBelow {w w' : World} {g B : Nat} {r : Option Nat} (h : Two w w' g r) (hB : B ≤ w.heap.size) (hg : B ≤ g) (hr : ∀ k, r = some k → B ≤ k) : Below B w w' :=
  ⟨h.os, h.tape, h.output, h.size, fun k hk => h.block k (by omega) (by omega) (fun e => by have := hr k e.symm; omega)⟩

theorem SlAt.two {w w' : World} {B g : Nat} {r : Option Nat} {A : Option Addr} {xs : List Value} (h : SlAt w B A xs) (hB : B ≤ w.heap.size) (ht : Two w w' g r) (hs : ∀ b off, A = some ⟨b, off, none⟩ → b ≠ g ∧ some b ≠ r) : SlAt w' B A xs := fun j u hu => by
  obtain ⟨b, off, ea, hb, hc⟩ := h j u hu
  obtain ⟨h1, h2⟩ := hs b off ea
  exact ⟨b, off, ea, hb, (World.cell?_of_block (ht.block b (by omega) h1 h2)).trans hc⟩
/-- The pending addresses with k more. -/
def moreP (l : List Pend) (out : List Int) (bl : List ByteArray) (k : Nat) : List Pend := l ++ (List.range k).map fun i : Nat => ⟨out[i]?.getD 0, bl[i]?.getD blankS⟩
theorem moreP_succ (l : List Pend) (out : List Int) (bl : List ByteArray) (k : Nat) : moreP l out bl (k + 1) = moreP l out bl k ++ [⟨out[k]?.getD 0, bl[k]?.getD blankS⟩] := by simp [moreP, List.range_succ]
theorem moreP_length (l : List Pend) (out : List Int) (bl : List ByteArray) (k : Nat) : (moreP l out bl k).length = l.length + k := by simp [moreP]
theorem info_pend : (Try.prog.info? 114).map (fun i => (i.zero, i.size, i.bytes)) = some (some (.agg #[.int .i64 0, .string ByteArray.empty]), 2, 24) := by kernel_rfl

set_option maxRecDepth 100000 in
set_option maxHeartbeats 1000000 in
theorem append_arg (base0 g : Nat) (st ba : Int) (l : List Pend) (A : Option Addr) (c : Nat) (bl : List ByteArray) (w : World) (hs : SlAt w w.heap.size A (strV bl)) (hl : bl.length ≤ 1000000) (hb : bl.all blkOk = false) :
    Calls Try.prog 25 #[.pointer (some ⟨g, 0, none⟩), .slice A bl.length c] w fun e w' => e = .returned (.tuple #[.slice none 0 0, .int .i64 1]) ∧ w = w' := by
  have CB := Lib.hid (acontains_any A c bl w hs hl)
  rw [hb] at CB
  generalize bl.length = n at *
  clear hs hb
  go_enter Try.func25, Try.ntmps25
  go_wp2_with fail
  refine CB.out.mono ?_
  rintro e w' ⟨rfl, rfl⟩
  go_wp2_with fail
  go_ret2
  exact ⟨rfl, rfl⟩

/-- One element of several cells appended; the row is where it was, or in a new block. -/
theorem step_appNA {P : Program} {ops : Array Oper} {o : Oper} {a : Act} {K : Act → World → Prop} {Q : Exit → Act → World → Prop} {E : Prop} {s x : Operand} {t : TypeId} {base : Nat} {e : TypeId} {z : Value} {size bytes : Nat} {w W : World} {us : List Value} {v : Value} {n H : Nat} {xs : List Value}
    (hown : w.ownsRow base e size v n xs) (hH : w.heap.size = H) (hinfo : (P.info? e).map (fun i => (i.zero, i.size, i.bytes)) = some (some z, size, bytes)) (ht : P.underlying t = some (.slice e)) (hzs : z.cells.size = size) (hsz : 0 < size) (hus : us.length = size)
    (h63 : n + 1 ≤ maxLen) (hbytes : (n + 1) * bytes ≤ 140737488355328) (hbase : base ≤ w.heap.size) (h1 : ∀ u ∈ us, u.oneCell' = true)
    (hgd : o.guard = none) (ho : o.op = .call { callee := .builtin .append, args := #[s, x], argTypes := #[t, t] }) (hs : a.eval s = v) (hx : a.eval x = .slice (some ⟨H, 0, none⟩) 1 1)
    (hW : W = w.alloc (.cells us.toArray e))
    (h : ∀ v' w', w'.ownsRow base e size v' (n + 1) (xs ++ us) → w.grownBy w' v.ownBlock → (v'.ownBlock = v.ownBlock ∨ ∃ j, v'.ownBlock = some j ∧ w.heap.size ≤ j) → K (a.put o.dst v') w') :
    if Region.wanted o (yielded ops a.tmps) = true then Oper.wp P o a W K Q else E := by
  subst hW hH
  have hw : Region.wanted o (yielded ops a.tmps) = true := by simp [Region.wanted, hgd]
  rw [if_pos hw]
  obtain ⟨i0, hi, hz0, hz1, hz2⟩ := info_parts hinfo
  obtain ⟨v', w', hrun, hown', hg, _, hb⟩ := run_append_own_at (P := P) (w.alloc (.cells us.toArray e)) base t o.type e i0 z size bytes ht hi hz0 hz1 hz2 hzs hsz v n xs (hown.alloc _) ⟨w.heap.size, 0, none⟩ 1 1 us (by rw [hus, Nat.one_mul]) (by
    intro j u hu
    have hadd : (⟨w.heap.size, 0, none⟩ : Addr).add j = ⟨w.heap.size, j, none⟩ := by unfold Addr.add; split <;> simp_all
    rw [hadd, cell_of_row _ w.heap.size j us.toArray e (0, 0) (heap_alloc_new w _)]
    simpa using hu) h1 h63 hbytes (by simp; omega)
  unfold Oper.wp execOp
  simp only [ho, resolve, invoke, builtin, Sem.run_bind, Sem.run_pure, Result.andThen_ok, List.map_toArray, List.map_cons, List.map_nil, hs, hx, hrun]
  refine h v' w' hown' ⟨hg.os, hg.tape, hg.output, Nat.le_trans (by simp) hg.size, fun k hk hne => ?_⟩ ?_
  · rw [hg.block k (by simp; omega) hne]
    exact Below.heap_alloc w _ k hk
  · rcases hb with hb | hb
    · exact .inl hb
    · exact .inr ⟨_, hb, by simp⟩
theorem block_or {w wr : World} {r0 r r1 : Option Nat} (hsz : w.heap.size ≤ wr.heap.size) (h : r = r0 ∨ ∃ j, r = some j ∧ w.heap.size ≤ j) (h1 : r1 = r ∨ ∃ j, r1 = some j ∧ wr.heap.size ≤ j) : r1 = r0 ∨ ∃ j, r1 = some j ∧ w.heap.size ≤ j := by
  rcases h1 with rfl | ⟨j, rfl, hj⟩
  · exact h
  · exact .inr ⟨j, rfl, by omega⟩
/-- What Append answers where the blocks are good. -/
def AppRes (base0 g : Nat) (st ba : Int) (l : List Pend) (bl : List ByteArray) (r : Option Nat) (w : World) (e : Ending) (w' : World) : Prop :=
  (asgL st ba l bl.length = none ∧ e = .returned (.tuple #[.slice none 0 0, .int .i64 12]) ∧ Below w.heap.size w w') ∨
  (∃ out A c, asgL st ba l bl.length = some out ∧ e = .returned (.tuple #[.slice A out.length c, .int .i64 0]) ∧ w'.ownsRow w.heap.size 3 1 (.slice A out.length c) out.length (intV out) ∧ WtAt w' base0 g st ba (moreP l out bl out.length) ∧ Two w w' g r)

set_option maxRecDepth 100000 in
set_option maxHeartbeats 2000000 in
theorem append_any (base0 g : Nat) (st ba : Int) (l : List Pend) (A Al : Option Addr) (c cl : Nat) (bl : List ByteArray) (w : World) (hs : SlAt w w.heap.size A (strV bl)) (hbl : bl.length ≤ 100000) (hb : bl.all blkOk = true)
    (hr : RowAt w g 109 #[.int .i64 st, .int .i64 ba, .slice Al l.length cl]) (ho : w.ownsRow base0 114 2 (.slice Al l.length cl) l.length (flat encP l)) (hl : l.length ≤ 100000) (hst : 0 ≤ st) (h1 : st ≤ nextL ba l) (h2 : nextL ba l ≤ 4200)
    (hlen : ∀ out, asgL st ba l bl.length = some out → out.length = bl.length)
    (hb0 : base0 ≤ w.heap.size) (hsep : ∀ b off, A = some ⟨b, off, none⟩ → b ≠ g ∧ some b ≠ (Value.slice Al l.length cl).ownBlock) :
    Calls Try.prog 25 #[.pointer (some ⟨g, 0, none⟩), .slice A bl.length c] w (AppRes base0 g st ba l bl (Value.slice Al l.length cl).ownBlock w) := by
  have CB := Lib.hid (acontains_any A c bl w hs (by omega))
  have CA := Lib.hid (assign_any base0 g st ba l bl.length w ⟨Al, cl, hr, ho⟩ (by omega) (by omega) hst h1 h2)
  rw [hb] at CB
  unfold AsgRes at CA
  have HS := Lib.hid hs
  have HRW := Lib.hid hr
  have HOW := Lib.hid ho
  have HLEN := Lib.hid hlen
  have HSEP := Lib.hid hsep
  obtain ⟨R, hR⟩ : ∃ R, asgL st ba l bl.length = R := ⟨_, rfl⟩
  have HRR := Lib.hid hR
  rw [hR] at CA
  clear hR
  obtain ⟨n, hn⟩ : ∃ n, bl.length = n := ⟨_, rfl⟩
  have HN := Lib.hid hn
  rw [hn] at CB CA hbl ⊢
  clear hs hb hn hr ho hlen h1 h2 hst hsep
  go_enter Try.func25, Try.ntmps25
  go_wp2_with fail
  refine CB.out.mono ?_
  rintro e w' ⟨rfl, rfl⟩
  go_wp2_with fail
  refine CA.out.mono ?_
  rintro e w1 ⟨hb1, (⟨rfl, rfl⟩ | ⟨out, A1, c1, rfl, rfl, ho1⟩)⟩
  · go_wp2_with fail
    go_ret2
    exact .inl ⟨HRR.out, rfl, hb1⟩
  · have hon : out.length = n := by rw [← HN.out]; exact HLEN.out out HRR.out
    rw [hon] at ho1
    have HON := Lib.hid hon
    rw [hon]
    have hr1 := HRW.out.below hb1 HRW.out.lt
    have hp1 := own_all HOW.out hb1
    have htw : Two w w1 g (Value.slice Al l.length cl).ownBlock := (Two.refl _ _ _).below hb1
    have HSZ := Lib.hid hb1.size
    clear hb1 hon CB CA
    go_wp2_with fail
    go_loopw [23] (fun i wr => ∃ (k : Nat) (A2 : Option Addr) (c2 L : Nat), Hid (L = l.length + k) ∧ k ≤ n ∧ i = .int .i64 k ∧ RowAt wr g 109 #[.int .i64 st, .int .i64 ba, .slice A2 L c2] ∧ wr.ownsRow base0 114 2 (.slice A2 L c2) L (flat encP (moreP l out bl k)) ∧ wr.ownsRow w.heap.size 3 1 (.slice A1 n c1) n (intV out) ∧ Two w wr g (Value.slice Al l.length cl).ownBlock ∧ ((Value.slice A2 L c2).ownBlock = (Value.slice Al l.length cl).ownBlock ∨ ∃ j, (Value.slice A2 L c2).ownBlock = some j ∧ w.heap.size ≤ j)) (fun i _ => n - (intOf i).toNat)
    case atStart => exact ⟨0, Al, cl, l.length, Lib.hid rfl, by omega, rfl, hr1, by simpa [moreP] using hp1, ho1, htw, .inl rfl⟩
    case round =>
      clear hr1 hp1 ho1 htw
      obtain ⟨k, A2, c2, L, HL, hk, rfl, hrw, hpd, hint, htw, hbk⟩ := hrel
      have hsl := HS.out.two (Nat.le_refl _) htw HSEP.out
      by_cases hlt : k < n
      · obtain ⟨s, hs⟩ : ∃ s, bl[k]? = some s := ⟨bl[k]'(by rw [HN.out]; exact hlt), List.getElem?_eq_getElem _⟩
        obtain ⟨a, ha⟩ : ∃ a, out[k]? = some a := ⟨out[k]'(by rw [HON.out]; exact hlt), List.getElem?_eq_getElem _⟩
        obtain ⟨sb, soff, hsA, hsb⟩ := hsl.strAddr (by rw [HN.out]; omega)
        subst hsA
        have hq := hsl.str rfl hs
        obtain ⟨go, cap, hv, hgo, hgol, _⟩ := own_form hint (by omega)
        injection hv with hA _ hc
        subst hA hc
        have q0 := hint.cellAt k (by omega)
        rw [show (intV out)[k]? = some (.int .i64 a) by unfold intV; rw [List.getElem?_map, ha]; rfl] at q0
        have qw := hrw.cell
        have hltI : (k : Int) < (n : Int) := by omega
        have h0k : (0 : Int) ≤ (k : Int) := by omega
        have HM := Lib.hid (moreP_succ l out bl k)
        rw [ha, hs, Option.getD_some, Option.getD_some] at HM
        have HPD := Lib.hid hpd
        have HRWW := Lib.hid hrw
        have HINT := Lib.hid hint
        have HTW := Lib.hid htw
        have HSLL := Lib.hid hsl
        have HSS := Lib.hid hs
        clear hs ha hsl hpd hint htw hrw
        go_upto_region 9 with fail
        have hszr : w.heap.size ≤ wr.heap.size := HTW.out.size
        refine wp_region_any (by kernel_rfl) (wpAny_of_Z (S := fun w' => RowAt w' g 109 #[.int .i64 st, .int .i64 ba, .slice A2 L c2] ∧ SlAt w' w.heap.size (some ⟨sb, soff, none⟩) (strV bl)) (z := 15) _ _ _ _ ?_)
        have hHeld : RowAt wr.drew g 109 #[.int .i64 st, .int .i64 ba, .slice A2 L c2] ∧ SlAt wr.drew w.heap.size (some ⟨sb, soff, none⟩) (strV bl) := ⟨HRWW.out, HSLL.out⟩
        change wpAnyZ _ _ _ _ _ _ _ _ _ (World.drew _)
        refine wpAnyZ_take (i := 0) (oi := ?o1) (v := ?v1) ?hi1 (by kernel_rfl) (by kernel_rfl) (by kernel_rfl) (by kernel_rfl) ?hq1 ?hy1 (by assumption) ?hr1
        case hi1 => (simp only [List.getElem?_toArray, List.getElem?_cons_zero]; rfl)
        case hy1 => ((refine .inl ⟨by rfl, ?_⟩); intro w hS; go_simp; (try with_reducible rfl))
        case hq1 => exact fun _ _ _ h => h
        (try simp only [Act.put, List.setIfInBounds_toArray, List.set_cons_zero, List.set_cons_succ])
        refine wpAnyZ_take (i := 1) (oi := ?o2) (v := ?v2) ?hi2 (by kernel_rfl) (by kernel_rfl) (by kernel_rfl) (by kernel_rfl) ?hq2 ?hy2 (by assumption) ?hr2
        case hi2 => (simp only [List.getElem?_toArray, List.getElem?_cons_succ, List.getElem?_cons_zero]; rfl)
        case hy2 => ((refine .inl ⟨by rfl, ?_⟩); intro w hS; go_simp; (try with_reducible rfl))
        case hq2 => exact fun _ _ _ h => h
        (try simp only [Act.put, List.setIfInBounds_toArray, List.set_cons_zero, List.set_cons_succ])
        refine wpAnyZ_take (i := 2) (oi := ?o3) (v := ?v3) ?hi3 (by kernel_rfl) (by kernel_rfl) (by kernel_rfl) (by kernel_rfl) ?hq3 ?hy3 (by assumption) ?hr3
        case hi3 => (simp only [List.getElem?_toArray, List.getElem?_cons_succ, List.getElem?_cons_zero]; rfl)
        case hy3 => ((refine .inl ⟨by rfl, ?_⟩); intro w hS; go_simp; (try with_reducible rfl))
        case hq3 => exact fun _ _ _ h => h
        (try simp only [Act.put, List.setIfInBounds_toArray, List.set_cons_zero, List.set_cons_succ])
        refine wpAnyZ_take (i := 3) (oi := ?o4) (v := ?v4) ?hi4 (by kernel_rfl) (by kernel_rfl) (by kernel_rfl) (by kernel_rfl) ?hq4 ?hy4 (by assumption) ?hr4
        case hi4 => (simp only [List.getElem?_toArray, List.getElem?_cons_succ, List.getElem?_cons_zero]; rfl)
        case hy4 => ((refine .inl ⟨by rfl, ?_⟩); intro w hS; go_simp; (try with_reducible rfl))
        case hq4 => exact fun _ _ _ h => h
        (try simp only [Act.put, List.setIfInBounds_toArray, List.set_cons_zero, List.set_cons_succ])
        refine wpAnyZ_take (i := 4) (oi := ?o5) (v := ?v5) ?hi5 (by kernel_rfl) (by kernel_rfl) (by kernel_rfl) (by kernel_rfl) ?hq5 ?hy5 (by assumption) ?hr5
        case hi5 => (simp only [List.getElem?_toArray, List.getElem?_cons_succ, List.getElem?_cons_zero]; rfl)
        case hy5 => ((refine .inl ⟨by rfl, ?_⟩); intro w hS; have q := hS.1.cell; go_simp; (try with_reducible rfl))
        case hq5 => exact fun _ _ _ h => h
        (try simp only [Act.put, List.setIfInBounds_toArray, List.set_cons_zero, List.set_cons_succ])
        refine wpAnyZ_take (i := 5) (oi := ?o6) (v := ?v6) ?hi6 (by kernel_rfl) (by kernel_rfl) (by kernel_rfl) (by kernel_rfl) ?hq6 ?hy6 (by assumption) ?hr6
        case hi6 => (simp only [List.getElem?_toArray, List.getElem?_cons_succ, List.getElem?_cons_zero]; rfl)
        case hy6 => ((refine .inl ⟨by rfl, ?_⟩); intro w hS; go_simp; (try with_reducible rfl))
        case hq6 => exact fun _ _ _ h => h
        (try simp only [Act.put, List.setIfInBounds_toArray, List.set_cons_zero, List.set_cons_succ])
        refine wpAnyZ_take (i := 6) (oi := ?o7) (v := ?v7) ?hi7 (by kernel_rfl) (by kernel_rfl) (by kernel_rfl) (by kernel_rfl) ?hq7 ?hy7 (by assumption) ?hr7
        case hi7 => (simp only [List.getElem?_toArray, List.getElem?_cons_succ, List.getElem?_cons_zero]; rfl)
        case hy7 => ((refine .inl ⟨by rfl, ?_⟩); intro w hS; go_simp; (try with_reducible rfl))
        case hq7 => exact fun _ _ _ h => h
        (try simp only [Act.put, List.setIfInBounds_toArray, List.set_cons_zero, List.set_cons_succ])
        refine wpAnyZ_take (i := 7) (oi := ?o8) (v := ?v8) ?hi8 (by kernel_rfl) (by kernel_rfl) (by kernel_rfl) (by kernel_rfl) ?hq8 ?hy8 (by assumption) ?hr8
        case hi8 => (simp only [List.getElem?_toArray, List.getElem?_cons_succ, List.getElem?_cons_zero]; rfl)
        case hy8 => ((refine .inl ⟨by rfl, ?_⟩); intro w hS; go_simp; (try with_reducible rfl))
        case hq8 => exact fun _ _ _ h => h
        (try simp only [Act.put, List.setIfInBounds_toArray, List.set_cons_zero, List.set_cons_succ])
        refine wpAnyZ_take (i := 8) (oi := ?o9) (v := ?v9) ?hi9 (by kernel_rfl) (by kernel_rfl) (by kernel_rfl) (by kernel_rfl) ?hq9 ?hy9 (by assumption) ?hr9
        case hi9 => (simp only [List.getElem?_toArray, List.getElem?_cons_succ, List.getElem?_cons_zero]; rfl)
        case hy9 => ((refine .inl ⟨by rfl, ?_⟩); intro w hS; go_simp; (try with_reducible rfl))
        case hq9 => exact fun _ _ _ h => h
        (try simp only [Act.put, List.setIfInBounds_toArray, List.set_cons_zero, List.set_cons_succ])
        refine wpAnyZ_take (i := 9) (oi := ?o10) (v := ?v10) ?hi10 (by kernel_rfl) (by kernel_rfl) (by kernel_rfl) (by kernel_rfl) ?hq10 ?hy10 (by assumption) ?hr10
        case hi10 => (simp only [List.getElem?_toArray, List.getElem?_cons_succ, List.getElem?_cons_zero]; rfl)
        case hy10 => ((refine .inl ⟨by rfl, ?_⟩); intro w hS; have q := hS.2.str rfl HSS.out; go_simp; (try with_reducible rfl))
        case hq10 => exact fun _ _ _ h => h
        (try simp only [Act.put, List.setIfInBounds_toArray, List.set_cons_zero, List.set_cons_succ])
        refine wpAnyZ_take (i := 10) (oi := ?o11) (v := ?v11) ?hi11 (by kernel_rfl) (by kernel_rfl) (by kernel_rfl) (by kernel_rfl) ?hq11 ?hy11 (by assumption) ?hr11
        case hi11 => (simp only [List.getElem?_toArray, List.getElem?_cons_succ, List.getElem?_cons_zero]; rfl)
        case hy11 => ((refine .inl ⟨by rfl, ?_⟩); intro w hS; go_simp; (try with_reducible rfl))
        case hq11 => exact fun _ _ _ h => h
        (try simp only [Act.put, List.setIfInBounds_toArray, List.set_cons_zero, List.set_cons_succ])
        refine wpAnyZ_one (i := 11) (by kernel_rfl) rfl (by kernel_rfl) (fun K hK => ?_)
        go_simp
        refine hK.out _ _ (⟨hHeld.1.alloc _, (HSLL.out.below ((Below.refl _ wr).alloc hszr _)).drew⟩) (fun hHeld => ?_)
        clear hK K
        (try simp only [Act.put, List.setIfInBounds_toArray, List.set_cons_zero, List.set_cons_succ])
        refine wpAnyZ_one (i := 12) (by kernel_rfl) rfl (by kernel_rfl) (fun K hK => ?_)
        refine step_appNA (w := wr.drew) HPD.out.drew (H := wr.heap.size) rfl info_pend Try.underlying107 rfl (by decide) (us := [.int .i64 a, .string s]) rfl (by unfold maxLen; have := HL.out; omega) (by have := HL.out; omega) (by show base0 ≤ wr.heap.size; omega) (by intro u hu; simp only [List.mem_cons, List.not_mem_nil, or_false] at hu; rcases hu with rfl | rfl <;> rfl) rfl rfl (by rfl) (by rfl) rfl ?_; intro v5 w5 hown5 hg5 hbl5; have hrw5 := (HRWW.out.drewN 1).grown hg5 (fun e => own_row_ne HPD.out HRWW.out (by decide) g e.symm rfl); have hint5 := own_grown (own_drewN HINT.out 1) hg5 (fun k hk e => own_ne HPD.out HINT.out (by decide) k e.symm hk.symm); have htw5 := HTW.out.drew.grown hg5 hbk; have hbk5 := block_or hszr hbk hbl5; obtain ⟨A5, c5, hv5⟩ := own_slice hown5; subst hv5; have q5 := hrw5.cell; have f5 := hrw5.frozen
        refine hK.out _ _ (⟨hrw5, HS.out.two (Nat.le_refl _) htw5 HSEP.out⟩) (fun hHeld => ?_)
        clear hK K
        (try simp only [Act.put, List.setIfInBounds_toArray])
        refine wpAnyZ_one (i := 13) (by kernel_rfl) rfl (by kernel_rfl) (fun K hK => ?_)
        go_simp
        refine hK.out _ _ (hHeld) (fun hHeld => ?_)
        clear hK K
        (try simp only [Act.put, List.setIfInBounds_toArray, List.set_cons_zero, List.set_cons_succ])
        refine wpAnyZ_take (i := 14) (oi := ?o12) (v := ?v12) ?hi12 (by kernel_rfl) (by kernel_rfl) (by kernel_rfl) (by kernel_rfl) ?hq12 ?hy12 (by assumption) ?hr12
        case hi12 => (simp only [List.getElem?_toArray, List.getElem?_cons_succ, List.getElem?_cons_zero]; rfl)
        case hy12 => ((refine .inl ⟨by rfl, ?_⟩); intro w hS; go_simp; (try with_reducible rfl))
        case hq12 => exact fun _ _ _ h => h
        (try simp only [Act.put, List.setIfInBounds_toArray, List.set_cons_zero, List.set_cons_succ])
        refine wpAnyZ_last (by kernel_rfl) rfl (fun K hK => ?_)
        go_simp
        refine hK.out _ _ ?_
        clear hK K
        (try simp only [Act.put])
        refine wpAnyZ_done (by kernel_rfl) ?_ _
        have hb2 : RowAt _ g 109 #[.int .i64 st, .int .i64 ba, .slice A5 (L + 1) c5] := hrw5.set_ 2 (.slice A5 (L + 1) c5)
        have hp2 := own_set_ty (j := 2) (u := .slice A5 (L + 1) c5) hown5 hrw5 (by decide)
        have hi2 := own_set_ty (j := 2) (u := .slice A5 (L + 1) c5) hint5 hrw5 (by decide)
        rw [show flat encP (moreP l out bl k) ++ [.int .i64 a, .string s] = flat encP (moreP l out bl (k + 1)) by rw [HM.out, flat_snoc]; rfl] at hp2
        go_wp2_with fail
        go_roundw
        case rel => exact ⟨k + 1, A5, c5, L + 1, Lib.hid (by have := HL.out; omega), by omega, by go_num, hb2, hp2, hi2, htw5.set, hbk5⟩
        case measure => simp [intOf]; omega
      · obtain rfl : k = n := by omega
        have hge : ¬ (k : Int) < (k : Int) := by omega
        have hLL := HL.out
        rw [hLL] at hrw hpd
        go_wp2_with fail
        go_ret2
        refine .inr ⟨out, A1, c1, HRR.out, by rw [HON.out]; rfl, by rw [HON.out]; exact hint, ?_, htw⟩
        rw [HON.out]
        exact ⟨A2, c2, by rw [moreP_length]; exact hrw, by rw [moreP_length]; exact hpd⟩
end Go.Proofs.Ytdmdfpdigoijoaa
