/-
  Chapter 52: the writer: Reserve.
-/
import Derived.Test.YtdmdfpdigoijoaaPwP2
import Derived.Test.YtdmdfpdigoijoaaAppAny
namespace Go.Proofs.Ytdmdfpdigoijoaa
open Go.RowKit
set_option linter.unusedVariables false

/-- One element of several cells appended in a plain region; the row is where it was, or in a new block. -/
theorem wpList_appNA {P : Program} {ops : Array Oper} {rest : List Oper} {o : Oper} {a : Act} {Q : Exit → Act → World → Prop} {s x : Operand} {t : TypeId} {base : Nat} {e : TypeId} {z : Value} {size bytes : Nat} {w W : World} {us : List Value} {v : Value} {n H : Nat} {xs : List Value}
    (hown : w.ownsRow base e size v n xs) (hH : w.heap.size = H) (hinfo : (P.info? e).map (fun i => (i.zero, i.size, i.bytes)) = some (some z, size, bytes)) (ht : P.underlying t = some (.slice e)) (hzs : z.cells.size = size) (hsz : 0 < size) (hus : us.length = size)
    (h63 : n + 1 ≤ maxLen) (hbytes : (n + 1) * bytes ≤ 140737488355328) (hbase : base ≤ w.heap.size) (h1 : ∀ u ∈ us, u.oneCell' = true)
    (hgd : o.guard = none) (ho : o.op = .call { callee := .builtin .append, args := #[s, x], argTypes := #[t, t] }) (hs : a.eval s = v) (hx : a.eval x = .slice (some ⟨H, 0, none⟩) 1 1) (hW : W = w.alloc (.cells us.toArray e))
    (h : ∀ v' w', w'.ownsRow base e size v' (n + 1) (xs ++ us) → w.grownBy w' v.ownBlock → (v'.ownBlock = v.ownBlock ∨ ∃ j, v'.ownBlock = some j ∧ w.heap.size ≤ j) → wpList P ops Q rest (a.put o.dst v') w') : wpList P ops Q (o :: rest) a W := by
  subst hW hH
  obtain ⟨i0, hi, hz0, hz1, hz2⟩ := info_parts hinfo
  refine wpList_append_own_at (w.alloc (.cells us.toArray e)) hgd s x t ho base e i0 z size bytes ht hi hz0 hz1 hz2 hzs hsz v n xs hs (hown.alloc _) ⟨w.heap.size, 0, none⟩ 1 1 us hx (by rw [hus, Nat.one_mul]) (by
    intro j u hu
    have hadd : (⟨w.heap.size, 0, none⟩ : Addr).add j = ⟨w.heap.size, j, none⟩ := by unfold Addr.add; split <;> simp_all
    rw [hadd, cell_of_row _ w.heap.size j us.toArray e (0, 0) (heap_alloc_new w _)]
    simpa using hu) h1 h63 hbytes (by simp; omega) ?_
  intro v' w' hown' hg _ hb
  refine h v' w' hown' ⟨hg.os, hg.tape, hg.output, Nat.le_trans (by simp) hg.size, fun k hk hne => ?_⟩ ?_
  · rw [hg.block k (by simp; omega) hne]
    exact Below.heap_alloc w _ k hk
  · rcases hb with hb | hb
    · exact .inl hb
    · exact .inr ⟨_, hb, by simp⟩
/-- What Reserve answers where the number is good. -/
def ResRes (base0 g : Nat) (st ba : Int) (l : List Pend) (n : Nat) (r : Option Nat) (w : World) (e : Ending) (w' : World) : Prop :=
  (asgL st ba l n = none ∧ e = .returned (.tuple #[.slice none 0 0, .int .i64 12]) ∧ Below w.heap.size w w') ∨
  (∃ out A c, asgL st ba l n = some out ∧ e = .returned (.tuple #[.slice A out.length c, .int .i64 0]) ∧ w'.ownsRow w.heap.size 3 1 (.slice A out.length c) out.length (intV out) ∧ WtAt w' base0 g st ba (moreP l out [] out.length) ∧ Two w w' g r)
theorem reserve_range (g : Nat) (n : Int) (w : World) (h : n < 0 ∨ 1024 < n) :
    Calls Try.prog 37 #[.pointer (some ⟨g, 0, none⟩), .int .i64 n] w fun e w' => e = .returned (.tuple #[.slice none 0 0, .int .i64 2]) ∧ w = w' := by
  have h' : n < 0 ∨ (¬ n < 0 ∧ 1024 < n) := by omega
  clear h
  rcases h' with h | ⟨h, h2⟩
  all_goals
    go_enter Try.func37, Try.ntmps37
    go_wp2_with fail
    go_ret2
    exact ⟨rfl, rfl⟩
set_option maxRecDepth 100000 in
set_option maxHeartbeats 2000000 in
theorem reserve_any (base0 g : Nat) (st ba : Int) (l : List Pend) (Al : Option Addr) (cl n : Nat) (w : World)
    (hr : RowAt w g 109 #[.int .i64 st, .int .i64 ba, .slice Al l.length cl]) (ho : w.ownsRow base0 114 2 (.slice Al l.length cl) l.length (flat encP l)) (hl : l.length ≤ 100000) (hst : 0 ≤ st) (h1 : st ≤ nextL ba l) (h2 : nextL ba l ≤ 4200)
    (hn : n ≤ 1024) (hb0 : base0 ≤ w.heap.size) :
    Calls Try.prog 37 #[.pointer (some ⟨g, 0, none⟩), .int .i64 (n : Int)] w (ResRes base0 g st ba l n (Value.slice Al l.length cl).ownBlock w) := by
  have CA := Lib.hid (assign_any base0 g st ba l n w ⟨Al, cl, hr, ho⟩ (by omega) (by omega) hst h1 h2)
  unfold AsgRes at CA
  have HRW := Lib.hid hr
  have HOW := Lib.hid ho
  obtain ⟨R, hR⟩ : ∃ R, asgL st ba l n = R := ⟨_, rfl⟩
  have HRR := Lib.hid hR
  rw [hR] at CA
  have hn0 : ¬ (n : Int) < 0 := by omega
  have hn1 : ¬ (1024 : Int) < (n : Int) := by omega
  have HLEN : Hid (∀ out, asgL st ba l n = some out → out.length = n) := Lib.hid (fun out h => (asgL_spec h).1)
  clear hR hr ho h1 h2 hst
  go_enter Try.func37, Try.ntmps37
  go_wp2_with fail
  refine CA.out.mono ?_
  rintro e w1 ⟨hb1, (⟨rfl, rfl⟩ | ⟨out, A1, c1, rfl, rfl, ho1⟩)⟩
  · go_wp2_with fail
    go_ret2
    exact .inl ⟨HRR.out, rfl, hb1⟩
  · have hon : out.length = n := HLEN.out out HRR.out
    rw [hon] at ho1
    have HON := Lib.hid hon
    rw [hon]
    have hr1 := HRW.out.below hb1 HRW.out.lt
    have hp1 := own_all HOW.out hb1
    have htw : Two w w1 g (Value.slice Al l.length cl).ownBlock := (Two.refl _ _ _).below hb1
    clear hb1 hon CA
    go_wp2_with fail
    go_loopw [26] (fun i wr => ∃ (k : Nat) (A2 : Option Addr) (c2 L : Nat), Hid (L = l.length + k) ∧ k ≤ n ∧ i = .int .i64 k ∧ RowAt wr g 109 #[.int .i64 st, .int .i64 ba, .slice A2 L c2] ∧ wr.ownsRow base0 114 2 (.slice A2 L c2) L (flat encP (moreP l out [] k)) ∧ wr.ownsRow w.heap.size 3 1 (.slice A1 n c1) n (intV out) ∧ Two w wr g (Value.slice Al l.length cl).ownBlock ∧ ((Value.slice A2 L c2).ownBlock = (Value.slice Al l.length cl).ownBlock ∨ ∃ j, (Value.slice A2 L c2).ownBlock = some j ∧ w.heap.size ≤ j)) (fun i _ => n - (intOf i).toNat)
    case atStart => exact ⟨0, Al, cl, l.length, Lib.hid rfl, by omega, rfl, hr1, by simpa [moreP] using hp1, ho1, htw, .inl rfl⟩
    case round =>
      clear hr1 hp1 ho1 htw
      obtain ⟨k, A2, c2, L, HL, hk, rfl, hrw, hpd, hint, htw, hbk⟩ := hrel
      by_cases hlt : k < n
      · obtain ⟨a, ha⟩ : ∃ a, out[k]? = some a := ⟨out[k]'(by rw [HON.out]; exact hlt), List.getElem?_eq_getElem _⟩
        obtain ⟨go, cap, hv, hgo, hgol, _⟩ := own_form hint (by omega)
        injection hv with hA _ hc
        subst hA hc
        have q0 := hint.cellAt k (by omega)
        rw [show (intV out)[k]? = some (.int .i64 a) by unfold intV; rw [List.getElem?_map, ha]; rfl] at q0
        have qw := hrw.cell
        have hgw := hrw.lt
        have hltI : (k : Int) < (n : Int) := by omega
        have h0k : (0 : Int) ≤ (k : Int) := by omega
        have HM := Lib.hid (moreP_succ l out [] k)
        rw [ha, Option.getD_some] at HM
        have hszr : w.heap.size ≤ wr.heap.size := htw.size
        clear ha
        go_wp2_with (at_builtin; refine wpList_appNA (us := [.int .i64 a, .string blankS]) (w := wr) hpd rfl info_pend Try.underlying107 rfl (by decide) rfl (by unfold maxLen; have := HL.out; omega) (by have := HL.out; omega) (by omega) (by intro u hu; simp only [List.mem_cons, List.not_mem_nil, or_false] at hu; rcases hu with rfl | rfl <;> rfl) rfl rfl (by rfl) (by rfl) (by rfl) ?_; intro v5 w5 hown5 hg5 hbl5; have hrw5 := hrw.grown hg5 (fun e => own_row_ne hpd hrw (by decide) g e.symm rfl); have hint5 := own_grown hint hg5 (own_ne hint hpd (by decide)); have htw5 := htw.grown hg5 hbk; have hbk5 := block_or hszr hbk hbl5; obtain ⟨A5, c5, hv5⟩ := own_slice hown5; subst hv5; have q5 := hrw5.cell; have f5 := hrw5.frozen)
        have hb2 : RowAt _ g 109 #[.int .i64 st, .int .i64 ba, .slice A5 (L + 1) c5] := hrw5.set_ 2 (.slice A5 (L + 1) c5)
        have hp2 := own_set_ty (j := 2) (u := .slice A5 (L + 1) c5) hown5 hrw5 (by decide)
        have hi2 := own_set_ty (j := 2) (u := .slice A5 (L + 1) c5) hint5 hrw5 (by decide)
        rw [show flat encP (moreP l out [] k) ++ [.int .i64 a, .string blankS] = flat encP (moreP l out [] (k + 1)) by rw [HM.out, flat_snoc]; rfl] at hp2
        go_roundw
        case rel => exact ⟨k + 1, A5, c5, L + 1, Lib.hid (by have := HL.out; omega), by omega, by go_num, hb2, hp2, hi2, htw5.set, hbk5⟩
        case measure => simp [intOf]; omega
      · obtain rfl : k = n := by omega
        have hge : ¬ (k : Int) < (k : Int) := by omega
        have hLL := HL.out
        rw [hLL] at hrw hpd
        go_wp2_with fail
        go_ret2
        refine .inr ⟨out, A1, c1, HRR.out, by rw [HON.out]; rfl, by rw [HON.out]; exact hint, ?_, htw⟩
        rw [HON.out]
        exact ⟨A2, c2, by rw [moreP_length]; exact hrw, by rw [moreP_length]; exact hpd⟩
end Go.Proofs.Ytdmdfpdigoijoaa
