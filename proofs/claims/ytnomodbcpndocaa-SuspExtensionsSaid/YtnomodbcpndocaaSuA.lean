/-
  Chapter 24: signatures, and the first error of entries: isSignature, check; signature, Check of the reference.
-/
import Derived.Test.YtnomodbcpndocaaSu
import Derived.Test.YtnomodbcpndocaaBytesAt
namespace Go.Proofs.Ytnomodbcpndocaa
open Go.RowKit
set_option linter.unusedVariables false

def sgC (c : UInt8) : Bool := (decide (65 ≤ c.toNat) && decide (c.toNat ≤ 90)) || (decide (48 ≤ c.toNat) && decide (c.toNat ≤ 57))
def sigL (l : List UInt8) : Bool := l.all sgC && decide (l.length = 2)
def sigB (s : ByteArray) : Bool := sigL s.data.toList
theorem sgC_cases (c : UInt8) : (sgC c = true ∧ 65 ≤ c.toNat ∧ c.toNat ≤ 90) ∨ (sgC c = true ∧ 48 ≤ c.toNat ∧ c.toNat ≤ 57) ∨ (sgC c = false ∧ c.toNat < 48) ∨ (sgC c = false ∧ 57 < c.toNat ∧ c.toNat < 65) ∨ (sgC c = false ∧ 90 < c.toNat) := by
  unfold sgC
  simp only [Bool.or_eq_true, Bool.and_eq_true, decide_eq_true_eq, Bool.or_eq_false_iff, Bool.and_eq_false_iff, decide_eq_false_iff_not]
  omega
theorem sigL_no {l : List UInt8} {k : Nat} {c : UInt8} (hk : l[k]? = some c) (hc : sgC c = false) : sigL l = false := by
  unfold sigL
  rw [List.all_eq_false.2 ⟨c, List.mem_of_getElem? hk, by rw [hc]; simp⟩, Bool.false_and]
theorem sigB_size {s : ByteArray} (h : sigB s = true) : s.size = 2 := by
  unfold sigB sigL at h
  rw [Bool.and_eq_true, decide_eq_true_eq] at h
  simpa using h.2

set_option maxHeartbeats 1000000 in
theorem issig_any (s : ByteArray) (w : World) (hs : s.size ≤ 140737488351232) : Calls Try.prog 49 #[.string s] w fun e w' => e = .returned (.bool (sigB s)) ∧ Below w.heap.size w w' := by
  have hsz : s.data.toList.length = s.size := by simp
  have HZ := Lib.hid hsz
  clear hsz
  have hcv := fun w => run_bytes_of_string (P := Try.prog) w 9 70 5 s Try.underlying9 Try.underlying70 Try.underlying5
  go_enter Try.func49, Try.ntmps49
  go_wp2_with fail
  generalize grownCap w s.size 0 5 = cp
  have hB0 : BytesAt ((w.alloc (.cells (bytesRow s cp) 5 ((bytesRow s cp).size, (bytesRow s cp).size + 1))).drew) w.heap.size 5 s.data.toList := (BytesAt.new w 5 s cp).drew
  have hb0 : Below w.heap.size w ((w.alloc (.cells (bytesRow s cp) 5 ((bytesRow s cp).size, (bytesRow s cp).size + 1))).drew) := ((Below.refl w.heap.size w).alloc (Nat.le_refl _) _).drew
  generalize ((w.alloc (.cells (bytesRow s cp) 5 ((bytesRow s cp).size, (bytesRow s cp).size + 1))).drew) = w2 at *
  have HB := Lib.hid hb0
  obtain ⟨g, hg⟩ : ∃ g, w.heap.size = g := ⟨_, rfl⟩
  rw [hg] at hB0 ⊢
  clear hcv hb0 hg
  go_loop [8] (fun i => ∃ k : Nat, k ≤ s.size ∧ i = .int .i64 k ∧ Hid ((s.data.toList.take k).all sgC = true)) (fun i => s.size - (intOf i).toNat)
  case atStart => exact ⟨0, by omega, rfl, Lib.hid rfl⟩
  case round =>
    obtain ⟨k, hk, rfl, hall⟩ := hrel
    by_cases hlt : k < s.size
    · obtain ⟨c, hc⟩ : ∃ c, s.data.toList[k]? = some c := ⟨s.data.toList[k]'(by rw [HZ.out]; exact hlt), List.getElem?_eq_getElem _⟩
      have HC := Lib.hid hc
      have p0 := hB0.cell k c hc
      rw [byteV] at p0
      have hltI : (k : Int) < (s.size : Int) := by omega
      have h0k : (0 : Int) ≤ (k : Int) := by omega
      clear hc
      rcases sgC_cases c with ⟨hs1, h1, h2⟩ | ⟨hs1, h1, h2⟩ | ⟨hs1, h1⟩ | ⟨hs1, h1, h2⟩ | ⟨hs1, h1⟩
      · have hn : Hid ((s.data.toList.take (k + 1)).all sgC = true) := Lib.hid (by rw [List.take_add_one, HC.out, Option.toList_some, List.all_append, hall.out]; simp [hs1])
        have f1 : ¬ (c.toNat : Int) < 65 := by omega
        have f2 : ¬ (90 : Int) < (c.toNat : Int) := by omega
        clear hs1 h1 h2
        go_wp2_with fail
        go_round
        case rel => first | exact ⟨k + 1, by omega, by go_num, hn⟩ | exact ⟨_, ⟨k + 1, by omega, by simp, hn⟩, rfl⟩
        case measure => simp [intOf]; omega
      · have hn : Hid ((s.data.toList.take (k + 1)).all sgC = true) := Lib.hid (by rw [List.take_add_one, HC.out, Option.toList_some, List.all_append, hall.out]; simp [hs1])
        have f1 : (c.toNat : Int) < 65 := by omega
        have f2 : ¬ (57 : Int) < (c.toNat : Int) := by omega
        have f3 : ¬ (c.toNat : Int) < 48 := by omega
        clear hs1 h1 h2
        go_wp2_with fail
        go_round
        case rel => first | exact ⟨k + 1, by omega, by go_num, hn⟩ | exact ⟨_, ⟨k + 1, by omega, by simp, hn⟩, rfl⟩
        case measure => simp [intOf]; omega
      · have hn := Lib.hid (sigL_no HC.out hs1)
        have f1 : (c.toNat : Int) < 65 := by omega
        have f3 : (c.toNat : Int) < 48 := by omega
        clear hs1 h1
        go_wp2_with fail
        go_ret
        exact ⟨by unfold sigB; rw [hn.out]; rfl, HB.out⟩
      · have hn := Lib.hid (sigL_no HC.out hs1)
        have f1 : (c.toNat : Int) < 65 := by omega
        have f2 : (57 : Int) < (c.toNat : Int) := by omega
        have f3 : ¬ (c.toNat : Int) < 48 := by omega
        clear hs1 h1 h2
        go_wp2_with fail
        go_ret
        exact ⟨by unfold sigB; rw [hn.out]; rfl, HB.out⟩
      · have hn := Lib.hid (sigL_no HC.out hs1)
        have f1 : ¬ (c.toNat : Int) < 65 := by omega
        have f2 : (90 : Int) < (c.toNat : Int) := by omega
        have f4 : (57 : Int) < (c.toNat : Int) := by omega
        have f3 : ¬ (c.toNat : Int) < 48 := by omega
        clear hs1 h1
        go_wp2_with fail
        go_ret
        exact ⟨by unfold sigB; rw [hn.out]; rfl, HB.out⟩
    · obtain rfl : k = s.size := by omega
      rw [List.take_of_length_le (Nat.le_of_eq HZ.out)] at hall
      have hge : ¬ (s.size : Int) < (s.size : Int) := by omega
      go_wp2_with fail
      go_ret
      refine ⟨?_, HB.out⟩
      unfold sigB sigL
      rw [hall.out, HZ.out, Bool.true_and]
      by_cases h2 : s.size = 2
      · simp [h2]
      · have h3 : ¬ (s.size : Int) = 2 := by omega
        simp [h2, h3]

set_option maxHeartbeats 1000000 in
theorem rsig_any (s : ByteArray) (w : World) : Calls Try.prog 50 #[.string s] w fun e w' => e = .returned (.bool (sigB s)) ∧ w = w' := by
  have hsz : s.data.toList.length = s.size := by simp
  have HZ := Lib.hid hsz
  clear hsz
  go_enter Try.func50, Try.ntmps50
  by_cases h2 : s.size = 2
  · have h2I : (s.size : Int) = 2 := by omega
    have H2 := Lib.hid h2
    go_wp2_with fail
    go_loop [3] (fun i => ∃ k : Nat, k ≤ 2 ∧ i = .int .i64 k ∧ Hid ((s.data.toList.take k).all sgC = true)) (fun i => 2 - (intOf i).toNat)
    case atStart => exact ⟨0, by omega, rfl, Lib.hid rfl⟩
    case round =>
      obtain ⟨k, hk, rfl, hall⟩ := hrel
      by_cases hlt : k < 2
      · have hltI : (k : Int) < 2 := by omega
        have hlts : k < s.size := by omega
        have hltsI : (k : Int) < (s.size : Int) := by omega
        have h0k : (0 : Int) ≤ (k : Int) := by omega
        have HC := Lib.hid (bytes_get s k hlts)
        rcases sgC_cases s[k] with ⟨hs1, h1, h2⟩ | ⟨hs1, h1, h2⟩ | ⟨hs1, h1⟩ | ⟨hs1, h1, h2⟩ | ⟨hs1, h1⟩
        · have hn : Hid ((s.data.toList.take (k + 1)).all sgC = true) := Lib.hid (by rw [List.take_add_one, HC.out, Option.toList_some, List.all_append, hall.out]; simp [hs1])
          have f1 : ¬ (s[k].toNat : Int) < 65 := by omega
          have f2 : ¬ (90 : Int) < (s[k].toNat : Int) := by omega
          clear hs1 h1 h2
          go_wp2_with fail
          go_round
          case rel => first | exact ⟨k + 1, by omega, by go_num, hn⟩ | exact ⟨_, ⟨k + 1, by omega, by simp, hn⟩, rfl⟩
          case measure => simp [intOf]; omega
        · have hn : Hid ((s.data.toList.take (k + 1)).all sgC = true) := Lib.hid (by rw [List.take_add_one, HC.out, Option.toList_some, List.all_append, hall.out]; simp [hs1])
          have f1 : (s[k].toNat : Int) < 65 := by omega
          have f2 : ¬ (57 : Int) < (s[k].toNat : Int) := by omega
          have f3 : ¬ (s[k].toNat : Int) < 48 := by omega
          clear hs1 h1 h2
          go_wp2_with fail
          go_round
          case rel => first | exact ⟨k + 1, by omega, by go_num, hn⟩ | exact ⟨_, ⟨k + 1, by omega, by simp, hn⟩, rfl⟩
          case measure => simp [intOf]; omega
        · have hn := Lib.hid (sigL_no HC.out hs1)
          have f1 : (s[k].toNat : Int) < 65 := by omega
          have f3 : (s[k].toNat : Int) < 48 := by omega
          clear hs1 h1
          go_wp2_with fail
          go_ret
          exact ⟨by unfold sigB; rw [hn.out]; rfl, rfl⟩
        · have hn := Lib.hid (sigL_no HC.out hs1)
          have f1 : (s[k].toNat : Int) < 65 := by omega
          have f2 : (57 : Int) < (s[k].toNat : Int) := by omega
          have f3 : ¬ (s[k].toNat : Int) < 48 := by omega
          clear hs1 h1 h2
          go_wp2_with fail
          go_ret
          exact ⟨by unfold sigB; rw [hn.out]; rfl, rfl⟩
        · have hn := Lib.hid (sigL_no HC.out hs1)
          have f1 : ¬ (s[k].toNat : Int) < 65 := by omega
          have f2 : (90 : Int) < (s[k].toNat : Int) := by omega
          have f4 : (57 : Int) < (s[k].toNat : Int) := by omega
          have f3 : ¬ (s[k].toNat : Int) < 48 := by omega
          clear hs1 h1
          go_wp2_with fail
          go_ret
          exact ⟨by unfold sigB; rw [hn.out]; rfl, rfl⟩
      · obtain rfl : k = 2 := by omega
        rw [List.take_of_length_le (by rw [HZ.out, H2.out]; decide)] at hall
        go_wp2_with fail
        go_ret
        exact ⟨by unfold sigB sigL; rw [hall.out, HZ.out, H2.out]; rfl, rfl⟩
  · have h2I : ¬ (s.size : Int) = 2 := by omega
    have hn : sigB s = false := by
      cases h : sigB s with
      | false => rfl
      | true => exact absurd (sigB_size h) h2
    have HN := Lib.hid hn
    clear hn h2
    go_wp2_with fail
    go_ret
    exact ⟨by rw [HN.out]; rfl, rfl⟩
/-- The error of one entry. -/
def errE (x : Ent) : Int := if sigB x.sg = false then 1 else if x.v < 0 ∨ 255 < x.v then 2 else if 251 < x.d.size then 7 else 0
/-- The first error of entries. -/
def errL : List Ent → Int
  | [] => 0
  | x :: l => if errE x ≠ 0 then errE x else errL l
def checkL (l : List Ent) : Int := if 1024 < l.length then 7 else errL l
theorem errL_hit : ∀ {l : List Ent} {k : Nat} {x : Ent}, errL (l.take k) = 0 → l[k]? = some x → errE x ≠ 0 → errL l = errE x
  | [], _, _, _, h, _ => by simp at h
  | y :: l, 0, x, _, h, hx => by
    simp at h
    subst h
    unfold errL
    rw [if_pos hx]
  | y :: l, k + 1, x, h0, h, hx => by
    rw [List.take_succ_cons] at h0
    unfold errL at h0 ⊢
    by_cases hy : errE y ≠ 0
    · rw [if_pos hy] at h0; exact absurd h0 hy
    · rw [if_neg hy] at h0 ⊢
      exact errL_hit h0 (by simpa using h) hx
theorem errL_take : ∀ {l : List Ent} {k : Nat} {x : Ent}, errL (l.take k) = 0 → l[k]? = some x → errE x = 0 → errL (l.take (k + 1)) = 0
  | [], _, _, _, h, _ => by simp at h
  | y :: l, 0, x, _, h, hx => by
    simp at h
    subst h
    simp [errL, hx]
  | y :: l, k + 1, x, h0, h, hx => by
    rw [List.take_succ_cons] at h0 ⊢
    unfold errL at h0 ⊢
    by_cases hy : errE y ≠ 0
    · rw [if_pos hy] at h0; exact absurd h0 hy
    · rw [if_neg hy] at h0 ⊢
      exact errL_take h0 (by simpa using h) hx
theorem errL_each : ∀ {l : List Ent}, errL l = 0 → ∀ x ∈ l, errE x = 0
  | [], _, x, hx => (List.not_mem_nil hx).elim
  | y :: l, h, x, hx => by
    unfold errL at h
    by_cases hy : errE y ≠ 0
    · rw [if_pos hy] at h; exact absurd h hy
    · rw [if_neg hy] at h
      rcases List.mem_cons.1 hx with rfl | hx
      · exact Decidable.byContradiction hy
      · exact errL_each h x hx
theorem errL_of : ∀ {l : List Ent}, (∀ x ∈ l, errE x = 0) → errL l = 0
  | [], _ => rfl
  | y :: l, h => by
    unfold errL
    rw [if_neg (by rw [h y List.mem_cons_self]; simp)]
    exact errL_of (fun x hx => h x (List.mem_cons_of_mem _ hx))
theorem errE_zero {x : Ent} : errE x = 0 ↔ sigB x.sg = true ∧ 0 ≤ x.v ∧ x.v ≤ 255 ∧ x.d.size ≤ 251 := by
  unfold errE
  constructor
  · intro h
    split at h
    · cases h
    · rename_i h1
      split at h
      · cases h
      · split at h
        · cases h
        · exact ⟨by simpa using h1, by omega, by omega, by omega⟩
  · rintro ⟨h1, h2, h3, h4⟩
    rw [if_neg (by simp [h1]), if_neg (by omega), if_neg (by omega)]

set_option maxHeartbeats 2000000 in
theorem check_any (A : Option Addr) (c : Nat) (l : List Ent) (w : World) (h : EnAt w w.heap.size A l) (hsg : l.length ≤ 1024 → ∀ x ∈ l, x.sg.size ≤ 140737488351232) :
    Calls Try.prog 44 #[.slice A l.length c] w fun e w' => e = .returned (.int .i64 (checkL l)) ∧ Below w.heap.size w w' := by
  have HS := Lib.hid h
  obtain ⟨n, hn⟩ : ∃ n, l.length = n := ⟨_, rfl⟩
  have HN := Lib.hid hn
  rw [hn] at hsg
  unfold checkL
  rw [hn]
  clear h hn
  go_enter Try.func44, Try.ntmps44
  by_cases h1 : 1024 < n
  · have h1I : (1024 : Int) < (n : Int) := by omega
    rw [if_pos h1]
    clear hsg h1
    go_wp2_with fail
    go_ret
    exact ⟨rfl, Below.refl _ _⟩
  · have h1I : ¬ (1024 : Int) < (n : Int) := by omega
    rw [if_neg h1]
    have HG := Lib.hid (hsg (by omega))
    clear hsg
    go_wp2_with fail
    go_loopw [10] (fun i wr => ∃ k : Nat, k ≤ n ∧ i = .int .i64 k ∧ Hid (errL (l.take k) = 0) ∧ Below w.heap.size w wr) (fun i _ => n - (intOf i).toNat)
    case atStart => exact ⟨0, by omega, rfl, Lib.hid rfl, Below.refl _ _⟩
    case round =>
      obtain ⟨k, hk, rfl, hall, hbel⟩ := hrel
      by_cases hlt : k < n
      · obtain ⟨x, hx⟩ : ∃ s, l[k]? = some s := ⟨l[k]'(by rw [HN.out]; exact hlt), List.getElem?_eq_getElem _⟩
        obtain ⟨b, off, hA, hbk⟩ := HS.out.one (by rw [HN.out]; omega)
        subst hA
        obtain ⟨p0, p1, p2⟩ := (HS.out.below hbel).cells rfl hx
        have hltI : (k : Int) < (n : Int) := by omega
        have h0k : (0 : Int) ≤ (k : Int) := by omega
        have CS := Lib.hid (fun w => issig_any x.sg w (HG.out x (List.mem_of_getElem? hx)))
        have HX := Lib.hid hx
        clear hx
        go_wp2_with fail
        refine (CS.out _).mono ?_
        rintro e w2 ⟨rfl, hb2⟩
        have hr2 := (RowAt.new wr _ _).below hb2 (by simp)
        have q0 := hr2.cell 0
        have q1 := hr2.cell 1
        have q2 := hr2.cell 2
        simp only [List.getElem?_toArray] at q0 q1 q2
        have hbw : Below w.heap.size w w2 := (hbel.alloc hbel.size _).trans (hb2.mono (by have := hbel.size; simp; omega))
        clear hr2 hb2 p0 p1 p2 CS
        by_cases hE : errE x = 0
        · obtain ⟨e1, e2, e3, e4⟩ := errE_zero.1 hE
          have hn1 := Lib.hid (errL_take hall.out HX.out hE)
          rw [e1]
          have f1 : ¬ x.v < 0 := by omega
          have f2 : ¬ 255 < x.v := by omega
          have f3 : ¬ (251 : Int) < (x.d.size : Int) := by omega
          clear e1 e2 e3 e4 hE
          go_wp2_with fail
          refine ⟨⟨k + 1, by omega, by simp, hn1, hbw⟩, by simp [intOf]; omega⟩
        · have hn1 := Lib.hid (errL_hit hall.out HX.out hE)
          cases h2 : sigB x.sg with
          | false =>
            have h3 : errE x = 1 := by unfold errE; rw [if_pos h2]
            clear h2 hE
            go_wp2_with fail
            go_ret
            exact ⟨by rw [hn1.out, h3]; rfl, hbw⟩
          | true =>
            by_cases h4 : x.v < 0 ∨ 255 < x.v
            · have h3 := Lib.hid (show errE x = 2 by unfold errE; rw [if_neg (by simp [h2]), if_pos h4])
              by_cases h5 : x.v < 0
              · clear h2 hE h4
                go_wp2_with fail
                go_ret
                exact ⟨by rw [hn1.out, h3.out]; rfl, hbw⟩
              · have h6 : 255 < x.v := by omega
                clear h2 hE h4
                go_wp2_with fail
                go_ret
                exact ⟨by rw [hn1.out, h3.out]; rfl, hbw⟩
            · have h7 : 251 < x.d.size := by
                apply Decidable.byContradiction
                intro h8
                exact hE (errE_zero.2 ⟨h2, by omega, by omega, by omega⟩)
              have h3 := Lib.hid (show errE x = 7 by unfold errE; rw [if_neg (by simp [h2]), if_neg h4, if_pos h7])
              have f1 : ¬ x.v < 0 := by omega
              have f2 : ¬ 255 < x.v := by omega
              have f3 : (251 : Int) < (x.d.size : Int) := by omega
              clear h2 hE h4 h7
              go_wp2_with fail
              go_ret
              exact ⟨by rw [hn1.out, h3.out]; rfl, hbw⟩
      · obtain rfl : k = n := by omega
        rw [List.take_of_length_le (Nat.le_of_eq HN.out)] at hall
        have hge : ¬ (k : Int) < (k : Int) := by omega
        go_wp2_with fail
        go_ret
        exact ⟨by rw [hall.out]; rfl, hbel⟩
end Go.Proofs.Ytnomodbcpndocaa
