/-
  Chapter 24: Lengths of both; SameGroups and slices.Equal of equal lists.
-/
import Derived.Test.YtnomodbcpndocaaSuN
import Derived.Test.YtnomodbcpndocaaSuK
namespace Go.Proofs.Ytnomodbcpndocaa
open Go.RowKit
set_option linter.unusedVariables false

def intV (l : List Int) : List Value := l.map (Value.int .i64)
theorem SlAt.int {w : World} {B : Nat} {A : Option Addr} {l : List Int} (h : SlAt w B A (intV l)) {b off : Nat} (hA : A = some ⟨b, off, none⟩) {k : Nat} {n : Int} (hk : l[k]? = some n) : w.cell? ⟨b, off + k, none⟩ = some (.int .i64 n) := by
  obtain ⟨b', off', e, _, hc⟩ := h k (.int .i64 n) (by simp [intV, hk])
  rw [hA] at e
  injection e with e
  injection e with e1 e2 _
  subst e1 e2
  exact hc
theorem SlAt.intAddr {w : World} {B : Nat} {A : Option Addr} {l : List Int} (h : SlAt w B A (intV l)) (hp : 0 < l.length) : ∃ b off, A = some ⟨b, off, none⟩ ∧ b < B := by
  obtain ⟨b, off, hA, hb, _⟩ := h.one (by simpa [intV] using hp)
  exact ⟨b, off, hA, hb⟩
theorem SlAt.str {w : World} {B : Nat} {A : Option Addr} {l : List ByteArray} (h : SlAt w B A (strV l)) {b off : Nat} (hA : A = some ⟨b, off, none⟩) {k : Nat} {n : ByteArray} (hk : l[k]? = some n) : w.cell? ⟨b, off + k, none⟩ = some (.string n) := by
  obtain ⟨b', off', e, _, hc⟩ := h k (.string n) (by simp [strV, hk])
  rw [hA] at e
  injection e with e
  injection e with e1 e2 _
  subst e1 e2
  exact hc
theorem SlAt.strAddr {w : World} {B : Nat} {A : Option Addr} {l : List ByteArray} (h : SlAt w B A (strV l)) (hp : 0 < l.length) : ∃ b off, A = some ⟨b, off, none⟩ ∧ b < B := by
  obtain ⟨b, off, hA, hb, _⟩ := h.one (by simpa [strV] using hp)
  exact ⟨b, off, hA, hb⟩
theorem SlAt.val {w : World} {B : Nat} {A : Option Addr} {hs : List Value} (h : SlAt w B A hs) {b off : Nat} (hA : A = some ⟨b, off, none⟩) {k : Nat} {v : Value} (hk : hs[k]? = some v) : w.cell? ⟨b, off + k, none⟩ = some v := by
  obtain ⟨b', off', e, _, hc⟩ := h k v hk
  rw [hA] at e
  injection e with e
  injection e with e1 e2 _
  subst e1 e2
  exact hc
theorem SlAt.addr {w : World} {B : Nat} {A : Option Addr} {hs : List Value} (h : SlAt w B A hs) (hp : 0 < hs.length) : ∃ b off, A = some ⟨b, off, none⟩ ∧ b < B := by
  obtain ⟨b, off, hA, hb, _⟩ := h.one hp
  exact ⟨b, off, hA, hb⟩
set_option maxHeartbeats 1000000 in
theorem eqints_same (A A' : Option Addr) (c c' : Nat) (l : List Int) (w : World) (h : SlAt w w.heap.size A (intV l)) (h' : SlAt w w.heap.size A' (intV l)) (hl : l.length ≤ 1000000) :
    Calls Try.prog 21 #[.slice A l.length c, .slice A' l.length c'] w fun e w' => e = .returned (.bool true) ∧ Below w.heap.size w w' := by
  have HS := Lib.hid h
  have HS' := Lib.hid h'
  obtain ⟨n, hn⟩ : ∃ n, l.length = n := ⟨_, rfl⟩
  have HN := Lib.hid hn
  rw [hn] at hl ⊢
  clear h h' hn
  go_enter Try.func21, Try.ntmps21
  go_wp2_with fail
  go_loopw [13] (fun i wr => ∃ k : Nat, k ≤ n ∧ i = .int .i64 k ∧ Below w.heap.size w wr) (fun i _ => n - (intOf i).toNat)
  case atStart => exact ⟨0, by omega, rfl, Below.refl _ _⟩
  case round =>
    obtain ⟨k, hk, rfl, hbel⟩ := hrel
    by_cases hlt : k < n
    · obtain ⟨s, hs⟩ : ∃ s, l[k]? = some s := ⟨l[k]'(by rw [HN.out]; exact hlt), List.getElem?_eq_getElem _⟩
      obtain ⟨b, off, hA, hbk⟩ := HS.out.intAddr (by rw [HN.out]; omega)
      obtain ⟨b', off', hA', hbk'⟩ := HS'.out.intAddr (by rw [HN.out]; omega)
      subst hA hA'
      have p0 := (HS.out.below hbel).int rfl hs
      have q0 := (HS'.out.below hbel).int rfl hs
      have hltI : (k : Int) < (n : Int) := by omega
      have h0k : (0 : Int) ≤ (k : Int) := by omega
      clear hs
      go_wp2_with fail
      go_quiet (fail)
      go_wp2_with fail
      go_roundw
      case rel => first | exact ⟨k + 1, by omega, by go_num, below_drewN hbel _⟩ | exact ⟨_, ⟨k + 1, by omega, by simp, below_drewN hbel _⟩, rfl⟩ | exact ⟨_, _, ⟨k + 1, by omega, by simp, below_drewN hbel _⟩, rfl, rfl⟩ | exact ⟨_, _, _, ⟨k + 1, by omega, by simp, below_drewN hbel _⟩, rfl, rfl, rfl⟩
      case measure => simp [intOf]; omega
    · have hge : ¬ (k : Int) < (n : Int) := by omega
      go_wp2_with fail
      go_ret
      exact ⟨rfl, hbel⟩
set_option maxHeartbeats 1000000 in
theorem eqstrs_same (A A' : Option Addr) (c c' : Nat) (l : List ByteArray) (w : World) (h : SlAt w w.heap.size A (strV l)) (h' : SlAt w w.heap.size A' (strV l)) (hl : l.length ≤ 1000000) :
    Calls Try.prog 30 #[.slice A l.length c, .slice A' l.length c'] w fun e w' => e = .returned (.bool true) ∧ Below w.heap.size w w' := by
  have HS := Lib.hid h
  have HS' := Lib.hid h'
  obtain ⟨n, hn⟩ : ∃ n, l.length = n := ⟨_, rfl⟩
  have HN := Lib.hid hn
  rw [hn] at hl ⊢
  clear h h' hn
  go_enter Try.func30, Try.ntmps30
  go_wp2_with fail
  go_loopw [13] (fun i wr => ∃ k : Nat, k ≤ n ∧ i = .int .i64 k ∧ Below w.heap.size w wr) (fun i _ => n - (intOf i).toNat)
  case atStart => exact ⟨0, by omega, rfl, Below.refl _ _⟩
  case round =>
    obtain ⟨k, hk, rfl, hbel⟩ := hrel
    by_cases hlt : k < n
    · obtain ⟨s, hs⟩ : ∃ s, l[k]? = some s := ⟨l[k]'(by rw [HN.out]; exact hlt), List.getElem?_eq_getElem _⟩
      obtain ⟨b, off, hA, hbk⟩ := HS.out.strAddr (by rw [HN.out]; omega)
      obtain ⟨b', off', hA', hbk'⟩ := HS'.out.strAddr (by rw [HN.out]; omega)
      subst hA hA'
      have p0 := (HS.out.below hbel).str rfl hs
      have q0 := (HS'.out.below hbel).str rfl hs
      have hltI : (k : Int) < (n : Int) := by omega
      have h0k : (0 : Int) ≤ (k : Int) := by omega
      clear hs
      go_wp2_with fail
      go_quiet (fail)
      go_wp2_with fail
      go_roundw
      case rel => first | exact ⟨k + 1, by omega, by go_num, below_drewN hbel _⟩ | exact ⟨_, ⟨k + 1, by omega, by simp, below_drewN hbel _⟩, rfl⟩ | exact ⟨_, _, ⟨k + 1, by omega, by simp, below_drewN hbel _⟩, rfl, rfl⟩ | exact ⟨_, _, _, ⟨k + 1, by omega, by simp, below_drewN hbel _⟩, rfl, rfl, rfl⟩
      case measure => simp [intOf]; omega
    · have hge : ¬ (k : Int) < (n : Int) := by omega
      go_wp2_with fail
      go_ret
      exact ⟨rfl, hbel⟩
set_option maxHeartbeats 2000000 in
theorem samegroups_same (A A' : Option Addr) (c c' : Nat) (hs hs' : List Value) (ll : List (List Ent)) (w : World) (h : SlAt w w.heap.size A hs) (h' : SlAt w w.heap.size A' hs') (hS : GrAt w w.heap.size hs ll) (hS' : GrAt w w.heap.size hs' ll) (hl : ll.length ≤ 1000000) (hl2 : ∀ l ∈ ll, l.length ≤ 1000000) :
    Calls Try.prog 20 #[.slice A ll.length c, .slice A' ll.length c'] w fun e w' => e = .returned (.bool true) ∧ Below w.heap.size w w' := by
  have HS := Lib.hid h
  have HS' := Lib.hid h'
  have HL := Lib.hid hl2
  have HN1 := Lib.hid hS.1
  have HN2 := Lib.hid hS'.1
  have HG := Lib.hid hS
  have HG' := Lib.hid hS'
  obtain ⟨n, hn⟩ : ∃ n, ll.length = n := ⟨_, rfl⟩
  have HN := Lib.hid hn
  rw [hn] at hl HN1 HN2 ⊢
  clear h h' hn hl2 hS hS'
  go_enter Try.func20, Try.ntmps20
  go_wp2_with fail
  go_loopw [5] (fun i wr => ∃ k : Nat, k ≤ n ∧ i = .int .i64 k ∧ Below w.heap.size w wr) (fun i _ => n - (intOf i).toNat)
  case atStart => exact ⟨0, by omega, rfl, Below.refl _ _⟩
  case round =>
    obtain ⟨k, hk, rfl, hbel⟩ := hrel
    by_cases hlt : k < n
    · obtain ⟨s, hs1⟩ : ∃ s, ll[k]? = some s := ⟨ll[k]'(by rw [HN.out]; exact hlt), List.getElem?_eq_getElem _⟩
      obtain ⟨b, off, hA, hbk⟩ := HS.out.addr (by rw [HN1.out]; omega)
      obtain ⟨b', off', hA', hbk'⟩ := HS'.out.addr (by rw [HN2.out]; omega)
      subst hA hA'
      obtain ⟨P, cp, e1, _, hP⟩ := HG.out.2 k s hs1
      obtain ⟨Q, cq, e2, _, hQ⟩ := HG'.out.2 k s hs1
      have g1 := (HS.out.below hbel).val rfl e1
      have g2 := (HS'.out.below hbel).val rfl e2
      have hltI : (k : Int) < (n : Int) := by omega
      have h0k : (0 : Int) ≤ (k : Int) := by omega
      have hsl := HL.out s (List.mem_of_getElem? hs1)
      have hP' := (hP.below hbel).mono hbel.size
      have hQ' := (hQ.below hbel).mono hbel.size
      have C := Lib.hid (ents_same P Q cp cq s wr.drew hP' hQ' hsl)
      clear hs1 hP hQ e1 e2
      go_wp2_with fail
      go_region_with ((go_at_call 17; refine C.out.mono ?_; rintro e w2 ⟨rfl, hb2⟩))
      all_goals
        go_wp2_with fail
        go_roundw
        case rel => first | exact ⟨k + 1, by omega, by go_num, hbel.drew.trans (hb2.mono hbel.drew.size)⟩ | exact ⟨_, _, _, ⟨k + 1, by omega, by simp, hbel.drew.trans (hb2.mono hbel.drew.size)⟩, rfl, rfl, rfl⟩
        case measure => simp [intOf]; omega
    · have hge : ¬ (k : Int) < (n : Int) := by omega
      go_wp2_with fail
      go_ret
      exact ⟨rfl, hbel⟩

def lenL : List (List Ent) → List Int
  | [] => []
  | l :: r => (((sizeL l : Nat) : Int) + (if r.length = 0 then 0 else 28)) :: lenL r
theorem lenL_length : ∀ ll : List (List Ent), (lenL ll).length = ll.length
  | [] => rfl
  | l :: r => by rw [lenL, List.length_cons, List.length_cons, lenL_length r]
theorem lenL_get : ∀ (ll : List (List Ent)) (k : Nat) (l : List Ent), ll[k]? = some l → (lenL ll)[k]? = some (((sizeL l : Nat) : Int) + (if k + 1 < ll.length then 28 else 0))
  | [], k, l, h => by simp at h
  | x :: r, 0, l, h => by
    simp at h
    subst h
    rw [lenL, List.getElem?_cons_zero, List.length_cons]
    congr 2
    by_cases h0 : r.length = 0
    · rw [if_pos h0, if_neg (by omega)]
    · rw [if_neg h0, if_pos (by omega)]
  | x :: r, k + 1, l, h => by
    rw [List.getElem?_cons_succ] at h
    rw [lenL, List.getElem?_cons_succ, lenL_get r k l h, List.length_cons]
    congr 2
    by_cases h0 : k + 1 < r.length
    · rw [if_pos h0, if_pos (by omega)]
    · rw [if_neg h0, if_neg (by omega)]
theorem sizeL_ge : ∀ l : List Ent, 4 * l.length ≤ sizeL l
  | [] => Nat.zero_le _
  | x :: l => by rw [sizeL_cons, List.length_cons]; have := sizeL_ge l; unfold sizeE; omega
theorem sizeL_mem {l : List Ent} {x : Ent} (h : x ∈ l) : x.d.size ≤ sizeL l := by
  induction l with
  | nil => cases h
  | cons y l ih =>
    rw [sizeL_cons]
    rcases List.mem_cons.1 h with rfl | h
    · unfold sizeE; omega
    · have := ih h; omega
def LenRes (ll : List (List Ent)) (w : World) (e : Ending) (w' : World) : Prop :=
  Below w.heap.size w w' ∧ ∃ A c, e = .returned (.slice A ll.length c) ∧ ll.length ≤ c ∧ w'.ownsRow w.heap.size 3 1 (.slice A ll.length c) ll.length (intV (lenL ll))
theorem info_int : (Try.prog.info? 3).map (fun i => (i.zero, i.size, i.bytes)) = some (some (.int .i64 0), 1, 8) := by kernel_rfl
theorem intV_snoc (l : List Int) (n : Int) : intV (l ++ [n]) = intV l ++ [.int .i64 n] := by simp [intV]

set_option maxRecDepth 100000 in
set_option maxHeartbeats 2000000 in
theorem lengths_any (A : Option Addr) (c : Nat) (hs : List Value) (ll : List (List Ent)) (w : World) (h : SlAt w w.heap.size A hs) (hG : GrAt w w.heap.size hs ll) (hl : ll.length ≤ 1000000) (hz : ∀ l ∈ ll, sizeL l ≤ 1000000000) :
    Calls Try.prog 22 #[.slice A ll.length c] w (LenRes ll w) := by
  have HS := Lib.hid h
  have HG := Lib.hid hG
  have HZ := Lib.hid hz
  have HN1 := Lib.hid hG.1
  obtain ⟨n, hn⟩ : ∃ n, ll.length = n := ⟨_, rfl⟩
  have HN := Lib.hid hn
  rw [hn] at hl HN1 ⊢
  clear h hn hG hz
  go_enter Try.func22, Try.ntmps22
  go_wp2_with fail
  go_loopw [3, 9] (fun o i wr => ∃ k : Nat, k ≤ n ∧ i = .int .i64 k ∧ wr.ownsRow w.heap.size 3 1 o k (intV ((lenL ll).take k)) ∧ Below w.heap.size w wr) (fun _ i _ => n - (intOf i).toNat)
  case atStart => exact ⟨0, by omega, rfl, World.ownsRow_nil _ _ _ _, Below.refl _ _⟩
  case round =>
    obtain ⟨k, hk, rfl, hown, hbel⟩ := hrel
    obtain ⟨Ao, co, hov⟩ := own_slice hown
    subst hov
    by_cases hlt : k < n
    · obtain ⟨l, hx⟩ : ∃ s, ll[k]? = some s := ⟨ll[k]'(by rw [HN.out]; exact hlt), List.getElem?_eq_getElem _⟩
      obtain ⟨b, off, hA, hbk⟩ := HS.out.addr (by rw [HN1.out]; omega)
      subst hA
      obtain ⟨P, cp, e1, _, hP⟩ := HG.out.2 k l hx
      have g1 := (HS.out.below hbel).val rfl e1
      have hltI : (k : Int) < (n : Int) := by omega
      have h0k : (0 : Int) ≤ (k : Int) := by omega
      have hsz := HZ.out l (List.mem_of_getElem? hx)
      have hl4 := sizeL_ge l
      have C := Lib.hid (size_any P cp l wr ((hP.below hbel).mono hbel.size) (by omega) (fun x hx => by have := sizeL_mem hx; unfold maxLen; omega))
      rw [show wrap64 ((sizeL l : Nat) : Int) = ((sizeL l : Nat) : Int) from IntWalk.wrap64_in _ (by omega)] at C
      have HX := Lib.hid (lenL_get ll k l hx)
      rw [HN.out] at HX
      obtain ⟨m, hm⟩ : ∃ m, l.length = m := ⟨_, rfl⟩
      obtain ⟨Z, hZ⟩ : ∃ Z, sizeL l = Z := ⟨_, rfl⟩
      rw [hm] at C g1 hl4
      rw [hZ] at C HX hsz hl4
      have HO := Lib.hid hown
      have HB := Lib.hid hbel
      clear hx hP e1 hm hZ hown hbel
      go_wp2_with fail
      refine C.out.mono ?_
      rintro e w2 ⟨rfl, HBW⟩
      have HO2 := Lib.hid (own_all HO.out HBW)
      have HB2 := Lib.hid (HB.out.trans (HBW.mono HB.out.size))
      clear HBW HO HB C
      by_cases hlast : k + 1 < n
      · have hlastI : (k : Int) + 1 < (n : Int) := by omega
        have HT : Hid ((lenL ll).take (k + 1) = (lenL ll).take k ++ [(Z : Int) + 28]) := Lib.hid (by rw [List.take_add_one, HX.out, if_pos hlast]; rfl)
        go_wp2_with (at_builtin; refine wpList_app1 HO2.out info_int Try.underlying38 rfl (by unfold maxLen; omega) (by omega) HB2.out.size rfl rfl rfl (by rfl) (by rfl) ?_; intro v5 w6 hown6 hb6 hg6; rw [← intV_snoc, ← HT.out] at hown6)
        go_roundw
        case rel => exact ⟨k + 1, by omega, by go_num, hown6, HB2.out.trans hb6⟩
        case measure => simp [intOf]; omega
      · have hlastI : ¬ (k : Int) + 1 < (n : Int) := by omega
        have HT : Hid ((lenL ll).take (k + 1) = (lenL ll).take k ++ [(Z : Int)]) := Lib.hid (by rw [List.take_add_one, HX.out, if_neg hlast, Int.add_zero]; rfl)
        go_wp2_with (at_builtin; refine wpList_app1 HO2.out info_int Try.underlying38 rfl (by unfold maxLen; omega) (by omega) HB2.out.size rfl rfl rfl (by rfl) (by rfl) ?_; intro v5 w6 hown6 hb6 hg6; rw [← intV_snoc, ← HT.out] at hown6)
        go_roundw
        case rel => exact ⟨k + 1, by omega, by go_num, hown6, HB2.out.trans hb6⟩
        case measure => simp [intOf]; omega
    · obtain rfl : k = n := by omega
      have hge : ¬ (k : Int) < (k : Int) := by omega
      have HO : Hid (wr.ownsRow w.heap.size 3 1 (.slice Ao k co) k (intV (lenL ll))) := Lib.hid (by rwa [List.take_of_length_le (by rw [lenL_length, HN.out]; exact Nat.le_refl _)] at hown)
      clear hown
      go_wp2_with fail
      go_ret
      refine ⟨hbel, Ao, co, by rw [HN.out]; rfl, ?_, ?_⟩
      · rw [HN.out]; exact own_cap HO.out
      · rw [HN.out]; exact HO.out
set_option maxRecDepth 100000 in
set_option maxHeartbeats 2000000 in
theorem rlengths_any (A : Option Addr) (c : Nat) (hs : List Value) (ll : List (List Ent)) (w : World) (h : SlAt w w.heap.size A hs) (hG : GrAt w w.heap.size hs ll) (hl : ll.length ≤ 1000000) (hz : ∀ l ∈ ll, sizeL l ≤ 1000000000) :
    Calls Try.prog 23 #[.slice A ll.length c] w (LenRes ll w) := by
  have HS := Lib.hid h
  have HG := Lib.hid hG
  have HZ := Lib.hid hz
  have HN1 := Lib.hid hG.1
  obtain ⟨n, hn⟩ : ∃ n, ll.length = n := ⟨_, rfl⟩
  have HN := Lib.hid hn
  rw [hn] at hl HN1 ⊢
  clear h hn hG hz
  go_enter Try.func23, Try.ntmps23
  go_wp2_with fail
  go_loopw [3, 4] (fun o i wr => ∃ k : Nat, k ≤ n ∧ i = .int .i64 k ∧ wr.ownsRow w.heap.size 3 1 o k (intV ((lenL ll).take k)) ∧ Below w.heap.size w wr) (fun _ i _ => n - (intOf i).toNat)
  case atStart => exact ⟨0, by omega, rfl, World.ownsRow_nil _ _ _ _, Below.refl _ _⟩
  case round =>
    obtain ⟨k, hk, rfl, hown, hbel⟩ := hrel
    obtain ⟨Ao, co, hov⟩ := own_slice hown
    subst hov
    by_cases hlt : k < n
    · obtain ⟨l, hx⟩ : ∃ s, ll[k]? = some s := ⟨ll[k]'(by rw [HN.out]; exact hlt), List.getElem?_eq_getElem _⟩
      obtain ⟨b, off, hA, hbk⟩ := HS.out.addr (by rw [HN1.out]; omega)
      subst hA
      obtain ⟨P, cp, e1, _, hP⟩ := HG.out.2 k l hx
      have g1 := (HS.out.below hbel).val rfl e1
      have hltI : (k : Int) < (n : Int) := by omega
      have h0k : (0 : Int) ≤ (k : Int) := by omega
      have hsz := HZ.out l (List.mem_of_getElem? hx)
      have hl4 := sizeL_ge l
      have C := Lib.hid (rsize_any P cp l wr ((hP.below hbel).mono hbel.size) (by omega))
      rw [show wrap64 ((sizeL l : Nat) : Int) = ((sizeL l : Nat) : Int) from IntWalk.wrap64_in _ (by omega)] at C
      have HX := Lib.hid (lenL_get ll k l hx)
      rw [HN.out] at HX
      obtain ⟨m, hm⟩ : ∃ m, l.length = m := ⟨_, rfl⟩
      obtain ⟨Z, hZ⟩ : ∃ Z, sizeL l = Z := ⟨_, rfl⟩
      rw [hm] at C g1 hl4
      rw [hZ] at C HX hsz hl4
      have HO := Lib.hid hown
      have HB := Lib.hid hbel
      clear hx hP e1 hm hZ hown hbel
      go_wp2_with fail
      refine C.out.mono ?_
      rintro e w2 ⟨rfl, rfl⟩
      have HO2 := Lib.hid (HO.out)
      have HB2 := Lib.hid (HB.out)
      clear HO HB C
      by_cases hlast : k + 1 < n
      · have hlastI : (k : Int) + 1 < (n : Int) := by omega
        have HT : Hid ((lenL ll).take (k + 1) = (lenL ll).take k ++ [(Z : Int) + 28]) := Lib.hid (by rw [List.take_add_one, HX.out, if_pos hlast]; rfl)
        go_wp2_with (at_builtin; refine wpList_app1 HO2.out info_int Try.underlying38 rfl (by unfold maxLen; omega) (by omega) HB2.out.size rfl rfl rfl (by rfl) (by rfl) ?_; intro v5 w6 hown6 hb6 hg6; rw [← intV_snoc, ← HT.out] at hown6)
        go_roundw
        case rel => exact ⟨k + 1, by omega, by go_num, hown6, HB2.out.trans hb6⟩
        case measure => simp [intOf]; omega
      · have hlastI : ¬ (k : Int) + 1 < (n : Int) := by omega
        have HT : Hid ((lenL ll).take (k + 1) = (lenL ll).take k ++ [(Z : Int)]) := Lib.hid (by rw [List.take_add_one, HX.out, if_neg hlast, Int.add_zero]; rfl)
        go_wp2_with (at_builtin; refine wpList_app1 HO2.out info_int Try.underlying38 rfl (by unfold maxLen; omega) (by omega) HB2.out.size rfl rfl rfl (by rfl) (by rfl) ?_; intro v5 w6 hown6 hb6 hg6; rw [← intV_snoc, ← HT.out] at hown6)
        go_roundw
        case rel => exact ⟨k + 1, by omega, by go_num, hown6, HB2.out.trans hb6⟩
        case measure => simp [intOf]; omega
    · obtain rfl : k = n := by omega
      have hge : ¬ (k : Int) < (k : Int) := by omega
      have HO : Hid (wr.ownsRow w.heap.size 3 1 (.slice Ao k co) k (intV (lenL ll))) := Lib.hid (by rwa [List.take_of_length_le (by rw [lenL_length, HN.out]; exact Nat.le_refl _)] at hown)
      clear hown
      go_wp2_with fail
      go_ret
      refine ⟨hbel, Ao, co, by rw [HN.out]; rfl, ?_, ?_⟩
      · rw [HN.out]; exact own_cap HO.out
      · rw [HN.out]; exact HO.out
end Go.Proofs.Ytnomodbcpndocaa
