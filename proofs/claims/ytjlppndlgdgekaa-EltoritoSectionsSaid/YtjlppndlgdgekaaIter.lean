/-
  The iterator over the entries of a block, and the numbers of an entry.
-/
import Derived.Test.YtjlppndlgdgekaaPart2
import Derived.Test.YtjlppndlgdgekaaBridge
import Derived.Laws.Strings
import Derived.RangeFuncWrites
import Derived.Shelf.Abstract
import Derived.Shelf.RegionOpen
import Derived.LoopNIn
import Derived.LoopIn
namespace Go.Proofs.Ytjlppndlgdgekaa
open Go.RowKit Go.Shelf
set_option linter.unusedVariables false
attribute [local go_sem] Oper.semAt_some

theorem numL_valN (l : List UInt8) : numL l = valN l := by
  induction l with
  | nil => rfl
  | cons b r ih => simp [numL, valN, ih]
theorem rd_eq (s : ByteArray) (h : s.size = 32) (a z : Nat) (haz : a + z ≤ 32) (h1 : 1 ≤ z) (h4 : z ≤ 4) : rV s.size a z (nLe s a z) = rdL s.data.toList a z := by
  rw [rV_in (by unfold sizeBad; omega) (decide_eq_true (by omega))]
  unfold rdV nLe rdL
  simp only [Int.toNat_natCast]
  rw [numL_valN]
  have hl := valN_lt (partB s a z)
  rw [partB_length (by omega)] at hl
  have : 256 ^ z ≤ 256 ^ 4 := Nat.pow_le_pow_right (by omega) h4
  rw [if_pos (by omega)]
  rfl
theorem read_any (s : ByteArray) (h : s.size = 32) (a z : Nat) (haz : a + z ≤ 32) (h1 : 1 ≤ z) (h4 : z ≤ 4) (w : World) :
    Calls Try.prog 35 #[.string s, .int .i64 a, .int .i64 z] w fun e w' => e = .returned (.int .i64 (rdL s.data.toList a z)) ∧ Below w.heap.size w w' := by
  have C := Lib.hid (readlittle_any s a z w (by omega))
  rw [rd_eq s h a z haz h1 h4] at C
  generalize rdL s.data.toList a z = R at *
  clear h haz h1 h4
  go_enter Try.func35, Try.ntmps35
  go_wp2_with fail
  refine C.out.mono ?_
  rintro e w1 ⟨rfl, hb1⟩
  go_wp2_with fail
  go_ret
  exact ⟨rfl, hb1⟩

theorem read_same (s : ByteArray) (h : s.size = 32) (a z : Nat) (haz : a + z ≤ 32) (h1 : 1 ≤ z) (h4 : z ≤ 4) (w : World) :
    Calls Try.prog 35 #[.string s, .int .i64 a, .int .i64 z] w fun e w' => e = .returned (.int .i64 (rdL s.data.toList a z)) ∧ w' = w := by
  have C := Lib.hid (readlittle_same s a z w (by omega))
  rw [rd_eq s h a z haz h1 h4] at C
  generalize rdL s.data.toList a z = R at *
  clear h haz h1 h4
  go_enter Try.func35, Try.ntmps35
  go_wp2_with fail
  refine C.out.mono ?_
  rintro e w1 ⟨rfl, rfl⟩
  go_wp2_with fail
  go_ret
  exact ⟨rfl, rfl⟩
/-- An entry: 32 bytes. -/
abbrev Ent := { x : ByteArray // x.size = 32 }
def entS (s : ByteArray) (i : Nat) : Ent := if h : (s.extract (32 * i) (32 * i + 32)).size = 32 then ⟨_, h⟩ else ⟨⟨(zs 32).toArray⟩, rfl⟩
theorem entS_eq {s : ByteArray} {i : Nat} (hs : s.size = 2048) (hi : i < 64) : (entS s i).1 = s.extract (32 * i) (32 * i + 32) := by
  unfold entS
  rw [dif_pos]
  rw [ByteArray.size_extract]
  omega
theorem entS_list {s : ByteArray} {i : Nat} (hs : s.size = 2048) (hi : i < 64) : (entS s i).1.data.toList = entAt s.data.toList i := by
  rw [entS_eq hs hi]
  unfold entAt
  rw [ByteArray.data_extract]
  simp [List.take_drop]
def ents (s : ByteArray) : List Ent := (List.range 64).map (entS s)
theorem ents_length (s : ByteArray) : (ents s).length = 64 := by simp [ents]
theorem ents_take {s : ByteArray} {k : Nat} (hk : k < 64) : (ents s).take (k + 1) = (ents s).take k ++ [entS s k] := by
  rw [List.take_add_one]
  simp [ents, hk]
/-- What a round keeps that goes on: the string in block B. -/
def KpS (B : Nat) (s : ByteArray) (W W' : World) : Prop := RowAt W B 9 #[.string s] → RowAt W' B 9 #[.string s]

set_option maxRecDepth 100000 in
set_option maxHeartbeats 2000000 in
theorem entries1_in (F : Fence) (n : Nat) (h6 : F.fn 49) (hro : F.round = none) (hn : 1 ≤ n) (l B : Nat) (s : ByteArray) (hs : s.size = 2048) (J Jx : List Ent → World → Prop)
    (hY : ∀ pre x W, J pre W → pre.length < 64 → YieldAt F (n - 1) Try.prog l #[.string (x : Ent).1] W fun e W' =>
      (e = .returned (.bool true) ∧ J (pre ++ [x]) W' ∧ KpS B s W W') ∨ (e = .returned (.bool false) ∧ Jx (pre ++ [x]) W'))
    (W : World) (hBn : RowAt W B 9 #[.string s]) (h0 : J [] W) :
    CallsIn F n Try.prog 49 #[.func (.yield l) #[] #[], .pointer (some ⟨B, 0, none⟩)] W fun e W' => (∃ v, e = .returned v) ∧
      ((∃ ys, ys = ents s ∧ J ys W') ∨ (∃ pre, pre <+: ents s ∧ Jx pre W')) := by
  refine callsIn_of_wp Try.func49 rfl h6 ?_ hro
  simp only [Try.ntmps49, List.size_toArray, List.length_cons, List.length_nil, Nat.reduceAdd, Nat.reduceSub, Array.replicate_succ, Array.replicate_zero, List.push_toArray, List.append_toArray, List.nil_append, List.cons_append]
  have HS := Lib.hid hs
  have hsI : (s.size : Int) = 2048 := by omega
  clear hs
  gi_wp2
  gi_loopw [3] (fun p wr => ∃ (k a : Nat), Hid (a = 32 * k) ∧ a ≤ 2048 ∧ p = .int .i64 a ∧ RowAt wr B 9 #[.string s] ∧ J ((ents s).take k) wr) (fun p _ => 2048 - (intOf p).toNat)
  case atStart => exact ⟨0, 0, Lib.hid rfl, by omega, rfl, hBn, by rw [List.take_zero]; exact h0⟩
  case round =>
    obtain ⟨k, a, HA, ha, rfl, hr, hJs⟩ := hrel
    have q := hr.cell
    have HR := Lib.hid hr
    clear hr
    by_cases hlt : a < 2048
    · have hk : k < 64 := by have := HA.out; omega
      obtain ⟨fn, tmps, assign, body, hy, hR⟩ := hY ((ents s).take k) (entS s k) wr hJs (by rw [List.length_take, ents_length]; omega)
      rw [entS_eq HS.out hk, ← HA.out] at hy
      have hltI : (a : Int) < 2048 := by omega
      have ha0 : (0 : Int) ≤ (a : Int) := by omega
      have ha1 : (a : Int) + 32 ≤ 2048 := by have := HA.out; omega
      have e1 : ((a : Int) + 32).toNat = a + 32 := by omega
      gi_wp2
      refine hR.mono ?_
      rintro e W3 (⟨rfl, hJ3, hk3⟩ | ⟨rfl, hJx3⟩)
      · have hr3 := hk3 HR.out
        rw [← ents_take hk] at hJ3
        gi_wp2
        go_roundw
        case rel => exact ⟨k + 1, a + 32, Lib.hid (by rw [HA.out]; omega), by have := HA.out; omega, by go_num, hr3, hJ3⟩
        case measure => simp [intOf]; omega
      · rw [← ents_take hk] at hJx3
        gi_wp2
        refine bodyPost_ret (results_none rfl _ _ _) rfl ?_
        exact ⟨⟨_, rfl⟩, .inr ⟨_, List.take_prefix _ _, hJx3⟩⟩
    · have hge : ¬ (a : Int) < 2048 := by omega
      have hk64 : (ents s).take k = ents s := List.take_of_length_le (by rw [ents_length]; have := HA.out; omega)
      rw [hk64] at hJs
      gi_wp2
      go_end0
      exact ⟨⟨_, rfl⟩, .inl hJs⟩
theorem entries_in (F : Fence) (n : Nat) (h5 : F.fn 33) (hro : F.round = none) (s : ByteArray) (w : World) :
    CallsIn F n Try.prog 33 #[.string s] w fun e w' => e = .returned (.func (.func 49) #[] #[.pointer (some ⟨w.heap.size, 0, none⟩)]) ∧ w' = w.alloc (.cells #[.string s] 9) := by
  refine callsIn_of_wp Try.func33 rfl h5 ?_ hro
  simp only [Try.ntmps33, List.size_toArray, List.length_cons, List.length_nil, Nat.reduceAdd, Nat.reduceSub, Array.replicate_succ, Array.replicate_zero, List.push_toArray, List.append_toArray, List.nil_append, List.cons_append]
  gi_wp2
  go_ret
  exact ⟨rfl, rfl⟩
theorem entries_stops (F : Fence) (n : Nat) (h6 : F.fn 49) (hro : F.round = none) (hn : 1 ≤ n) (B : Nat) (s : ByteArray) (hs : s.size = 2048) (w : World) (hr : RowAt w B 9 #[.string s]) :
    SeqStopsK F n Try.prog 49 #[.pointer (some ⟨B, 0, none⟩)] (fun x : Ent => #[Value.string x.1]) (KpS B s) (fun ys => ys = ents s) (fun pre => pre <+: ents s) 64 w := fun l J Jx W hW _ _ hY h0 =>
  entries1_in F n h6 hro hn l B s hs J Jx hY W (hr.below hW hr.lt) h0
end Go.Proofs.Ytjlppndlgdgekaa
