/-
  Polynomials over the field: Eval, Product, trim.
-/
import Derived.Test.YtlnjphggfbiabaaGreatMGa
import Derived.Test.YtlnjphggfbiabaaGreatSl
import Derived.Test.YtlnjphggfbiabaaGreatOwnK
import Derived.Test.YtlnjphggfbiabaaGreatBridge
import Derived.Laws.OwnMore
namespace Go.Proofs.YtlnjphggfbiabaaGreat
open Go.RowKit
set_option linter.unusedVariables false

def natV (l : List Nat) : List Value := l.map fun n : Nat => Value.int .u8 (n : Int)
theorem natV_length (l : List Nat) : (natV l).length = l.length := by simp [natV]
theorem natV_get {l : List Nat} {k n : Nat} (h : l[k]? = some n) : (natV l)[k]? = some (.int .u8 (n : Int)) := by simp [natV, h]
def B8 (l : List Nat) : Prop := ∀ n ∈ l, n < 256
section
variable {w : World} {B : Nat} {A : Option Addr} {l : List Nat}
theorem SlAt.natAddr (h : SlAt w B A (natV l)) (hp : 0 < l.length) : ∃ b off, A = some ⟨b, off, none⟩ ∧ b < B := by
  obtain ⟨b, off, hA, hb, _⟩ := h.one (by rw [natV_length]; exact hp)
  exact ⟨b, off, hA, hb⟩
theorem SlAt.nat (h : SlAt w B A (natV l)) {b off : Nat} (hA : A = some ⟨b, off, none⟩) {k n : Nat} (hk : l[k]? = some n) : w.cell? ⟨b, off + k, none⟩ = some (.int .u8 (n : Int)) := by
  obtain ⟨b', off', e, _, hc⟩ := h k _ (natV_get hk)
  rw [hA] at e
  injection e with e
  injection e with e1 e2 _
  subst e1 e2
  exact hc
end
theorem B8.get {l : List Nat} (h : B8 l) {k n : Nat} (hk : l[k]? = some n) : n < 256 := h n (List.mem_of_getElem? hk)

/-! ### Eval -/
def evalK (x : Nat) (s : Nat) (p : List Nat) : Nat := p.foldl (fun s c => mulN s x ^^^ c) s
def evalN (p : List Nat) (x : Nat) : Nat := evalK x 0 p
theorem evalK_take {x s : Nat} {p : List Nat} {k c : Nat} (h : p[k]? = some c) : evalK x s (p.take (k + 1)) = mulN (evalK x s (p.take k)) x ^^^ c := by
  unfold evalK
  rw [List.take_add_one, h, Option.toList_some, List.foldl_append]
  rfl
theorem evalK_lt {x : Nat} : ∀ {p : List Nat} {s : Nat}, B8 p → s < 256 → evalK x s p < 256
  | [], _, _, h => h
  | c :: p, s, hp, h => evalK_lt (p := p) (fun n hn => hp n (List.mem_cons_of_mem _ hn)) (Nat.xor_lt_two_pow (n := 8) (mulN_lt h) (hp c List.mem_cons_self))
theorem evaln_lt {x : Nat} {p : List Nat} (h : B8 p) : evalN p x < 256 := evalK_lt h (by decide)
theorem B8.take {l : List Nat} (h : B8 l) (k : Nat) : B8 (l.take k) := fun n hn => h n (List.mem_of_mem_take hn)
theorem eval1_any (s c x gx : Nat) (w : World) (hs : s < 256) (hc : c < 256) (hx : x < 256) (hr : RowAt w gx 5 #[.int .u8 (x : Int)]) :
    Calls Tryz.prog 136 #[.int .u8 (s : Int), .int .u8 (c : Int), .pointer (some ⟨gx, 0, none⟩)] w fun e w' => e = .returned (.int .u8 ((mulN s x ^^^ c : Nat) : Int)) ∧ w = w' := by
  have q := hr.cell
  have C := Lib.hid (mul_any s x w hs hx)
  have hm := mulN_lt (b := x) hs
  have hX := u8_xor_nat (mulN s x) c hm hc
  generalize mulN s x = M at *
  clear hr
  go_enter Tryz.func136, Tryz.ntmps136
  go_wp2_with fail
  refine C.out.mono ?_
  rintro e w1 ⟨rfl, rfl⟩
  go_wp2_with fail
  go_ret
  exact ⟨by first | rfl | rw [hX], rfl⟩
set_option maxHeartbeats 1000000 in
theorem fold_any (A : Option Addr) (c : Nat) (p : List Nat) (x gx : Nat) (w : World) (h : SlAt w w.heap.size A (natV p)) (hp : B8 p) (hl : p.length ≤ 1000000) (hx : x < 256) (hr : RowAt w gx 5 #[.int .u8 (x : Int)]) :
    Calls Tryz.prog 135 #[.slice A p.length c, .int .u8 0, .func (.func 136) #[] #[.pointer (some ⟨gx, 0, none⟩)]] w fun e w' => e = .returned (.int .u8 ((evalN p x : Nat) : Int)) ∧ w = w' := by
  have HS := Lib.hid h
  have HP := Lib.hid hp
  have C1 := Lib.hid (fun s c hs hc => eval1_any s c x gx w hs hc hx hr)
  obtain ⟨n, hn⟩ : ∃ n, p.length = n := ⟨_, rfl⟩
  have HN := Lib.hid hn
  rw [hn] at hl ⊢
  clear h hp hn hr
  go_enter Tryz.func135, Tryz.ntmps135
  go_wp2_with fail
  go_loop [1, 11] (fun v i => ∃ k : Nat, k ≤ n ∧ i = .int .i64 k ∧ v = .int .u8 ((evalK x 0 (p.take k) : Nat) : Int)) (fun _ i => n - (intOf i).toNat)
  case atStart => exact ⟨0, by omega, rfl, rfl⟩
  case round =>
    obtain ⟨k, hk, rfl, rfl⟩ := hrel
    by_cases hlt : k < n
    · obtain ⟨y, hy⟩ : ∃ y, p[k]? = some y := ⟨p[k]'(by rw [HN.out]; exact hlt), List.getElem?_eq_getElem _⟩
      obtain ⟨b, off, hA, hb⟩ := HS.out.natAddr (by rw [HN.out]; omega)
      subst hA
      have q := HS.out.nat rfl hy
      have hy8 := HP.out.get hy
      have hs8 : evalK x 0 (p.take k) < 256 := evalK_lt (HP.out.take k) (by decide)
      have HT := Lib.hid (evalK_take (x := x) (s := 0) hy)
      have hltI : (k : Int) < (n : Int) := by omega
      have h0k : (0 : Int) ≤ (k : Int) := by omega
      have C := Lib.hid (C1.out _ y hs8 hy8)
      generalize evalK x 0 (p.take k) = S at *
      clear hy
      go_wp2_with fail
      refine C.out.mono ?_
      rintro e w1 ⟨rfl, rfl⟩
      go_wp2_with fail
      go_round
      case rel => exact ⟨k + 1, by omega, by go_num, by rw [HT.out]⟩
      case measure => simp [intOf]; omega
    · obtain rfl : k = n := by omega
      have hge : ¬ (k : Int) < (k : Int) := by omega
      have HE : Hid (evalK x 0 (p.take k) = evalN p x) := Lib.hid (by rw [List.take_of_length_le (by rw [HN.out]; omega)]; rfl)
      go_wp2_with fail
      go_ret
      exact ⟨ret_int (by rw [HE.out]), rfl⟩
theorem eval_any (A : Option Addr) (c : Nat) (p : List Nat) (x : Nat) (w : World) (h : SlAt w w.heap.size A (natV p)) (hp : B8 p) (hl : p.length ≤ 1000000) (hx : x < 256) :
    Calls Tryz.prog 127 #[.slice A p.length c, .int .u8 (x : Int)] w fun e w' => e = .returned (.int .u8 ((evalN p x : Nat) : Int)) ∧ Below w.heap.size w w' := by
  have hb := (Below.refl w.heap.size w).alloc (Nat.le_refl _) (.cells #[.int .u8 (x : Int)] 5)
  have C := Lib.hid (fold_any A c p x w.heap.size _ ((h.below hb).mono hb.size) hp hl hx (RowAt.new w 5 #[.int .u8 (x : Int)]))
  have HB := Lib.hid hb
  clear h hp hb
  go_enter Tryz.func127, Tryz.ntmps127
  go_wp2_with fail
  refine C.out.mono ?_
  rintro e w1 ⟨rfl, rfl⟩
  go_wp2_with fail
  go_ret
  exact ⟨rfl, HB.out⟩
end Go.Proofs.YtlnjphggfbiabaaGreat
