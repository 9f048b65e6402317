/-
  Chapter 52: the writer: Open.
-/
import Derived.Test.YtdmdfpdigoijoaaPwX
namespace Go.Proofs.Ytdmdfpdigoijoaa
open Go.RowKit
set_option linter.unusedVariables false

/-- The addresses that are open. -/
def openL (l : List Pend) : List Int := (l.filter fun x => decide (x.blk.toList = [])).map (·.lba)
theorem openL_snoc {l : List Pend} {k : Nat} {x : Pend} (h : l[k]? = some x) : openL (l.take (k + 1)) = openL (l.take k) ++ if x.blk.toList = [] then [x.lba] else [] := by
  unfold openL
  rw [List.take_add_one, h, Option.toList_some, List.filter_append, List.map_append]
  by_cases hx : x.blk.toList = []
  · simp [hx]
  · simp [hx]
def OpenRes (out : List Int) (w : World) (e : Ending) (w' : World) : Prop :=
  Below w.heap.size w w' ∧ ∃ A c, e = .returned (.slice A out.length c) ∧ w'.ownsRow w.heap.size 3 1 (.slice A out.length c) out.length (intV out)

set_option maxRecDepth 100000 in
set_option maxHeartbeats 2000000 in
theorem open_any (base0 g : Nat) (st ba : Int) (l : List Pend) (w : World) (h : WtAt w base0 g st ba l) (hl : l.length ≤ 100000) :
    Calls Try.prog 39 #[.pointer (some ⟨g, 0, none⟩)] w (OpenRes (openL l) w) := by
  obtain ⟨Al, cl, hr, ho⟩ := h
  have q := hr.cell
  have HO := Lib.hid ho
  obtain ⟨n, hn⟩ : ∃ n, l.length = n := ⟨_, rfl⟩
  have HN := Lib.hid hn
  have hlt0 := hr.lt
  rw [hn] at q hl
  clear hr ho hn
  go_enter Try.func39, Try.ntmps39
  go_wp2_with fail
  go_loopw [3, 11] (fun v i wr => ∃ (k L : Nat) (A : Option Addr) (c : Nat), Hid (L = (openL (l.take k)).length) ∧ L ≤ k ∧ k ≤ n ∧ i = .int .i64 k ∧ v = .slice A L c ∧ wr.ownsRow w.heap.size 3 1 (.slice A L c) L (intV (openL (l.take k))) ∧ Below w.heap.size w wr) (fun _ i _ => n - (intOf i).toNat)
  case atStart => exact ⟨0, 0, none, 0, Lib.hid rfl, by omega, by omega, rfl, rfl, World.ownsRow_nil _ _ _ _, Below.refl _ _⟩
  case round =>
    obtain ⟨k, L, A, c, HL, hLk, hk, rfl, rfl, hown, hbel⟩ := hrel
    by_cases hlt : k < n
    · obtain ⟨x, hx⟩ : ∃ x, l[k]? = some x := ⟨l[k]'(by rw [HN.out]; exact hlt), List.getElem?_eq_getElem _⟩
      obtain ⟨gl, cap, hv, _, hgl, _⟩ := own_form HO.out (by rw [HN.out]; omega)
      injection hv with hA _ hc
      subst hA hc
      obtain ⟨p0, p1⟩ := lastL_cells (own_all HO.out hbel) hx
      have HSN := Lib.hid (openL_snoc hx)
      have hltI : (k : Int) < (n : Int) := by omega
      have h0k : (0 : Int) ≤ (k : Int) := by omega
      clear hx
      obtain ⟨lx, bx⟩ := x
      dsimp only at p0 p1 HSN
      have hownA := hown.alloc (.cells #[.int .i64 lx, .string bx] 114)
      have hbelA := hbel.alloc hbel.size (.cells #[.int .i64 lx, .string bx] 114)
      by_cases hb : bx.toList = []
      · have HS2 : Hid (openL (l.take (k + 1)) = openL (l.take k) ++ [lx]) := Lib.hid (by rw [HSN.out, if_pos hb])
        have hbB : bx.toList.isEmpty = true := by rw [hb]; rfl
        clear HSN
        go_wp2_with (at_builtin; refine wpList_app1H hownA (World.size_alloc _ _) info_int Try.underlying38 rfl (by unfold maxLen; omega) (by omega) hbelA.size rfl rfl rfl (by rfl) (by rfl) ?_; intro v1 w2 hown2 hb2 _; obtain ⟨A2, c2, hv2⟩ := own_slice hown2; subst hv2)
        go_roundw
        case rel =>
          refine ⟨k + 1, L + 1, A2, c2, Lib.hid (by rw [HS2.out, List.length_append, ← HL.out]; rfl), by omega, by omega, by go_num, rfl, ?_, hbelA.trans hb2⟩
          rw [HS2.out]
          unfold intV at hown2 ⊢
          rw [List.map_append]
          exact hown2
        case measure => simp [intOf]; omega
      · have HS2 : Hid (openL (l.take (k + 1)) = openL (l.take k)) := Lib.hid (by rw [HSN.out, if_neg hb, List.append_nil])
        have hbB : bx.toList.isEmpty = false := by simp [hb]
        clear HSN
        go_wp2_with fail
        go_roundw
        case rel => exact ⟨k + 1, L, A, c, Lib.hid (by rw [HS2.out]; exact HL.out), by omega, by omega, by go_num, rfl, by rw [HS2.out]; exact hownA, hbelA⟩
        case measure => simp [intOf]; omega
    · obtain rfl : k = n := by omega
      have hge : ¬ (k : Int) < (k : Int) := by omega
      have HF : Hid (openL (l.take k) = openL l) := Lib.hid (by rw [List.take_of_length_le (by rw [HN.out]; omega)])
      rw [HF.out] at hown HL
      go_wp2_with fail
      go_ret
      refine ⟨hbel, A, c, by rw [← HL.out]; rfl, ?_⟩
      rw [← HL.out]
      exact hown
end Go.Proofs.Ytdmdfpdigoijoaa
