/-
  Drawn regions under a condition on the world: the condition may grow on the way (a block that the region has made).
-/
import Derived.Test.YtnomodbcpndocaaSt
import Derived.Deep.RegionHeld3
namespace Go.Proofs.Ytnomodbcpndocaa
open Go.RowKit
set_option linter.unusedVariables false
section
variable {P : Program} {ops : Array Oper} {Q : Exit → Act → World → Prop} {md : Region.Mode} {S S' : World → Prop}
theorem wpAnyH_mono (h : ∀ w, S' w → S w) : ∀ {fuel : Nat} {listed : Array Bool} {a : Act} {w : World}, wpAnyH P md ops Q S' fuel listed a w → wpAnyH P md ops Q S fuel listed a w
  | 0, _, _, _, H => H
  | fuel + 1, _, _, _, H => ⟨H.1, fun i hi => wpOp_mono (fun a' w' h' => ⟨h w' h'.1, wpAnyH_mono h h'.2⟩) (H.2 i hi)⟩
end
theorem St.swap {w0 w : World} {r1 r2 : Nat × TypeId × Array Value} {rows : Rows} (h : St w0 w (r1 :: r2 :: rows)) : St w0 w (r2 :: r1 :: rows) := by
  refine ⟨h.1, fun r hr => h.2.1 r (by simp only [List.mem_cons] at hr ⊢; rcases hr with h | h | h <;> simp [h]), ?_⟩
  have hp := h.2.2
  simp only [List.pairwise_cons, List.mem_cons, forall_eq_or_imp] at hp ⊢
  exact ⟨⟨fun e => hp.1.1 e.symm, hp.2.1⟩, hp.1.2, hp.2.2⟩
theorem St.drop2 {w0 w : World} {r1 r2 : Nat × TypeId × Array Value} {rows : Rows} (h : St w0 w (r1 :: r2 :: rows)) : St w0 w (r1 :: rows) := h.swap.drop1
theorem first_row {w0 w : World} {g : Nat} {t : TypeId} {cs : Array Value} {rows : Rows} (h : St w0 w ((g, t, cs) :: rows)) : RowAt w g t cs := h.at (i := 0) rfl
/-- A block that the region has made stands second on the list from here on. -/
theorem wpAnyH_row {P : Program} {ops : Array Oper} {Q : Exit → Act → World → Prop} {md : Region.Mode} {w0 : World} {r1 r2 : Nat × TypeId × Array Value} {rows : Rows} {fuel : Nat} {listed : Array Bool} {a : Act} {w : World} (h0 : St w0 w (r1 :: r2 :: rows))
    (h : St w0 w (r1 :: r2 :: rows) → wpAnyH P md ops Q (fun w' => St w0 w' (r1 :: r2 :: rows)) fuel listed a w) : wpAnyH P md ops Q (fun w' => St w0 w' (r1 :: rows)) fuel listed a w :=
  wpAnyH_mono (fun _ h => St.drop2 h) (h h0)
theorem wpAnyH_row0 {P : Program} {ops : Array Oper} {Q : Exit → Act → World → Prop} {md : Region.Mode} {w0 : World} {r2 : Nat × TypeId × Array Value} {fuel : Nat} {listed : Array Bool} {a : Act} {w : World} (h0 : St w0 w [r2])
    (h : St w0 w [r2] → wpAnyH P md ops Q (fun w' => St w0 w' [r2]) fuel listed a w) : wpAnyH P md ops Q (fun w' => St w0 w' []) fuel listed a w :=
  wpAnyH_mono (fun _ h => St.drop1 h) (h h0)
theorem byte_wrap (b : UInt8) : IntKind.u8.wrap (b.toNat : Int) = (b.toNat : Int) := by
  have := b.toNat_lt
  rw [IntKind.wrap_u8]
  omega
theorem byte_ex {n : Int} (h0 : 0 ≤ n) (h1 : n ≤ 255) : ∃ b : UInt8, n = (b.toNat : Int) ∧ b = UInt8.ofNat n.toNat := ⟨UInt8.ofNat n.toNat, by rw [UInt8.toNat_ofNat']; omega, rfl⟩
/-- A block of bytes, read as a string. -/
theorem run_bytes_row {P : Program} {src dst e : TypeId} (hs : P.underlying src = some (.slice e)) (he : P.underlying e = some (.int .u8)) (hd : P.underlying dst = some .string) {w : World} {g cap : Nat} {t : TypeId} {cs : Array Value} (l : List UInt8)
    (hr : RowAt w g t cs) (hc : cs.toList.take l.length = l.map byteV) (n : Nat) (hn : n = l.length) : (convert src dst (.slice (some ⟨g, 0, none⟩) n cap)).run P w = .ok (.string ⟨l.toArray⟩) w := by
  subst hn
  refine run_convert_bytes_back w src dst e ⟨g, 0, none⟩ cap l hs he hd fun j hj => ?_
  have hadd : (⟨g, 0, none⟩ : Addr).add j = ⟨g, j, none⟩ := by unfold Addr.add; split <;> simp_all
  rw [hadd, hr.cell j]
  have : (cs.toList.take l.length)[j]? = (l.map byteV)[j]? := by rw [hc]
  rw [List.getElem?_take, if_pos hj] at this
  simp [hj] at this
  simp [this, byteV]
end Go.Proofs.Ytnomodbcpndocaa
