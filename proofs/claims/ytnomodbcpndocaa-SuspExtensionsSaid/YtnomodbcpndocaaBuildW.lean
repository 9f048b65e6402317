/-
  Builder.Write of a slice of bytes of the call's own: what it appends, and what it keeps. Beside kit/XBuildK.
-/
import Derived.Test.YtnomodbcpndocaaBuildK
import Derived.Lib.FrozenHead2
namespace Go.Proofs.Ytnomodbcpndocaa
open Go.RowKit
set_option linter.unusedVariables false

set_option maxRecDepth 100000 in
set_option maxHeartbeats 2000000 in
theorem bwriteb_any (b y c : Nat) (l news : List UInt8) (w : World) (h : Bld w b l) (hyb : y ≠ b) (hy : ∀ j u, news[j]? = some u → w.cell? ⟨y, j, none⟩ = some (byteV u)) (hlen : l.length + news.length ≤ 140737488355328) :
    Calls Try.prog 46 #[.pointer (some ⟨b, 0, none⟩), .slice (some ⟨y, 0, none⟩) news.length c] w fun e w' => e = .returned (.tuple #[.int .i64 news.length, .nilIface]) ∧ Bld w' b (l ++ news) ∧ Kept b w w' := by
  have X := Try.Builder_Extra_105
  have CC : Calls Try.prog 62 #[.pointer (some ⟨b, 0, none⟩)] w fun e w' => e = .returned (.tuple #[]) ∧ (Lib.BuilderAtF 72 5 b b (.pointer (some ⟨b, 0, none⟩)) (Lib.byteCells l) w' ∧ (∀ j, w'.cell? ⟨y, j, none⟩ = w.cell? ⟨y, j, none⟩) ∧ Kept b w w') := by
    rcases h with h | h
    · refine (Any.Builder_copyCheck_fresh { Try.lays105 with } Try.Builder_Extra_105.toX72 b w h.cell0 h.shape h.frozen0).mono ?_
      rintro e w' ⟨rfl, rfl⟩
      exact ⟨rfl, h.used _, fun j => World.cell?_of_block (Below.heap_setCell w ⟨b, 0, none⟩ _ y hyb), (Below.refl b w).setCell (p := ⟨b, 0, none⟩) h.1 _, (Lib.OthersKept.refl _ _ w).setCell ⟨b, 0, none⟩ rfl _⟩
    · refine (Any.Builder_copyCheck_used { Try.lays105 with } Try.Builder_Extra_105.toX72 b w h.cell0).mono ?_
      rintro e w' ⟨rfl, rfl⟩
      exact ⟨rfl, h, fun j => rfl, Below.refl b _, Lib.OthersKept.refl _ _ _⟩
  obtain ⟨i0, hi, hz0, hz1, hz2⟩ := info_parts X.infoByte
  obtain ⟨m, hm⟩ : ∃ m, news.length = m := ⟨_, rfl⟩
  have HL := Lib.hid hlen
  have HY := Lib.hid hy
  have HM := Lib.hid hm
  rw [hm]
  clear hlen hy hm h
  have hl2 : (news.map byteV).length = m * 1 := by rw [List.length_map, HM.out, Nat.mul_one]
  go_enter Try.func46, Try.ntmps46
  go_wp2_with fail
  refine CC.mono ?_
  rintro e w1 ⟨rfl, h1, hys, hk1⟩
  obtain ⟨hB, v, hbk, hown, hne⟩ := h1
  have c0 : w1.cell? ⟨b, 0, none⟩ = some (.pointer (some ⟨b, 0, none⟩)) := by rw [Lib.cell_of_heap hbk]; rfl
  have c1 : w1.cell? ⟨b, 1, none⟩ = some v := by rw [Lib.cell_of_heap hbk]; rfl
  have hi' : Try.prog.info? 5 = some i0 := hi
  have hnews : ∀ j u, (news.map byteV)[j]? = some u → w1.cell? ((⟨y, 0, none⟩ : Addr).add j) = some u := by
    intro j u hj
    rw [List.getElem?_map, Option.map_eq_some_iff] at hj
    obtain ⟨x, hx, rfl⟩ := hj
    have hadd : (⟨y, 0, none⟩ : Addr).add j = ⟨y, j, none⟩ := by unfold Addr.add; split <;> simp_all
    rw [hadd, hys]
    exact HY.out j x hx
  have HNW := Lib.hid hnews
  have hll : (Lib.byteCells l).length = l.length := Lib.byteCells_length l
  have HK := Lib.hid hk1
  have HOW := Lib.hid hown
  clear hys CC hk1 hnews
  go_wp2_with (at_builtin; refine wpList_append_ownF _ rfl _ _ 70 rfl b 5 i0 (.int .u8 0) 1 1 Try.underlying70 hi' hz0 hz1 hz2 rfl (by decide) _ _ _ rfl HOW.out ⟨y, 0, none⟩ m c (news.map byteV) rfl hl2 HNW.out ?c2 ?c3 ?c4 ?c5 ?_)
  case c2 => intro u hu; obtain ⟨x, _, rfl⟩ := List.mem_map.1 hu; rfl
  case c3 => have := HL.out; have := HM.out; unfold maxLen; omega
  case c4 => have := HL.out; have := HM.out; omega
  case c5 => have := HK.out.bel.size; have := BuilderAtF.lt ⟨hB, v, hbk, HOW.out, hne⟩; omega
  intro v' w2 hown' hgrow _
  have hlt : b < w1.heap.size := BuilderAtF.lt ⟨hB, v, hbk, HOW.out, hne⟩
  have hb2 : w2.heap[b]? = some (.cells #[.pointer (some ⟨b, 0, none⟩), v] 72 (0, 0)) := by
    rw [hgrow.block b hlt (fun e => hne e.symm)]
    exact hbk
  have d0 : w2.cell? ⟨b, 0, none⟩ = some (.pointer (some ⟨b, 0, none⟩)) := by rw [Lib.cell_of_heap hb2]; rfl
  have d1 : w2.cell? ⟨b, 1, none⟩ = some v := by rw [Lib.cell_of_heap hb2]; rfl
  have f1 : w2.frozen? ⟨b, 1, none⟩ = false := Lib.frozen_of_heap hb2 1
  obtain ⟨ao, n', cap, rfl⟩ : ∃ ao n' cap, v' = .slice ao n' cap := by
    rcases hown'.2 with ⟨hv, _⟩ | ⟨g, cap, cur, fz, hv, _⟩
    · exact ⟨_, _, _, hv⟩
    · exact ⟨_, _, _, hv⟩
  go_wp2_with fail
  go_ret2
  refine ⟨rfl, .inr ?_, ?_, (HK.out.oth.grown hgrow (Lib.ownsRowF_kind HOW.out)).setCell ⟨b, 1, none⟩ rfl _⟩
  · have hxs : Lib.byteCells (l ++ news) = Lib.byteCells l ++ news.map byteV := by simp [Lib.byteCells, byteV]
    rw [hxs]
    exact Lib.BuilderAtF.put (T := 72) (e := 5) hB hb2 (bs' := Lib.byteCells l ++ news.map byteV) (by rw [List.length_append, List.length_map, HM.out, hll]; exact hown') X.neB5
  · exact (HK.out.bel.grown hgrow (Nat.le_of_lt hlt) (fun k hk => (HOW.out.lt k hk).1)).setCell (p := ⟨b, 1, none⟩) hB _
end Go.Proofs.Ytnomodbcpndocaa
