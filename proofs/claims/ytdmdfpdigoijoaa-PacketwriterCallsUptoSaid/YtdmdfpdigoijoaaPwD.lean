/-
  Chapter 52: a copy of an image; an element replaced in an image of the call's own.
-/
import Derived.Test.YtdmdfpdigoijoaaPwA
import Derived.Maps.AppendAt
import Derived.Laws.OwnMore
namespace Go.Proofs.Ytdmdfpdigoijoaa
open Go.RowKit
set_option linter.unusedVariables false

theorem SlAt.add {w : World} {B : Nat} {ad : Addr} {xs : List Value} (h : SlAt w B (some ad) xs) : ∀ j u, xs[j]? = some u → w.cell? (ad.add j) = some u := fun j u hu => by
  obtain ⟨b, off, e, _, hc⟩ := h j u hu
  injection e with e
  subst e
  have hadd : (⟨b, off, none⟩ : Addr).add j = ⟨b, off + j, none⟩ := by unfold Addr.add; split <;> simp_all
  rw [hadd]
  exact hc
theorem strV_one (l : List ByteArray) : ∀ u ∈ strV l, u.oneCell' = true := fun u hu => by
  obtain ⟨s, _, rfl⟩ := List.mem_map.1 hu
  rfl
theorem strV_length (l : List ByteArray) : (strV l).length = l.length := by simp [strV]
/-- A row may be another block than it was, if the new one has been made since. -/
theorem grown_step {w w1 w2 : World} {r r' : Option Nat} (h : w.grownBy w1 r) (h' : w1.grownBy w2 r') (hr : r' = r ∨ ∃ g, r' = some g ∧ w.heap.size ≤ g) : w.grownBy w2 r :=
  ⟨h'.os.trans h.os, h'.tape.trans h.tape, h'.output.trans h.output, Nat.le_trans h.size h'.size, fun k hk hne => by
    rw [h'.block k (Nat.lt_of_lt_of_le hk h.size) (by
      rcases hr with rfl | ⟨g, rfl, hg⟩
      · exact hne
      · intro e; injection e with e; omega), h.block k hk hne]⟩
theorem grown_refl (w : World) (r : Option Nat) : w.grownBy w r := ⟨rfl, rfl, rfl, Nat.le_refl _, fun _ _ _ => rfl⟩
theorem below_of_grown {w w' : World} {r : Option Nat} {B : Nat} (h : w.grownBy w' r) (hB : B ≤ w.heap.size) (hr : ∀ g, r = some g → B ≤ g) : Below B w w' := (Below.refl B w).grown h hB hr

section
variable {P : Program}
/-- A slice appended to a row of the call's own; it may be empty. -/
theorem wpList_appA {ops : Array Oper} {rest : List Oper} {o : Oper} {a : Act} {Q : Exit → Act → World → Prop} {s x : Operand} {t : TypeId} {base : Nat} {e : TypeId} {z : Value} {bytes : Nat} {w : World} {v : Value} {n m c : Nat} {ad : Addr} {xs news : List Value}
    (hown : w.ownsRow base e 1 v n xs) (hinfo : (P.info? e).map (fun i => (i.zero, i.size, i.bytes)) = some (some z, 1, bytes)) (ht : P.underlying t = some (.slice e)) (hzs : z.cells.size = 1)
    (hl : news.length = m) (hnews : ∀ j u, news[j]? = some u → w.cell? (ad.add j) = some u) (h1 : ∀ u ∈ news, u.oneCell' = true)
    (h63 : n + m ≤ maxLen) (hbytes : (n + m) * bytes ≤ 140737488355328) (hbase : base ≤ w.heap.size)
    (hgd : o.guard = none) (ho : o.op = .call { callee := .builtin .append, args := #[s, x], argTypes := #[t, t] }) (hs : a.eval s = v) (hx : a.eval x = .slice (some ad) m c)
    (h : ∀ v' w', w'.ownsRow base e 1 v' (n + m) (xs ++ news) → w.grownBy w' v.ownBlock → (v'.ownBlock = v.ownBlock ∨ v'.ownBlock = some w.heap.size) → wpList P ops Q rest (a.put o.dst v') w') : wpList P ops Q (o :: rest) a w := by
  obtain ⟨i0, hi, hz0, hz1, hz2⟩ := info_parts hinfo
  refine wpList_append_own_at w hgd s x t ho base e i0 z 1 bytes ht hi hz0 hz1 hz2 hzs (by decide) v n xs hs hown ad m c news hx (by rw [hl, Nat.mul_one]) hnews h1 h63 hbytes hbase ?_
  intro v' w' hown' hg _ hb
  exact h v' w' hown' hg hb
end

theorem own_slice' {w : World} {base e size n : Nat} {v : Value} {xs : List Value} (h : w.ownsRow base e size v n xs) : ∃ A c, v = .slice A n c := by
  rcases h.2 with ⟨rfl, rfl⟩ | ⟨g, cap, cur, rfl, _⟩
  · exact ⟨none, 0, rfl⟩
  · exact ⟨_, _, rfl⟩
set_option maxHeartbeats 1000000 in
theorem clone_any (A : Option Addr) (c : Nat) (img : Img) (w : World) (hs : SlAt w w.heap.size A (strV img)) (hl : img.length ≤ 1000000) :
    Calls Try.prog 57 #[.slice A img.length c] w fun e w' => ∃ v, e = .returned v ∧ w'.ownsRow w.heap.size 9 1 v img.length (strV img) ∧ Below w.heap.size w w' := by
  cases A with
  | none =>
    have h0 : img = [] := by
      cases img with
      | nil => rfl
      | cons s r =>
        obtain ⟨b, off, e, _⟩ := hs 0 (.string s) rfl
        cases e
    subst h0
    have hq := fun (w : World) (a : Option Addr) (n c n' c' : Nat) => Lib.run_eql_slice_nil (P := Try.prog) w 23 9 a n c n' c' Try.underlying23
    go_enter Try.func57, Try.ntmps57
    go_wp2_with fail
    go_ret
    exact ⟨_, rfl, World.ownsRow_nil _ _ _ _, Below.refl _ _⟩
  | some ad =>
    have hq := fun (w : World) (a : Option Addr) (n c n' c' : Nat) => Lib.run_eql_slice_nil (P := Try.prog) w 23 9 a n c n' c' Try.underlying23
    have HS := Lib.hid hs
    obtain ⟨n, hn⟩ : ∃ n, img.length = n := ⟨_, rfl⟩
    have HN := Lib.hid hn
    rw [hn] at hl ⊢
    clear hs hn
    go_enter Try.func57, Try.ntmps57
    have HO := Lib.hid (World.ownsRow_lit (base := w.heap.size) (e := 9) (size := 1) w #[] 0 (Nat.le_refl _) (by decide) rfl)
    go_wp2_with (at_builtin; refine wpList_appA HO.out info_str Try.underlying23 rfl (by rw [strV_length, HN.out]) ((HS.out.below ((Below.refl _ _).alloc (Nat.le_refl _) _)).add) (strV_one _) (by unfold maxLen; omega) (by omega) (by simp) rfl rfl (by rfl) (by rfl) ?_; intro v1 w1 hown1 hg1 _; rw [List.nil_append, Nat.zero_add] at hown1; obtain ⟨A1, c1, hv1⟩ := own_slice' hown1; subst hv1)
    go_ret
    refine ⟨_, rfl, hown1, ((Below.refl _ w).alloc (Nat.le_refl _) _).grown hg1 (by simp) (fun k hk => ?_)⟩
    have := (HO.out.lt k hk).1
    exact this

/-- An element replaced: the row may be another block afterwards. -/
def PutR (base : Nat) (v0 : Value) (img : Img) (w : World) (e : Ending) (w' : World) : Prop :=
  ∃ v, e = .returned v ∧ w'.ownsRow base 9 1 v img.length (strV img) ∧ w.grownBy w' v0.ownBlock ∧ (v.ownBlock = v0.ownBlock ∨ ∃ g, v.ownBlock = some g ∧ w.heap.size ≤ g)

theorem put_grown {w wr w1 : World} {o : Obj} {r0 r : Option Nat} (hg : w.grownBy wr r0) (hbl : r = r0 ∨ ∃ g, r = some g ∧ w.heap.size ≤ g) (hg1 : (wr.alloc o).grownBy w1 r) : w.grownBy w1 r0 :=
  grown_step (grown_step hg (World.grownBy_alloc wr o r0) (.inl rfl)) hg1 hbl
theorem put_block {w wr : World} {o : Obj} {r0 r r1 : Option Nat} (hg : w.grownBy wr r0) (hbl : r = r0 ∨ ∃ g, r = some g ∧ w.heap.size ≤ g) (h : r1 = r ∨ r1 = some (wr.alloc o).heap.size) : r1 = r0 ∨ ∃ g, r1 = some g ∧ w.heap.size ≤ g := by
  rcases h with rfl | rfl
  · exact hbl
  · exact .inr ⟨_, rfl, by have := hg.size; simp; omega⟩
set_option maxHeartbeats 2000000 in
theorem put_any (v0 : Value) (base : Nat) (img : Img) (a : Nat) (s : ByteArray) (w : World) (hown : w.ownsRow base 9 1 v0 img.length (strV img)) (hb : base ≤ w.heap.size) (hl : img.length ≤ 1000000) (ha : a ≤ 1000000) :
    Calls Try.prog 59 #[v0, .int .i64 (a : Int), .string s] w (PutR base v0 (putL img a s) w) := by
  have HO := Lib.hid hown
  obtain ⟨n, hn⟩ : ∃ n, img.length = n := ⟨_, rfl⟩
  have HN := Lib.hid hn
  obtain ⟨A0, c0, hv0⟩ := own_slice' hown
  subst hv0
  rw [hn] at hl ⊢ HO
  have HP : Hid (putL img a s = (img ++ List.replicate (a + 1 - n) blankS).set a s) := Lib.hid (by unfold putL; rw [hn])
  clear hown hn
  go_enter Try.func59, Try.ntmps59
  go_wp2_with fail
  go_loopw [0] (fun v wr => ∃ (k m : Nat) (A : Option Addr) (c : Nat), Hid (m = n + k ∧ (0 < k → m ≤ a + 1)) ∧ m ≤ 1000001 ∧ v = .slice A m c ∧ wr.ownsRow base 9 1 (.slice A m c) m (strV (img ++ List.replicate k blankS)) ∧ w.grownBy wr (Value.slice A0 n c0).ownBlock ∧
    ((Value.slice A m c).ownBlock = (Value.slice A0 n c0).ownBlock ∨ ∃ g, (Value.slice A m c).ownBlock = some g ∧ w.heap.size ≤ g)) (fun v _ => match v with | .slice _ m _ => a + 1 - m | _ => 0)
  case atStart => exact ⟨0, n, A0, c0, Lib.hid ⟨rfl, fun h => absurd h (by omega)⟩, by omega, rfl, by rw [List.replicate_zero, List.append_nil]; exact HO.out, grown_refl _ _, .inl rfl⟩
  case round =>
    obtain ⟨k, m, A, c, HK, hm, rfl, hown, hg, hbl⟩ := hrel
    by_cases hlt : m ≤ a
    · have hltI : (m : Int) ≤ (a : Int) := by omega
      have hx0 : ∀ j u, ([Value.string blankS] : List Value)[j]? = some u → (wr.alloc (.cells #[.string blankS] 9)).cell? ((⟨wr.heap.size, 0, none⟩ : Addr).add j) = some u := cell_one_new _ _ _
      go_wp2_with (at_builtin; refine wpList_appA (hown.alloc _) info_str Try.underlying23 rfl (m := 1) (news := [.string blankS]) rfl hx0 (by intro u hu; simp at hu; subst hu; rfl) (by unfold maxLen; omega) (by omega) (by have := hg.size; simp; omega) rfl rfl (by rfl) (by rfl) ?_; intro v1 w1 hown1 hg1 hbl1; obtain ⟨A1, c1, hv1⟩ := own_slice' hown1; subst hv1)
      go_roundw
      case rel =>
        refine ⟨k + 1, m + 1, A1, c1, Lib.hid ⟨by have := HK.out; omega, fun _ => by omega⟩, by omega, rfl, ?_, put_grown hg hbl hg1, put_block hg hbl hbl1⟩
        rw [List.replicate_succ', ← List.append_assoc]
        unfold strV at hown1 ⊢
        rw [List.map_append]
        exact hown1
      case measure => simp; omega
    · have hge : ¬ (m : Int) ≤ (a : Int) := by omega
      have hkk : k = a + 1 - n := by have := HK.out; omega
      obtain ⟨g, cap, hv, hbg, hgl, hcp⟩ := own_form hown (by omega)
      injection hv with hA _ hc
      subst hA hc
      have q0 := hown.cellAt a (by omega)
      have f0 := hown.frozenAt a
      obtain ⟨u, hu⟩ : ∃ u, (strV (img ++ List.replicate k blankS))[a]? = some u := ⟨_, List.getElem?_eq_getElem (by rw [hown.1]; omega)⟩
      rw [hu] at q0
      have h0a : (0 : Int) ≤ (a : Int) := by omega
      have haI : (a : Int) < (m : Int) := by omega
      have HS := Lib.hid (hown.stored a (.string s))
      have HML : Hid (m = (putL img a s).length) := Lib.hid (by rw [HP.out, List.length_set, List.length_append, List.length_replicate, HN.out]; have := HK.out; omega)
      have HOWN := Lib.hid hown
      clear hown hu
      go_wp2_with fail
      go_ret
      refine ⟨_, rfl, ?_, grown_step hg HS.out.2 ?_, hbl⟩
      · rw [← HML.out, HP.out, ← hkk]
        unfold strV
        rw [List.map_set]
        exact HS.out.1
      · rcases hbl with h | ⟨g', h, hg'⟩
        · exact .inl h
        · exact .inr ⟨g', h, hg'⟩
end Go.Proofs.Ytdmdfpdigoijoaa
