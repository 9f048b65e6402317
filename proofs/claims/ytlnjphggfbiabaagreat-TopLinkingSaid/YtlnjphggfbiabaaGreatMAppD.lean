/-
  append to a slice of the call's own: where the result lies.
-/
import Derived.Test.YtlnjphggfbiabaaGreatMCa
namespace Go.Proofs.YtlnjphggfbiabaaGreat
open Go.RowKit
set_option linter.unusedVariables false
section
variable {P : Program}
theorem run_append_where (w : World) (base : Nat) (t ty e : TypeId) (i : TypeInfo) (z : Value) (size bytes : Nat) (ht : P.underlying t = some (.slice e)) (hi : P.info? e = some i) (hz : i.zero = some z)
    (hsize : i.size = size) (hby : i.bytes = bytes) (hzs : z.cells.size = size) (hsz : 0 < size)
    (v : Value) (n : Nat) (xs : List Value) (hown : w.ownsRow base e size v n xs)
    (a : Addr) (m c : Nat) (news : List Value) (hl : news.length = m * size) (hnews : ∀ j u, news[j]? = some u → w.cell? (a.add j) = some u) (h1 : ∀ u ∈ news, u.oneCell' = true)
    (h63 : n + m ≤ maxLen) (hbytes : (n + m) * bytes ≤ 140737488355328) (hbase : base ≤ w.heap.size) :
    ∃ v' w', (Builtin.append_ #[t, t] ty #[v, .slice (some a) m c]).run P w = .ok v' w' ∧ (v'.ownBlock = v.ownBlock ∨ ∀ k, v'.ownBlock = some k → w.heap.size ≤ k) := by
  rcases hown.2 with ⟨rfl, rfl⟩ | ⟨g, cap, cur, rfl, hbg, hg, hnc, hcm, hcs, htake⟩
  · have hx : xs = [] := List.eq_nil_of_length_eq_zero (by simpa using hown.1)
    subst hx
    obtain ⟨v', w', hr, ho, hgr, _⟩ := run_append_own (P := P) w w.heap.size t ty e i z size bytes ht hi hz hsize hby hzs hsz _ 0 [] (World.ownsRow_nil w w.heap.size e size) a m c news hl hnews h1 h63 hbytes (Nat.le_refl _)
    exact ⟨v', w', hr, .inr fun k hk => (ho.lt k hk).1⟩
  · by_cases hroom : n + m ≤ cap
    · subst hsize
      have hfit : n * i.size + news.length ≤ cur.size := by rw [hl, hcs, ← Nat.add_mul]; exact Nat.mul_le_mul_right _ hroom
      have hr := run_append_room (P := P) w t ty e i ht hi g n cap cur hg a m c news hl hnews h1 hroom hfit
      exact ⟨_, _, hr, .inl rfl⟩
    · subst hsize
      subst hby
      have hsmall : n + m ≤ 9223372036854775807 := by simp only [maxLen] at h63; omega
      have holds : ∀ j u, xs[j]? = some u → w.cell? ((⟨g, 0, none⟩ : Addr).add j) = some u := hown.cells (g := g) rfl
      have hr := run_append_grow (P := P) w t ty e i z ht hi hz ⟨g, 0, none⟩ n cap xs hown.1 holds a m c news hl hnews (by omega) (by omega) (growslice_fits (by omega) hbytes)
      refine ⟨_, _, hr, .inr fun k hk => ?_⟩
      injection hk with hk
      exact Nat.le_of_eq hk
theorem wpList_app1D {ops : Array Oper} {rest : List Oper} {o : Oper} {a : Act} {Q : Exit → Act → World → Prop} {s x : Operand} {t : TypeId} {base : Nat} {e : TypeId} {z : Value} {bytes : Nat} {w : World} {u v : Value} {n : Nat} {xs : List Value}
    (hown : w.ownsRow base e 1 v n xs) (hinfo : (P.info? e).map (fun i => (i.zero, i.size, i.bytes)) = some (some z, 1, bytes)) (ht : P.underlying t = some (.slice e)) (hzs : z.cells.size = 1)
    (h63 : n + 1 ≤ maxLen) (hbytes : (n + 1) * bytes ≤ 140737488355328) (hbase : base ≤ w.heap.size) (h1 : u.oneCell' = true)
    (hgd : o.guard = none) (ho : o.op = .call { callee := .builtin .append, args := #[s, x], argTypes := #[t, t] }) (hs : a.eval s = v) (hx : a.eval x = .slice (some ⟨w.heap.size, 0, none⟩) 1 1)
    (h : ∀ v' w', w'.ownsRow base e 1 v' (n + 1) (xs ++ [u]) → Below base w w' → w.grownBy w' v.ownBlock → (v'.ownBlock = v.ownBlock ∨ ∀ k, v'.ownBlock = some k → w.heap.size ≤ k) → wpList P ops Q rest (a.put o.dst v') w') : wpList P ops Q (o :: rest) a (w.alloc (.cells #[u] e)) := by
  obtain ⟨i0, hi, hz0, hz1, hz2⟩ := info_parts hinfo
  have hnews : ∀ j u', [u][j]? = some u' → (w.alloc (.cells #[u] e)).cell? ((⟨w.heap.size, 0, none⟩ : Addr).add j) = some u' := cell_one_new _ _ _
  have h1' : ∀ y ∈ [u], y.oneCell' = true := fun y hy => by simp at hy; subst hy; exact h1
  obtain ⟨v1, w1, hr1, hw1⟩ := run_append_where (P := P) (w.alloc (.cells #[u] e)) base t o.type e i0 z 1 bytes ht hi hz0 hz1 hz2 hzs (by decide) v n xs (hown.alloc _) ⟨w.heap.size, 0, none⟩ 1 1 [u] rfl hnews h1' h63 hbytes (by simp; omega)
  obtain ⟨v2, w2, hr2, hown', hg, _⟩ := run_append_own (P := P) (w.alloc (.cells #[u] e)) base t o.type e i0 z 1 bytes ht hi hz0 hz1 hz2 hzs (by decide) v n xs (hown.alloc _) ⟨w.heap.size, 0, none⟩ 1 1 [u] rfl hnews h1' h63 hbytes (by simp; omega)
  rw [hr2] at hr1
  injection hr1 with e1 e2
  subst e1 e2
  refine wpList_plain hgd fun _ hK => ?_
  unfold Oper.wp execOp
  simp only [ho, resolve, invoke, builtin, Sem.run_bind, Sem.run_pure, Result.andThen_ok, List.map_toArray, List.map_cons, List.map_nil, hs, hx, hr2]
  have hb0 : Below base w (w.alloc (.cells #[u] e)) := (Below.refl _ _).alloc hbase _
  refine hK _ _ (h v2 w2 hown' (hb0.grown hg (by simp; omega) fun k hk => (hown.lt k hk).1) ⟨hg.os, hg.tape, hg.output, Nat.le_trans (by simp) hg.size, fun k hk hne => ?_⟩ (Or.elim hw1 Or.inl fun h => Or.inr fun k hk => Nat.le_trans (by simp) (h k hk)))
  rw [hg.block k (by simp; omega) hne]
  exact Below.heap_alloc w _ k hk
end
end Go.Proofs.YtlnjphggfbiabaaGreat
