/-
  A catalog whose last section announces too much, in plain mathematics.
-/
import Derived.Test.YtjlppndlgdgekaaKey
namespace Go.Proofs.Ytjlppndlgdgekaa
set_option linter.unusedVariables false

theorem secs_upto {l : List Img} {s : List UInt8} (hok : ∀ x ∈ l, ImOk x) (hn : l.length ≤ 32) {j : Nat} (hj : j ≤ l.length)
    (hh : ∀ k x, 0 < k → k < j → l[k]? = some x → HdEnt 144 x.plat (entAt s (2 * k)) ∧ ImEnt x (entAt s (2 * k + 1))) :
    ∀ (m k : Nat), k + m = j → 1 ≤ k → ∀ (p hd : Int), ∃ p', runL ((List.range' (2 * k) (64 - 2 * k)).map (entAt s)) ⟨p, 0, true, hd, l.take k⟩ = runL ((List.range' (2 * j) (64 - 2 * j)).map (entAt s)) ⟨p', 0, true, hd + m, l.take j⟩
  | 0, k, hk, _, p, hd => by
    obtain rfl : k = j := by omega
    exact ⟨p, by rw [show hd + ((0 : Nat) : Int) = hd by omega]⟩
  | m + 1, k, hk, h1, p, hd => by
    obtain ⟨x, hx⟩ : ∃ x, l[k]? = some x := ⟨_, List.getElem?_eq_getElem (show k < l.length by omega)⟩
    have hxo := hok x (List.mem_of_getElem? hx)
    obtain ⟨⟨d0, d1, d2⟩, i0, i1⟩ := hh k x (by omega) (by omega) hx
    have hr := run_sec (h := entAt s (2 * k)) (es := [entAt s (2 * k + 1)]) (rest := (List.range' (2 * (k + 1)) (64 - 2 * (k + 1))).map (entAt s)) (p := p) (hd := hd) (mo := true) (out := l.take k)
      (by rw [d0]; exact .inl rfl) (by rw [d1]; exact hxo.plat) (by rw [d2]; rfl) (by simp) (by intro y hy; rw [List.mem_singleton] at hy; subst hy; exact i0)
    obtain ⟨p', ih⟩ := secs_upto hok hn hj hh m (k + 1) (by omega) (by omega) x.plat (hd + 1)
    refine ⟨p', ?_⟩
    rw [ents_two s k (by omega)]
    have e : entAt s (2 * k) :: entAt s (2 * k + 1) :: (List.range' (2 * (k + 1)) (64 - 2 * (k + 1))).map (entAt s) = entAt s (2 * k) :: [entAt s (2 * k + 1)] ++ (List.range' (2 * (k + 1)) (64 - 2 * (k + 1))).map (entAt s) := rfl
    rw [e, hr, d0, d1, List.map_cons, List.map_nil, i1, take_snoc' hx, if_neg (by decide), ih, show hd + 1 + (m : Int) = hd + ((m + 1 : Nat) : Int) by omega]
theorem entAt_set_ne {s : List UInt8} {i j : Nat} {v : UInt8} (h : i / 32 ≠ j) : entAt (s.set i v) j = entAt s j := by
  rw [entAt_set, if_neg (by omega)]
theorem entAt_set_eq {s : List UInt8} {i j o : Nat} {v : UInt8} (ho : o < 32) (h : i = 32 * j + o) : entAt (s.set i v) j = (entAt s j).set o v := by
  rw [entAt_set, if_pos (by omega), show i - 32 * j = o by omega]
theorem zero_ent {l : List Img} (hn : l.length ≤ 32) {j : Nat} (h1 : 2 * l.length ≤ j) (h2 : j < 64) : byteL (entAt (encL l) j) 0 = 0 ∧ byteL (entAt (encL l) j) 1 = 0 := by
  unfold byteL
  rw [entAt_get (by omega), entAt_get (by omega), encL_zero hn (by omega) (by omega), encL_zero hn (by omega) (by omega)]
  exact ⟨rfl, rfl⟩
/-- A catalog whose entries but for the last header are those that are encoded. -/
theorem cut_start {l : List Img} {s : List UInt8} (hok : ∀ x ∈ l, ImOk x) (h2 : 2 ≤ l.length) (hn : l.length ≤ 32) (hlen : s.length = 2048) (hs : ∀ j, j ≠ 2 * (l.length - 1) → entAt s j = entAt (encL l) j) :
    ∃ p', decR s = runL ((List.range' (2 * (l.length - 1)) (64 - 2 * (l.length - 1))).map (entAt s)) ⟨p', 0, true, ((l.length - 2 : Nat) : Int), l.take (l.length - 1)⟩ := by
  have hC := cat_enc hok hn
  obtain ⟨x, hx⟩ : ∃ x, l[0]? = some x := ⟨_, List.getElem?_eq_getElem (by omega)⟩
  have hp := (hok x (List.mem_of_getElem? hx)).plat
  have h0 := cat_first hlen hx hp (by rw [hs 0 (by omega)]; exact hC.head x hx) (by rw [hs 1 (by omega)]; exact hC.img 0 x hx)
  obtain ⟨p', hp'⟩ := secs_upto (s := s) hok hn (j := l.length - 1) (by omega) (fun k y hk hkj hy => by
    have hd := hC.hdr k y hk hy
    rw [show kindOf l.length k = 144 from if_neg (by omega)] at hd
    rw [hs (2 * k) (by omega), hs (2 * k + 1) (by omega)]
    exact ⟨hd, hC.img k y hy⟩) (l.length - 2) 1 (by omega) (by omega) x.plat 0
  refine ⟨p', ?_⟩
  have ht : l.take 1 = [x] := (take_snoc' hx).symm
  rw [h0, ← ht]
  have e : (0 : Int) + ((l.length - 2 : Nat) : Int) = ((l.length - 2 : Nat) : Int) := by omega
  rw [← e]
  exact hp'
theorem last_hdr {l : List Img} {x : Img} (h2 : 2 ≤ l.length) (hx : l[l.length - 1]? = some x) : entAt (encL l) (2 * (l.length - 1)) = [145, bt x.plat 0, 1, 0] ++ zs 28 := by
  rw [encL_head hx, if_neg (by omega), show kindOf l.length (l.length - 1) = 145 from if_pos (by omega), hdrL_eq]
  rfl
theorem bt_plat {p : Int} (hp : platB p = true) : ((bt p 0).toNat : Int) = p := by
  rcases platB_cases hp with rfl | rfl | rfl | rfl <;> decide
theorem cut_one {l : List Img} (hok : ∀ x ∈ l, ImOk x) (h2 : 2 ≤ l.length) (hn : l.length ≤ 32) : decR ((encL l).set (64 * (l.length - 1)) 144) = (10, []) := by
  obtain ⟨x, hx⟩ : ∃ x, l[l.length - 1]? = some x := ⟨_, List.getElem?_eq_getElem (by omega)⟩
  have hp := (hok x (List.mem_of_getElem? hx)).plat
  obtain ⟨p', h⟩ := cut_start (s := (encL l).set (64 * (l.length - 1)) 144) hok h2 hn (by rw [List.length_set, encL_length hn]) (fun j hj => entAt_set_ne (by omega))
  have hC := cat_enc hok hn
  have hh : entAt ((encL l).set (64 * (l.length - 1)) 144) (2 * (l.length - 1)) = [144, bt x.plat 0, 1, 0] ++ zs 28 := by
    rw [entAt_set_eq (o := 0) (by omega) (by omega), last_hdr h2 hx]
    rfl
  have hi : entAt ((encL l).set (64 * (l.length - 1)) 144) (2 * (l.length - 1) + 1) = entAt (encL l) (2 * (l.length - 1) + 1) := entAt_set_ne (by omega)
  obtain ⟨i0, i1⟩ := hC.img (l.length - 1) x hx
  rw [← hi] at i0 i1
  have d0 : byteL (entAt ((encL l).set (64 * (l.length - 1)) 144) (2 * (l.length - 1))) 0 = 144 := by rw [hh]; rfl
  have d1 : byteL (entAt ((encL l).set (64 * (l.length - 1)) 144) (2 * (l.length - 1))) 1 = x.plat := by rw [hh]; exact bt_plat hp
  have d2 : rdL (entAt ((encL l).set (64 * (l.length - 1)) 144) (2 * (l.length - 1))) 2 2 = 1 := by rw [hh]; rfl
  rw [h, ents_two _ _ (by omega)]
  have hr := run_sec (h := entAt ((encL l).set (64 * (l.length - 1)) 144) (2 * (l.length - 1))) (es := [entAt ((encL l).set (64 * (l.length - 1)) 144) (2 * (l.length - 1) + 1)]) (rest := (List.range' (2 * (l.length - 1 + 1)) (64 - 2 * (l.length - 1 + 1))).map (entAt ((encL l).set (64 * (l.length - 1)) 144))) (p := p') (hd := ((l.length - 2 : Nat) : Int)) (mo := true) (out := l.take (l.length - 1))
    (.inl d0) (by rw [d1]; exact hp) (by rw [d2]; rfl) (by simp) (by intro y hy; rw [List.mem_singleton] at hy; subst hy; exact i0)
  refine Eq.trans hr ?_
  rw [d0, if_neg (by decide)]
  by_cases h32 : l.length = 32
  · rw [show 64 - 2 * (l.length - 1 + 1) = 0 by omega]
    rfl
  · rw [ents_two _ _ (by omega), runL, step_bad3]
    · dsimp only; omega
    · dsimp only; omega
    · rw [entAt_set_ne (by omega), (zero_ent hn (by omega) (by omega)).1]; decide
    · rw [entAt_set_ne (by omega), (zero_ent hn (by omega) (by omega)).1]; decide
theorem cut_two {l : List Img} (hok : ∀ x ∈ l, ImOk x) (h2 : 2 ≤ l.length) (hn : l.length ≤ 32) {N : Nat} (hN : 64 ≤ N) (hN2 : N < 65536) {lo hi : UInt8} (hlo : lo.toNat = N % 256) (hhi : hi.toNat = N / 256) :
    decR (((((encL l).set (64 * (l.length - 1)) 144).set (64 * (l.length - 1)) 145).set (64 * (l.length - 1) + 2) lo).set (64 * (l.length - 1) + 3) hi) = (10, []) := by
  obtain ⟨x, hx⟩ : ∃ x, l[l.length - 1]? = some x := ⟨_, List.getElem?_eq_getElem (by omega)⟩
  have hp := (hok x (List.mem_of_getElem? hx)).plat
  obtain ⟨s, hs⟩ : ∃ s, s = ((((encL l).set (64 * (l.length - 1)) 144).set (64 * (l.length - 1)) 145).set (64 * (l.length - 1) + 2) lo).set (64 * (l.length - 1) + 3) hi := ⟨_, rfl⟩
  have hne : ∀ j, j ≠ 2 * (l.length - 1) → entAt s j = entAt (encL l) j := fun j hj => by
    rw [hs, entAt_set_ne (by omega), entAt_set_ne (by omega), entAt_set_ne (by omega), entAt_set_ne (by omega)]
  have hh : entAt s (2 * (l.length - 1)) = [145, bt x.plat 0, lo, hi] ++ zs 28 := by
    rw [hs, entAt_set_eq (o := 3) (by omega) (by omega), entAt_set_eq (o := 2) (by omega) (by omega), entAt_set_eq (o := 0) (by omega) (by omega), entAt_set_eq (o := 0) (by omega) (by omega), last_hdr h2 hx]
    rfl
  rw [← hs]
  obtain ⟨p', h⟩ := cut_start (s := s) hok h2 hn (by rw [hs, List.length_set, List.length_set, List.length_set, List.length_set, encL_length hn]) hne
  have d0 : byteL (entAt s (2 * (l.length - 1))) 0 = 145 := by rw [hh]; rfl
  have d1 : byteL (entAt s (2 * (l.length - 1))) 1 = x.plat := by rw [hh]; exact bt_plat hp
  have d2 : rdL (entAt s (2 * (l.length - 1))) 2 2 = (N : Int) := by
    rw [hh]
    show ((lo.toNat + 256 * (hi.toNat + 256 * 0) : Nat) : Int) = N
    rw [hlo, hhi]
    omega
  rw [h, show 64 - 2 * (l.length - 1) = (64 - 2 * (l.length - 1) - 1) + 1 by omega, List.range'_succ, List.map_cons, runL, step_hdr (by dsimp only; omega) (.inr d0) (by rw [d1]; exact hp)]
  dsimp only
  have hne2 : endD ⟨byteL (entAt s (2 * (l.length - 1))) 1, rdL (entAt s (2 * (l.length - 1))) 2 2, byteL (entAt s (2 * (l.length - 1))) 0 == 144, ((l.length - 2 : Nat) : Int) + 1, l.take (l.length - 1)⟩ = false := by
    unfold endD
    dsimp only
    rw [d2, show ((N : Int) == 0) = false from beq_eq_false_iff_ne.2 (by omega)]
    rfl
  rw [hne2, if_neg (by simp)]
  refine run_over _ _ ?_ ?_
  · intro e he
    obtain ⟨j, hj, rfl⟩ := List.mem_map.1 he
    rw [List.mem_range'_1] at hj
    rw [hne j (by omega)]
    by_cases hj2 : j = 2 * (l.length - 1) + 1
    · rw [hj2]
      exact ((cat_enc hok hn).img _ x hx).1
    · obtain ⟨z0, z1⟩ := zero_ent hn (show 2 * l.length ≤ j by omega) (by omega)
      unfold imE
      rw [z0, z1]
      decide
  · dsimp only
    rw [d2, List.length_map, List.length_range']
    omega
end Go.Proofs.Ytjlppndlgdgekaa
