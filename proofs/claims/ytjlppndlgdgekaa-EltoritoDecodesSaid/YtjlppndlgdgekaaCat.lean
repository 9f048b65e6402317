/-
  A boot catalog is read back, in plain mathematics.
-/
import Derived.Test.YtjlppndlgdgekaaDecP
namespace Go.Proofs.Ytjlppndlgdgekaa
set_option linter.unusedVariables false

/-! ### Runs of entries -/
def imE (x : List UInt8) : Prop := (byteL x 0 = 136 ∨ byteL x 0 = 0) ∧ byteL x 1 ≤ 4
theorem run_imgs : ∀ (es : List (List UInt8)) (st : DSt) (rest : List (List UInt8)), (∀ x ∈ es, imE x) → (es.length : Int) ≤ st.left → es ≠ [] →
    runL (es ++ rest) st = if endD ⟨st.plat, st.left - es.length, st.more, st.heads, st.out ++ es.map (imgOf st.plat)⟩ then (0, st.out ++ es.map (imgOf st.plat)) else runL rest ⟨st.plat, st.left - es.length, st.more, st.heads, st.out ++ es.map (imgOf st.plat)⟩
  | [], _, _, _, _, h => (h rfl).elim
  | x :: es, st, rest, him, hl, _ => by
    have hx := him x (List.mem_cons_self ..)
    have hl' : (es.length : Int) + 1 ≤ st.left := by simpa using hl
    rw [List.cons_append, runL, step_img (by omega) hx.1 hx.2]
    dsimp only
    by_cases he : es = []
    · subst he
      simp
    · have hp : 0 < es.length := List.length_pos_iff.2 he
      have hne : endD ⟨st.plat, st.left - 1, st.more, st.heads, st.out ++ [imgOf st.plat x]⟩ = false := by
        unfold endD
        dsimp only
        rw [show (st.left - 1 == 0) = false from beq_eq_false_iff_ne.2 (by omega)]
        rfl
      rw [hne, if_neg (by simp), run_imgs es _ rest (fun y hy => him y (List.mem_cons_of_mem _ hy)) (by dsimp only; omega) he]
      dsimp only
      rw [List.append_assoc, List.map_cons, List.singleton_append, List.length_cons, show st.left - 1 - (es.length : Int) = st.left - ((es.length + 1 : Nat) : Int) by omega]
/-- A section: its header and its images. -/
theorem run_sec {h : List UInt8} {es rest : List (List UInt8)} {p hd : Int} {mo : Bool} {out : List Img} (h0 : byteL h 0 = 144 ∨ byteL h 0 = 145) (hp : platB (byteL h 1) = true) (hn : rdL h 2 2 = es.length) (he : es ≠ []) (him : ∀ x ∈ es, imE x) :
    runL (h :: es ++ rest) ⟨p, 0, mo, hd, out⟩ = if byteL h 0 = 145 then (0, out ++ es.map (imgOf (byteL h 1))) else runL rest ⟨byteL h 1, 0, true, hd + 1, out ++ es.map (imgOf (byteL h 1))⟩ := by
  have hl : 0 < es.length := List.length_pos_iff.2 he
  rw [List.cons_append, runL, step_hdr (by dsimp only; omega) h0 hp]
  dsimp only
  have hne : endD ⟨byteL h 1, rdL h 2 2, byteL h 0 == 144, hd + 1, out⟩ = false := by
    unfold endD
    dsimp only
    rw [show (rdL h 2 2 == 0) = false from beq_eq_false_iff_ne.2 (by omega)]
    rfl
  rw [hne, if_neg (by simp), run_imgs es _ rest him (by dsimp only; omega) he]
  dsimp only
  rw [hn, show (es.length : Int) - es.length = 0 by omega]
  rcases h0 with h0 | h0
  · rw [h0]
    rfl
  · rw [h0]
    rfl
/-- More images are announced than there are entries. -/
theorem run_over : ∀ (es : List (List UInt8)) (st : DSt), (∀ x ∈ es, imE x) → (es.length : Int) < st.left → runL es st = (10, [])
  | [], _, _, _ => rfl
  | x :: es, st, him, hl => by
    have hx := him x (List.mem_cons_self ..)
    have hl' : (es.length : Int) + 1 < st.left := by simpa using hl
    rw [runL, step_img (by omega) hx.1 hx.2]
    dsimp only
    have hne : endD ⟨st.plat, st.left - 1, st.more, st.heads, st.out ++ [imgOf st.plat x]⟩ = false := by
      unfold endD
      dsimp only
      rw [show (st.left - 1 == 0) = false from beq_eq_false_iff_ne.2 (by omega)]
      rfl
    rw [hne, if_neg (by simp)]
    exact run_over es _ (fun y hy => him y (List.mem_cons_of_mem _ hy)) (by dsimp only; omega)

/-! ### An entry depends on some of its bytes alone -/
theorem byteL_congr {x y : List UInt8} {i : Nat} (h : x[i]? = y[i]?) : byteL x i = byteL y i := by unfold byteL; rw [h]
theorem rdL_congr {x y : List UInt8} {a z : Nat} (h : ∀ j < z, x[a + j]? = y[a + j]?) : rdL x a z = rdL y a z := by
  unfold rdL
  have : (x.drop a).take z = (y.drop a).take z := by
    apply List.ext_getElem?
    intro j
    by_cases hj : j < z
    · rw [List.getElem?_take_of_lt hj, List.getElem?_take_of_lt hj, List.getElem?_drop, List.getElem?_drop]
      exact h j hj
    · rw [List.getElem?_take_eq_none (by omega), List.getElem?_take_eq_none (by omega)]
  rw [this]
theorem imgOf_congr {x y : List UInt8} (h : ∀ i, i < 4 ∨ (6 ≤ i ∧ i < 12) → x[i]? = y[i]?) (p : Int) : imgOf p x = imgOf p y ∧ (imE x ↔ imE y) := by
  have b0 := byteL_congr (h 0 (by omega))
  have b1 := byteL_congr (h 1 (by omega))
  have r2 := rdL_congr (a := 2) (z := 2) (fun j hj => h (2 + j) (by omega))
  have r6 := rdL_congr (a := 6) (z := 2) (fun j hj => h (6 + j) (by omega))
  have r8 := rdL_congr (a := 8) (z := 4) (fun j hj => h (8 + j) (by omega))
  refine ⟨?_, ?_⟩
  · unfold imgOf
    rw [b0, b1, r2, r6, r8]
  · unfold imE
    rw [b0, b1]

/-! ### The entries as they are made -/
theorem bt_toNat (n : Int) (i : Nat) : (bt n i).toNat = n.toNat / 256 ^ i % 256 := by
  unfold bt
  rw [UInt8.toNat_ofNat']
theorem imgL_eq (x : Img) : imgL x = [firstB x.boot, bt x.media 0, bt x.seg 0, bt x.seg 1, 0, 0, bt x.sec 0, bt x.sec 1, bt x.lba 0, bt x.lba 1, bt x.lba 2, bt x.lba 3] ++ zs 20 := rfl
theorem hdrL_eq (kind plat : Int) : hdrL kind plat = [bt kind 0, bt plat 0, 1, 0] ++ zs 28 := rfl
structure ImOk (x : Img) : Prop where
  plat : platB x.plat = true
  m0 : 0 ≤ x.media
  m1 : x.media ≤ 4
  g0 : 0 ≤ x.seg
  g1 : x.seg ≤ 65535
  s0 : 0 ≤ x.sec
  s1 : x.sec ≤ 65535
  l0 : 0 ≤ x.lba
  l1 : x.lba ≤ 4294967295
theorem imgOk_iff {x : Img} (h : imgOk x = true) : ImOk x := by
  unfold imgOk inB at h
  simp only [Bool.and_eq_true, decide_eq_true_eq] at h
  exact ⟨h.1, h.2.1.1, h.2.1.2, h.2.2.1.1, h.2.2.1.2, h.2.2.2.1.1, h.2.2.2.1.2, h.2.2.2.2.1, h.2.2.2.2.2⟩
def ImEnt (x : Img) (e : List UInt8) : Prop := imE e ∧ imgOf x.plat e = x
theorem imgL_ent {x : Img} (h : ImOk x) : ImEnt x (imgL x) := by
  obtain ⟨p, m, g, s, l, b⟩ := x
  obtain ⟨hp, m0, m1, g0, g1, s0, s1, l0, l1⟩ := h
  dsimp only at *
  have e0 : byteL (imgL ⟨p, m, g, s, l, b⟩) 0 = if b then 136 else 0 := by
    rw [imgL_eq]
    cases b <;> rfl
  have e1 : byteL (imgL ⟨p, m, g, s, l, b⟩) 1 = m := by
    rw [imgL_eq]
    show ((bt m 0).toNat : Int) = m
    rw [bt_toNat]
    omega
  have e2 : rdL (imgL ⟨p, m, g, s, l, b⟩) 2 2 = g := by
    rw [imgL_eq]
    show (((bt g 0).toNat + 256 * ((bt g 1).toNat + 256 * 0) : Nat) : Int) = g
    rw [bt_toNat, bt_toNat]
    omega
  have e6 : rdL (imgL ⟨p, m, g, s, l, b⟩) 6 2 = s := by
    rw [imgL_eq]
    show (((bt s 0).toNat + 256 * ((bt s 1).toNat + 256 * 0) : Nat) : Int) = s
    rw [bt_toNat, bt_toNat]
    omega
  have e8 : rdL (imgL ⟨p, m, g, s, l, b⟩) 8 4 = l := by
    rw [imgL_eq]
    show (((bt l 0).toNat + 256 * ((bt l 1).toNat + 256 * ((bt l 2).toNat + 256 * ((bt l 3).toNat + 256 * 0))) : Nat) : Int) = l
    rw [bt_toNat, bt_toNat, bt_toNat, bt_toNat]
    omega
  refine ⟨⟨?_, by rw [e1]; exact m1⟩, ?_⟩
  · rw [e0]
    cases b <;> simp
  · unfold imgOf
    rw [e0, e1, e2, e6, e8]
    cases b <;> rfl
def HdEnt (kind plat : Int) (e : List UInt8) : Prop := byteL e 0 = kind ∧ byteL e 1 = plat ∧ rdL e 2 2 = 1
theorem platB_cases {p : Int} (h : platB p = true) : p = 0 ∨ p = 1 ∨ p = 2 ∨ p = 239 := by
  unfold platB at h
  exact of_decide_eq_true h
theorem hdrL_ent {kind p : Int} (hk : kind = 144 ∨ kind = 145) (hp : platB p = true) : HdEnt kind p (hdrL kind p) := by
  rcases platB_cases hp with rfl | rfl | rfl | rfl <;> rcases hk with rfl | rfl <;> exact ⟨by decide +kernel, by decide +kernel, by decide +kernel⟩
theorem hdEnt_congr {x y : List UInt8} {k p : Int} (h : ∀ i, i < 4 → x[i]? = y[i]?) (hy : HdEnt k p y) : HdEnt k p x := by
  unfold HdEnt at *
  rw [byteL_congr (h 0 (by omega)), byteL_congr (h 1 (by omega)), rdL_congr (a := 2) (z := 2) (fun j hj => h (2 + j) (by omega))]
  exact hy
theorem imEnt_congr {x y : List UInt8} {m : Img} (h : ∀ i, i < 4 ∨ (6 ≤ i ∧ i < 12) → x[i]? = y[i]?) (hy : ImEnt m y) : ImEnt m x := by
  obtain ⟨h1, h2⟩ := imgOf_congr h m.plat
  exact ⟨h2.2 hy.1, h1.trans hy.2⟩
theorem valL_ok {p : Int} (hp : platB p = true) : keyOk (valL p) = true ∧ byteL (valL p) 1 = p ∧ sumS (valL p) = 0 ∧ (valL p).length = 32 := by
  rcases platB_cases hp with rfl | rfl | rfl | rfl <;> decide +kernel

/-! ### A catalog -/
structure Cat (l : List Img) (s : List UInt8) : Prop where
  len : s.length = 2048
  head : ∀ x, l[0]? = some x → entAt s 0 = valL x.plat
  img : ∀ k x, l[k]? = some x → ImEnt x (entAt s (2 * k + 1))
  hdr : ∀ k x, 0 < k → l[k]? = some x → HdEnt (kindOf l.length k) x.plat (entAt s (2 * k))
  fin : l.length = 1 → byteL (entAt s 2) 0 = 0
theorem kindOf_cases (n k : Nat) : kindOf n k = 144 ∨ kindOf n k = 145 := by
  unfold kindOf
  split
  · exact .inr rfl
  · exact .inl rfl
theorem ents_two (s : List UInt8) (k : Nat) (h : k < 32) : (List.range' (2 * k) (64 - 2 * k)).map (entAt s) = entAt s (2 * k) :: entAt s (2 * k + 1) :: (List.range' (2 * (k + 1)) (64 - 2 * (k + 1))).map (entAt s) := by
  rw [show 64 - 2 * k = (64 - 2 * (k + 1)) + 1 + 1 by omega, List.range'_succ, List.range'_succ, List.map_cons, List.map_cons]
  rfl
theorem take_snoc' {l : List Img} {k : Nat} {x : Img} (h : l[k]? = some x) : l.take k ++ [x] = l.take (k + 1) := by
  rw [List.take_add_one, h]
  rfl
theorem cat_secs {l : List Img} {s : List UInt8} (h : Cat l s) (hok : ∀ x ∈ l, ImOk x) (hn : l.length ≤ 32) : ∀ (m k : Nat), k + m = l.length → 0 < m → 1 ≤ k → ∀ (p hd : Int), runL ((List.range' (2 * k) (64 - 2 * k)).map (entAt s)) ⟨p, 0, true, hd, l.take k⟩ = (0, l)
  | 0, _, _, h0, _, _, _ => by omega
  | m + 1, k, hk, _, h1, p, hd => by
    obtain ⟨x, hx⟩ : ∃ x, l[k]? = some x := ⟨_, List.getElem?_eq_getElem (show k < l.length by omega)⟩
    have hxo := hok x (List.mem_of_getElem? hx)
    obtain ⟨d0, d1, d2⟩ := h.hdr k x (by omega) hx
    obtain ⟨i0, i1⟩ := h.img k x hx
    have hr := run_sec (h := entAt s (2 * k)) (es := [entAt s (2 * k + 1)]) (rest := (List.range' (2 * (k + 1)) (64 - 2 * (k + 1))).map (entAt s)) (p := p) (hd := hd) (mo := true) (out := l.take k)
      (by rw [d0]; exact kindOf_cases _ _) (by rw [d1]; exact hxo.plat) (by rw [d2]; rfl) (by simp) (by intro y hy; rw [List.mem_singleton] at hy; subst hy; exact i0)
    rw [ents_two s k (by omega)]
    have e : entAt s (2 * k) :: entAt s (2 * k + 1) :: (List.range' (2 * (k + 1)) (64 - 2 * (k + 1))).map (entAt s) = entAt s (2 * k) :: [entAt s (2 * k + 1)] ++ (List.range' (2 * (k + 1)) (64 - 2 * (k + 1))).map (entAt s) := rfl
    rw [e, hr, d0, d1, List.map_cons, List.map_nil, i1, take_snoc' hx]
    by_cases hm : m = 0
    · have hkl : k + 1 = l.length := by omega
      rw [show kindOf l.length k = 145 from if_pos hkl, if_pos rfl, hkl, List.take_length]
    · rw [show kindOf l.length k = 144 from if_neg (by omega), if_neg (by decide)]
      exact cat_secs h hok hn m (k + 1) (by omega) (by omega) (by omega) _ _
/-- What comes behind the first image. -/
theorem cat_first {l : List Img} {s : List UInt8} (hlen : s.length = 2048) {x : Img} (hx : l[0]? = some x) (hp : platB x.plat = true) (h0 : entAt s 0 = valL x.plat) (h1 : ImEnt x (entAt s 1)) :
    decR s = runL ((List.range' 2 62).map (entAt s)) ⟨x.plat, 0, true, 0, [x]⟩ := by
  obtain ⟨v0, v1, _, _⟩ := valL_ok hp
  unfold decR
  rw [if_neg (by omega), h0, v0, if_pos rfl, v1, if_pos hp, runD_list, show (63 : Nat) = 62 + 1 from rfl, List.range'_succ, List.map_cons]
  have := run_imgs [entAt s 1] ⟨x.plat, 1, true, 0, []⟩ ((List.range' 2 62).map (entAt s)) (by intro y hy; rw [List.mem_singleton] at hy; subst hy; exact h1.1) (by simp) (by simp)
  have e : entAt s 1 :: (List.range' (1 + 1) 62).map (entAt s) = [entAt s 1] ++ (List.range' 2 62).map (entAt s) := rfl
  rw [e, this]
  dsimp only
  rw [List.map_cons, List.map_nil, h1.2]
  rfl
theorem cat_dec {l : List Img} {s : List UInt8} (h : Cat l s) (hok : ∀ x ∈ l, ImOk x) (h0 : 0 < l.length) (hn : l.length ≤ 32) : decR s = (0, l) := by
  obtain ⟨x, hx⟩ : ∃ x, l[0]? = some x := ⟨_, List.getElem?_eq_getElem h0⟩
  rw [cat_first h.len hx (hok x (List.mem_of_getElem? hx)).plat (h.head x hx) (h.img 0 x hx)]
  have ht : l.take 1 = [x] := (take_snoc' hx).symm
  by_cases h1 : l.length = 1
  · rw [show (62 : Nat) = 61 + 1 from rfl, List.range'_succ, List.map_cons, runL, step_none (by dsimp only; omega) (h.fin h1) rfl]
    dsimp only
    rw [← ht, ← h1, List.take_length]
  · rw [← ht]
    exact cat_secs h hok hn (l.length - 1) 1 (by omega) (by omega) (by omega) _ _

/-! ### What is encoded is a catalog -/
theorem bodyUp_split {l : List Img} {k : Nat} {x : Img} (hx : l[k]? = some x) : ∀ m, k < m → m ≤ l.length → ∃ t, bodyUp l m = bodyUp l k ++ (partL l.length k x ++ t)
  | 0, h, _ => by omega
  | m + 1, h, hm => by
    have hs := bodyUp_snoc (List.getElem?_eq_getElem (show m < l.length by omega))
    by_cases hk : k = m
    · subst hk
      exact ⟨[], by rw [bodyUp_snoc hx, List.append_nil]⟩
    · obtain ⟨t, ht⟩ := bodyUp_split hx m (by omega) (by omega)
      exact ⟨t ++ partL l.length m l[m], by rw [hs, ht]; simp⟩
theorem encL_part {l : List Img} {k : Nat} {x : Img} (hx : l[k]? = some x) : ((encL l).drop (64 * k)).take 64 = partL l.length k x := by
  have hk := (List.getElem?_eq_some_iff.1 hx).1
  obtain ⟨t, ht⟩ := bodyUp_split hx l.length hk (Nat.le_refl _)
  unfold encL
  rw [ht, List.append_assoc, List.append_assoc, List.drop_left' (bodyUp_length (by omega)), List.take_left' (partL_length _ _ _)]
theorem encL_head {l : List Img} {k : Nat} {x : Img} (hx : l[k]? = some x) : entAt (encL l) (2 * k) = if k = 0 then valL x.plat else hdrL (kindOf l.length k) x.plat := by
  have h := encL_part hx
  unfold entAt
  rw [show 32 * (2 * k) = 64 * k by omega, show ((encL l).drop (64 * k)).take 32 = (((encL l).drop (64 * k)).take 64).take 32 by rw [List.take_take]; rfl, h]
  unfold partL
  rw [List.take_left']
  split
  · unfold valL; exact formL_length _ _
  · exact hdrL_length _ _
theorem encL_img {l : List Img} {k : Nat} {x : Img} (hx : l[k]? = some x) : entAt (encL l) (2 * k + 1) = imgL x := by
  have h := encL_part hx
  unfold entAt
  rw [show 32 * (2 * k + 1) = 64 * k + 32 by omega, ← List.drop_drop, show (((encL l).drop (64 * k)).drop 32).take 32 = (((encL l).drop (64 * k)).take 64).drop 32 by rw [List.drop_take], h]
  unfold partL
  rw [List.drop_left']
  split
  · unfold valL; exact formL_length _ _
  · exact hdrL_length _ _
theorem encL_length {l : List Img} (hn : l.length ≤ 32) : (encL l).length = 2048 := by
  unfold encL
  rw [List.length_append, bodyUp_length (Nat.le_refl _), zs_length]
  omega
theorem encL_zero {l : List Img} (hn : l.length ≤ 32) {i : Nat} (h1 : 64 * l.length ≤ i) (h2 : i < 2048) : (encL l)[i]? = some 0 := by
  unfold encL
  rw [List.getElem?_append_right (by rw [bodyUp_length (Nat.le_refl _)]; exact h1), bodyUp_length (Nat.le_refl _)]
  unfold zs
  rw [List.getElem?_replicate, if_pos (by omega)]
theorem entAt_get {s : List UInt8} {i j : Nat} (hj : j < 32) : (entAt s i)[j]? = s[32 * i + j]? := by
  unfold entAt
  rw [List.getElem?_take_of_lt hj, List.getElem?_drop]
theorem cat_enc {l : List Img} (hok : ∀ x ∈ l, ImOk x) (hn : l.length ≤ 32) : Cat l (encL l) where
  len := encL_length hn
  head := fun x hx => by
    have := encL_head hx
    rw [if_pos rfl] at this
    exact this
  img := fun k x hx => by
    rw [encL_img hx]
    exact imgL_ent (hok x (List.mem_of_getElem? hx))
  hdr := fun k x hk hx => by
    rw [encL_head hx, if_neg (by omega)]
    exact hdrL_ent (kindOf_cases _ _) (hok x (List.mem_of_getElem? hx)).plat
  fin := fun h1 => by
    unfold byteL
    rw [entAt_get (by omega), encL_zero hn (by omega) (by omega)]
    rfl
theorem all_ok {l : List Img} (h : l.all imgOk = true) : ∀ x ∈ l, ImOk x := fun x hx => imgOk_iff (List.all_eq_true.1 h x hx)
/-- The ways of Encode. -/
theorem enc_ways (l : List Img) : (encE l ≠ 0 ∧ encStr l = ⟨#[]⟩) ∨ (encE l = 0 ∧ encStr l = ⟨(encL l).toArray⟩ ∧ 0 < l.length ∧ l.length ≤ 32 ∧ ∀ x ∈ l, ImOk x) := by
  rcases encE_cases l with ⟨_, h⟩ | ⟨_, h⟩ | ⟨_, _, _, h⟩ | ⟨h0, h1, h2, h⟩
  · exact .inl ⟨by rw [h]; decide, encStr_no (by rw [h]; decide)⟩
  · exact .inl ⟨by rw [h]; decide, encStr_no (by rw [h]; decide)⟩
  · exact .inl ⟨by rw [h]; decide, encStr_no (by rw [h]; decide)⟩
  · exact .inr ⟨h, encStr_ok h, h0, h1, all_ok h2⟩
end Go.Proofs.Ytjlppndlgdgekaa
