/-
  Strings as lists of numbers; zeros appended to a converted string; Encode of reedsolomon.
-/
import Derived.Test.YtlnjphggfbiabaaGreatMGe
import Derived.Test.YtlnjphggfbiabaaGreatBytesAt
import Derived.Lib.AppendZerosOnto
import Derived.Lib.FrozenHead2
import Derived.BigQuiet
namespace Go.Proofs.YtlnjphggfbiabaaGreat
open Go.RowKit
set_option linter.unusedVariables false

def sN (s : ByteArray) : List Nat := s.data.toList.map (·.toNat)
def natS (l : List Nat) : ByteArray := ⟨(l.map UInt8.ofNat).toArray⟩
theorem sN_length (s : ByteArray) : (sN s).length = s.size := by simp [sN]
theorem sN_b8 (s : ByteArray) : B8 (sN s) := fun n hn => by
  obtain ⟨b, _, rfl⟩ := List.mem_map.1 hn
  exact b.toNat_lt
theorem natS_size (l : List Nat) : (natS l).size = l.length := by
  show (l.map UInt8.ofNat).toArray.size = _
  simp
theorem sN_natS {l : List Nat} (h : B8 l) : sN (natS l) = l := by
  unfold sN natS
  rw [List.map_map]
  conv => rhs; rw [← List.map_id l]
  refine List.map_congr_left fun n hn => ?_
  show (UInt8.ofNat n).toNat = n
  rw [UInt8.toNat_ofNat']
  exact Nat.mod_eq_of_lt (h n hn)
theorem natS_sN (s : ByteArray) : natS (sN s) = s := by
  cases s with
  | mk d =>
    unfold sN natS
    rw [List.map_map]
    have : d.toList.map (UInt8.ofNat ∘ UInt8.toNat) = d.toList := by
      conv => rhs; rw [← List.map_id d.toList]
      exact List.map_congr_left fun b _ => UInt8.ofNat_toNat
    rw [this]
theorem natV_sN (s : ByteArray) : natV (sN s) = s.data.toList.map byteV := by
  unfold natV sN
  rw [List.map_map]
  rfl
theorem natV_bytes {l : List Nat} (h : B8 l) : natV l = (l.map UInt8.ofNat).map byteV := by
  unfold natV
  rw [List.map_map]
  refine List.map_congr_left fun n hn => ?_
  show Value.int .u8 (n : Int) = .int .u8 (((UInt8.ofNat n).toNat : Nat) : Int)
  rw [UInt8.toNat_ofNat', Nat.mod_eq_of_lt (h n hn)]
theorem natS_append (a b : List Nat) : natS (a ++ b) = natS a ++ natS b := by
  unfold natS
  rw [List.map_append]
  cases h : (ByteArray.mk (a.map UInt8.ofNat).toArray ++ ByteArray.mk (b.map UInt8.ofNat).toArray) with
  | mk d =>
    have := congrArg ByteArray.data h
    rw [ByteArray.data_append] at this
    dsimp only at this
    rw [← this]
    simp
/-- The bytes of a converted string. -/
theorem bytes_slat {w : World} {g : Nat} {e : TypeId} {s : ByteArray} (h : BytesAt w g e s.data.toList) : SlAt w w.heap.size (some ⟨g, 0, none⟩) (natV (sN s)) := by
  rw [natV_sN]
  intro j u hu
  rw [List.getElem?_map] at hu
  obtain ⟨b, hb, rfl⟩ := Option.map_eq_some_iff.1 hu
  exact ⟨g, 0, rfl, h.lt, by rw [Nat.zero_add]; exact h.cell j b hb⟩

section
variable {P : Program}
theorem run_storeCells_lo (g o : Nat) (t : TypeId) (fz : Nat × Nat) : ∀ (vs : List Value) (i : Nat) (cur : Array Value) (w : World), w.heap[g]? = some (.cells cur t fz) → cur.size ≤ fz.1 → o + i + vs.length ≤ cur.size → (∀ v ∈ vs, v.oneCell' = true) →
    (storeCells ⟨g, o, none⟩ vs i).run P w = .ok () (w.setRow g (cur.toList.take (o + i) ++ vs ++ cur.toList.drop (o + i + vs.length)).toArray)
  | [], i, cur, w, hg, _, _, _ => by
    simp only [storeCells, List.append_nil, List.length_nil, Nat.add_zero, List.take_append_drop, Array.toArray_toList]
    rw [setRow_self w g cur t fz hg]
    rfl
  | v :: rest, i, cur, w, hg, hfz, hl, h1 => by
    have hi : o + i < cur.size := by simp at hl; omega
    have hadd : (⟨g, o, none⟩ : Addr).add i = ⟨g, o + i, none⟩ := by unfold Addr.add; split <;> simp_all
    have hcell : w.cell? ⟨g, o + i, none⟩ = some cur[o + i] := by simp [World.cell?, hg, hi]
    have hfro : w.frozen? ⟨g, o + i, none⟩ = false := by
      obtain ⟨lo, hi'⟩ := fz
      simp only [World.frozen?, hg, Bool.and_eq_false_iff, decide_eq_false_iff_not]
      left
      simp only at hfz
      omega
    have hst : (store ((⟨g, o, none⟩ : Addr).add i) v).run P w = .ok () (w.setRow g (cur.setIfInBounds (o + i) v)) := by
      rw [hadd, run_store P w _ v _ (h1 v (by simp)), hcell]
      simp [hfro, setCell_eq_setRow w g (o + i) cur t fz v hg]
    have ih := run_storeCells_lo g o t fz rest (i + 1) (cur.setIfInBounds (o + i) v) (w.setRow g (cur.setIfInBounds (o + i) v)) (setRow_heap w g cur _ t _ hg) (by simpa using hfz) (by simp at hl ⊢; omega) (fun x hx => h1 x (by simp [hx]))
    simp only [storeCells, Sem.run_bind, hst, Result.andThen_ok, ih, setRow_setRow]
    congr 3
    have e := list_seg_step cur.toList (o + i) v rest (by simp at hl ⊢; omega)
    simpa [Array.toList_setIfInBounds, Nat.add_assoc] using e
theorem zeroCells_one (z : Value) (hz : z.cells = #[z]) (k : Nat) : (Builtin.zeroCells z.cells k).toList = List.replicate k z := by
  rw [hz]
  unfold Builtin.zeroCells
  apply List.ext_getElem?
  intro j
  by_cases hj : j < k
  · simp [hj, Nat.mod_one]
  · simp [hj]
/-- Zeros appended to a converted string. -/
theorem run_appZ {t tn ty e : TypeId} (ht : P.underlying t = some (.slice e)) (htn : P.underlying tn = some (.int .i64)) {i : TypeInfo} (hi : P.info? e = some i) (hz : i.zero = some (.int .u8 0)) (hs : i.size = 1) (hby : i.bytes = 1)
    {w : World} {g cap k : Nat} {s : ByteArray} {fr : Nat × Nat} (hg : w.heap[g]? = some (.cells (bytesRow s cap) e fr)) (hfr : (bytesRow s cap).size ≤ fr.1) (hcap : s.size ≤ cap) (hk0 : 0 < k) (hk : k ≤ 1000) (hsz : s.size ≤ 1000000) :
    ∃ A c w', (Builtin.append_ #[t, tn] ty #[.slice (some ⟨g, 0, none⟩) s.size cap, .int .i64 (k : Int)]).run P w = .ok (.slice A (s.size + k) c) w' ∧ SlAt w' w'.heap.size A (natV (sN s ++ List.replicate k 0)) ∧ w.grownBy w' (some g) := by
  have hrl : (bytesRow s cap).toList = natV (sN s) ++ List.replicate (cap - s.size) (.int .u8 0) := by
    unfold bytesRow
    rw [natV_sN, Array.toList_append, Array.toList_map, Array.toList_replicate]
    rfl
  have hrs : (bytesRow s cap).size = cap := by
    rw [← Array.length_toList, hrl, List.length_append, natV_length, sN_length, List.length_replicate]
    omega
  have hw : IntKind.i64.wrap (k : Int) = k := by rw [IntKind.wrap_i64]; omega
  have hzc : (Builtin.zeroCells (Value.int .u8 0).cells k).toList = List.replicate k (Value.int .u8 0) := zeroCells_one _ rfl k
  by_cases hroom : s.size + k ≤ cap
  · have hst := run_storeCells_lo (P := P) g s.size e fr (List.replicate k (Value.int .u8 0)) 0 (bytesRow s cap) w hg hfr (by rw [hrs, List.length_replicate]; omega) (fun v hv => by rw [(List.mem_replicate.1 hv).2]; rfl)
    rw [Nat.add_zero] at hst
    refine ⟨some ⟨g, 0, none⟩, cap, w.setRow g ((bytesRow s cap).toList.take s.size ++ List.replicate k (Value.int .u8 0) ++ (bytesRow s cap).toList.drop (s.size + (List.replicate k (Value.int .u8 0)).length)).toArray, ?_, ?_, ?_⟩
    · have hk1 : ¬ (k = 0) := by omega
      have hneg : ¬ ((k : Int) < 0) := by omega
      have h48 : ¬ (281474976710656 < (k : Int)) := by omega
      simp [Builtin.append_, run_underlying ht, run_underlying htn, sizeOf, typeInfo, zeroValue, hi, hz, hs, hby, asInt, asIntOf, hw, hneg, hk1, h48, hroom, Addr.add_lit, hzc, hst]
    · intro j u hu
      have hsl := natV_length (sN s ++ List.replicate k 0)
      rw [List.length_append, sN_length, List.length_replicate] at hsl
      have hj := (List.getElem?_eq_some_iff.1 hu).1
      refine ⟨g, 0, rfl, by have := (Array.getElem?_eq_some_iff.1 hg).1; simpa using this, ?_⟩
      rw [Nat.zero_add]
      have hh := setRow_heap w g (bytesRow s cap) ((bytesRow s cap).toList.take s.size ++ List.replicate k (Value.int .u8 0) ++ (bytesRow s cap).toList.drop (s.size + (List.replicate k (Value.int .u8 0)).length)).toArray e fr hg
      rw [cell_of_row _ g j _ e fr hh, List.getElem?_toArray, hrl, List.take_left' (by rw [natV_length, sN_length]), ← hu, natV_append, ← natV_zeros]
      rw [List.getElem?_append_left (by rw [List.length_append, natV_length, sN_length, List.length_replicate]; omega)]
    · exact ⟨rfl, rfl, rfl, by simp, fun m _ hm => setRow_other w g m _ (fun e => hm (by simp [e]))⟩
  · have hold : (Builtin.firstCells i.size s.size (.slice (some ⟨g, 0, none⟩) s.size cap)).run P w.drew = .ok (natV (sN s)).toArray w.drew :=
      run_firstCells_some (P := P) w.drew i.size s.size ⟨g, 0, none⟩ s.size cap (natV (sN s)) (by rw [natV_length, sN_length, hs, Nat.mul_one]) (fun j u hu => by
        have hj := (List.getElem?_eq_some_iff.1 hu).1
        rw [show (⟨g, 0, none⟩ : Addr).add j = ⟨g, j, none⟩ by unfold Addr.add; split <;> simp_all]
        show w.cell? ⟨g, j, none⟩ = _
        rw [cell_of_row w g j _ e fr hg, ← Array.getElem?_toList, hrl, List.getElem?_append_left hj, hu])
    have hr := Lib.run_append_grow_zeros (P := P) w t tn ty e i _ .i64 .i64 ht htn hi hz (some ⟨g, 0, none⟩) s.size cap (natV (sN s)) hold k hk0 (by omega) (by omega) (by omega) (by rw [hby]; omega) (growslice_fits (by omega) (by rw [hby]; omega))
    refine ⟨_, _, _, hr, ?_, ?_⟩
    · intro j u hu
      have hj := (List.getElem?_eq_some_iff.1 hu).1
      refine ⟨w.heap.size, 0, rfl, by simp, ?_⟩
      rw [Nat.zero_add, cell_of_row _ w.heap.size j _ e (0, 0) (heap_alloc_new w.drew _), ← Array.getElem?_toList, Array.toList_append, Array.toList_append, hzc, List.getElem?_append_left (by
        rw [natV_append, ← natV_zeros] at hj
        simpa using hj), ← hu, natV_append, ← natV_zeros]
    · exact ⟨rfl, rfl, rfl, by simp, fun m hm _ => heap_alloc_old w.drew _ hm⟩
theorem wpList_appZ {ops : Array Oper} {rest : List Oper} {o : Oper} {a : Act} {Q : Exit → Act → World → Prop} {s x : Operand} {t tn e : TypeId} {w : World} {g cap k : Nat} {b : ByteArray} {fr : Nat × Nat}
    (hg : w.heap[g]? = some (.cells (bytesRow b cap) e fr)) (hinfo : (P.info? e).map (fun i => (i.zero, i.size, i.bytes)) = some (some (.int .u8 0), 1, 1)) (ht : P.underlying t = some (.slice e)) (htn : P.underlying tn = some (.int .i64))
    (hfr : (bytesRow b cap).size ≤ fr.1) (hcap : b.size ≤ cap) (hk0 : 0 < k) (hk : k ≤ 1000) (hsz : b.size ≤ 1000000)
    (hgd : o.guard = none) (ho : o.op = .call { callee := .builtin .append, args := #[s, x], argTypes := #[t, tn] }) (hs : a.eval s = .slice (some ⟨g, 0, none⟩) b.size cap) (hx : a.eval x = .int .i64 (k : Int))
    (h : ∀ A c w', SlAt w' w'.heap.size A (natV (sN b ++ List.replicate k 0)) → w.grownBy w' (some g) → wpList P ops Q rest (a.put o.dst (.slice A (b.size + k) c)) w') : wpList P ops Q (o :: rest) a w := by
  obtain ⟨i0, hi, hz0, hz1, hz2⟩ := info_parts hinfo
  obtain ⟨A, c, w', hrun, hs1, hs2⟩ := run_appZ (P := P) (ty := o.type) ht htn hi hz0 hz1 hz2 hg hfr hcap hk0 hk hsz
  refine wpList_plain hgd fun K hK => ?_
  unfold Oper.wp execOp
  simp only [ho, resolve, invoke, builtin, Sem.run_bind, Sem.run_pure, Result.andThen_ok, List.map_toArray, List.map_cons, List.map_nil, hs, hx, hrun]
  exact hK _ _ (h A c w' hs1 hs2)
end
/-! ### Encode -/
def rsEnc (d : List Nat) (par : Nat) : List Nat := d ++ remN (d ++ List.replicate par 0) (genN par)
theorem gen_head {par : Nat} (h : par = 2 ∨ par = 4) : (genN par)[0]? = some 1 := by
  rcases h with rfl | rfl <;> kernel_rfl
theorem remN_length {p q : List Nat} : (remN p q).length = q.length - 1 := by
  unfold remN
  rw [List.length_drop, remK_length, List.length_append, List.length_replicate]
  omega
theorem remN_b8 {p q : List Nat} (h : B8 p) : B8 (remN p q) := (remK_b8 ((B8.zeros _).append h) _).drop _
set_option maxRecDepth 100000 in
set_option maxHeartbeats 2000000 in
theorem rsencode_any (s : ByteArray) (par : Nat) (w : World) (hp : par = 2 ∨ par = 4) (h0 : 0 < s.size) (h1 : s.size + par ≤ 255) :
    Calls Tryz.prog 32 #[.string s, .int .i64 (par : Int)] w fun e w' => e = .returned (.tuple #[.string (natS (rsEnc (sN s) par)), .int .i64 0]) ∧ Below w.heap.size w w' := by
  have hgl := (genN_len par).1
  have hg8 := (genN_len par).2
  have hpar : 1 ≤ par ∧ par ≤ 16 := by omega
  have HG := Lib.hid (generator_any par w (by omega))
  have hhead := gen_head hp
  obtain ⟨G, hG⟩ : ∃ G, genN par = G := ⟨_, rfl⟩
  have HR : Hid (natS (rsEnc (sN s) par) = s ++ natS (remN (sN s ++ List.replicate par 0) G)) := Lib.hid (by unfold rsEnc; rw [natS_append, natS_sN, hG])
  rw [hG] at hgl hg8 hhead HG
  rw [hgl] at HG
  rw [HR.out]
  have hne : s.toList.isEmpty = false := by
    rw [ByteArray.toList_eq]
    cases hd : s.data.toList with
    | nil =>
      have hl : s.data.toList.length = s.size := Array.length_toList
      rw [hd] at hl
      simp only [List.length_nil] at hl
      omega
    | cons b r => rfl
  have hp1 : ¬ (par : Int) < 1 := by omega
  have hp2 : ¬ (16 : Int) < (par : Int) := by omega
  have hp3 : ¬ (255 : Int) < (s.size : Int) + (par : Int) := by omega
  clear hG hp HR
  go_enter Tryz.func32, Tryz.ntmps32
  go_wp2_with fail
  refine HG.out.mono ?_
  rintro e w1 ⟨hb1, Ag, cg, rfl, hog⟩
  have HOG := Lib.hid hog
  have HB1 := Lib.hid hb1
  clear hog hb1 HG
  have hcv := fun w' => run_bytes_of_string (P := Tryz.prog) w' 9 75 5 s Tryz.underlying9 Tryz.underlying75 Tryz.underlying5
  have hcap : s.size ≤ grownCap w1 s.size 0 5 := grownCap_ge w1 s.size 0 _
  generalize hcp : grownCap w1 s.size 0 5 = cap at *
  have hcv1 : (convert 9 75 (.string s)).run Tryz.prog w1 = .ok (.slice (some ⟨w1.heap.size, 0, none⟩) s.size cap) (w1.drew.alloc (.cells (bytesRow s cap) 5 ((bytesRow s cap).size, (bytesRow s cap).size + 1))) := by rw [← hcp]; exact hcv w1
  clear hcv
  have hnew : (World.drew (w1.alloc (.cells (bytesRow s cap) 5 ((bytesRow s cap).size, (bytesRow s cap).size + 1)))).heap[w1.heap.size]? = some (.cells (bytesRow s cap) 5 ((bytesRow s cap).size, (bytesRow s cap).size + 1)) := heap_alloc_new w1 _
  have hbn : Below w1.heap.size w1 (World.drew (w1.alloc (.cells (bytesRow s cap) 5 ((bytesRow s cap).size, (bytesRow s cap).size + 1)))) := ((Below.refl _ _).alloc (Nat.le_refl _) _).drew
  have HNEW := Lib.hid hnew
  have HBN := Lib.hid hbn
  clear hnew hbn hcp
  go_wp2_with (at_builtin; refine wpList_appZ (s := .tmp 34) (x := .tmp 35) (k := par) (b := s) HNEW.out info_byte Tryz.underlying75 Tryz.underlying3 (Nat.le_refl _) hcap (by omega) (by omega) (by omega) rfl rfl (by rfl) (by rfl) ?_; intro A3 c3 w3 hs3 hg3; have HS3 := Lib.hid hs3; have HB3 : Hid (Below w1.heap.size w1 w3) := Lib.hid (HBN.out.grown hg3 (by show w1.heap.size ≤ (w1.alloc _).heap.size; simp) (fun k hk => by injection hk with hk; rw [← hk]; exact Nat.le_refl _)); clear hs3 hg3)
  have HP3 := Lib.hid (show (sN s ++ List.replicate par 0).length = s.size + par by rw [List.length_append, sN_length, List.length_replicate])
  have CR := Lib.hid (remainder_any A3 Ag c3 cg (sN s ++ List.replicate par 0) G 1 w3 HS3.out (SlAt.of_own' (own_all HOG.out HB3.out) (Nat.le_refl _)) ((sN_b8 s).append (B8.zeros par)) hg8 hhead (by decide) (by rw [HP3.out]; omega) (by omega) (by omega))
  obtain ⟨R, hR⟩ : ∃ R, remN (sN s ++ List.replicate par 0) G = R := ⟨_, rfl⟩
  have hR8 : B8 R := by rw [← hR]; exact remN_b8 ((sN_b8 s).append (B8.zeros par))
  have hRl : R.length = par := by rw [← hR, remN_length, hgl]; rfl
  rw [hR, HP3.out, hgl, hRl] at CR
  have HRR := Lib.hid hR
  have HB13 := Lib.hid (HB1.out.trans (HB3.out.mono HB1.out.size))
  have hns := natS_size R
  rw [hRl] at hns
  clear hR hcv1
  with_reducible refine CR.out.mono ?_
  rintro e w4 ⟨hb4, A4, c4, rfl, ho4⟩
  have HB4 := Lib.hid (HB13.out.trans (hb4.mono HB13.out.size))
  rw [natV_bytes hR8] at ho4
  have hcs := own_string (P := Tryz.prog) w4 75 9 5 Tryz.underlying75 Tryz.underlying5 Tryz.underlying9 ho4
  rw [show (⟨(R.map UInt8.ofNat).toArray⟩ : ByteArray) = natS R from rfl] at hcs
  clear hb4 ho4 CR
  go_wp2_with fail
  go_ret2
  exact ⟨by rw [HRR.out]; rfl, HB4.out⟩
end Go.Proofs.YtlnjphggfbiabaaGreat

/-
  reedsolomon: shaped, Syndromes, zero, Valid.
-/
namespace Go.Proofs.YtlnjphggfbiabaaGreat
open Go.RowKit
set_option linter.unusedVariables false

theorem shaped_ok (s : ByteArray) (par : Nat) (w : World) (h1 : s.size ≤ 255) (h2 : 1 ≤ par) (h3 : par ≤ 16) (h4 : par < s.size) :
    Calls Tryz.prog 126 #[.string s, .int .i64 (par : Int)] w fun e w' => e = .returned (.bool true) ∧ w = w' := by
  have a1 : (2 : Int) ≤ (s.size : Int) := by omega
  have a2 : (s.size : Int) ≤ 255 := by omega
  have a3 : (1 : Int) ≤ (par : Int) := by omega
  have a4 : (par : Int) ≤ 16 := by omega
  have a5 : (par : Int) < (s.size : Int) := by omega
  clear h1 h2 h3 h4
  go_enter Tryz.func126, Tryz.ntmps126
  go_wp2_with fail
  go_ret
  exact ⟨rfl, rfl⟩
/-- An array of n bytes, the first k of which are f. -/
def arrK (f : Nat → Nat) (n k : Nat) : Array Value := ((List.range n).map fun j => if j < k then Value.int .u8 (f j : Nat) else .int .u8 0).toArray
theorem arrK_size (f : Nat → Nat) (n k : Nat) : (arrK f n k).size = n := by simp [arrK]
theorem arrK_get (f : Nat → Nat) (n k j : Nat) (h : j < n) : (arrK f n k)[j]? = some (if j < k then Value.int .u8 (f j : Nat) else .int .u8 0) := by simp [arrK, h]
theorem arrK_set (f : Nat → Nat) (n k : Nat) : (arrK f n k).setIfInBounds k (.int .u8 (f k : Nat)) = arrK f n (k + 1) := by
  apply Array.ext_getElem?
  intro i
  rw [Array.getElem?_setIfInBounds]
  by_cases hi : i < n
  · rw [arrK_get f n (k + 1) i hi, arrK_get f n k i hi, arrK_size]
    by_cases e : k = i
    · subst e
      rw [if_pos rfl, if_pos hi, if_pos (by omega)]
    · rw [if_neg e]
      by_cases h2 : i < k
      · rw [if_pos h2, if_pos (by omega)]
      · rw [if_neg h2, if_neg (by omega)]
  · rw [Array.getElem?_eq_none (by rw [arrK_size]; omega), Array.getElem?_eq_none (by rw [arrK_size]; omega)]
    rw [arrK_size]
    split
    · split
      · omega
      · rfl
    · rfl
theorem arrK_slat {w : World} {g t n k : Nat} {f : Nat → Nat} (h : RowAt w g t (arrK f n k)) (hk : k ≤ n) : SlAt w w.heap.size (some ⟨g, 0, none⟩) (natV ((List.range k).map f)) := by
  intro j u hu
  have hj : j < k := by have := (List.getElem?_eq_some_iff.1 hu).1; simpa [natV] using this
  refine ⟨g, 0, rfl, h.lt, ?_⟩
  rw [Nat.zero_add, h.cell, arrK_get f n k j (by omega), if_pos hj, ← hu]
  simp [natV, hj]
def xK : Nat → Nat
  | 0 => 1
  | i + 1 => mulN (xK i) 2
theorem xK_lt : ∀ i, xK i < 256
  | 0 => by decide
  | i + 1 => mulN_lt (xK_lt i)
def synN (d : List Nat) (par : Nat) : List Nat := (List.range par).map fun i => evalN d (xK i)
theorem synN_length (d : List Nat) (par : Nat) : (synN d par).length = par := by simp [synN]
theorem synN_b8 {d : List Nat} (h : B8 d) (par : Nat) : B8 (synN d par) := fun n hn => by
  obtain ⟨i, _, rfl⟩ := List.mem_map.1 hn
  exact evaln_lt h
set_option maxRecDepth 100000 in
theorem clone8_any (A : Option Addr) (c : Nat) (l : List Nat) (w : World) (h : SlAt w w.heap.size A (natV l)) (h0 : 0 < l.length) (hl : l.length ≤ 100000) :
    Calls Tryz.prog 128 #[.slice A l.length c] w (ProdRes l w) := by
  obtain ⟨b, off, hA, hb⟩ := h.natAddr h0
  subst hA
  have HS := Lib.hid h
  obtain ⟨n, hn⟩ : ∃ n, l.length = n := ⟨_, rfl⟩
  have HN := Lib.hid hn
  rw [hn] at hl ⊢
  clear h h0 hn
  have hq := fun (w : World) (a : Option Addr) (n c n' c' : Nat) => Lib.run_eql_slice_nil (P := Tryz.prog) w 75 5 a n c n' c' Tryz.underlying75
  go_enter Tryz.func128, Tryz.ntmps128
  have HO := Lib.hid (World.ownsRow_lit (base := w.heap.size) (e := 5) (size := 1) w #[] 0 (Nat.le_refl _) (by decide) rfl)
  go_wp2_with (at_builtin; refine wpList_appX HO.out info_byte Tryz.underlying75 rfl (by decide) (by rw [natV_length, HN.out, Nat.mul_one]) (HS.out.below ((Below.refl _ _).alloc (Nat.le_refl _) _)) (natV_one _) (by unfold maxLen; omega) (by omega) (by simp) rfl rfl (by rfl) (by rfl) ?_; intro v1 w1 hown1 hg1 _; have HB1 : Hid (Below w.heap.size w w1) := Lib.hid (((Below.refl _ _).alloc (Nat.le_refl _) _).grown hg1 (by simp) (fun k hk => (HO.out.lt k hk).1)); obtain ⟨A1, c1, hv1⟩ := own_slice hown1; subst hv1; have HO1 := Lib.hid hown1; clear hown1 hg1)
  go_ret
  have h1 := HO1.out
  rw [Nat.zero_add] at h1
  exact ⟨HB1.out, A1, c1, by rw [HN.out]; first | rfl | simp, by rw [HN.out]; exact h1⟩
theorem info_t16 : (Tryz.prog.info? 187).map (fun i => (i.zero, i.size)) = some (some (.agg (arrK (fun _ => 0) 16 0)), 16) := by kernel_rfl
theorem arrK_zero (f : Nat → Nat) (n : Nat) : arrK f n 0 = arrK (fun _ => 0) n 0 := by
  unfold arrK
  congr 1
set_option maxRecDepth 100000 in
set_option maxHeartbeats 2000000 in
theorem syndromes_any (s : ByteArray) (par : Nat) (w : World) (h1 : s.size ≤ 255) (h2 : 1 ≤ par) (h3 : par ≤ 16) (h4 : par < s.size) :
    Calls Tryz.prog 109 #[.string s, .int .i64 (par : Int)] w fun e w' => Below w.heap.size w w' ∧ ∃ A c, e = .returned (.tuple #[.slice A par c, .int .i64 0]) ∧ w'.ownsRow w.heap.size 5 1 (.slice A par c) par (natV (synN (sN s) par)) := by
  have CS := Lib.hid (shaped_ok s par w h1 h2 h3 h4)
  have hd8 := sN_b8 s
  have HD := Lib.hid (sN_length s)
  have CE := Lib.hid (fun w' A c x (hA : SlAt w' w'.heap.size A (natV (sN s))) (hx : x < 256) => eval_any A c (sN s) x w' hA hd8 (by rw [sN_length]; omega) hx)
  rw [HD.out] at CE
  obtain ⟨f, hf⟩ : ∃ f : Nat → Nat, f = fun i => evalN (sN s) (xK i) := ⟨_, rfl⟩
  have HF : Hid (∀ i, f i = evalN (sN s) (xK i)) := Lib.hid (fun i => by rw [hf])
  have HSY : Hid (synN (sN s) par = (List.range par).map f) := Lib.hid (by rw [hf]; rfl)
  have CM := Lib.hid (fun w' x (hx : x < 256) => mul_any x 2 w' hx (by decide))
  rw [HSY.out]
  clear hf
  go_enter Tryz.func109, Tryz.ntmps109
  go_wp2_with fail
  refine CS.out.mono ?_
  rintro e w' ⟨rfl, rfl⟩
  go_wp2_with (first
    | (refine wpList_alloc_abs (t := 187) info_t16 rfl rfl ?_)
    | fail)
  have hr0 := RowAt.new w 187 (arrK (fun _ => 0) 16 0)
  rw [← arrK_zero f] at hr0
  have hb0 := (Below.refl w.heap.size w).alloc (Nat.le_refl _) (.cells (arrK (fun _ => 0) 16 0) 187)
  go_loopw [7, 14] (fun x i wr => ∃ k : Nat, k ≤ par ∧ i = .int .i64 k ∧ x = .int .u8 ((xK k : Nat) : Int) ∧ RowAt wr w.heap.size 187 (arrK f 16 k) ∧ Below w.heap.size w wr) (fun _ i _ => par - (intOf i).toNat)
  case atStart => exact ⟨0, by omega, rfl, rfl, by rw [arrK_zero]; rw [arrK_zero] at hr0; exact hr0, hb0⟩
  case round =>
    clear hr0 hb0
    obtain ⟨k, hk, rfl, rfl, hr, hb⟩ := hrel
    by_cases hlt : k < par
    · have hx8 := xK_lt k
      have HX : Hid (xK (k + 1) = mulN (xK k) 2) := Lib.hid rfl
      have HFK := Lib.hid (HF.out k)
      have HST := Lib.hid (arrK_set f 16 k)
      have hltI : (k : Int) < (par : Int) := by omega
      have h0k : (0 : Int) ≤ (k : Int) := by omega
      have h16 : (k : Int) < 16 := by omega
      generalize xK k = X at *
      have hcv := run_bytes_of_string (P := Tryz.prog) wr 9 75 5 s Tryz.underlying9 Tryz.underlying75 Tryz.underlying5
      generalize hcp : grownCap wr s.size 0 5 = cap at *
      have hbn : Below wr.heap.size wr (World.drew (wr.alloc (.cells (bytesRow s cap) 5 ((bytesRow s cap).size, (bytesRow s cap).size + 1)))) := ((Below.refl _ _).alloc (Nat.le_refl _) _).drew
      have hbs : SlAt (World.drew (wr.alloc (.cells (bytesRow s cap) 5 ((bytesRow s cap).size, (bytesRow s cap).size + 1)))) (World.drew (wr.alloc (.cells (bytesRow s cap) 5 ((bytesRow s cap).size, (bytesRow s cap).size + 1)))).heap.size (some ⟨wr.heap.size, 0, none⟩) (natV (sN s)) := bytes_slat (BytesAt.drew (BytesAt.new wr 5 s cap))
      have C := Lib.hid (CE.out _ _ cap X hbs hx8)
      have HBN := Lib.hid hbn
      have HR := Lib.hid hr
      have HB := Lib.hid hb
      clear hbn hbs hcp hr hb
      go_wp2_with fail
      with_reducible refine C.out.mono ?_
      rintro e w2 ⟨rfl, hb2⟩
      have hr2 := HR.out.below (HBN.out.trans (hb2.mono HBN.out.size)) HR.out.lt
      have hc2 := (hr2.cell k).trans (arrK_get f 16 k k (by omega))
      rw [if_neg (by omega)] at hc2
      have hf2 := hr2.frozen k
      have HR2 := Lib.hid hr2
      have HB2 := Lib.hid (HB.out.trans ((HBN.out.trans (hb2.mono HBN.out.size)).mono HB.out.size))
      clear hb2 hr2 C hcv HBN HR HB
      rw [← HFK.out]
      go_wp2_with fail
      refine (CM.out _ X hx8).mono ?_
      rintro e w3 ⟨rfl, rfl⟩
      go_wp2_with fail
      go_roundw
      case rel => exact ⟨k + 1, by omega, by go_num, by rw [HX.out], by rw [← HST.out]; exact HR2.out.set_ _ _, HB2.out.setCell (p := ⟨w.heap.size, k, none⟩) (Nat.le_refl _) _⟩
      case measure => simp [intOf]; omega
    · obtain rfl : k = par := by omega
      have hge : ¬ (k : Int) < (k : Int) := by omega
      have h16 : (k : Int) ≤ 16 := by omega
      have h0k : (0 : Int) ≤ (k : Int) := by omega
      have hln : ((List.range k).map f).length = k := by simp
      have CC := Lib.hid (clone8_any (some ⟨w.heap.size, 0, none⟩) 16 ((List.range k).map f) wr (arrK_slat hr (by omega)) (by rw [hln]; omega) (by rw [hln]; omega))
      rw [hln] at CC
      unfold ProdRes at CC
      rw [hln] at CC
      have HB := Lib.hid hb
      clear hr hb hln
      go_wp2_with fail
      with_reducible refine CC.out.mono ?_
      rintro e w2 ⟨hb2, A2, c2, rfl, ho2⟩
      have HO := Lib.hid (own_le ho2 HB.out.size)
      have HB2 := Lib.hid (HB.out.trans (hb2.mono HB.out.size))
      clear hb2 ho2
      go_wp2_with fail
      go_ret2
      exact ⟨HB2.out, A2, c2, rfl, HO.out⟩

/-! ### zero and Valid -/
theorem zero1_any (n : Nat) (w : World) : Calls Tryz.prog 112 #[.int .u8 (n : Int)] w fun e w' => e = .returned (.bool (decide (n ≠ 0))) ∧ w = w' := by
  by_cases h : n = 0
  · subst h
    go_enter Tryz.func112, Tryz.ntmps112
    go_wp2_with fail
    go_ret
    exact ⟨rfl, rfl⟩
  · have hB : ((n : Int) != 0) = true := by rw [bne_iff_ne]; omega
    have HD : Hid (decide (n ≠ 0) = true) := Lib.hid (decide_eq_true h)
    rw [HD.out]
    clear h
    go_enter Tryz.func112, Tryz.ntmps112
    go_wp2_with fail
    go_ret
    exact ⟨rfl, rfl⟩
def zerB (l : List Nat) : Bool := l.all fun n => decide (n = 0)
set_option maxHeartbeats 1000000 in
theorem index8_any (A : Option Addr) (c : Nat) (l : List Nat) (w : World) (h : SlAt w w.heap.size A (natV l)) (hl : l.length ≤ 100000) :
    Calls Tryz.prog 130 #[.slice A l.length c, .func (.func 112) #[] #[]] w fun e w' => w = w' ∧ ((zerB l = true ∧ e = .returned (.int .i64 (-1))) ∨ (zerB l = false ∧ ∃ k : Nat, e = .returned (.int .i64 k))) := by
  have HS := Lib.hid h
  obtain ⟨n, hn⟩ : ∃ n, l.length = n := ⟨_, rfl⟩
  have HN := Lib.hid hn
  have C1 := Lib.hid (fun y => zero1_any y w)
  rw [hn] at hl ⊢
  clear h hn
  go_enter Tryz.func130, Tryz.ntmps130
  go_wp2_with fail
  go_loop [8] (fun i => ∃ k : Nat, k ≤ n ∧ i = .int .i64 k ∧ Hid (∀ j y, j < k → l[j]? = some y → y = 0)) (fun i => n - (intOf i).toNat)
  case atStart => exact ⟨0, by omega, rfl, Lib.hid (fun j y hj => absurd hj (Nat.not_lt_zero _))⟩
  case round =>
    obtain ⟨k, hk, rfl, HZ⟩ := hrel
    by_cases hlt : k < n
    · obtain ⟨y, hy⟩ : ∃ y, l[k]? = some y := ⟨l[k]'(by rw [HN.out]; exact hlt), List.getElem?_eq_getElem _⟩
      obtain ⟨b, off, hA, hb⟩ := HS.out.natAddr (by rw [HN.out]; omega)
      subst hA
      have q := HS.out.nat rfl hy
      have hltI : (k : Int) < (n : Int) := by omega
      have h0k : (0 : Int) ≤ (k : Int) := by omega
      have C := Lib.hid (C1.out y)
      by_cases h0 : y = 0
      · have HZ1 : Hid (∀ j z, j < k + 1 → l[j]? = some z → z = 0) := Lib.hid (fun j z hj hz => by
          by_cases e : j = k
          · subst e; rw [hy] at hz; injection hz with hz; rw [← hz]; exact h0
          · exact HZ.out j z (by omega) hz)
        rw [show decide (y ≠ 0) = false from decide_eq_false (by simp [h0])] at C
        clear hy h0
        go_wp2_with fail
        refine C.out.mono ?_
        rintro e w1 ⟨rfl, rfl⟩
        go_wp2_with fail
        go_round
        case rel => exact ⟨k + 1, by omega, by go_num, HZ1⟩
        case measure => simp [intOf]; omega
      · rw [show decide (y ≠ 0) = true from decide_eq_true h0] at C
        have HF : Hid (zerB l = false) := Lib.hid (by
          unfold zerB
          rw [List.all_eq_false]
          exact ⟨y, List.mem_of_getElem? hy, by simp [h0]⟩)
        clear hy h0
        go_wp2_with fail
        refine C.out.mono ?_
        rintro e w1 ⟨rfl, rfl⟩
        go_wp2_with fail
        go_ret
        exact ⟨rfl, .inr ⟨HF.out, k, rfl⟩⟩
    · obtain rfl : k = n := by omega
      have hge : ¬ (k : Int) < (k : Int) := by omega
      have HT : Hid (zerB l = true) := Lib.hid (by
        unfold zerB
        rw [List.all_eq_true]
        intro y hy
        obtain ⟨j, hj⟩ := List.getElem?_of_mem hy
        exact decide_eq_true (HZ.out j y (by have := (List.getElem?_eq_some_iff.1 hj).1; rw [HN.out] at this; exact this) hj))
      go_wp2_with fail
      go_ret
      exact ⟨rfl, .inl ⟨HT.out, rfl⟩⟩
theorem contains8_any (A : Option Addr) (c : Nat) (l : List Nat) (w : World) (h : SlAt w w.heap.size A (natV l)) (hl : l.length ≤ 100000) :
    Calls Tryz.prog 111 #[.slice A l.length c, .func (.func 112) #[] #[]] w fun e w' => e = .returned (.bool (!zerB l)) ∧ w = w' := by
  have C := Lib.hid (index8_any A c l w h hl)
  obtain ⟨n, hn⟩ : ∃ n, l.length = n := ⟨_, rfl⟩
  rw [hn] at C ⊢
  generalize zerB l = z at *
  clear h hl hn
  go_enter Tryz.func111, Tryz.ntmps111
  go_wp2_with fail
  refine C.out.mono ?_
  rintro e w1 ⟨rfl, (⟨rfl, rfl⟩ | ⟨rfl, k, rfl⟩)⟩
  · go_wp2_with fail
    go_ret
    exact ⟨rfl, rfl⟩
  · have h0k : (0 : Int) ≤ (k : Int) := by omega
    go_wp2_with fail
    go_ret
    exact ⟨rfl, rfl⟩
theorem zero_any (A : Option Addr) (c : Nat) (l : List Nat) (w : World) (h : SlAt w w.heap.size A (natV l)) (hl : l.length ≤ 100000) :
    Calls Tryz.prog 73 #[.slice A l.length c] w fun e w' => e = .returned (.bool (zerB l)) ∧ w = w' := by
  have C := Lib.hid (contains8_any A c l w h hl)
  obtain ⟨n, hn⟩ : ∃ n, l.length = n := ⟨_, rfl⟩
  rw [hn] at C ⊢
  generalize zerB l = z at *
  clear h hl hn
  go_enter Tryz.func73, Tryz.ntmps73
  go_wp2_with fail
  refine C.out.mono ?_
  rintro e w1 ⟨rfl, rfl⟩
  go_wp2_with fail
  go_ret
  exact ⟨by simp, rfl⟩
def validN (d : List Nat) (par : Nat) : Bool := zerB (synN d par)
theorem rsvalid_any (s : ByteArray) (par : Nat) (w : World) (h1 : s.size ≤ 255) (h2 : 1 ≤ par) (h3 : par ≤ 16) (h4 : par < s.size) :
    Calls Tryz.prog 80 #[.string s, .int .i64 (par : Int)] w fun e w' => e = .returned (.bool (validN (sN s) par)) ∧ Below w.heap.size w w' := by
  have CS := Lib.hid (syndromes_any s par w h1 h2 h3 h4)
  have HL := Lib.hid (synN_length (sN s) par)
  have HV : Hid (validN (sN s) par = zerB (synN (sN s) par)) := Lib.hid rfl
  rw [HV.out]
  generalize synN (sN s) par = Y at *
  clear h1 h2 h4
  go_enter Tryz.func80, Tryz.ntmps80
  go_wp2_with fail
  refine CS.out.mono ?_
  rintro e w1 ⟨hb1, A, c, rfl, ho⟩
  have CZ := Lib.hid (zero_any A c Y w1 (SlAt.of_own' ho (Nat.le_refl _)) (by rw [HL.out]; omega))
  rw [HL.out] at CZ
  have HB := Lib.hid hb1
  clear hb1 ho
  go_wp2_with fail
  refine CZ.out.mono ?_
  rintro e w2 ⟨rfl, rfl⟩
  go_wp2_with fail
  go_ret
  exact ⟨rfl, HB.out⟩
end Go.Proofs.YtlnjphggfbiabaaGreat

/-
  reedsolomon: degree, times, derivative, locator, erasures, changes.
-/
namespace Go.Proofs.YtlnjphggfbiabaaGreat
open Go.RowKit
set_option linter.unusedVariables false

/-! ### degree -/
def degK (p : List Nat) : Nat → Int
  | 0 => -1
  | k + 1 => if p[k]?.getD 0 = 0 then degK p k else k
def degN (p : List Nat) : Int := degK p p.length
set_option maxHeartbeats 1000000 in
theorem degree_any (A : Option Addr) (c : Nat) (p : List Nat) (w : World) (h : SlAt w w.heap.size A (natV p)) (hl : p.length ≤ 100000) :
    Calls Tryz.prog 74 #[.slice A p.length c] w fun e w' => e = .returned (.int .i64 (degN p)) ∧ w = w' := by
  have HS := Lib.hid h
  obtain ⟨n, hn⟩ : ∃ n, p.length = n := ⟨_, rfl⟩
  have HN := Lib.hid hn
  obtain ⟨D, hD⟩ : ∃ D, degN p = D := ⟨_, rfl⟩
  have HD : Hid (degK p n = D) := Lib.hid (by rw [← hD, ← hn]; rfl)
  rw [hn] at hl ⊢
  rw [hD]
  clear h hn hD
  go_enter Tryz.func74, Tryz.ntmps74
  go_wp2_with fail
  go_loop [3] (fun i => ∃ k : Nat, k ≤ n ∧ i = .int .i64 ((k : Int) - 1) ∧ Hid (degK p k = D)) (fun i => (intOf i + 1).toNat)
  case atStart => exact ⟨n, by omega, rfl, HD⟩
  case round =>
    clear HD
    obtain ⟨k, hk, rfl, HK⟩ := hrel
    cases k with
    | zero =>
      have HE : Hid (D = -1) := Lib.hid HK.out.symm
      go_wp2_with fail
      go_ret
      exact ⟨ret_int (by rw [HE.out]), rfl⟩
    | succ k =>
      obtain ⟨y, hy⟩ : ∃ y, p[k]? = some y := ⟨p[k]'(by rw [HN.out]; exact hk), List.getElem?_eq_getElem _⟩
      obtain ⟨b, off, hA, hb⟩ := HS.out.natAddr (by rw [HN.out]; omega)
      subst hA
      have q := HS.out.nat rfl hy
      have e1 : ((k + 1 : Nat) : Int) - 1 = (k : Int) := by omega
      have h0k : (0 : Int) ≤ (k : Int) := by omega
      have hkn : (k : Int) < (n : Int) := by omega
      rw [e1]
      by_cases h0 : y = 0
      · have HK1 : Hid (degK p k = D) := Lib.hid (by have := HK.out; rw [degK, hy, Option.getD_some, if_pos h0] at this; exact this)
        subst h0
        clear hy HK e1
        go_wp2_with fail
        go_round
        case rel => exact ⟨k, by omega, by first | rfl | go_num, HK1⟩
        case measure => simp [intOf]
      · have HE : Hid (D = (k : Int)) := Lib.hid (by have := HK.out; rw [degK, hy, Option.getD_some, if_neg h0] at this; exact this.symm)
        have hyB : ((y : Int) == 0) = false := by rw [beq_eq_false_iff_ne]; omega
        clear hy HK e1 h0
        go_wp2_with fail
        go_ret
        exact ⟨ret_int (by rw [HE.out]), rfl⟩
/-! ### times, locator -/
theorem times_any (A A' : Option Addr) (c c' : Nat) (p q : List Nat) (w : World) (h : SlAt w w.heap.size A (natV p)) (h' : SlAt w w.heap.size A' (natV q)) (hp : B8 p) (hq : B8 q) (hpl : p.length ≤ 100000) (hql : q.length ≤ 100000) :
    Calls Tryz.prog 77 #[.slice A p.length c, .slice A' q.length c'] w (ProdRes (prodN p q) w) := by
  have C := Lib.hid (product_any A A' c c' p q w h h' hp hq hpl hql)
  generalize hR : prodN p q = R at *
  generalize p.length = n at *
  generalize q.length = m at *
  clear h h' hR
  go_enter Tryz.func77, Tryz.ntmps77
  go_wp2_with fail
  with_reducible refine C.out.mono ?_
  rintro e w1 ⟨hb, A2, c2, rfl, ho⟩
  go_wp2_with fail
  go_ret
  exact ⟨hb, A2, c2, rfl, ho⟩
theorem locator_any (s : ByteArray) (i : Nat) (w : World) (hs : s.size ≤ 255) (hi : i < s.size) :
    Calls Tryz.prog 129 #[.string s, .int .i64 (i : Int)] w fun e w' => e = .returned (.int .u8 ((expN ((s.size : Int) - 1 - (i : Int)) : Nat) : Int)) ∧ w = w' := by
  have C := Lib.hid (exp_any ((s.size : Int) - 1 - (i : Int)) w (by omega))
  go_enter Tryz.func129, Tryz.ntmps129
  go_wp2_with fail
  refine C.out.mono ?_
  rintro e w1 ⟨rfl, rfl⟩
  go_wp2_with fail
  go_ret
  exact ⟨rfl, rfl⟩
/-! ### derivative -/
def derK (p : List Nat) (n k : Nat) : List Nat := (List.range n).map fun i => if i < k ∧ i % 2 = 0 then p[i + 1]?.getD 0 else 0
def derN (p : List Nat) : List Nat := derK p (p.length - 1) (p.length - 1)
theorem derK_length (p : List Nat) (n k : Nat) : (derK p n k).length = n := by simp [derK]
theorem derK_zero (p : List Nat) (n : Nat) : derK p n 0 = List.replicate n 0 := by
  unfold derK
  apply List.ext_getElem
  · simp
  · intro i h1 h2
    simp
theorem derK_odd {p : List Nat} {n k : Nat} (h : ¬ k % 2 = 0) : derK p n (k + 1) = derK p n k := by
  unfold derK
  refine List.map_congr_left fun i hi => ?_
  by_cases e : i = k
  · subst e
    rw [if_neg (by omega), if_neg (by omega)]
  · by_cases h2 : i % 2 = 0
    · by_cases h3 : i < k
      · rw [if_pos ⟨by omega, h2⟩, if_pos ⟨h3, h2⟩]
      · rw [if_neg (by omega), if_neg (by omega)]
    · rw [if_neg (by omega), if_neg (by omega)]
theorem derK_even {p : List Nat} {n k x : Nat} (h : k % 2 = 0) (hx : p[k + 1]? = some x) : derK p n (k + 1) = (derK p n k).set k x := by
  unfold derK
  apply List.ext_getElem?
  intro i
  rw [List.getElem?_set, List.getElem?_map, List.getElem?_map, List.length_map, List.length_range]
  by_cases hi : i < n
  · rw [List.getElem?_range hi, Option.map_some, Option.map_some]
    by_cases e : k = i
    · subst e
      rw [if_pos rfl, if_pos hi, if_pos ⟨by omega, h⟩, hx, Option.getD_some]
    · rw [if_neg e]
      by_cases h2 : i % 2 = 0
      · by_cases h3 : i < k
        · rw [if_pos ⟨by omega, h2⟩, if_pos ⟨h3, h2⟩]
        · rw [if_neg (by omega), if_neg (by omega)]
      · rw [if_neg (by omega), if_neg (by omega)]
  · rw [List.getElem?_eq_none (by simp; omega), Option.map_none, Option.map_none]
    split
    · split
      · omega
      · rfl
    · rfl
theorem derN_b8 {p : List Nat} (h : B8 p) : B8 (derN p) := fun n hn => by
  obtain ⟨i, _, rfl⟩ := List.mem_map.1 hn
  split
  · exact h.getD _
  · decide
set_option maxRecDepth 100000 in
set_option maxHeartbeats 2000000 in
theorem derivative_any (A : Option Addr) (c : Nat) (p : List Nat) (w : World) (h : SlAt w w.heap.size A (natV p)) (h0 : 0 < p.length) (hl : p.length ≤ 100000) :
    Calls Tryz.prog 114 #[.slice A p.length c] w (ProdRes (derN p) w) := by
  have HS := Lib.hid h
  obtain ⟨n, hn⟩ : ∃ n, p.length = n + 1 := ⟨p.length - 1, by omega⟩
  have HN := Lib.hid hn
  have HD : Hid (derN p = derK p n n) := Lib.hid (by unfold derN; rw [hn]; rfl)
  have HL := Lib.hid (derK_length p n)
  rw [hn] at hl ⊢
  rw [HD.out]
  have hmk := fun w' => run_mk8 Tryz.underlying130 n (by omega) w'
  have e1 : (n : Int) + 1 - 1 = (n : Int) := by omega
  have e2 : max (n : Int) 0 = (n : Int) := by omega
  have e3 : ¬ (n : Int) < 0 := by omega
  clear h hn h0
  go_enter Tryz.func114, Tryz.ntmps114
  go_wp2_with fail
  have hmade := made_bytes w n (by unfold maxLen; omega)
  have hbm := (Below.refl w.heap.size w).alloc (Nat.le_refl _) (.cells (madeCells #[.int .u8 0] n) 5)
  go_loopw [12] (fun i wr => ∃ k : Nat, k ≤ n ∧ i = .int .i64 k ∧ wr.ownsRow w.heap.size 5 1 (.slice (some ⟨w.heap.size, 0, none⟩) n n) n (natV (derK p n k)) ∧ Below w.heap.size w wr) (fun i _ => n - (intOf i).toNat)
  case atStart => exact ⟨0, by omega, rfl, by rw [derK_zero]; exact hmade, hbm⟩
  case round =>
    clear hmade hbm
    obtain ⟨k, hk, rfl, hown, hbel⟩ := hrel
    by_cases hlt : k < n
    · obtain ⟨y, hy⟩ : ∃ y, p[k + 1]? = some y := ⟨p[k + 1]'(by rw [HN.out]; omega), List.getElem?_eq_getElem _⟩
      obtain ⟨b, off, hA, hb⟩ := HS.out.natAddr (by rw [HN.out]; omega)
      subst hA
      have q := (HS.out.below hbel).nat rfl hy
      have hltI : (k : Int) < (n : Int) := by omega
      have hltI2 : (k : Int) + 1 < (n : Int) + 1 := by omega
      have h0k : (0 : Int) ≤ (k : Int) := by omega
      have h0k2 : (0 : Int) ≤ (k : Int) + 1 := by omega
      have e4 : ((k : Int) + 1).toNat = k + 1 := by omega
      have e5 : (k : Int).tmod 2 = (k : Int) % 2 := Int.tmod_eq_emod_of_nonneg h0k
      obtain ⟨O, hO⟩ : ∃ O, (derK p n k)[k]? = some O := ⟨_, List.getElem?_eq_getElem (by rw [derK_length]; omega)⟩
      have qo := own_nat hown hO
      have fo := hown.frozenAt k
      by_cases h2 : k % 2 = 0
      · have hB : ((k : Int) % 2 == 0) = true := by simp; omega
        have HK := Lib.hid (derK_even (n := n) h2 hy)
        have HOW := Lib.hid hown
        have HBE := Lib.hid hbel
        clear hy h2 hown hbel hO
        go_wp2_with fail
        go_roundw
        case rel => exact ⟨k + 1, by omega, by go_num, by rw [HK.out]; exact own_nat_set HOW.out _ _, HBE.out.setCell (p := ⟨w.heap.size, k, none⟩) (Nat.le_refl _) _⟩
        case measure => simp [intOf]; omega
      · have hB : ((k : Int) % 2 == 0) = false := by simp; omega
        have HK := Lib.hid (derK_odd (p := p) (n := n) h2)
        have HOW := Lib.hid hown
        have HBE := Lib.hid hbel
        clear hy h2 hown hbel hO
        go_wp2_with fail
        go_roundw
        case rel => exact ⟨k + 1, by omega, by go_num, by rw [HK.out]; exact HOW.out, HBE.out⟩
        case measure => simp [intOf]; omega
    · obtain rfl : k = n := by omega
      have hge : ¬ (k : Int) < (k : Int) := by omega
      go_wp2_with fail
      go_ret
      exact ⟨hbel, _, k, by rw [HL.out]; rfl, by rw [HL.out]; exact hown⟩
end Go.Proofs.YtlnjphggfbiabaaGreat
