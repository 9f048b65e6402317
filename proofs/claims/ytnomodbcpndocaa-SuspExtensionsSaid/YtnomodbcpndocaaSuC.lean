/-
  Chapter 24: Encode of the program.
-/
import Derived.Test.YtnomodbcpndocaaSuB
import Derived.Test.YtnomodbcpndocaaBuildW
namespace Go.Proofs.Ytnomodbcpndocaa
open Go.RowKit
set_option linter.unusedVariables false

def entB (x : Ent) : List UInt8 := x.sg.data.toList ++ ([UInt8.ofNat (4 + x.d.size), UInt8.ofNat x.v.toNat] ++ x.d.data.toList)
def encB (l : List Ent) : List UInt8 := l.flatMap entB
def encS (l : List Ent) : ByteArray := if checkL l = 0 then ⟨(encB l).toArray⟩ else ⟨#[]⟩
theorem encB_nil : encB [] = [] := rfl
theorem encB_cons (x : Ent) (l : List Ent) : encB (x :: l) = entB x ++ encB l := by simp [encB]
theorem encB_append (a b : List Ent) : encB (a ++ b) = encB a ++ encB b := by simp [encB]
theorem encB_take {l : List Ent} {k : Nat} {x : Ent} (hk : l[k]? = some x) : encB (l.take (k + 1)) = encB (l.take k) ++ entB x := by
  rw [List.take_add_one, hk, Option.toList_some, encB_append, encB_cons, encB_nil, List.append_nil]
theorem entB_length {x : Ent} (h : errE x = 0) : (entB x).length = sizeE x := by
  have hs := sigB_size (errE_zero.1 h).1
  unfold entB sizeE
  simp
  omega
theorem encB_length : ∀ {l : List Ent}, (∀ x ∈ l, errE x = 0) → (encB l).length = sizeL l
  | [], _ => rfl
  | x :: l, h => by
    rw [encB_cons, List.length_append, entB_length (h x List.mem_cons_self), encB_length (fun y hy => h y (List.mem_cons_of_mem _ hy)), sizeL_cons]
theorem sizeL_le : ∀ {l : List Ent}, (∀ x ∈ l, errE x = 0) → sizeL l ≤ 255 * l.length
  | [], _ => Nat.zero_le _
  | x :: l, h => by
    have h1 := (errE_zero.1 (h x List.mem_cons_self)).2.2.2
    have h2 := sizeL_le (l := l) (fun y hy => h y (List.mem_cons_of_mem _ hy))
    rw [sizeL_cons, List.length_cons]
    unfold sizeE
    omega
theorem u8_ofNat (n : Nat) : ((UInt8.ofNat n).toNat : Int) = (n : Int) % 256 := by
  rw [UInt8.toNat_ofNat']
  omega

set_option maxRecDepth 100000 in
set_option maxHeartbeats 4000000 in
theorem encode_any (A : Option Addr) (c : Nat) (l : List Ent) (w : World) (h : EnAt w w.heap.size A l) (hsg : l.length ≤ 1024 → ∀ x ∈ l, x.sg.size ≤ 140737488351232) :
    Calls Try.prog 11 #[.slice A l.length c] w fun e w' => e = .returned (.tuple #[.string (encS l), .int .i64 (checkL l)]) ∧ Below w.heap.size w w' := by
  have HS := Lib.hid h
  have CC := Lib.hid (check_any A c l w h hsg)
  obtain ⟨n, hn⟩ : ∃ n, l.length = n := ⟨_, rfl⟩
  have HN := Lib.hid hn
  rw [hn] at CC ⊢
  obtain ⟨E, hE⟩ : ∃ E, checkL l = E := ⟨_, rfl⟩
  have HE := Lib.hid hE
  rw [hE] at CC ⊢
  unfold encS
  rw [hE]
  clear h hn hsg hE
  by_cases h0 : E = 0
  · rw [if_pos h0]
    have hch := HE.out
    rw [h0] at hch
    have hn2 : l.length ≤ 1024 := by
      unfold checkL at hch
      split at hch
      · cases hch
      · omega
    have herr : errL l = 0 := by
      unfold checkL at hch
      rwa [if_neg (by omega)] at hch
    have HEA := Lib.hid (errL_each herr)
    have hn3 : n ≤ 1024 := by have := HN.out; omega
    have HLT : Hid (∀ k, (encB (l.take k)).length ≤ 262144) := Lib.hid (fun k => by
      have h1 : ∀ x ∈ l.take k, errE x = 0 := fun x hx => HEA.out x (List.mem_of_mem_take hx)
      rw [encB_length h1]
      have := sizeL_le h1
      rw [List.length_take] at this
      omega)
    subst h0
    clear hch hn2 herr
    go_enter Try.func11, Try.ntmps11
    go_wp2_with fail
    refine CC.out.mono ?_
    rintro e w1 ⟨rfl, hb1⟩
    clear CC
    have HB1 := Lib.hid hb1
    clear hb1
    go_wp2_with fail
    have hbl0 := Bld.new w1
    have hg0 : w.heap.size ≤ w1.heap.size := HB1.out.size
    have hbb : Below w.heap.size w (w1.alloc (.cells #[.pointer none, .slice none 0 0] 72)) := HB1.out.alloc hg0 _
    generalize (w1.alloc (.cells #[.pointer none, .slice none 0 0] 72)) = w2 at *
    obtain ⟨g, hg⟩ : ∃ g, w1.heap.size = g := ⟨_, rfl⟩
    rw [hg] at hbl0 hg0 ⊢
    clear hg
    go_loopw [15] (fun i wr => ∃ k : Nat, k ≤ n ∧ i = .int .i64 k ∧ Bld wr g (encB (l.take k)) ∧ Below w.heap.size w wr) (fun i _ => n - (intOf i).toNat)
    case atStart => exact ⟨0, by omega, rfl, hbl0, hbb⟩
    case round =>
      obtain ⟨k, hk, rfl, hbl, hbel⟩ := hrel
      by_cases hlt : k < n
      · obtain ⟨x, hx⟩ : ∃ s, l[k]? = some s := ⟨l[k]'(by rw [HN.out]; exact hlt), List.getElem?_eq_getElem _⟩
        obtain ⟨b, off, hA, hbk⟩ := HS.out.one (by rw [HN.out]; omega)
        subst hA
        obtain ⟨p0, p1, p2⟩ := (HS.out.below hbel).cells rfl hx
        have hltI : (k : Int) < (n : Int) := by omega
        have h0k : (0 : Int) ≤ (k : Int) := by omega
        have HTK := Lib.hid (encB_take hx)
        have hbd := HLT.out k
        have hbd2 := HLT.out (k + 1)
        rw [HTK.out] at hbd2
        unfold entB at hbd2
        simp only [List.length_append, List.length_cons, List.length_nil] at hbd2
        have hsz : x.sg.size = x.sg.data.toList.length := by simp
        have hdz : x.d.size = x.d.data.toList.length := by simp
        rw [← hsz, ← hdz] at hbd2
        have HBD := Lib.hid hbd
        have HBD2 := Lib.hid hbd2
        clear hsz hdz
        obtain ⟨_, hv0, hv1, hd⟩ := errE_zero.1 (HEA.out x (List.mem_of_getElem? hx))
        have HBL := Lib.hid hbl
        have HRN := Lib.hid (RowAt.new wr 41 #[.string x.sg, .int .i64 x.v, .string x.d])
        have HBE := Lib.hid hbel
        have hgr : g < wr.heap.size := hbl.lt
        clear hx hbl hbd hbd2 hbel
        go_wp2_with fail
        refine (bwrite_any g (encB (l.take k)) x.sg _ (HBL.out.below ((Below.refl wr.heap.size wr).alloc (Nat.le_refl _) _)) (by have := HBD.out; have := HBD2.out; omega)).mono ?_
        rintro e w3 ⟨rfl, hbl3, hk3⟩
        have hr3 := HRN.out.keptB hk3 (by omega) (by decide)
        have q0 := hr3.cell 0
        have q1 := hr3.cell 1
        have q2 := hr3.cell 2
        simp only [List.getElem?_toArray] at q0 q1 q2
        have hg3 : g < w3.heap.size := hbl3.lt
        have hs3 : wr.heap.size < w3.heap.size := hr3.lt
        have HB3 := Lib.hid hbl3
        have HK3 := Lib.hid (hk3.base ((HBE.out.alloc HBE.out.size _)) hg0)
        have HR3 := Lib.hid hr3
        have hdI : (x.d.size : Int) ≤ 251 := by omega
        have hdI0 : (0 : Int) ≤ (x.d.size : Int) := by omega
        clear hbl3 hk3 hr3
        go_wp2_with fail
        have hyc : ∀ j u, ([UInt8.ofNat (4 + x.d.size), UInt8.ofNat x.v.toNat] : List UInt8)[j]? = some u → (w3.alloc (.cells #[.int .u8 (4 + (x.d.size : Int)), .int .u8 x.v] 5)).cell? ⟨w3.heap.size, j, none⟩ = some (byteV u) := by
          intro j u hj
          rw [(RowAt.new w3 5 #[.int .u8 (4 + (x.d.size : Int)), .int .u8 x.v]).cell j]
          match j, hj with
          | 0, hj =>
            simp at hj
            subst hj
            simp [byteV]
            omega
          | 1, hj =>
            simp at hj
            subst hj
            simp [byteV]
            omega
          | j + 2, hj => simp at hj
        have hr4 := HR3.out.alloc (.cells #[.int .u8 (4 + (x.d.size : Int)), .int .u8 x.v] 5)
        have HR4 := Lib.hid hr4
        have hk4 := HK3.out.alloc HK3.out.size (.cells #[.int .u8 (4 + (x.d.size : Int)), .int .u8 x.v] 5)
        have HK4 := Lib.hid hk4
        clear hr4 hk4
        refine (bwriteb_any g w3.heap.size 2 (encB (l.take k) ++ x.sg.data.toList) [UInt8.ofNat (4 + x.d.size), UInt8.ofNat x.v.toNat] _ (HB3.out.below ((Below.refl w3.heap.size w3).alloc (Nat.le_refl _) _)) (by omega) hyc (by have := HBD.out; have := HBD2.out; rw [List.length_append]; simp; omega)).mono ?_
        rintro e w4 ⟨rfl, hbl4, hk4⟩
        have hr4 := HR4.out.keptB hk4 (by omega) (by decide)
        have q0' := hr4.cell 0
        have q2' := hr4.cell 2
        simp only [List.getElem?_toArray] at q0' q2'
        have HB4 := Lib.hid hbl4
        have HK5 := Lib.hid (hk4.base HK4.out hg0)
        clear hyc hr4 hbl4 hk4 q0 q1 q2 HR3 HR4 HK3 HK4 HB3
        go_wp2_with fail
        refine (bwrite_any g _ x.d _ HB4.out (by have := HBD.out; have := HBD2.out; rw [List.length_append, List.length_append]; simp; omega)).mono ?_
        rintro e w5 ⟨rfl, hbl5, hk5⟩
        have hbl6 : Bld w5 g (encB (l.take (k + 1))) := by
          rw [HTK.out]
          unfold entB
          simpa only [List.append_assoc] using hbl5
        have HB6 := Lib.hid (hk5.base HK5.out hg0)
        clear hbl5 hk5 q0' q2' HB4 HK5
        go_wp2_with fail
        exact ⟨⟨k + 1, by omega, by simp, hbl6, HB6.out⟩, by simp [intOf]; omega⟩
      · obtain rfl : k = n := by omega
        have hge : ¬ (k : Int) < (k : Int) := by omega
        rw [List.take_of_length_le (Nat.le_of_eq HN.out)] at hbl
        go_wp2_with fail
        refine (bstring_any g (encB l) wr hbl).mono ?_
        rintro e w3 ⟨rfl, hk3⟩
        go_wp2_with fail
        go_ret2
        exact ⟨rfl, hk3.base hbel hg0⟩
  · rw [if_neg h0]
    go_enter Try.func11, Try.ntmps11
    go_wp2_with fail
    refine CC.out.mono ?_
    rintro e w1 ⟨rfl, hb1⟩
    clear CC
    go_wp2_with fail
    go_ret2
    exact ⟨rfl, hb1⟩
end Go.Proofs.Ytnomodbcpndocaa
