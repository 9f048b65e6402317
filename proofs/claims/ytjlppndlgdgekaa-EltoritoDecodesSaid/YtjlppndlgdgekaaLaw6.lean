/-
  The walk of the law EltoritoDecodes.
-/
import Derived.Test.YtjlppndlgdgekaaRDec2
import Derived.Test.YtjlppndlgdgekaaDecA
import Derived.Test.YtjlppndlgdgekaaOpenI
namespace Go.Proofs.Ytjlppndlgdgekaa
open Go.RowKit
set_option linter.unusedVariables false

theorem step_len {st st' : DSt} {x : List UInt8} : (∀ r, stepD st x = .inl r → r.2.length ≤ st.out.length) ∧ (∀ st', stepD st x = .inr st' → st'.out.length ≤ st.out.length + 1) := by
  unfold stepD
  constructor
  · intro r h
    split at h
    · split at h
      · injection h with h; subst h; simp
      · split at h
        · injection h with h; subst h; simp
        · cases h
    · split at h
      · injection h with h; subst h; simp
      · split at h
        · injection h with h; subst h; simp
        · split at h
          · cases h
          · injection h with h; subst h; simp
  · intro st' h
    split at h
    · split at h
      · cases h
      · split at h
        · cases h
        · injection h with h; subst h; simp
    · split at h
      · cases h
      · split at h
        · cases h
        · split at h
          · injection h with h; subst h; simp
          · cases h
theorem runD_len (s : List UInt8) : ∀ (n i : Nat) (st : DSt), (runD s n i st).2.length ≤ st.out.length + n
  | 0, _, _ => by simp [runD]
  | n + 1, i, st => by
    unfold runD
    have h := step_len (st := st) (st' := st) (x := entAt s i)
    cases hx : stepD st (entAt s i) with
    | inl r => have := h.1 r hx; dsimp only; omega
    | inr st' =>
      have h2 := h.2 st' hx
      dsimp only
      split
      · dsimp only; omega
      · have := runD_len s n (i + 1) st'; omega
theorem decR_len (s : List UInt8) : (decR s).2.length ≤ 63 := by
  unfold decR
  split
  · simp
  · split
    · split
      · have := runD_len s 63 1 ⟨byteL (entAt s 0) 1, 1, true, 0, []⟩
        simpa using this
      · simp
    · simp

set_option maxHeartbeats 2000000 in
theorem decodes_any (s : ByteArray) (w : World) (hs : s.size ≤ maxLen) :
    Calls Try.prog 4 #[.string s] w fun e w' => e = .returned (.bool true) ∧ Below w.heap.size w w' := by
  unfold maxLen at hs
  by_cases h3 : (3000 : Int) < (s.size : Int)
  · go_enter Try.func4, Try.ntmps4
    go_wp2_with fail
    refine (awake_any _).mono ?_
    rintro e w0 ⟨rfl, hb0⟩
    go_wp2_with fail
    go_ret
    exact ⟨rfl, hb0⟩
  · have CD := Lib.hid (fun w => decode_any s w)
    have CR := Lib.hid (fun w => rdecode_any s w)
    have CS := Lib.hid (fun w => sum_any s w (by omega))
    have CT := Lib.hid (fun w => rsum_any s w (by omega))
    have hl := decR_len s.data.toList
    have CM := Lib.hid (fun A A' c c' w h h' => imgs_same A A' c c' (decR s.data.toList).2 w h h' (by omega))
    unfold DecRes at CD CR
    generalize decR s.data.toList = D at *
    obtain ⟨E, l⟩ := D
    dsimp only at CD CR CM hl
    obtain ⟨n, hn⟩ : ∃ n, l.length = n := ⟨_, rfl⟩
    rw [hn] at CD CR CM
    generalize sumS s.data.toList = Z at *
    clear hn hl
    go_enter Try.func4, Try.ntmps4
    go_wp2_with fail
    refine (awake_any _).mono ?_
    rintro e w0 ⟨rfl, hb0⟩
    go_wp2_with fail
    refine (CD.out _).mono ?_
    rintro e w1 ⟨hb1, A, c, rfl, hA⟩
    have hA := Lib.hid hA
    go_wp2_with fail
    refine (CR.out _).mono ?_
    rintro e w2 ⟨hb2, A', c', rfl, hA'⟩
    have hA' := Lib.hid hA'
    have hbel := (hb0.trans (hb1.mono hb0.size)).trans (hb2.mono (hb0.trans (hb1.mono hb0.size)).size)
    have CM2 := Lib.hid (CM.out A A' c c' w2 ((hA.out.below hb2).mono hb2.size) hA'.out)
    clear hb0 hb1 hb2
    go_wp2_with fail
    refine CM2.out.mono ?_
    rintro e w3 ⟨rfl, hb3⟩
    have hbel3 := hbel.trans (hb3.mono hbel.size)
    clear hb3 hbel
    go_wp2_with fail
    refine (CS.out _).mono ?_
    rintro e w4 ⟨rfl, hb4⟩
    have hbel4 := hbel3.trans (hb4.mono hbel3.size)
    clear hb4 hbel3
    go_wp2_with fail
    refine (CT.out _).mono ?_
    rintro e w5 ⟨rfl, hb5⟩
    have hbel5 := hbel4.trans (hb5.mono hbel4.size)
    go_wp2_with fail
    go_ret
    exact ⟨rfl, hbel5⟩
end Go.Proofs.Ytjlppndlgdgekaa
