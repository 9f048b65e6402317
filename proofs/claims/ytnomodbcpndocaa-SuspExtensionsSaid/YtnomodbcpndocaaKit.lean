/-
  Small laws over any program that the walks of this seat share: bytes as values, a slice of the call's own that is read back as a string, one element appended to a slice of the call's own.
-/
import Derived.Test.YtnomodbcpndocaaProg
import Derived.WalkKit
import Derived.WalkSpells
import Derived.WalkLawsBesides
import Derived.StillTailTactics
import Derived.Lib.Hide
import Derived.Deep.QuietTactic
import Derived.BigQuiet
import Derived.Outline
import Derived.Laws.IdiomStrings
namespace Go.Proofs.Ytnomodbcpndocaa
open Go.RowKit

theorem flipw {P : Program} {f : FuncId} {args : Array Value} {w : World} {v : Value} (h : Calls P f args w fun e w' => e = .returned v ∧ w = w') : Calls P f args w fun e w' => e = .returned v ∧ w' = w :=
  h.mono fun _ _ ⟨a, b⟩ => ⟨a, b.symm⟩

theorem bytes_get (s : ByteArray) (k : Nat) (h : k < s.size) : s.data.toList[k]? = some s[k] := by
  rw [List.getElem?_eq_getElem (by simpa using h)]
  rfl

def byteV (b : UInt8) : Value := .int .u8 (b.toNat : Int)

theorem wrap_u8_byte (n : Int) (h : 0 ≤ n) : IntKind.u8.wrap n = ((UInt8.ofNat n.toNat).toNat : Int) := by
  rw [IntKind.wrap_u8]
  simp only [UInt8.toNat_ofNat']
  omega

theorem byteV_of (n : Int) (h : 0 ≤ n) : Value.int .u8 (IntKind.u8.wrap n) = byteV (UInt8.ofNat n.toNat) := by
  rw [wrap_u8_byte n h]
  rfl

theorem ret_int {k : IntKind} {a b : Int} (h : a = b) : Ending.returned (.int k a) = .returned (.int k b) := by rw [h]
theorem ret_str {a b : ByteArray} (h : a = b) : Ending.returned (.string a) = .returned (.string b) := by rw [h]
theorem ret_bool {a b : Bool} (h : a = b) : Ending.returned (.bool a) = .returned (.bool b) := by rw [h]

theorem wf_i64 {n : Int} (h : (Lit.int .i64 n).wf = true) : -9223372036854775808 ≤ n ∧ n < 9223372036854775808 := by
  simp [Lit.wf, IntKind.min, IntKind.max, IntKind.signed, IntKind.bits] at h
  omega
theorem wf_u8 {n : Int} (h : (Lit.int .u8 n).wf = true) : 0 ≤ n ∧ n ≤ 255 := by
  simp [Lit.wf, IntKind.min, IntKind.max, IntKind.signed, IntKind.bits] at h
  omega
theorem wf_u16 {n : Int} (h : (Lit.int .u16 n).wf = true) : 0 ≤ n ∧ n ≤ 65535 := by
  simp [Lit.wf, IntKind.min, IntKind.max, IntKind.signed, IntKind.bits] at h
  omega
theorem wf_u32 {n : Int} (h : (Lit.int .u32 n).wf = true) : 0 ≤ n ∧ n ≤ 4294967295 := by
  simp [Lit.wf, IntKind.min, IntKind.max, IntKind.signed, IntKind.bits] at h
  omega
theorem wf_u64 {n : Int} (h : (Lit.int .u64 n).wf = true) : 0 ≤ n ∧ n ≤ 18446744073709551615 := by
  simp [Lit.wf, IntKind.min, IntKind.max, IntKind.signed, IntKind.bits] at h
  omega

section
variable {P : Program}

/-- A byte slice of the call's own, read back as a string. -/
theorem own_string (w : World) (src dst e : TypeId) (hs : P.underlying src = some (.slice e)) (he : P.underlying e = some (.int .u8)) (hd : P.underlying dst = some .string)
    {base : Nat} {v : Value} {n : Nat} {bs : List UInt8} (hown : w.ownsRow base e 1 v n (bs.map byteV)) : (convert src dst v).run P w = .ok (.string ⟨bs.toArray⟩) w := by
  have hl : bs.length = n := by have := hown.1; simpa using this
  rcases hown.2 with ⟨rfl, h0⟩ | ⟨g, cap, cur, rfl, _, hg, _, _, hcs, htake⟩
  · have hb : bs = [] := List.eq_nil_of_length_eq_zero (by omega)
    subst hb
    exact run_convert_bytes_nil w src e hs he 0 0 dst hd
  · subst hl
    refine run_convert_bytes_back w src dst e ⟨g, 0, none⟩ cap bs hs he hd fun j hj => ?_
    have := hown.cells (g := g) rfl j (byteV bs[j]) (by simp [hj])
    exact this

theorem wpList_app1 {ops : Array Oper} {rest : List Oper} {o : Oper} {a : Act} {Q : Exit → Act → World → Prop} {s x : Operand} {t : TypeId} {base : Nat} {e : TypeId} {z : Value} {bytes : Nat} {w : World} {u v : Value} {n : Nat} {xs : List Value}
    (hown : w.ownsRow base e 1 v n xs) (hinfo : (P.info? e).map (fun i => (i.zero, i.size, i.bytes)) = some (some z, 1, bytes)) (ht : P.underlying t = some (.slice e)) (hzs : z.cells.size = 1)
    (h63 : n + 1 ≤ maxLen) (hbytes : (n + 1) * bytes ≤ 140737488355328) (hbase : base ≤ w.heap.size) (h1 : u.oneCell' = true)
    (hgd : o.guard = none) (ho : o.op = .call { callee := .builtin .append, args := #[s, x], argTypes := #[t, t] }) (hs : a.eval s = v) (hx : a.eval x = .slice (some ⟨w.heap.size, 0, none⟩) 1 1)
    (h : ∀ v' w', w'.ownsRow base e 1 v' (n + 1) (xs ++ [u]) → Below base w w' → w.grownBy w' v.ownBlock → wpList P ops Q rest (a.put o.dst v') w') : wpList P ops Q (o :: rest) a (w.alloc (.cells #[u] e)) := by
  obtain ⟨i0, hi, hz0, hz1, hz2⟩ := info_parts hinfo
  refine wpList_append_own _ hgd s x t ho base e i0 z 1 bytes ht hi hz0 hz1 hz2 hzs (by decide) v n xs hs (hown.alloc _) ⟨w.heap.size, 0, none⟩ 1 1 [u] hx rfl ?_ ?_ h63 hbytes ?_ ?_
  · exact cell_one_new _ _ _
  · intro y hy; simp at hy; subst hy; exact h1
  · simp; omega
  · intro v' w' hown' hg _
    have hb0 : Below base w (w.alloc (.cells #[u] e)) := (Below.refl _ _).alloc hbase _
    refine h v' w' hown' (hb0.grown hg (by simp; omega) fun k hk => (hown.lt k hk).1) ⟨hg.os, hg.tape, hg.output, Nat.le_trans (by simp) hg.size, fun k hk hne => ?_⟩
    rw [hg.block k (by simp; omega) hne]
    exact Below.heap_alloc w _ k hk
end
end Go.Proofs.Ytnomodbcpndocaa
