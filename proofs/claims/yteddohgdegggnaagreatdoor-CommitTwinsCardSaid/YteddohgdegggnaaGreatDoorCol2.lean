/- What is shown here, as far as 'text_is': contracts of the program's functions, and the plain laws that they lean on; conditions: each theorem's own hypotheses. -/
import Derived.Test.YteddohgdegggnaaGreatDoorCol
import Derived.Laws.BitsAllLaws
namespace Go.HR
/-- A number with a sign as one without. -/
def zig (n : Int) : Nat := if 0 ≤ n then 2 * n.toNat else 2 * (-n).toNat - 1
theorem zig_lt {n : Int} (h1 : -9223372036854775808 ≤ n) (h2 : n < 9223372036854775808) : zig n < 18446744073709551616 := by
  unfold zig; split <;> omega
theorem xor_ones {a : Nat} (h : a < 18446744073709551616) : a ^^^ 18446744073709551615 = 18446744073709551615 - a := by
  have e := congrArg BitVec.toNat (BitVec.xor_allOnes (x := BitVec.ofNat 64 a))
  rw [BitVec.toNat_xor, BitVec.toNat_not, BitVec.toNat_ofNat, BitVec.toNat_allOnes, Nat.mod_eq_of_lt h] at e
  exact e
theorem zig_bits {n : Int} (h1 : -9223372036854775808 ≤ n) (h2 : n < 9223372036854775808) : bits .xor .u64 (IntKind.u64.wrap (RowKit.wrap64 (n * 2))) (IntKind.u64.wrap (n / 9223372036854775808)) = ((zig n : Nat) : Int) := by
  have hw : IntKind.u64.wrap (RowKit.wrap64 (n * 2)) = (((n * 2) % 18446744073709551616).toNat : Int) := by
    rw [IntKind.wrap_u64, RowKit.wrap64]; omega
  rw [hw]
  unfold zig
  split
  · have e2 : IntKind.u64.wrap (n / 9223372036854775808) = ((0 : Nat) : Int) := by rw [IntKind.wrap_u64]; omega
    rw [e2, u64_xor_nat _ _ (by omega) (by omega), Nat.xor_zero]
    omega
  · have e2 : IntKind.u64.wrap (n / 9223372036854775808) = ((18446744073709551615 : Nat) : Int) := by rw [IntKind.wrap_u64]; omega
    rw [e2, u64_xor_nat _ _ (by omega) (by omega), xor_ones (by omega)]
    omega
end Go.HR
namespace Go.Proofs.YteddohgdegggnaaGreatDoor
open Go.RowKit Go.HR
open Go.Proofs

theorem int_is (v : Value) (n : Nat) (k : Int) (xs : List Value) (w : World) (hown : w.ownsRow 0 5 1 v n xs) (hk1 : -9223372036854775808 ≤ k) (hk2 : k < 9223372036854775808) (hn : n ≤ 1099511627776) :
    Calls Tryz.prog 61 #[v, .int .i64 k] w (AppPost w v n xs (leb (zig k))) := by
  go_enter Tryz.func61, Tryz.ntmps61
  go_wp2_with fail
  rw [zig_bits hk1 hk2]
  refine (uint_is v n (zig k) xs w hown (zig_lt hk1 hk2) hn).mono ?_
  rintro e w' ⟨v', rfl, hap⟩
  go_wp2
  go_ret
  exact ⟨v', rfl, hap⟩

set_option maxRecDepth 100000 in
theorem text_is (v : Value) (n : Nat) (t : ByteArray) (xs : List Value) (w : World) (hown : w.ownsRow 0 5 1 v n xs) (hk : t.toList.length ≤ 1073741824) (hn : n ≤ 1099511627776 / 2) :
    Calls Tryz.prog 62 #[v, .string t] w (AppPost w v n xs (leb t.toList.length ++ t.toList)) := by
  have hsz : t.size = t.toList.length := by rw [ByteArray.toList_eq]; rfl
  go_enter Tryz.func62, Tryz.ntmps62
  have hl10 := leb_ten (n := t.toList.length) (by omega)
  have HL10 : Hid ((leb t.toList.length).length ≤ 10) := hl10
  have HSZ : Hid (t.size = t.toList.length) := hsz
  obtain ⟨i0, hi, hz0, hz1, hz2⟩ := info_parts Tryz.infoB
  have hbc : by8 t.toList = byteCells t := by rw [ByteArray.toList_eq]; rfl
  have HBC : Hid (by8 t.toList = byteCells t) := hbc
  clear hl10 hbc
  go_wp2_with fail
  refine (uint_is v n t.toList.length xs w hown (by omega) (by omega)).mono ?_
  rintro e w1 ⟨v1, rfl, hap1⟩
  obtain ⟨a1, c1, rfl, _, _⟩ := owns_shape hap1.owns
  go_wp2_with (at_builtin; refine wpList_append_any _ rfl _ _ 29 9 rfl 5 i0 (.int .u8 0) 1 1 Tryz.underlying29 hi hz0 hz1 hz2 rfl _ (n + (leb t.toList.length).length) _ rfl hap1.owns _ rfl t.size (byteCells t) (Src.ofString _ rfl t) (by simp only [maxLen]; have := HL10.out; have := HSZ.out; omega) (by have := HL10.out; have := HSZ.out; omega) ?_)
  intro v' w' hap2 _
  go_wp2
  go_ret
  refine ⟨v', rfl, ?_⟩
  have h3 := hap1.trans hap2
  rw [List.length_append, by8_append, HBC.out]
  exact h3

end Go.Proofs.YteddohgdegggnaaGreatDoor
