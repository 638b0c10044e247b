/- What is shown here, as far as 'uint_is': contracts of the program's functions, and the plain laws that they lean on; conditions: each theorem's own hypotheses. -/
import Derived.Test.YteddohgdegggnaaGreatDoorRest
namespace Go.HR
/-- A number, seven bits a byte, the lowest first. -/
def leb (n : Nat) : List UInt8 := if n < 128 then [UInt8.ofNat n] else UInt8.ofNat (n % 128 + 128) :: leb (n / 128)
termination_by n
theorem leb_lt {n : Nat} (h : n < 128) : leb n = [UInt8.ofNat n] := by rw [leb, if_pos h]
theorem leb_ge {n : Nat} (h : ¬ n < 128) : leb n = UInt8.ofNat (n % 128 + 128) :: leb (n / 128) := by rw [leb, if_neg h]
theorem leb_len (j : Nat) : ∀ n, n < 128 ^ (j + 1) → (leb n).length ≤ j + 1 := by
  induction j with
  | zero => intro n h; rw [leb_lt (by simpa using h)]; simp
  | succ j ih =>
    intro n h
    by_cases h1 : n < 128
    · rw [leb_lt h1]; simp
    · rw [leb_ge h1]
      have := ih (n / 128) (by rw [Nat.div_lt_iff_lt_mul (by omega)]; rw [Nat.pow_succ] at h; exact h)
      simp; omega
theorem leb_ten {n : Nat} (h : n < 18446744073709551616) : (leb n).length ≤ 10 := leb_len 9 n (Nat.lt_of_lt_of_le h (by decide))
end Go.HR
namespace Go.Proofs.YteddohgdegggnaaGreatDoor
open Go.RowKit Go.HR
open Go.Proofs

set_option maxRecDepth 100000 in
theorem or_fin : ∀ m : Fin 256, bits .or .u8 ((m.val : Nat) : Int) 128 = ((m.val % 128 + 128 : Nat) : Int) := by decide
theorem or_128 (j : Nat) : bits .or .u8 ((j : Int) % 256) 128 = ((UInt8.ofNat (j % 128 + 128)).toNat : Int) := by
  have h := or_fin ⟨j % 256, Nat.mod_lt _ (by omega)⟩
  have e : ((j % 256 : Nat) : Int) = (j : Int) % 256 := by omega
  simp only [e] at h
  rw [h, UInt8.toNat_ofNat']
  omega
theorem u8_lt {j : Nat} (h : j < 128) : ((UInt8.ofNat j).toNat : Int) = j := by rw [UInt8.toNat_ofNat']; omega

/-- What a function leaves that appends bytes. -/
def AppPost (w : World) (v : Value) (n : Nat) (xs : List Value) (l : List UInt8) (e : Ending) (w' : World) : Prop := ∃ v', e = .returned v' ∧ Appended Tryz.prog 5 1 v n xs w l.length (by8 l) v' w'

set_option maxRecDepth 100000 in
set_option maxHeartbeats 2000000 in
theorem uint_is (v : Value) (n k : Nat) (xs : List Value) (w : World) (hown : w.ownsRow 0 5 1 v n xs) (hk : k < 18446744073709551616) (hn : n ≤ 1099511627776) :
    Calls Tryz.prog 40 #[v, .int .u64 k] w (AppPost w v n xs (leb k)) := by
  have H0 : Hid (w.ownsRow 0 5 1 v n xs) := hown
  obtain ⟨i0, hi, hz0, hz1, hz2⟩ := info_parts Tryz.infoB
  go_enter Tryz.func40, Tryz.ntmps40
  go_wp2_with fail
  go_loopw [0, 1] (fun v1 i wr => ∃ (j : Nat) (pre : List UInt8), i = .int .u64 j ∧ j ≤ k ∧ Hid (leb k = pre ++ leb j ∧ Appended Tryz.prog 5 1 v n xs w pre.length (by8 pre) v1 wr)) (fun _ i _ => (intOf i).toNat)
  case atStart => exact ⟨k, [], rfl, Nat.le_refl _, by simp, ⟨by simpa [by8] using H0.out, Only.refl _ _, Fresh.refl _ _⟩⟩
  case round =>
    obtain ⟨j, pre, rfl, hjk, HJ⟩ := hrel
    rename World => wr
    rename Value => v1
    have hlen := leb_ten hk
    have hpl : pre.length ≤ 10 := by rw [HJ.out.1, List.length_append] at hlen; omega
    obtain ⟨a1, c1, rfl, _, _⟩ := owns_shape HJ.out.2.owns
    by_cases hj : j < 128
    · go_wp2_with (at_builtin; refine wpList_append_any _ rfl _ _ 29 29 rfl 5 i0 (.int .u8 0) 1 1 Tryz.underlying29 hi hz0 hz1 hz2 rfl _ (n + pre.length) _ rfl (owns_ext HJ.out.2.owns ((Only.refl _ _).alloc _)) _ rfl 1 _ (src_one Tryz.underlying29 _ _ rfl _ (by simp)) (by simp only [maxLen]; omega) (by omega) ?_)
      intro v' w' hap _
      go_wp2
      go_ret
      have h1 := HJ.out.2.trans (hap.ofExt ((Only.refl _ _).alloc _))
      refine ⟨v', rfl, ?_⟩
      have e : leb k = pre ++ [UInt8.ofNat j] := by rw [HJ.out.1, leb_lt hj]
      rw [e, List.length_append, by8_append]
      have e2 : by8 [UInt8.ofNat j] = [Value.int .u8 j] := by simp only [by8, List.map_cons, List.map_nil, u8_lt hj]
      rw [e2]
      exact h1
    · go_wp2_with (at_builtin; refine wpList_append_any _ rfl _ _ 29 29 rfl 5 i0 (.int .u8 0) 1 1 Tryz.underlying29 hi hz0 hz1 hz2 rfl _ (n + pre.length) _ rfl (owns_ext HJ.out.2.owns ((Only.refl _ _).alloc _)) _ rfl 1 _ (src_one Tryz.underlying29 _ _ rfl _ (by simp)) (by simp only [maxLen]; omega) (by omega) ?_)
      intro v' w' hap _
      go_wp2
      have h1 := HJ.out.2.trans (hap.ofExt ((Only.refl _ _).alloc _))
      refine ⟨⟨j / 128, pre ++ [UInt8.ofNat (j % 128 + 128)], by go_num, Nat.le_trans (Nat.div_le_self _ _) hjk, ?_, ?_⟩, by simp [intOf]; omega⟩
      · rw [HJ.out.1, leb_ge hj, List.append_assoc]; rfl
      · rw [List.length_append, by8_append]
        have e2 : by8 [UInt8.ofNat (j % 128 + 128)] = [Value.int .u8 (bits .or .u8 ((j : Int) % 256) 128)] := by simp only [by8, List.map_cons, List.map_nil, or_128]
        rw [e2]
        exact h1

end Go.Proofs.YteddohgdegggnaaGreatDoor
