/- What is shown here, as far as 'rtext_is': contracts of the program's functions, and the plain laws that they lean on; conditions: each theorem's own hypotheses. -/
import Derived.Test.YteddohgdegggnaaGreatDoorRdr
import Derived.Laws.DeepNot64
import Derived.Laws.IdiomStrings
import Derived.Laws.BytesArg
namespace Go.Proofs.YteddohgdegggnaaGreatDoor
open Go.RowKit Go.HR
open Go.Proofs

theorem xor_i64_zero (a : Nat) (h : a < 9223372036854775808) : bits .xor .i64 (a : Int) 0 = (a : Int) := by
  show IntKind.i64.wrap ((BitVec.ofInt 64 (a : Int) ^^^ BitVec.ofInt 64 0).toNat : Int) = _
  rw [show BitVec.ofInt 64 0 = 0#64 from rfl, BitVec.xor_zero]
  rw [show (BitVec.ofInt 64 (a : Int)).toNat = a from by rw [BitVec.toNat_ofInt]; omega, IntKind.wrap_i64]
  omega
theorem xor_i64_neg (a : Nat) (h : a < 9223372036854775808) : bits .xor .i64 (a : Int) (-1) = -1 - (a : Int) := by
  rw [← i64_not a h]
  show IntKind.i64.wrap ((BitVec.ofInt 64 (a : Int) ^^^ BitVec.ofInt 64 (-1)).toNat : Int) = IntKind.i64.wrap ((BitVec.ofInt 64 (-1) ^^^ BitVec.ofInt 64 (a : Int)).toNat : Int)
  rw [BitVec.xor_comm]
theorem zag_bits {k : Int} (h1 : -9223372036854775808 ≤ k) (h2 : k < 9223372036854775808) : bits .xor .i64 ((zig k : Int) / 2) (wrap64 (-wrap64 (bits .and .u64 (zig k : Int) 1))) = k := by
  have hz := zig_lt h1 h2
  have ha := u64_and_nat (zig k) 1 hz (by omega)
  rw [show ((1 : Nat) : Int) = 1 from rfl, nat_mask1] at ha
  rw [ha]
  have e2 : ((zig k : Int) / 2) = ((zig k / 2 : Nat) : Int) := by omega
  rw [e2]
  by_cases hk : 0 ≤ k
  · have e : zig k = 2 * k.toNat := by unfold zig; rw [if_pos hk]
    have e3 : wrap64 (-wrap64 ((zig k % 2 : Nat) : Int)) = 0 := by
      rw [show zig k % 2 = 0 from by omega]; simp [wrap64]
    rw [e3, xor_i64_zero _ (by omega)]
    omega
  · have e : zig k = 2 * (-k).toNat - 1 := by unfold zig; rw [if_neg hk]
    have e3 : wrap64 (-wrap64 ((zig k % 2 : Nat) : Int)) = -1 := by
      rw [show zig k % 2 = 1 from by omega]; simp [wrap64]
    rw [e3, xor_i64_neg _ (by omega)]
    omega

set_option maxRecDepth 100000 in
theorem rint_is (rb gb : Nat) (k : Int) (l : List UInt8) (w : World) (h : RdrAt w rb gb (leb (zig k) ++ l)) (hk1 : -9223372036854775808 ≤ k) (hk2 : k < 9223372036854775808) :
    Calls Tryz.prog 48 #[.pointer (some ⟨rb, 0, none⟩)] w fun e w' => e = .returned (.int .i64 k) ∧ RdrAt w' rb gb l ∧ Only (fun k => k = rb) w w' := by
  have hz := zig_lt hk1 hk2
  go_enter Tryz.func48, Tryz.ntmps48
  go_wp2_with fail
  refine (ruint_is rb gb (zig k) 18446744073709551615 l w h hz (by omega) (by omega)).mono ?_
  rintro e w1 ⟨rfl, hr, ho⟩
  go_wp2
  go_ret
  exact ⟨congrArg (fun x => Ending.returned (.int .i64 x)) (zag_bits hk1 hk2), hr, ho⟩

theorem _root_.Go.HR.Rd.dropO {w : World} {a : Option Addr} {n c i : Nat} {xs : List Value} (h : Rd w (.slice a n c) n xs) (hi : i ≤ n) : Rd w (.slice (Option.map (fun x => x.add i) a) (n - i) (c - i)) (n - i) (xs.drop i) := by
  rcases h with ⟨h1, h2, h3⟩ | ⟨g, off, cap, h0, h1, h2, h3, h4⟩
  · cases h1
    exact .inl ⟨by simp, by omega, by rw [h3]; simp⟩
  · cases h0
    refine .inr ⟨g, off + i, c - i, by simp [Addr.add_lit], by omega, by omega, h3, fun j u hu => ?_⟩
    rw [List.getElem?_drop] at hu
    have := h4 (i + j) u hu
    rwa [← Nat.add_assoc] at this

set_option maxRecDepth 100000 in
/-- A readable slice of bytes as a text. -/
theorem conv_rd {v : Value} {l : List UInt8} {w : World} (h : Rd w v l.length (by8 l)) : (convert 29 9 v).run Tryz.prog w = .ok (.string ⟨l.toArray⟩) w := by
  rcases h with ⟨rfl, h0, _⟩ | ⟨g, off, cap, rfl, _, _, _, h4⟩
  · obtain rfl : l = [] := List.eq_nil_of_length_eq_zero h0
    exact run_convert_bytes_nil w 29 5 Tryz.underlying29 rfl 0 0 9 rfl
  · exact run_convert_bytes_back w 29 9 5 ⟨g, off, none⟩ cap l Tryz.underlying29 rfl rfl (fun j hj => by rw [Addr.add_lit]; exact h4 j _ (by8_get hj))

set_option maxRecDepth 100000 in
theorem rtext_is (rb gb most : Nat) (t : ByteArray) (l : List UInt8) (w : World) (h : RdrAt w rb gb (leb t.toList.length ++ (t.toList ++ l))) (hm : t.toList.length ≤ most) (hmm : most ≤ 1073741824) :
    Calls Tryz.prog 47 #[.pointer (some ⟨rb, 0, none⟩), .int .i64 most] w fun e w' => e = .returned (.string t) ∧ RdrAt w' rb gb l ∧ Only (fun k => k = rb) w w' := by
  go_enter Tryz.func47, Tryz.ntmps47
  go_wp2_with fail
  refine (ruint_is rb gb t.toList.length most _ w h (by omega) hm (by omega)).mono ?_
  rintro e w1 ⟨rfl, hr, ho⟩
  obtain ⟨pv, h1, h2, h3⟩ := hr.ex
  have HGB : Hid (gb ≠ rb) := hr.ne
  have HGL : Hid (gb < w1.heap.size) := hr.lt
  have hlen : (t.toList ++ l).length = t.toList.length + l.length := List.length_append
  rw [hlen] at h2
  obtain ⟨va, vc, rfl, hv1, hv2⟩ := h2.shape
  have c0 : w1.cell? ⟨rb, 0, none⟩ = some (.slice va (t.toList.length + l.length) vc) := by simp [World.cell?, h1]
  have f0 : w1.frozen? ⟨rb, 0, none⟩ = false := by simp [World.frozen?, h1]
  have hmx : t.toList.length + l.length ≤ 9223372036854775807 := by have : vc ≤ 9223372036854775807 := hv2; omega
  have hwr : IntKind.u64.wrap ((t.toList.length : Int) + (l.length : Int)) = (t.toList.length : Int) + l.length := by rw [IntKind.wrap_u64]; omega
  have hle : decide ((t.toList.length : Int) ≤ (t.toList.length : Int) + (l.length : Int)) = true := decide_eq_true (by omega)
  have HRD : Hid (Rd w1 (.slice va (t.toList.length + l.length) vc) (t.toList.length + l.length) (by8 (t.toList ++ l))) := h2
  have H1 : Hid (w1.heap[rb]? = some (.cells #[.slice va (t.toList.length + l.length) vc] 114 (0, 0))) := h1
  have HO : Hid (Only (fun k => k = rb) w w1) := ho
  have hconv : (convert 29 9 (.slice va t.toList.length vc)).run Tryz.prog w1 = .ok (.string t) w1 := by
    have := (h2.take (m := t.toList.length) (by omega))
    rw [by8_append, List.take_left' (by simp [by8_length])] at this
    have := conv_rd this
    rwa [mk_toList] at this
  have hv2' : vc ≤ 9223372036854775807 := hv2
  clear h1 h2 ho hr hlen h hv2 hmm hm
  go_wp2_with fail
  refine (check_is rb w1).mono ?_
  rintro e w2 ⟨rfl, rfl⟩
  have hne : ∀ k, (Value.slice va (t.toList.length + l.length) vc).ownBlock = some k → k = gb := h3
  by_cases hc : vc = t.toList.length
  · have hl0 : l = [] := List.eq_nil_of_length_eq_zero (by omega)
    subst hc
    subst hl0
    have hrz : Rd w1 (.slice va 0 0) 0 (by8 []) := by
      rcases HRD.out with ⟨h1, _, _⟩ | ⟨g, off, cap, h0, h1, h2, hg, _⟩
      · obtain rfl : va = none := (Value.slice.inj h1).1
        exact .inl ⟨rfl, rfl, rfl⟩
      · obtain rfl : va = some ⟨g, off, none⟩ := (Value.slice.inj h0).1
        exact .inr ⟨g, off, 0, rfl, Nat.le_refl _, Nat.zero_le _, hg, fun j u hu => by simp [by8] at hu⟩
    have HRZ : Hid (Rd w1 (.slice va 0 0) 0 (by8 [])) := hrz
    have HNE : Hid (∀ k, (Value.slice va 0 0).ownBlock = some k → k = gb) := by cases va <;> exact hne
    clear hrz hne h3
    go_wp2
    go_ret
    obtain ⟨a1, a2⟩ := rdr_step (l := []) H1.out HRZ.out HNE.out HGB.out HGL.out
    exact ⟨rfl, a1, HO.out.trans a2 fun _ _ h => h⟩
  · have hrd := HRD.out.dropO (i := t.toList.length) (by omega)
    rw [Nat.add_sub_cancel_left, by8_append, List.drop_left' (by simp [by8_length])] at hrd
    have HRZ : Hid (Rd w1 (.slice (Option.map (fun x => x.add t.toList.length) va) l.length (vc - t.toList.length)) l.length (by8 l)) := hrd
    have hne2 : ∀ k, (Value.slice (Option.map (fun x => x.add t.toList.length) va) l.length (vc - t.toList.length)).ownBlock = some k → k = gb := by
      cases va with
      | none => simp [Value.ownBlock]
      | some a =>
        have e : (a.add t.toList.length).block = a.block := by unfold Addr.add; split <;> rfl
        show ∀ k, some (a.add t.toList.length).block = some k → k = gb
        rw [e]; exact hne
    have HNE : Hid (∀ k, (Value.slice (Option.map (fun x => x.add t.toList.length) va) l.length (vc - t.toList.length)).ownBlock = some k → k = gb) := hne2
    clear hrd hne2 hne h3
    go_wp2
    go_ret
    obtain ⟨a1, a2⟩ := rdr_step H1.out HRZ.out HNE.out HGB.out HGL.out
    exact ⟨rfl, a1, HO.out.trans a2 fun _ _ h => h⟩

end Go.Proofs.YteddohgdegggnaaGreatDoor
