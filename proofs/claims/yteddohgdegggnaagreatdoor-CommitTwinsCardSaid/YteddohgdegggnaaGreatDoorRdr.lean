/- What is shown here, as far as 'ruint_is': contracts of the program's functions, and the plain laws that they lean on; conditions: each theorem's own hypotheses. -/
import Derived.Test.YteddohgdegggnaaGreatDoorPage4
namespace Go.Proofs.YteddohgdegggnaaGreatDoor
open Go.RowKit Go.HR
open Go.Proofs

/-- A reader at a block, which has still to read some bytes; they lie in block gb. -/
structure RdrAt (w : World) (rb gb : Nat) (l : List UInt8) : Prop where
  ex : ∃ pv, w.heap[rb]? = some (.cells #[pv] 114 (0, 0)) ∧ Rd w pv l.length (by8 l) ∧ ∀ k, pv.ownBlock = some k → k = gb
  ne : gb ≠ rb
  lt : gb < w.heap.size

theorem RdrAt.keep {F : Nat → Prop} {w w' : World} {rb gb : Nat} {l : List UInt8} (h : RdrAt w rb gb l) (ho : Only F w w') (hF : ¬ F rb) (hF2 : ¬ F gb) : RdrAt w' rb gb l := by
  obtain ⟨pv, h1, h2, h3⟩ := h.ex
  exact ⟨⟨pv, ho.heap h1 hF, h2.keep ho fun k hk => by rw [h3 k hk]; exact hF2, h3⟩, h.ne, Nat.lt_of_lt_of_le h.lt ho.size⟩
theorem RdrAt.ext {w w' : World} {rb gb : Nat} {l : List UInt8} (h : RdrAt w rb gb l) (ho : Ext w w') : RdrAt w' rb gb l := h.keep ho id id

theorem check_is (rb : Nat) (w : World) : Calls Tryz.prog 46 #[.pointer (some ⟨rb, 0, none⟩), .bool true] w fun e w' => e = .returned (.tuple #[]) ∧ w = w' := by
  go_enter Tryz.func46, Tryz.ntmps46
  go_wp2
  go_end0
  exact ⟨rfl, rfl⟩

theorem _root_.Go.HR.Rd.dropIf {w : World} {g o n c i : Nat} {xs : List Value} (h : Rd w (.slice (some ⟨g, o, none⟩) n c) n xs) (hi : i ≤ n) (hl : xs.length = n) : Rd w (.slice (if c = i then some ⟨g, o, none⟩ else some ⟨g, o + i, none⟩) (n - i) (c - i)) (n - i) (xs.drop i) := by
  split
  · rename_i hc
    rcases h with ⟨h1, _, _⟩ | ⟨g', off, cap, h0, h1, h2, h3, h4⟩
    · cases h1
    · cases h0
      obtain rfl : n = i := by omega
      refine .inr ⟨g, o, _, rfl, by omega, by omega, h3, fun j u hu => ?_⟩
      rw [List.drop_eq_nil_of_le (by omega)] at hu
      simp at hu
  · exact h.drop hi

theorem rdr_step {w : World} {rb gb : Nat} {l : List UInt8} {pv pv' : Value} (h : w.heap[rb]? = some (.cells #[pv] 114 (0, 0))) (hr : Rd w pv' l.length (by8 l)) (hn : ∀ k, pv'.ownBlock = some k → k = gb) (hne : gb ≠ rb) (hlt : gb < w.heap.size) :
    RdrAt (w.setCell ⟨rb, 0, none⟩ pv') rb gb l ∧ Only (fun k => k = rb) w (w.setCell ⟨rb, 0, none⟩ pv') := by
  have ho : Only (fun k => k = rb) w (w.setCell ⟨rb, 0, none⟩ pv') := only_set (Only.refl _ _) _ _
  exact ⟨⟨⟨pv', heap_setCell_same w rb 0 _ _ _ h, hr.keep ho fun k hk e => hne (by rw [← hn k hk, e]), hn⟩, hne, Nat.lt_of_lt_of_le hlt ho.size⟩, ho⟩

set_option maxRecDepth 100000 in
theorem byte_is (rb gb : Nat) (b : UInt8) (l : List UInt8) (w : World) (h : RdrAt w rb gb (b :: l)) :
    Calls Tryz.prog 45 #[.pointer (some ⟨rb, 0, none⟩)] w fun e w' => e = .returned (.int .u8 b.toNat) ∧ RdrAt w' rb gb l ∧ Only (fun k => k = rb) w w' := by
  obtain ⟨pv, h1, h2, h3⟩ := h.ex
  rcases h2 with ⟨_, h0, _⟩ | ⟨g, off, cap, rfl, p1, p2, p3, p4⟩
  · simp at h0
  have hlen : (b :: l).length = l.length + 1 := rfl
  have hrd : Rd w (.slice (some ⟨g, off, none⟩) (l.length + 1) cap) (l.length + 1) (by8 (b :: l)) := .inr ⟨g, off, cap, rfl, p1, p2, p3, p4⟩
  have HRD : Hid (Rd w (.slice (some ⟨g, off, none⟩) (l.length + 1) cap) (l.length + 1) (by8 (b :: l))) := hrd
  have c0 : w.cell? ⟨rb, 0, none⟩ = some (.slice (some ⟨g, off, none⟩) (l.length + 1) cap) := by simp [World.cell?, h1]
  have f0 : w.frozen? ⟨rb, 0, none⟩ = false := by simp [World.frozen?, h1]
  have cb : w.cell? ⟨g, off, none⟩ = some (.int .u8 b.toNat) := p4 0 _ (by simp [by8])
  have H1 : Hid (w.heap[rb]? = some (.cells #[.slice (some ⟨g, off, none⟩) (l.length + 1) cap] 114 (0, 0))) := h1
  have hcap : l.length + 1 ≤ cap := p1
  have hgb : Hid (g = gb) := h3 g rfl
  have hne : ¬ g = rb := fun e => h.ne (by rw [← hgb.out, e])
  have HNE : Hid (gb ≠ rb) := h.ne
  have HLT : Hid (gb < w.heap.size) := h.lt
  clear h1 hrd p4 h h3 hlen p1
  go_enter Tryz.func45, Tryz.ntmps45
  go_wp2_with fail
  refine (check_is rb w).mono ?_
  rintro e w1 ⟨rfl, rfl⟩
  have hd := HRD.out.dropIf (i := 1) (by omega) (by simp [by8])
  have ed : (by8 (b :: l)).drop 1 = by8 l := rfl
  rw [ed, Nat.add_sub_cancel] at hd
  by_cases hc : cap = 1
  · subst hc
    have hl0 : l = [] := List.eq_nil_of_length_eq_zero (by omega)
    subst hl0
    rw [if_pos rfl] at hd
    have HD : Hid (Rd w (.slice (some ⟨g, off, none⟩) 0 0) 0 (by8 [])) := hd
    clear hd ed
    go_wp2
    go_ret
    exact ⟨rfl, rdr_step H1.out HD.out (fun k hk => by rw [← Option.some.inj hk]; exact hgb.out) HNE.out HLT.out⟩
  · rw [if_neg hc] at hd
    have HD : Hid (Rd w (.slice (some ⟨g, off + 1, none⟩) l.length (cap - 1)) l.length (by8 l)) := hd
    clear hd ed
    go_wp2
    go_ret
    exact ⟨rfl, rdr_step H1.out HD.out (fun k hk => by rw [← Option.some.inj hk]; exact hgb.out) HNE.out HLT.out⟩

theorem and_127 (b : Nat) (h : b < 256) : bits .and .u8 (b : Int) 127 = ((b % 128 : Nat) : Int) := by
  have := u8_and_nat b 127 h (by omega)
  rw [show ((127 : Nat) : Int) = 127 from rfl, show b &&& 127 = b % 128 from Nat.and_two_pow_sub_one_eq_mod b 7] at this
  exact this

theorem pow7 (j : Nat) : 128 ^ j = 2 ^ (7 * j) := by rw [Nat.pow_mul]

theorem leb_facts {n lo hi c j b : Nat} (hn : n < 18446744073709551616) (h : n = lo + hi * 128 ^ j) (hlo : lo < 128 ^ j) (hc : c = hi % 128) (hb : b < 256) (hbc : b % 128 = c) :
    ∃ s t : Nat, bits .and .u8 (b : Int) 127 = (c : Int) ∧ IntKind.u64.wrap ((c : Int) * 2 ^ (7 * j)) = (s : Int) ∧ bits .or .u64 (lo : Int) (s : Int) = (t : Int) ∧ t = lo + c * 128 ^ j ∧ s < 18446744073709551616 ∧ t < 18446744073709551616 ∧ t ≤ n ∧
      t < 128 ^ (j + 1) ∧ n = t + (hi / 128) * 128 ^ (j + 1) := by
  have e0 : hi * 128 ^ j = c * 128 ^ j + (hi / 128) * 128 ^ (j + 1) := by
    rw [hc, Nat.pow_succ]
    conv => lhs; rw [← Nat.mod_add_div hi 128]
    rw [Nat.add_mul]
    congr 1
    rw [Nat.mul_comm 128 (hi / 128), Nat.mul_assoc, Nat.mul_comm 128 (128 ^ j)]
  have hs : c * 128 ^ j < 18446744073709551616 := by omega
  have ht : lo + c * 128 ^ j < 18446744073709551616 := by omega
  have hcl : c < 128 := by omega
  refine ⟨c * 128 ^ j, lo + c * 128 ^ j, by rw [and_127 b hb, hbc], ?_, ?_, rfl, hs, ht, by omega, ?_, by omega⟩
  · have e1 : ((c : Int) * 2 ^ (7 * j)) = ((c * 128 ^ j : Nat) : Int) := by rw [pow7, Int.natCast_mul, Int.natCast_pow]; rfl
    rw [e1, IntKind.wrap_u64]
    omega
  · rw [u64_or_nat _ _ (by omega) hs, Nat.or_comm, nat_join (7 * j) _ _ (by rw [pow7]; exact Nat.mul_mod_left _ _) (by rw [← pow7]; exact hlo), Nat.add_comm]
  · rw [Nat.pow_succ]
    have : c * 128 ^ j ≤ 127 * 128 ^ j := Nat.mul_le_mul_right _ (by omega)
    omega

theorem leb_nine {n lo hi : Nat} (hn : n < 18446744073709551616) (h : n = lo + hi * 128 ^ 9) : hi < 2 := by
  have : (128 : Nat) ^ 9 = 9223372036854775808 := by decide
  rw [this] at h
  omega

set_option maxRecDepth 100000 in
set_option maxHeartbeats 1000000 in
theorem ruint_is (rb gb n most : Nat) (l : List UInt8) (w : World) (h : RdrAt w rb gb (leb n ++ l)) (hn : n < 18446744073709551616) (hm : n ≤ most) (_hmm : most < 18446744073709551616) :
    Calls Tryz.prog 34 #[.pointer (some ⟨rb, 0, none⟩), .int .u64 most] w fun e w' => e = .returned (.int .u64 n) ∧ RdrAt w' rb gb l ∧ Only (fun k => k = rb) w w' := by
  have H : Hid (RdrAt w rb gb (leb n ++ l)) := h
  go_enter Tryz.func34, Tryz.ntmps34
  go_wp2_with fail
  go_loopw [5, 6] (fun x i wr => ∃ (j lo hi : Nat), i = .int .i64 j ∧ x = .int .u64 lo ∧ j ≤ 9 ∧ lo < 128 ^ j ∧ Hid (n = lo + hi * 128 ^ j ∧ (j = 0 ∨ 0 < hi) ∧ RdrAt wr rb gb (leb hi ++ l) ∧ Only (fun k => k = rb) w wr)) (fun _ i _ => 10 - (intOf i).toNat)
  case atStart => exact ⟨0, 0, n, rfl, rfl, by omega, by simp, by simp, .inl rfl, H.out, Only.refl _ _⟩
  case round =>
    obtain ⟨j, lo, hi, rfl, rfl, hj, hlo, HJ⟩ := hrel
    rename World => wr
    have hrw := HJ.out.2.2.1
    obtain ⟨c, hc⟩ : ∃ c, c = hi % 128 := ⟨_, rfl⟩
    have hcl : c < 128 := by omega
    by_cases hh : hi < 128
    · obtain rfl : c = hi := by omega
      rw [leb_lt hh, List.singleton_append] at hrw
      have HRD : Hid (RdrAt wr rb gb (UInt8.ofNat c :: l)) := hrw
      have hbn : (UInt8.ofNat c).toNat = c := by rw [UInt8.toNat_ofNat']; omega
      obtain ⟨s, t, f1, f2, f3, f4, f5, f6, f7, f8, f9⟩ := leb_facts hn HJ.out.1 hlo hc (b := c) (by omega) (by omega)
      have hnt : t = n := by rw [HJ.out.1, f4]
      have h9 : j = 9 → c < 2 := fun e => leb_nine hn (by rw [← e]; exact HJ.out.1)
      have h0 : j = 0 ∨ 0 < c := HJ.out.2.1
      have hjz : j = 0 → lo = 0 := fun e => by rw [e] at hlo; simpa using hlo
      have HNT : Hid (t = n) := hnt
      have HFZ : Hid (t = lo + c * 128 ^ j) := f4
      have htm : t ≤ most := by omega
      clear hrw f4 f8 f9 hnt hlo hc f7 hn hm
      go_wp2_with fail
      refine (byte_is rb gb (UInt8.ofNat c) l wr HRD.out).mono ?_
      rintro e w2 ⟨rfl, hr2, ho2⟩
      rw [hbn]
      rcases Nat.eq_zero_or_pos j with rfl | hjp
      · have hlo0 := hjz rfl
        subst hlo0
        have htc : t = c := by rw [HFZ.out]; simp
        subst htc
        have g1 : bits .or .u64 (0 : Int) (t : Int) = (t : Int) := by have := u64_or_nat 0 t (by omega) (by omega); simpa using this
        clear f2 f3 h9 h0 hjz
        go_wp2_with fail
        refine (check_is rb _).mono ?_
        rintro e w3 ⟨rfl, rfl⟩
        go_wp2_with fail
        refine (check_is rb _).mono ?_
        rintro e w3 ⟨rfl, rfl⟩
        go_wp2
        go_ret
        exact ⟨by rw [← HNT.out]; rfl, hr2, HJ.out.2.2.2.trans ho2 fun _ _ h => h⟩
      · have hc0 : 0 < c := h0.resolve_left (by omega)
        have hj0 : ((j : Int) == 0) = false := by rw [beq_eq_false_iff_ne]; omega
        by_cases hj9 : j < 9
        · clear h9 hjz h0
          go_wp2_with fail
          refine (check_is rb _).mono ?_
          rintro e w3 ⟨rfl, rfl⟩
          go_wp2_with fail
          refine (check_is rb _).mono ?_
          rintro e w3 ⟨rfl, rfl⟩
          go_wp2
          go_ret
          exact ⟨by rw [← HNT.out]; rfl, hr2, HJ.out.2.2.2.trans ho2 fun _ _ h => h⟩
        · obtain rfl : j = 9 := by omega
          have e63 : ((2 : Int) ^ (7 * 9)) = 9223372036854775808 := by decide
          rw [e63] at f2
          clear e63
          have hc2 : decide ((c : Int) < 2) = true := decide_eq_true (by have := h9 rfl; omega)
          clear h9 hjz h0
          go_wp2_with fail
          refine (check_is rb _).mono ?_
          rintro e w3 ⟨rfl, rfl⟩
          go_wp2_with fail
          refine (check_is rb _).mono ?_
          rintro e w3 ⟨rfl, rfl⟩
          go_wp2
          go_ret
          exact ⟨by rw [← HNT.out]; rfl, hr2, HJ.out.2.2.2.trans ho2 fun _ _ h => h⟩
    · have hj9 : j < 9 := by
        refine Nat.lt_of_le_of_ne hj fun e => ?_
        have := leb_nine hn (by rw [← e]; exact HJ.out.1)
        omega
      rw [leb_ge hh, List.cons_append] at hrw
      have HRD : Hid (RdrAt wr rb gb (UInt8.ofNat (hi % 128 + 128) :: (leb (hi / 128) ++ l))) := hrw
      have hbn : (UInt8.ofNat (hi % 128 + 128)).toNat = c + 128 := by rw [UInt8.toNat_ofNat', hc]; omega
      obtain ⟨s, t, f1, f2, f3, f4, f5, f6, f7, f8, f9⟩ := leb_facts hn HJ.out.1 hlo hc (b := c + 128) (by omega) (by omega)
      have f1' : bits .and .u8 ((c : Int) + 128) 127 = (c : Int) := by have := f1; rwa [Int.natCast_add] at this
      have hjz : j = 0 → lo = 0 := fun e => by rw [e] at hlo; simpa using hlo
      have HFZ : Hid (t = lo + c * 128 ^ j) := f4
      have HT8 : Hid (t < 128 ^ (j + 1)) := f8
      have HN9 : Hid (n = t + (hi / 128) * 128 ^ (j + 1)) := f9
      have hh1 : 0 < hi / 128 := by omega
      have HH1 : Hid (0 < hi / 128) := hh1
      clear hrw f4 f8 f9 hlo hc f7 hn hm f1 hh1
      go_wp2_with fail
      refine (byte_is rb gb _ (leb (hi / 128) ++ l) wr HRD.out).mono ?_
      rintro e w2 ⟨rfl, hr2, ho2⟩
      rw [hbn, Int.natCast_add]
      rcases Nat.eq_zero_or_pos j with rfl | hjp
      · have hlo0 := hjz rfl
        subst hlo0
        have htc : t = c := by rw [HFZ.out]; simp
        subst htc
        have g1 : bits .or .u64 (0 : Int) (t : Int) = (t : Int) := by have := u64_or_nat 0 t (by omega) (by omega); simpa using this
        clear f2 f3 hjz
        go_wp2_with fail
        refine (check_is rb _).mono ?_
        rintro e w3 ⟨rfl, rfl⟩
        go_wp2_with fail
        exact ⟨⟨1, t, hi / 128, by go_num, rfl, by omega, HT8.out, HN9.out, .inr HH1.out, hr2, HJ.out.2.2.2.trans ho2 fun _ _ h => h⟩, by simp [intOf]⟩
      · clear hjz
        go_wp2_with fail
        refine (check_is rb _).mono ?_
        rintro e w3 ⟨rfl, rfl⟩
        go_wp2_with fail
        exact ⟨⟨j + 1, t, hi / 128, by go_num, rfl, by omega, HT8.out, HN9.out, .inr HH1.out, hr2, HJ.out.2.2.2.trans ho2 fun _ _ h => h⟩, by simp [intOf]; omega⟩

end Go.Proofs.YteddohgdegggnaaGreatDoor
