/- What is shown here, as far as 'pageread_is': contracts of the program's functions, and the plain laws that they lean on; conditions: each theorem's own hypotheses. -/
import Derived.Test.YteddohgdegggnaaGreatDoorPage2
import Derived.BigQuiet
namespace Go.Proofs.YteddohgdegggnaaGreatDoor
open Go.RowKit Go.HR
open Go.Proofs

theorem results_tmp4 {fn : Func} {t u v x : Tmp} (h : fn.results = #[.tmp t, .tmp u, .tmp v, .tmp x]) (tmps : Array Value) (P : Program) (w : World) :
    (results fn tmps).run P w = .ok (.tuple #[tmps.getD t undef, tmps.getD u undef, tmps.getD v undef, tmps.getD x undef]) w := by
  simp [results, h]

theorem wrap_end {n : Nat} (h : n ≤ 1048576) : IntKind.i64.wrap (IntKind.i64.wrap (5 + (n : Int)) + 4) = ((9 + n : Nat) : Int) := by
  rw [IntKind.wrap_i64, IntKind.wrap_i64]; omega

theorem or_up (i b0 b1 : Nat) (h : b0 < 2 ^ i) (hl : b0 + b1 * 2 ^ i < 4294967296) : bits .or .u32 (b0 : Int) ((b1 : Int) * (2 ^ i : Nat)) = ((b0 + b1 * 2 ^ i : Nat) : Int) := by
  have e := u32_or_nat b0 (b1 * 2 ^ i) (by omega) (by omega)
  rw [Int.natCast_mul] at e
  rw [e, Nat.or_comm, nat_join i _ _ (Nat.mul_mod_left _ _) h, Nat.add_comm]

set_option maxRecDepth 100000 in
set_option maxHeartbeats 1000000 in
theorem number_is (n : Nat) (r : List UInt8) (v : Value) (w : World) (m : Nat) (h : Rd w v m (by8 (le4 n ++ r))) (hm : m = 4 + r.length) (hn : n < 4294967296) :
    Calls Tryz.prog 71 #[v] w fun e w' => e = .returned (.int .u32 n) ∧ ∃ q, w' = w.drewN q := by
  rcases h with ⟨_, h0, _⟩ | ⟨g, off, cap, rfl, h1, h2, h3, h4⟩
  · omega
  obtain ⟨b0, e0⟩ : ∃ b0, b0 = n % 256 := ⟨_, rfl⟩
  obtain ⟨b1, e1⟩ : ∃ b1, b1 = n / 256 % 256 := ⟨_, rfl⟩
  obtain ⟨b2, e2⟩ : ∃ b2, b2 = n / 65536 % 256 := ⟨_, rfl⟩
  obtain ⟨b3, e3⟩ : ∃ b3, b3 = n / 16777216 := ⟨_, rfl⟩
  have c0 : w.cell? ⟨g, off, none⟩ = some (.int .u8 b0) := h4 0 _ (by simp [by8, le4, e0])
  have c1 : w.cell? ⟨g, off + 1, none⟩ = some (.int .u8 b1) := h4 1 _ (by simp [by8, le4, e1])
  have c2 : w.cell? ⟨g, off + 2, none⟩ = some (.int .u8 b2) := h4 2 _ (by simp [by8, le4, e2])
  have c3 : w.cell? ⟨g, off + 3, none⟩ = some (.int .u8 b3) := h4 3 _ (by simp [by8, le4, e3]; omega)
  have l0 : b0 < 256 := by omega
  have l1 : b1 < 256 := by omega
  have l2 : b2 < 256 := by omega
  have l3 : b3 < 256 := by omega
  have HE : Hid (n = b0 + b1 * 256 + b2 * 65536 + b3 * 16777216) := by show n = _; omega
  have i0 : (0 : Int) < (m : Int) := by omega
  have i1 : (1 : Int) < (m : Int) := by omega
  have i2 : (2 : Int) < (m : Int) := by omega
  have i3 : (3 : Int) < (m : Int) := by omega
  clear e0 e1 e2 e3 h4 hm
  go_enter Tryz.func71, Tryz.ntmps71
  go_wp2_with fail
  go_quiet (fail)
  go_wp2
  go_ret
  refine ⟨?_, nq, rfl⟩
  have j1 : bits .or .u32 (b0 : Int) ((b1 : Int) * 256) = ((b0 + b1 * 256 : Nat) : Int) := or_up 8 b0 b1 l0 (by omega)
  have j2 : bits .or .u32 ((b0 + b1 * 256 : Nat) : Int) ((b2 : Int) * 65536) = ((b0 + b1 * 256 + b2 * 65536 : Nat) : Int) := or_up 16 _ b2 (by omega) (by omega)
  have j3 : bits .or .u32 ((b0 + b1 * 256 + b2 * 65536 : Nat) : Int) ((b3 : Int) * 16777216) = ((b0 + b1 * 256 + b2 * 65536 + b3 * 16777216 : Nat) : Int) := or_up 24 _ b3 (by omega) (by omega)
  rw [j1, j2, j3, ← HE.out]
  rfl

theorem _root_.Go.HR.Rd.drop {w : World} {g o n c i : Nat} {xs : List Value} (h : Rd w (.slice (some ⟨g, o, none⟩) n c) n xs) (hi : i ≤ n) : Rd w (.slice (some ⟨g, o + i, none⟩) (n - i) (c - i)) (n - i) (xs.drop i) := by
  rcases h with ⟨h1, _, _⟩ | ⟨g', off, cap, h0, h1, h2, h3, h4⟩
  · cases h1
  · cases h0
    exact .inr ⟨g, o + i, _, rfl, by omega, by omega, h3, fun j u hu => by
      rw [List.getElem?_drop] at hu
      have := h4 (i + j) u hu
      rwa [← Nat.add_assoc] at this⟩

/-- What Read answers of a page that is one. -/
def PageRead (w : World) (kind : UInt8) (l : List UInt8) (e : Ending) (w' : World) : Prop := ∃ v, e = .returned (.tuple #[.int .u8 kind.toNat, v, .int .i64 (9 + l.length : Nat), .int .i64 0]) ∧ NewRow 5 1 w l.length (by8 l) v w'

set_option maxRecDepth 100000 in
set_option maxHeartbeats 2000000 in
theorem pageread_is (kind : UInt8) (l : List UInt8) (v : Value) (w : World) (h : Rd w v (9 + l.length) (by8 (pageB kind l))) (hl : l.length ≤ 1048576) (ht : TableAt w 0) :
    Calls Tryz.prog 54 #[v, .int .i64 0] w (PageRead w kind l) := by
  rcases h with ⟨_, h0, _⟩ | ⟨g, off, cap, rfl, h1, h2, h3, h4⟩
  · omega
  have H : Hid (Rd w (.slice (some ⟨g, off, none⟩) (9 + l.length) cap) (9 + l.length) (by8 (pageB kind l))) := .inr ⟨g, off, cap, rfl, h1, h2, h3, h4⟩
  have HT : Hid (TableAt w 0) := ht
  have hk : w.cell? ⟨g, off + 4, none⟩ = some (.int .u8 kind.toNat) := h4 4 _ (by simp [by8, pageB, pageHead, le4])
  clear h4 ht
  go_enter Tryz.func54, Tryz.ntmps54
  have hpl : (pageHead kind l).length = 5 + l.length := pageHead_length kind l
  have hd1 : decide ((9 : Int) + (l.length : Int) < 0) = false := decide_eq_false (by omega)
  have hd2 : decide ((9 : Int) + (l.length : Int) < 9) = false := decide_eq_false (by omega)
  go_wp2_with fail
  refine (number_is l.length (kind :: l ++ le4 (crc (pageHead kind l))) _ w _ (by have := H.out; rwa [pageB, pageHead, List.append_assoc] at this) (by simp [le4_length]; omega) (by omega)).mono ?_
  rintro e w1 ⟨rfl, nq1, hw1⟩
  have hx1 : Ext w w1 := hw1 ▸ (Only.refl _ _).drewN nq1
  have HX1 : Hid (Ext w w1) := hx1
  have hk1 := hx1.cell hk
  clear hw1 hx1 hk
  have hrd1 := (H.out.ext HX1.out).take (m := 5 + l.length) (by omega)
  have ex1 : (by8 (pageB kind l)).take (5 + l.length) = by8 (pageHead kind l) := by rw [pageB, by8_append, List.take_left' (by rw [by8_length, hpl])]
  rw [ex1] at hrd1
  have hrd2 := (H.out.ext HX1.out).drop (i := 5 + l.length) (by omega)
  have ex2 : (by8 (pageB kind l)).drop (5 + l.length) = by8 (le4 (crc (pageHead kind l)) ++ []) := by rw [pageB, by8_append, List.drop_left' (by rw [by8_length, hpl]), List.append_nil]
  rw [ex2, show 9 + l.length - (5 + l.length) = 4 from by omega] at hrd2
  have HS : Hid (∀ wx, Ext w1 wx → Calls Tryz.prog 65 #[.slice (some ⟨g, off, none⟩) (5 + l.length) cap] wx fun e w' => e = .returned (.int .u32 (crc (pageHead kind l))) ∧ w' = wx) := fun wx hx =>
    (sum_is _ (pageHead kind l) wx (by rw [hpl]; exact hrd1.ext hx) (by rw [hpl]; omega) (TableAt.keep HT.out (HX1.out.thenExt hx) id)).mono fun e w' h => ⟨h.1, h.2.symm⟩
  have HN : Hid (∀ wx, Ext w1 wx → Calls Tryz.prog 71 #[.slice (some ⟨g, off + (5 + l.length), none⟩) 4 (cap - (5 + l.length))] wx fun e w' => e = .returned (.int .u32 (crc (pageHead kind l))) ∧ ∃ q, w' = wx.drewN q) := fun wx hx =>
    number_is _ [] _ wx 4 (hrd2.ext hx) rfl (crc_lt _)
  have b1 : (0 : Int) ≤ 5 + (l.length : Int) := by omega
  have b2 : (5 : Int) + (l.length : Int) ≤ (cap : Int) := by omega
  have b3 : (5 : Int) + (l.length : Int) ≤ ((9 + l.length : Nat) : Int) := by omega
  have b4 : ((5 : Int) + (l.length : Int)).toNat = 5 + l.length := by omega
  have b5 : 9 + l.length - (5 + l.length) = 4 := by omega
  have b6 : 5 + l.length ≤ cap := by omega
  clear hrd1 hrd2 ex1 ex2
  go_wp2_with fail
  go_quiet (first
    | (go_at_call 65; exact Calls.quiet_of_same (HS.out _ ((Only.refl _ _).drewN _)))
    | (go_at_call 71; exact Calls.quiet_of (HN.out _ ((Only.refl _ _).drewN _))))
  obtain ⟨w2, hw2⟩ : ∃ w2, w2 = w1.drewN nq := ⟨_, rfl⟩
  rw [← hw2]
  have hx2 : Ext w1 w2 := hw2 ▸ (Only.refl _ _).drewN nq
  have hk2 := hx2.cell hk1
  have HX2 : Hid (Ext w w2) := HX1.out.thenExt hx2
  have hrd3 := ((H.out.ext HX2.out).take (m := 5 + l.length) (by omega)).drop (i := 5) (by omega)
  have ex3 : ((by8 (pageB kind l)).take (5 + l.length)).drop 5 = by8 l := by
    rw [pageB, by8_append, List.take_left' (by rw [by8_length, hpl])]
    simp [pageHead, by8, le4]
  rw [ex3, show 5 + l.length - 5 = l.length from by omega] at hrd3
  have HCL : Hid (∀ wx, Ext w2 wx → Calls Tryz.prog 27 #[.slice (some ⟨g, off + 5, none⟩) l.length (cap - 5)] wx (NewBytes wx l)) := fun wx hx => clone_any _ l wx (hrd3.ext hx) (by omega)
  have b7 : 5 + l.length - 5 = l.length := by omega
  have b8 : (5 : Int) ≤ 5 + (l.length : Int) := by omega
  have b9 : 5 ≤ cap := by omega
  have b10 : (5 : Int) ≤ (cap : Int) := by omega
  have b11 : (4 : Int) < ((9 + l.length : Nat) : Int) := by omega
  have b12 : ¬ cap = 5 := by omega
  have b13 : (4 : Int) < 9 + (l.length : Int) := by omega
  have b14 : 4 < 9 + l.length := by omega
  clear hw2 hx2 hrd3 ex3 hk1
  go_wp2_with fail
  go_region_held3 (fun w' => w'.cell? ⟨g, off + 4, none⟩ = some (.int .u8 kind.toNat))
    (first | exact hk2 | exact hn.ext.cell hk2)
    (first | (go_at_call 27; refine (HCL.out _ ((Only.refl _ _).drew)).mono ?_; rintro e w3 ⟨v3, rfl, hn⟩))
  go_wp2_with fail
  (try simp only [Exit.inBlock, Exit.then])
  refine bodyPost_ret (results_tmp4 rfl _ _ _) rfl ?_
  have hw := wrap_end hl
  refine ⟨v3, ?_, hn.owns, HX2.out.thenExt hn.ext.ofDrew, fun k hk => ?_⟩
  · rw [← hw]; rfl
  · exact Nat.le_trans HX2.out.size (hn.fresh k hk)

end Go.Proofs.YteddohgdegggnaaGreatDoor
