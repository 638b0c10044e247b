/- What is shown here, as far as 'pagelay_is': contracts of the program's functions, and the plain laws that they lean on; conditions: each theorem's own hypotheses. -/
import Derived.Test.YteddohgdegggnaaGreatDoorPage
namespace Go.HR
/-- A page's bytes but its sum. -/
def pageHead (kind : UInt8) (l : List UInt8) : List UInt8 := le4 l.length ++ kind :: l
def pageB (kind : UInt8) (l : List UInt8) : List UInt8 := pageHead kind l ++ le4 (crc (pageHead kind l))
theorem le4_length (n : Nat) : (le4 n).length = 4 := rfl
theorem pageHead_length (kind : UInt8) (l : List UInt8) : (pageHead kind l).length = 5 + l.length := by simp [pageHead, le4_length]; omega
theorem pageB_length (kind : UInt8) (l : List UInt8) : (pageB kind l).length = 5 + l.length + 4 := by simp [pageB, pageHead_length, le4_length]
theorem crc_lt (l : List UInt8) : crc l < 4294967296 := by unfold crc; omega
end Go.HR
namespace Go.Proofs.YteddohgdegggnaaGreatDoor
open Go.RowKit Go.HR
open Go.Proofs

theorem TableAt.keep {F : Nat → Prop} {w w' : World} {g : Nat} (h : TableAt w g) (ho : Only F w w') (hF : ¬ F g) : TableAt w' g := fun i t ht => ho.cell (h i t ht) hF
theorem TableAt.lt {w : World} {g : Nat} (h : TableAt w g) : g < w.heap.size := World.block_lt_of_cell? w _ (h 0 0 rfl)

theorem NewRow.append {P : Program} {e size n m : Nat} {w w1 w' : World} {v v' : Value} {xs news : List Value} (h : NewRow e size w n xs v w1) (ha : Appended P e size v n xs w1 m news v' w') : NewRow e size w (n + m) (xs ++ news) v' w' :=
  ⟨ha.owns, h.ext.to.trans ha.only fun k hk e => by have := h.fresh k e; omega, fun k hk => (ha.fresh k hk).elim (h.fresh k) fun h1 => Nat.le_trans h.ext.size h1⟩
theorem NewRow.thenExt {e size n : Nat} {w w1 w' : World} {v : Value} {xs : List Value} (h : NewRow e size w n xs v w1) (hx : Ext w1 w') : NewRow e size w n xs v w' := ⟨owns_ext h.owns hx, h.ext.thenExt hx, h.fresh⟩
theorem _root_.Go.HR.Appended.nil_ext {P : Program} {e size m : Nat} {w w' : World} {v' : Value} {c : Nat} {news : List Value} (ha : Appended P e size (.slice none 0 c) 0 [] w m news v' w') : Ext w w' := ha.only.mono fun k _ e => by simp [Value.ownBlock] at e

set_option maxRecDepth 100000 in
set_option maxHeartbeats 1000000 in
theorem pagelay_is (kind : UInt8) (v : Value) (l : List UInt8) (w : World) (h : Rd w v l.length (by8 l)) (hl : l.length ≤ 1073741824) (ht : TableAt w 0) :
    Calls Tryz.prog 39 #[.slice none 0 0, .int .u8 kind.toNat, v] w (NewBytes w (pageB kind l)) := by
  obtain ⟨va, vc, rfl, hvl, hvm⟩ := h.shape
  obtain ⟨i0, hi, hz0, hz1, hz2⟩ := info_parts Tryz.infoB
  have H : Hid (Rd w (.slice va l.length vc) l.length (by8 l)) := h
  have HT : Hid (TableAt w 0) := ht
  clear h ht
  go_enter Tryz.func39, Tryz.ntmps39
  go_wp2_with fail
  refine (four_is l.length w (by omega)).mono ?_
  rintro e w1 ⟨v1, rfl, hn1⟩
  have hn1' : NewRow 5 1 w 4 (by8 (le4 l.length)) v1 w1 := hn1
  obtain ⟨a1, c1, rfl, _, _⟩ := owns_shape hn1'.owns
  have HN1 : Hid (NewRow 5 1 w 4 (by8 (le4 l.length)) (.slice a1 4 c1) w1) := hn1'
  clear hn1 hn1'
  go_wp2_with (at_builtin; refine wpList_append_any _ rfl _ _ 29 29 rfl 5 i0 (.int .u8 0) 1 1 Tryz.underlying29 hi hz0 hz1 hz2 rfl _ 4 _ rfl (owns_ext HN1.out.owns ((Only.refl _ _).alloc _)) _ rfl 1 _ (src_one Tryz.underlying29 _ _ rfl _ (by simp)) (by simp [maxLen]) (by omega) ?_)
  intro v2 w2 hap2 _
  have hn2 : NewRow _ _ _ 5 _ _ _ := (HN1.out.thenExt ((Only.refl _ _).alloc _)).append hap2
  obtain ⟨a2, c2, rfl, _, _⟩ := owns_shape hn2.owns
  have HN2 : Hid (NewRow 5 1 w 5 (by8 (le4 l.length) ++ [.int .u8 kind.toNat]) (.slice a2 5 c2) w2) := hn2
  clear hap2 hn2
  go_wp2_with (at_builtin; refine wpList_append_any _ rfl _ _ 29 29 rfl 5 i0 (.int .u8 0) 1 1 Tryz.underlying29 hi hz0 hz1 hz2 rfl _ 5 _ rfl HN2.out.owns _ rfl l.length _ ((H.out.ext HN2.out.ext).src Tryz.underlying29 (by simp [by8_length]) (by8_one l)) (by simp only [maxLen]; omega) (by omega) ?_)
  intro v3 w3 hap3 _
  have hn3 := HN2.out.append hap3
  obtain ⟨a3, c3, rfl, _, _⟩ := owns_shape hn3.owns
  have e3 : by8 (le4 l.length) ++ [.int .u8 kind.toNat] ++ by8 l = by8 (pageHead kind l) := by simp [pageHead, by8]
  rw [e3] at hn3
  have HN3 : Hid (NewRow 5 1 w (5 + l.length) (by8 (pageHead kind l)) (.slice a3 (5 + l.length) c3) w3) := hn3
  clear hap3 hn3 e3
  go_wp2_with (at_builtin; refine wpList_append_any _ rfl _ _ 29 29 rfl 5 i0 (.int .u8 0) 1 1 Tryz.underlying29 hi hz0 hz1 hz2 rfl _ 0 [] rfl (World.ownsRow_nil _ _ _ _) _ rfl (5 + l.length) _ ((rd_of_owns HN3.out.owns).src Tryz.underlying29 (by simp [by8_length, pageHead_length]) (by8_one _)) (by simp only [maxLen]; omega) (by omega) ?_)
  intro v4 w4 hap4 _
  have hn4 := NewRow.ofAppend hap4 HN3.out.ext fun k hk => by simp [Value.ownBlock] at hk
  have hx34 := hap4.nil_ext
  obtain ⟨a4, c4, rfl, _, _⟩ := owns_shape hn4.owns
  have HN4 : Hid (NewRow 5 1 w (5 + l.length) (by8 (pageHead kind l)) (.slice a4 (5 + l.length) c4) w4) := hn4
  clear hap4 hn4
  have hx04 : Ext w w4 := HN3.out.ext.thenExt hx34
  go_wp2_with fail
  refine (sum_is _ (pageHead kind l) w4 (by rw [pageHead_length]; exact (rd_of_owns HN3.out.owns).ext hx34) (by rw [pageHead_length]; omega) (TableAt.keep HT.out hx04 id)).mono ?_
  rintro e w5 ⟨rfl, rfl⟩
  go_wp2_with fail
  refine (four_is (crc (pageHead kind l)) w4 (crc_lt _)).mono ?_
  rintro e w5 ⟨v5, rfl, hn5⟩
  have hn5' : NewRow 5 1 w4 4 (by8 (le4 (crc (pageHead kind l)))) v5 w5 := hn5
  obtain ⟨a5, c5, rfl, _, _⟩ := owns_shape hn5'.owns
  have HN5 : Hid (NewRow 5 1 w4 4 (by8 (le4 (crc (pageHead kind l)))) (.slice a5 4 c5) w5) := hn5'
  clear hn5 hn5'
  go_wp2_with (at_builtin; refine wpList_append_any _ rfl _ _ 29 29 rfl 5 i0 (.int .u8 0) 1 1 Tryz.underlying29 hi hz0 hz1 hz2 rfl _ (5 + l.length) _ rfl (owns_ext HN4.out.owns HN5.out.ext) _ rfl 4 _ ((rd_of_owns HN5.out.owns).src Tryz.underlying29 (by simp [by8_length, le4_length]) (by8_one _)) (by simp only [maxLen]; omega) (by omega) ?_)
  intro v6 w6 hap6 _
  go_wp2
  go_ret
  have h8 := (HN4.out.thenExt HN5.out.ext).append hap6
  refine ⟨v6, rfl, ?_⟩
  rw [pageB_length, show by8 (pageB kind l) = by8 (pageHead kind l) ++ by8 (le4 (crc (pageHead kind l))) from by8_append _ _]
  exact h8

end Go.Proofs.YteddohgdegggnaaGreatDoor
