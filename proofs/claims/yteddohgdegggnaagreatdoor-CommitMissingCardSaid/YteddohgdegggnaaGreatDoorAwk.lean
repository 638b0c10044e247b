/- What is shown here, as far as 'awake_is': contracts of the program's functions, and the plain laws that they lean on; conditions: each theorem's own hypotheses. -/
import Derived.Test.YteddohgdegggnaaGreatDoorSys
import Derived.Lib.SlBytesConst
namespace Go.HR
def chg0 (k : ByteArray) : ChgG := ⟨true, 0, k, 0, 0, ⟨0, 0, false, 0, 0⟩⟩
theorem chg0_ok (k : ByteArray) (h : k.toList.length ≤ 32) : (chg0 k).OK where
  rev := by simp [chg0]
  key := h
  s1 := by simp [chg0]
  s2 := by simp [chg0]
  f1 := by simp [chg0]
  f2 := by simp [chg0]
  a := ⟨by simp [chg0], by simp [chg0], by simp [chg0], by simp [chg0]⟩
  count := by simp [chg0]
end Go.HR
namespace Go.Proofs.YteddohgdegggnaaGreatDoor
open Go.RowKit Go.HR
open Go.Proofs

/-- A slice of one change that has just been laid. -/
theorem one_chg (w : World) (x : ChgG) {g : Nat} (hg : g = w.heap.size) : (w.alloc (.cells x.cells.toArray 61)).ownsRow 0 61 10 (.slice (some ⟨g, 0, none⟩) 1 1) [x].length ([x].flatMap ChgG.cells) := by
  subst hg
  have : [x].flatMap ChgG.cells = x.cells := by simp
  rw [this]
  exact ⟨rfl, .inr ⟨w.heap.size, 1, x.cells.toArray, rfl, Nat.zero_le _, Go.heap_alloc_new w _, Nat.le_refl _, by simp [maxLen], rfl, by simp [ChgG.cells, AggG.cells]⟩⟩
theorem one_byte (w : World) (x : UInt8) {g : Nat} (hg : g = w.heap.size) : Rd (w.alloc (.cells #[.int .u8 x.toNat] 5)) (.slice (some ⟨g, 0, none⟩) 1 1) [x].length (by8 [x]) := by
  subst hg
  refine .inr ⟨w.heap.size, 0, 1, rfl, Nat.le_refl _, by simp [maxLen], by simp, fun j u hu => ?_⟩
  cases j with
  | zero => simp [by8] at hu; subst hu; simp [World.cell?_alloc_new]
  | succ j => simp [by8] at hu

theorem marked_byte (w : World) (x : UInt8) : Rd (w.alloc (.cells #[.int .u8 x.toNat] 5 (1, 1 + 1))) (.slice (some ⟨w.heap.size, 0, none⟩) 1 1) [x].length (by8 [x]) := by
  refine .inr ⟨w.heap.size, 0, 1, rfl, Nat.le_refl _, by simp [maxLen], by simp, fun j u hu => ?_⟩
  cases j with
  | zero =>
    simp [by8] at hu; subst hu
    unfold World.cell?
    rw [show (w.alloc (.cells #[.int .u8 x.toNat] 5 (1, 1 + 1))).heap[w.heap.size]? = _ from Go.heap_alloc_new w _]
    rfl
  | succ j => simp [by8] at hu

set_option maxRecDepth 100000 in
set_option maxHeartbeats 4000000 in
theorem awake_is (w : World) (hg : Gl w) : Calls Tryz.prog 6 #[] w fun e w' => e = .returned (.bool true) ∧ Ext w w' := by
  have HG : Hid (Gl w) := hg
  clear hg
  go_enter Tryz.func6, Tryz.ntmps6
  go_wp2_with fail
  refine (new_is 65536 w (by omega) (by omega)).mono ?_
  rintro e w1 ⟨b, rfl, hst, hx1, hb1⟩
  have hs1 := new_sys hst hx1 hb1 HG.out
  have HS1 : Hid (Sys w1 b [b] ⟨[], 65536, 0, false⟩ [] [] 0 0) := hs1
  have HX1 : Hid (Ext w w1) := hx1
  have hbl : b < w1.heap.size := hst.lt b (by simp)
  clear hst hx1 hs1
  go_upto_region 4 with fail
  obtain ⟨wx, hwx⟩ : ∃ wx, wx = w1.alloc (.cells #[.bool true, .int .u64 0, .string ⟨#[120]⟩, .int .i64 0, .int .i64 0, .int .u64 0, .float .f64 0, .bool false, .float .f64 0, .float .f64 0] 61) := ⟨_, rfl⟩
  obtain ⟨wy, hwy⟩ : ∃ wy, wy = wx.alloc (.cells #[.bool true, .int .u64 0, .string ⟨#[121]⟩, .int .i64 0, .int .i64 0, .int .u64 0, .float .f64 0, .bool false, .float .f64 0, .float .f64 0] 61) := ⟨_, rfl⟩
  obtain ⟨gx, hgx⟩ : ∃ gx, gx = w1.heap.size := ⟨_, rfl⟩
  rw [← hwx, ← hwy, ← hgx]
  have hrx : wx.ownsRow 0 61 10 (.slice (some ⟨gx, 0, none⟩) 1 1) [chg0 ⟨#[120]⟩].length ([chg0 ⟨#[120]⟩].flatMap ChgG.cells) := by rw [hwx]; exact one_chg w1 (chg0 ⟨#[120]⟩) hgx
  have hsx : wx.heap.size = gx + 1 := by rw [hwx, hgx]; simp
  have hry : wy.ownsRow 0 61 10 (.slice (some ⟨gx + 1, 0, none⟩) 1 1) [chg0 ⟨#[121]⟩].length ([chg0 ⟨#[121]⟩].flatMap ChgG.cells) := by rw [hwy]; exact one_chg wx (chg0 ⟨#[121]⟩) hsx.symm
  have hsy : wy.heap.size = gx + 2 := by rw [hwy]; simp [hsx]
  have hxx : Ext w1 wx := hwx ▸ (Only.refl _ _).alloc _
  have hxy : Ext wx wy := hwy ▸ (Only.refl _ _).alloc _
  obtain ⟨gz, hgz⟩ : ∃ gz, gz = wy.heap.size := ⟨_, rfl⟩
  have kc : (convert 29 29 (.slice (some ⟨wy.heap.size, 0, none⟩) 1 1)).run Tryz.prog (wy.alloc (.cells #[.int .u8 97] 5)) = .ok (.slice (some ⟨wy.heap.size, 0, none⟩) 1 1) (wy.alloc (.cells #[.int .u8 97] 5 (1, 1 + 1))) := Lib.run_convert_bytes_const wy 29 5 #[.int .u8 97] 1 1 Tryz.underlying29 Tryz.underlying5
  have HRX : Hid _ := hrx
  have HRY : Hid _ := hry
  have HXY : Hid (Ext w1 wy) := hxx.thenExt hxy
  have hgb : b < gx := by omega
  have hmb : Rd (wy.alloc (.cells #[.int .u8 97] 5 (1, 1 + 1))) (.slice (some ⟨wy.heap.size, 0, none⟩) 1 1) [(97 : UInt8)].length (by8 [97]) := marked_byte wy 97
  have HMB : Hid _ := hmb
  have HXX : Hid (Ext wx wy) := hxy
  have HWXs : Hid (wx.heap.size = gx + 1) := hsx
  have HWYs : Hid (wy.heap.size = gx + 2) := hsy
  clear hrx hry hxx hxy hwx hwy hgx hmb hsx hsy hgz gz
  go_wp2_with fail
  obtain ⟨wz, hwz⟩ : ∃ wz, wz = wy.alloc (.cells #[.int .u8 97] 5 (1, 1 + 1)) := ⟨_, rfl⟩
  have hxz : Ext wy wz := hwz ▸ (Only.refl _ _).alloc _
  have hmb := HMB.out
  rw [← hwz] at hmb
  have HMB2 : Hid _ := hmb
  have hsz : wz.heap.size = gx + 3 := by rw [hwz]; simp [HWYs.out]
  have hcall : ∀ (W : World) Q, W = wz → Calls Tryz.prog 8 #[.pointer (some ⟨b, 0, none⟩), .int .u64 1, .slice (some ⟨wy.heap.size, 0, none⟩) 1 1, .slice (some ⟨gx, 0, none⟩) 1 1] wz Q → Calls Tryz.prog 8 #[.pointer (some ⟨b, 0, none⟩), .int .u64 1, .slice (some ⟨wy.heap.size, 0, none⟩) 1 1, .slice (some ⟨gx, 0, none⟩) 1 1] W Q := fun W Q e h => by rw [e]; exact h
  refine hcall _ _ hwz.symm ?_
  have HXZ : Hid (Ext wy wz) := hxz
  clear hcall hwz hxz hmb kc HMB
  refine (put_any (HS1.out.ext (HXY.out.thenExt HXZ.out)) 1 _ _ [97] [chg0 ⟨#[120]⟩] rfl (by decide) HMB2.out (fun k hk hm => by simp [Value.ownBlock] at hk hm; have := HWYs.out; omega) (owns_ext HRX.out (HXX.out.thenExt HXZ.out)) (fun k hk hm => by simp [Value.ownBlock] at hk hm; omega)
    (fun x hx => by rw [List.mem_singleton.1 hx]; exact chg0_ok _ (by rw [show (⟨#[120]⟩ : ByteArray).toList = [120] from bytes_of [120]]; decide)) (by decide) (by decide) (by decide)).mono ?_
  rintro e w2 ⟨rfl, S2, F2, hs2, ho2, hf2, hr2⟩
  have HS2 : Hid (Sys w2 b F2 S2 [[chg0 ⟨#[120]⟩]] [97] 162 3) := hs2
  have hry := owns_keep (owns_ext HRY.out HXZ.out) ho2 fun k hk hm => by simp [Value.ownBlock] at hk hm; omega
  have HRY2 : Hid _ := hry
  have hsz2 := ho2.size
  have HX2 : Hid (Only (fun k => k ∈ [b]) w1 w2) := (Ext.to (HXY.out.thenExt HXZ.out)).trans ho2 fun _ _ h => h
  have HF2 : Hid (∀ k ∈ F2, k ∈ [b] ∨ wz.heap.size ≤ k) := hf2
  have HR2 : Hid (S2.room = 65536) := hr2
  have kc2 : (convert 29 29 (.slice (some ⟨w2.heap.size, 0, none⟩) 1 1)).run Tryz.prog (w2.alloc (.cells #[.int .u8 98] 5)) = .ok (.slice (some ⟨w2.heap.size, 0, none⟩) 1 1) (w2.alloc (.cells #[.int .u8 98] 5 (1, 1 + 1))) := Lib.run_convert_bytes_const w2 29 5 #[.int .u8 98] 1 1 Tryz.underlying29 Tryz.underlying5
  clear hs2 ho2 hf2 hr2 hry
  go_wp2_with fail
  have hx3 : Ext w2 (w2.alloc (.cells #[.int .u8 98] 5 (1, 1 + 1))) := (Only.refl _ _).alloc _
  have hmb3 : Rd (w2.alloc (.cells #[.int .u8 98] 5 (1, 1 + 1))) (.slice (some ⟨w2.heap.size, 0, none⟩) 1 1) [(98 : UInt8)].length (by8 [98]) := marked_byte w2 98
  obtain ⟨w3, hw3⟩ : ∃ w3, w3 = w2.alloc (.cells #[.int .u8 98] 5 (1, 1 + 1)) := ⟨_, rfl⟩
  rw [← hw3] at hx3 hmb3
  have hcall : ∀ (W : World) Q, W = w3 → Calls Tryz.prog 8 #[.pointer (some ⟨b, 0, none⟩), .int .u64 2, .slice (some ⟨w2.heap.size, 0, none⟩) 1 1, .slice (some ⟨gx + 1, 0, none⟩) 1 1] w3 Q → Calls Tryz.prog 8 #[.pointer (some ⟨b, 0, none⟩), .int .u64 2, .slice (some ⟨w2.heap.size, 0, none⟩) 1 1, .slice (some ⟨gx + 1, 0, none⟩) 1 1] W Q := fun W Q e h => by rw [e]; exact h
  refine hcall _ _ hw3.symm ?_
  have hblk : ∀ k ∈ F2, k < w2.heap.size := HS2.out.at_.lt
  have hne4 : ∀ k, (Value.slice (some ⟨gx + 1, 0, none⟩) 1 1).ownBlock = some k → k ∉ F2 := fun k hk hm => by
    simp [Value.ownBlock] at hk
    rcases HF2.out k hm with h | h
    · have := List.mem_singleton.1 h; omega
    · omega
  refine (put_any (HS2.out.ext hx3) 2 _ _ [98] [chg0 ⟨#[121]⟩] rfl (by decide) hmb3 (fun k hk hm => by simp [Value.ownBlock] at hk; have := hblk k hm; omega) (owns_ext HRY2.out hx3) hne4
    (fun x hx => by rw [List.mem_singleton.1 hx]; exact chg0_ok _ (by rw [show (⟨#[121]⟩ : ByteArray).toList = [121] from bytes_of [121]]; decide)) (by decide) (by rw [HR2.out]; decide) (by decide)).mono ?_
  rintro e w4 ⟨rfl, S4, F4, hs4, ho4, hf4, hr4⟩
  have HS4 : Hid (Sys w4 b F4 S4 [[chg0 ⟨#[120]⟩], [chg0 ⟨#[121]⟩]] [98] 324 6) := hs4
  have HX4 : Hid (Only (fun k => k ∈ [b]) w1 w4) := (HX2.out.thenExt hx3).trans ho4 fun k hk hm => by
    rcases HF2.out k hm with h | h
    · exact h
    · have := (HXY.out.thenExt HXZ.out).size; omega
  have hsw1 := HX1.out.size
  have hswz := (HXY.out.thenExt HXZ.out).size
  have hsw3 := hx3.size
  have HF4 : Hid (∀ k ∈ F4, w.heap.size ≤ k) := fun k hk => by
    rcases hf4 k hk with h | h
    · rcases HF2.out k h with h | h
      · have := List.mem_singleton.1 h; omega
      · omega
    · omega
  have HE4 : Hid (Ext w w4) := HX1.out.trans HX4.out fun k hk hm => by have := List.mem_singleton.1 hm; omega
  clear hs4 ho4 hf4 hr4 hcall hw3 hx3 hmb3 kc2 hblk
  go_wp2_with fail
  refine (rec_good HS4.out (by decide)).mono ?_
  rintro e w5 ⟨pv, lv, he, _, ho5, hp5, hpf5, hl5, hlf5⟩
  obtain ⟨pa, pc, rfl, _, _⟩ := owns_shape hp5
  obtain ⟨la, lc, rfl, _, _⟩ := owns_shape hl5
  have he' : e = .returned (.tuple #[.int .u64 2, .slice pa 1 pc, .slice la 2 lc, .int .i64 0]) := he
  subst he'
  have hcv : (convert 29 9 (.slice pa 1 pc)).run Tryz.prog w5 = .ok (.string ⟨#[98]⟩) w5 := conv_rd (rd_of_owns hp5)
  obtain ⟨g, rfl⟩ : ∃ g, la = some ⟨g, 0, none⟩ := by
    rcases hl5.2 with ⟨_, e2⟩ | ⟨g, cap, cur, e1, _⟩
    · exact absurd e2 (by decide)
    · simp at e1; exact ⟨g, e1.1⟩
  have ck : w5.cell? ⟨g, 12, none⟩ = some (.string ⟨#[121]⟩) := by
    have := hl5.cells (g := g) rfl 12 (.string ⟨#[121]⟩) rfl
    rwa [Addr.add_lit, Nat.zero_add] at this
  have HO5 : Hid (Ext w w5) := HE4.out.trans ho5 fun k hk hm => by have := HF4.out k hm; omega
  clear he ho5 hp5 hpf5 hl5 hlf5
  go_wp2_with fail
  go_ret
  exact ⟨rfl, HO5.out⟩

end Go.Proofs.YteddohgdegggnaaGreatDoor
