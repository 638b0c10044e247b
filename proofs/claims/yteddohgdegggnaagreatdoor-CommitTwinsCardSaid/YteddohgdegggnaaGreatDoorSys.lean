/- What is shown here, as far as 'new_sys': contracts of the program's functions, and the plain laws that they lean on; conditions: each theorem's own hypotheses. -/
import Derived.Test.YteddohgdegggnaaGreatDoorCalm
import Derived.Lib.SlBytesConst
namespace Go.HR
def outB (l : List ChgG) : List UInt8 := pageB 108 (ledgerB l)
theorem Good.mono {S : St} {os : List (List UInt8)} {st : List UInt8} {u c u' c' : Nat} (h : Good S os st u c) (hu : u ≤ u') (hc : c ≤ c') : Good S os st u' c' := ⟨h.inv, h.clean, h.on, h.armed, Nat.le_trans h.used hu, Nat.le_trans h.count hc⟩
theorem outB_len {l : List ChgG} (h : ∀ x ∈ l, x.OK) (hn : l.length ≤ 65536) : (outB l).length ≤ 123 * l.length + 19 := by
  have := ledgerB_len h hn
  unfold outB; rw [pageB_length]; omega
end Go.HR
namespace Go.Proofs.YteddohgdegggnaaGreatDoor
open Go.RowKit Go.HR
open Go.Proofs

/-- A store in which these lists of changes are committed, and nothing else is. -/
structure Sys (w : World) (b : Nat) (F : List Nat) (S : St) (ls : List (List ChgG)) (st : List UInt8) (u c : Nat) : Prop where
  at_ : StoreAt w b S F
  gl : Gl w
  up : ∀ q ∈ F, 8 ≤ q
  good : HR.Good S (ls.map outB) st u c
  ok : ∀ l ∈ ls, ∀ x ∈ l, x.OK
  short : ∀ l ∈ ls, l.length ≤ 8192

theorem Sys.keep {w w' : World} {b : Nat} {F : List Nat} {S : St} {ls : List (List ChgG)} {st : List UInt8} {u c : Nat} (h : Sys w b F S ls st u c) {G : Nat → Prop} (ho : Only G w w') (hG : ∀ q ∈ F, ¬ G q) (h8 : ∀ k, k < 8 → ¬ G k) : Sys w' b F S ls st u c :=
  ⟨h.at_.keep ho hG, h.gl.keep ho h8, h.up, h.good, h.ok, h.short⟩
theorem Sys.ext {w w' : World} {b : Nat} {F : List Nat} {S : St} {ls : List (List ChgG)} {st : List UInt8} {u c : Nat} (h : Sys w b F S ls st u c) (hx : Ext w w') : Sys w' b F S ls st u c := h.keep hx (fun _ _ => id) fun _ _ => id

theorem put_good {w : World} {b : Nat} {F : List Nat} {S : St} {ls : List (List ChgG)} {st : List UInt8} {u c : Nat} (h : Sys w b F S ls st u c) (n : Nat) (sv lv : Value) (st' : List UInt8) (l : List ChgG) (hn : n = ls.length + 1) (hk : ls.length < 125)
    (hs : Arg w F sv st'.length (by8 st')) (hl : w.ownsRow 0 61 10 lv l.length (l.flatMap ChgG.cells)) (hlf : ∀ k, lv.ownBlock = some k → k ∉ F) (hok : ∀ x ∈ l, x.OK) (hll : l.length ≤ 8192)
    (hu : u + (123 * l.length + 19) + st'.length + 19 ≤ S.room) (hc : c + 3 ≤ 500) :
    Calls Tryz.prog 8 #[.pointer (some ⟨b, 0, none⟩), .int .u64 n, sv, lv] w
      fun e w' => e = .returned (.int .i64 0) ∧ ∃ F', Sys w' b F' (S.commit ls.length (outB l) st').2 (ls ++ [l]) st' (u + (123 * l.length + 19) + st'.length + 19) (c + 3) ∧ Only (fun k => k ∈ F) w w' ∧ (∀ k ∈ F', k ∈ F ∨ w.heap.size ≤ k) ∧ (S.commit ls.length (outB l) st').2.room = S.room := by
  have hob := outB_len hok (by omega)
  have hgood := commit_good h.good (by rw [List.length_map]; exact hk) (outB l) st' (by omega) hc
  have hlen : (ls.map outB).length = ls.length := List.length_map _
  rw [hlen] at hgood
  obtain ⟨h0, hg', hr'⟩ := hgood
  have hm := h.good.inv.manIs
  rw [hlen] at hm
  refine (cput_is ls.length n sv lv st' l w h.at_ h.gl h.up (by rw [h.good.armed]; omega) hn hk h.good.inv.named hm hs hl hlf hok (by omega)).mono ?_
  rintro e w' ⟨rfl, hd⟩
  obtain ⟨F', q1, q2, q3, q4, q5⟩ := hd.meet h.gl h.up
  refine ⟨?_, F', ⟨q1, q4, q5, ?_, fun l' hl' => ?_, fun l' hl' => ?_⟩, q2, q3, hr'⟩
  · show Ending.returned (.int .i64 (S.commit ls.length (outB l) st').1) = _
    rw [h0]
  · rw [List.map_append]
    exact hg'.mono (by omega) (Nat.le_refl _)
  · rcases List.mem_append.1 hl' with h1 | h1
    · exact h.ok l' h1
    · rw [List.mem_singleton.1 h1]; exact hok
  · rcases List.mem_append.1 hl' with h1 | h1
    · exact h.short l' h1
    · rw [List.mem_singleton.1 h1]; exact hll

theorem put_any {w : World} {b : Nat} {F : List Nat} {S : St} {ls : List (List ChgG)} {st : List UInt8} {u c : Nat} (h : Sys w b F S ls st u c) (n : Nat) (sv lv : Value) (st' : List UInt8) (l : List ChgG) (hn : n = ls.length + 1) (hk : ls.length < 125)
    (hs : Arg w F sv st'.length (by8 st')) (hl : w.ownsRow 0 61 10 lv l.length (l.flatMap ChgG.cells)) (hlf : ∀ k, lv.ownBlock = some k → k ∉ F) (hok : ∀ x ∈ l, x.OK) (hll : l.length ≤ 8192)
    (hu : u + (123 * l.length + 19) + st'.length + 19 ≤ S.room) (hc : c + 3 ≤ 500) :
    Calls Tryz.prog 8 #[.pointer (some ⟨b, 0, none⟩), .int .u64 n, sv, lv] w
      fun e w' => e = .returned (.int .i64 0) ∧ ∃ S' F', Sys w' b F' S' (ls ++ [l]) st' (u + (123 * l.length + 19) + st'.length + 19) (c + 3) ∧ Only (fun k => k ∈ F) w w' ∧ (∀ k ∈ F', k ∈ F ∨ w.heap.size ≤ k) ∧ S'.room = S.room :=
  (put_good h n sv lv st' l hn hk hs hl hlf hok hll hu hc).mono fun _ _ ⟨h1, F', h2⟩ => ⟨h1, _, F', h2⟩

theorem recover_outs {S : St} {ls : List (List ChgG)} {st : List UInt8} (h : Inv S (ls.map outB) st) : ∀ (i : Nat) (l : List ChgG), ls[i]? = some l → ∀ f, get? S.l (Nm.out (i + 1)).name = some f → f.p = pageB 108 (ledgerB l) := by
  intro i l hl f hf
  have := h.outs i (outB l) (by rw [List.getElem?_map, hl]; rfl)
  rw [this] at hf
  cases hf
  rfl

theorem rec_good {w : World} {b : Nat} {F : List Nat} {S : St} {ls : List (List ChgG)} {st : List UInt8} {u c : Nat} (h : Sys w b F S ls st u c) (h0 : 0 < ls.length) :
    Calls Tryz.prog 11 #[.pointer (some ⟨b, 0, none⟩)] w
      fun e w' => ∃ pv lv, e = .returned (.tuple #[.int .u64 ls.length, pv, lv, .int .i64 0]) ∧ (∃ F', Sys w' b F' S ls st u c ∧ (∀ k ∈ F', k ∈ F ∨ w.heap.size ≤ k)) ∧ Only (fun k => k ∈ F) w w' ∧
        w'.ownsRow 0 5 1 pv st.length (by8 st) ∧ (∀ j, pv.ownBlock = some j → w.heap.size ≤ j) ∧
        w'.ownsRow 0 61 10 lv ls.flatten.length ((ls.flatten.map ChgG.canon).flatMap ChgG.cells) ∧ (∀ j, lv.ownBlock = some j → w.heap.size ≤ j) := by
  have hlen : (ls.map outB).length = ls.length := List.length_map _
  have hm := h.good.inv.manIs
  rw [hlen] at hm
  have hfew := h.good.inv.few
  rw [hlen] at hfew
  have hcl := h.good.clean
  rw [hlen] at hcl
  have hsw := sweep_clean_id h.good.inv.sorted h.good.inv.named hcl
  have hwhole := h.good.inv.whole (by rw [hlen]; exact h0)
  rw [hlen] at hwhole
  have hcode : S.recCode ls.length = 0 := (recCode_on h.good.on (by rw [hsw])).2.2 hwhole
  have hst : S.recSt ls.length = S := by unfold St.recSt; rw [h.good.on, hsw]; rfl
  refine (recover_is ls.length ls w h.at_ h.gl h.up (by rw [h.good.armed]; omega) hfew h.good.inv.named hm rfl (recover_outs h.good.inv) h.ok h.short).mono ?_
  rintro e w' ⟨pv, lv, hp⟩
  have hd := hp.did
  rw [hst] at hd
  obtain ⟨F', q1, q2, q3, q4, q5⟩ := hd.meet h.gl h.up
  obtain ⟨f, r1, r2, r3, r4, r5⟩ := hp.all hcode h0
  have hs := h.good.inv.state (by rw [hlen]; exact h0)
  rw [hlen, r1] at hs
  cases hs
  refine ⟨pv, lv, ?_, ⟨F', ⟨q1, q4, q5, h.good, h.ok, h.short⟩, q3⟩, q2, r2, r3, r4, r5⟩
  rw [hp.ret, hcode, if_pos rfl]

theorem new_sys {w w1 : World} {b room : Nat} (h : StoreAt w1 b ⟨[], room, 0, false⟩ [b]) (hx : Ext w w1) (hb : w.heap.size ≤ b) (hg : Gl w) : Sys w1 b [b] ⟨[], room, 0, false⟩ [] [] 0 0 :=
  ⟨h, hg.ext hx, fun q hq => by rw [List.mem_singleton.1 hq]; have := hg.base; omega, good_new room, fun l hl => (List.not_mem_nil hl).elim, fun l hl => (List.not_mem_nil hl).elim⟩

end Go.Proofs.YteddohgdegggnaaGreatDoor
namespace Go.HR
def chg0 (k : ByteArray) : ChgG := ⟨true, 0, k, 0, 0, ⟨0, 0, false, 0, 0⟩⟩
theorem chg0_ok (k : ByteArray) (h : k.toList.length ≤ 32) : (chg0 k).OK where
  rev := by simp [chg0]
  key := h
  s1 := by simp [chg0]
  s2 := by simp [chg0]
  f1 := by simp [chg0]
  f2 := by simp [chg0]
  a := ⟨by simp [chg0], by simp [chg0], by simp [chg0], by simp [chg0]⟩
  count := by simp [chg0]
end Go.HR
namespace Go.Proofs.YteddohgdegggnaaGreatDoor
open Go.RowKit Go.HR
open Go.Proofs

/-- A slice of one change that has just been laid. -/
theorem one_chg (w : World) (x : ChgG) {g : Nat} (hg : g = w.heap.size) : (w.alloc (.cells x.cells.toArray 61)).ownsRow 0 61 10 (.slice (some ⟨g, 0, none⟩) 1 1) [x].length ([x].flatMap ChgG.cells) := by
  subst hg
  have : [x].flatMap ChgG.cells = x.cells := by simp
  rw [this]
  exact ⟨rfl, .inr ⟨w.heap.size, 1, x.cells.toArray, rfl, Nat.zero_le _, Go.heap_alloc_new w _, Nat.le_refl _, by simp [maxLen], rfl, by simp [ChgG.cells, AggG.cells]⟩⟩
theorem one_byte (w : World) (x : UInt8) {g : Nat} (hg : g = w.heap.size) : Rd (w.alloc (.cells #[.int .u8 x.toNat] 5)) (.slice (some ⟨g, 0, none⟩) 1 1) [x].length (by8 [x]) := by
  subst hg
  refine .inr ⟨w.heap.size, 0, 1, rfl, Nat.le_refl _, by simp [maxLen], by simp, fun j u hu => ?_⟩
  cases j with
  | zero => simp [by8] at hu; subst hu; simp [World.cell?_alloc_new]
  | succ j => simp [by8] at hu

theorem marked_byte (w : World) (x : UInt8) : Rd (w.alloc (.cells #[.int .u8 x.toNat] 5 (1, 1 + 1))) (.slice (some ⟨w.heap.size, 0, none⟩) 1 1) [x].length (by8 [x]) := by
  refine .inr ⟨w.heap.size, 0, 1, rfl, Nat.le_refl _, by simp [maxLen], by simp, fun j u hu => ?_⟩
  cases j with
  | zero =>
    simp [by8] at hu; subst hu
    unfold World.cell?
    rw [show (w.alloc (.cells #[.int .u8 x.toNat] 5 (1, 1 + 1))).heap[w.heap.size]? = _ from Go.heap_alloc_new w _]
    rfl
  | succ j => simp [by8] at hu

set_option maxRecDepth 100000 in
set_option maxHeartbeats 4000000 in
theorem awake_is (w : World) (hg : Gl w) : Calls Tryz.prog 6 #[] w fun e w' => e = .returned (.bool true) ∧ Ext w w' := by
  have HG : Hid (Gl w) := hg
  clear hg
  go_enter Tryz.func6, Tryz.ntmps6
  go_wp2_with fail
  refine (new_is 65536 w (by omega) (by omega)).mono ?_
  rintro e w1 ⟨b, rfl, hst, hx1, hb1⟩
  have hs1 := new_sys hst hx1 hb1 HG.out
  have HS1 : Hid (Sys w1 b [b] ⟨[], 65536, 0, false⟩ [] [] 0 0) := hs1
  have HX1 : Hid (Ext w w1) := hx1
  have hbl : b < w1.heap.size := hst.lt b (by simp)
  clear hst hx1 hs1
  go_upto_region 4 with fail
  obtain ⟨wx, hwx⟩ : ∃ wx, wx = w1.alloc (.cells #[.bool true, .int .u64 0, .string ⟨#[120]⟩, .int .i64 0, .int .i64 0, .int .u64 0, .float .f64 0, .bool false, .float .f64 0, .float .f64 0] 61) := ⟨_, rfl⟩
  obtain ⟨wy, hwy⟩ : ∃ wy, wy = wx.alloc (.cells #[.bool true, .int .u64 0, .string ⟨#[121]⟩, .int .i64 0, .int .i64 0, .int .u64 0, .float .f64 0, .bool false, .float .f64 0, .float .f64 0] 61) := ⟨_, rfl⟩
  obtain ⟨gx, hgx⟩ : ∃ gx, gx = w1.heap.size := ⟨_, rfl⟩
  rw [← hwx, ← hwy, ← hgx]
  have hrx : wx.ownsRow 0 61 10 (.slice (some ⟨gx, 0, none⟩) 1 1) [chg0 ⟨#[120]⟩].length ([chg0 ⟨#[120]⟩].flatMap ChgG.cells) := by rw [hwx]; exact one_chg w1 (chg0 ⟨#[120]⟩) hgx
  have hsx : wx.heap.size = gx + 1 := by rw [hwx, hgx]; simp
  have hry : wy.ownsRow 0 61 10 (.slice (some ⟨gx + 1, 0, none⟩) 1 1) [chg0 ⟨#[121]⟩].length ([chg0 ⟨#[121]⟩].flatMap ChgG.cells) := by rw [hwy]; exact one_chg wx (chg0 ⟨#[121]⟩) hsx.symm
  have hsy : wy.heap.size = gx + 2 := by rw [hwy]; simp [hsx]
  have hxx : Ext w1 wx := hwx ▸ (Only.refl _ _).alloc _
  have hxy : Ext wx wy := hwy ▸ (Only.refl _ _).alloc _
  obtain ⟨gz, hgz⟩ : ∃ gz, gz = wy.heap.size := ⟨_, rfl⟩
  have kc : (convert 29 29 (.slice (some ⟨wy.heap.size, 0, none⟩) 1 1)).run Tryz.prog (wy.alloc (.cells #[.int .u8 97] 5)) = .ok (.slice (some ⟨wy.heap.size, 0, none⟩) 1 1) (wy.alloc (.cells #[.int .u8 97] 5 (1, 1 + 1))) := Lib.run_convert_bytes_const wy 29 5 #[.int .u8 97] 1 1 Tryz.underlying29 Tryz.underlying5
  have HRX : Hid _ := hrx
  have HRY : Hid _ := hry
  have HXY : Hid (Ext w1 wy) := hxx.thenExt hxy
  have hgb : b < gx := by omega
  have hmb : Rd (wy.alloc (.cells #[.int .u8 97] 5 (1, 1 + 1))) (.slice (some ⟨wy.heap.size, 0, none⟩) 1 1) [(97 : UInt8)].length (by8 [97]) := marked_byte wy 97
  have HMB : Hid _ := hmb
  have HXX : Hid (Ext wx wy) := hxy
  have HWXs : Hid (wx.heap.size = gx + 1) := hsx
  have HWYs : Hid (wy.heap.size = gx + 2) := hsy
  clear hrx hry hxx hxy hwx hwy hgx hmb hsx hsy hgz gz
  go_wp2_with fail
  obtain ⟨wz, hwz⟩ : ∃ wz, wz = wy.alloc (.cells #[.int .u8 97] 5 (1, 1 + 1)) := ⟨_, rfl⟩
  have hxz : Ext wy wz := hwz ▸ (Only.refl _ _).alloc _
  have hmb := HMB.out
  rw [← hwz] at hmb
  have HMB2 : Hid _ := hmb
  have hsz : wz.heap.size = gx + 3 := by rw [hwz]; simp [HWYs.out]
  have hcall : ∀ (W : World) Q, W = wz → Calls Tryz.prog 8 #[.pointer (some ⟨b, 0, none⟩), .int .u64 1, .slice (some ⟨wy.heap.size, 0, none⟩) 1 1, .slice (some ⟨gx, 0, none⟩) 1 1] wz Q → Calls Tryz.prog 8 #[.pointer (some ⟨b, 0, none⟩), .int .u64 1, .slice (some ⟨wy.heap.size, 0, none⟩) 1 1, .slice (some ⟨gx, 0, none⟩) 1 1] W Q := fun W Q e h => by rw [e]; exact h
  refine hcall _ _ hwz.symm ?_
  have HXZ : Hid (Ext wy wz) := hxz
  clear hcall hwz hxz hmb kc HMB
  refine (put_any (HS1.out.ext (HXY.out.thenExt HXZ.out)) 1 _ _ [97] [chg0 ⟨#[120]⟩] rfl (by decide) (Arg.of HMB2.out fun k hk hm => by simp [Value.ownBlock] at hk hm; have := HWYs.out; omega) (owns_ext HRX.out (HXX.out.thenExt HXZ.out)) (fun k hk hm => by simp [Value.ownBlock] at hk hm; omega)
    (fun x hx => by rw [List.mem_singleton.1 hx]; exact chg0_ok _ (by rw [show (⟨#[120]⟩ : ByteArray).toList = [120] from bytes_of [120]]; decide)) (by decide) (by decide) (by decide)).mono ?_
  rintro e w2 ⟨rfl, S2, F2, hs2, ho2, hf2, hr2⟩
  have HS2 : Hid (Sys w2 b F2 S2 [[chg0 ⟨#[120]⟩]] [97] 162 3) := hs2
  have hry := owns_keep (owns_ext HRY.out HXZ.out) ho2 fun k hk hm => by simp [Value.ownBlock] at hk hm; omega
  have HRY2 : Hid _ := hry
  have hsz2 := ho2.size
  have HX2 : Hid (Only (fun k => k ∈ [b]) w1 w2) := (Ext.to (HXY.out.thenExt HXZ.out)).trans ho2 fun _ _ h => h
  have HF2 : Hid (∀ k ∈ F2, k ∈ [b] ∨ wz.heap.size ≤ k) := hf2
  have HR2 : Hid (S2.room = 65536) := hr2
  have kc2 : (convert 29 29 (.slice (some ⟨w2.heap.size, 0, none⟩) 1 1)).run Tryz.prog (w2.alloc (.cells #[.int .u8 98] 5)) = .ok (.slice (some ⟨w2.heap.size, 0, none⟩) 1 1) (w2.alloc (.cells #[.int .u8 98] 5 (1, 1 + 1))) := Lib.run_convert_bytes_const w2 29 5 #[.int .u8 98] 1 1 Tryz.underlying29 Tryz.underlying5
  clear hs2 ho2 hf2 hr2 hry
  go_wp2_with fail
  have hx3 : Ext w2 (w2.alloc (.cells #[.int .u8 98] 5 (1, 1 + 1))) := (Only.refl _ _).alloc _
  have hmb3 : Rd (w2.alloc (.cells #[.int .u8 98] 5 (1, 1 + 1))) (.slice (some ⟨w2.heap.size, 0, none⟩) 1 1) [(98 : UInt8)].length (by8 [98]) := marked_byte w2 98
  obtain ⟨w3, hw3⟩ : ∃ w3, w3 = w2.alloc (.cells #[.int .u8 98] 5 (1, 1 + 1)) := ⟨_, rfl⟩
  rw [← hw3] at hx3 hmb3
  have hcall : ∀ (W : World) Q, W = w3 → Calls Tryz.prog 8 #[.pointer (some ⟨b, 0, none⟩), .int .u64 2, .slice (some ⟨w2.heap.size, 0, none⟩) 1 1, .slice (some ⟨gx + 1, 0, none⟩) 1 1] w3 Q → Calls Tryz.prog 8 #[.pointer (some ⟨b, 0, none⟩), .int .u64 2, .slice (some ⟨w2.heap.size, 0, none⟩) 1 1, .slice (some ⟨gx + 1, 0, none⟩) 1 1] W Q := fun W Q e h => by rw [e]; exact h
  refine hcall _ _ hw3.symm ?_
  have hblk : ∀ k ∈ F2, k < w2.heap.size := HS2.out.at_.lt
  have hne4 : ∀ k, (Value.slice (some ⟨gx + 1, 0, none⟩) 1 1).ownBlock = some k → k ∉ F2 := fun k hk hm => by
    simp [Value.ownBlock] at hk
    rcases HF2.out k hm with h | h
    · have := List.mem_singleton.1 h; omega
    · omega
  refine (put_any (HS2.out.ext hx3) 2 _ _ [98] [chg0 ⟨#[121]⟩] rfl (by decide) (Arg.of hmb3 fun k hk hm => by simp [Value.ownBlock] at hk; have := hblk k hm; omega) (owns_ext HRY2.out hx3) hne4
    (fun x hx => by rw [List.mem_singleton.1 hx]; exact chg0_ok _ (by rw [show (⟨#[121]⟩ : ByteArray).toList = [121] from bytes_of [121]]; decide)) (by decide) (by rw [HR2.out]; decide) (by decide)).mono ?_
  rintro e w4 ⟨rfl, S4, F4, hs4, ho4, hf4, hr4⟩
  have HS4 : Hid (Sys w4 b F4 S4 [[chg0 ⟨#[120]⟩], [chg0 ⟨#[121]⟩]] [98] 324 6) := hs4
  have HX4 : Hid (Only (fun k => k ∈ [b]) w1 w4) := (HX2.out.thenExt hx3).trans ho4 fun k hk hm => by
    rcases HF2.out k hm with h | h
    · exact h
    · have := (HXY.out.thenExt HXZ.out).size; omega
  have hsw1 := HX1.out.size
  have hswz := (HXY.out.thenExt HXZ.out).size
  have hsw3 := hx3.size
  have HF4 : Hid (∀ k ∈ F4, w.heap.size ≤ k) := fun k hk => by
    rcases hf4 k hk with h | h
    · rcases HF2.out k h with h | h
      · have := List.mem_singleton.1 h; omega
      · omega
    · omega
  have HE4 : Hid (Ext w w4) := HX1.out.trans HX4.out fun k hk hm => by have := List.mem_singleton.1 hm; omega
  clear hs4 ho4 hf4 hr4 hcall hw3 hx3 hmb3 kc2 hblk
  go_wp2_with fail
  refine (rec_good HS4.out (by decide)).mono ?_
  rintro e w5 ⟨pv, lv, he, _, ho5, hp5, hpf5, hl5, hlf5⟩
  obtain ⟨pa, pc, rfl, _, _⟩ := owns_shape hp5
  obtain ⟨la, lc, rfl, _, _⟩ := owns_shape hl5
  have he' : e = .returned (.tuple #[.int .u64 2, .slice pa 1 pc, .slice la 2 lc, .int .i64 0]) := he
  subst he'
  have hcv : (convert 29 9 (.slice pa 1 pc)).run Tryz.prog w5 = .ok (.string ⟨#[98]⟩) w5 := conv_rd (rd_of_owns hp5)
  obtain ⟨g, rfl⟩ : ∃ g, la = some ⟨g, 0, none⟩ := by
    rcases hl5.2 with ⟨_, e2⟩ | ⟨g, cap, cur, e1, _⟩
    · exact absurd e2 (by decide)
    · simp at e1; exact ⟨g, e1.1⟩
  have ck : w5.cell? ⟨g, 12, none⟩ = some (.string ⟨#[121]⟩) := by
    have := hl5.cells (g := g) rfl 12 (.string ⟨#[121]⟩) rfl
    rwa [Addr.add_lit, Nat.zero_add] at this
  have HO5 : Hid (Ext w w5) := HE4.out.trans ho5 fun k hk hm => by have := HF4.out k hm; omega
  clear he ho5 hp5 hpf5 hl5 hlf5
  go_wp2_with fail
  go_ret
  exact ⟨rfl, HO5.out⟩

end Go.Proofs.YteddohgdegggnaaGreatDoor
