/- What is shown here, as far as 'read1_is': contracts of the program's functions, and the plain laws that they lean on; conditions: each theorem's own hypotheses. -/
import Derived.Test.YteddohgdegggnaaGreatDoorTry
namespace Go.HR
/-- A change. -/
structure ChgG where
  put : Bool
  rev : Nat
  key : ByteArray
  start : Int
  fin : Int
  a : AggG
def ChgG.cells (c : ChgG) : List Value := [.bool c.put, .int .u64 c.rev, .string c.key, .int .i64 c.start, .int .i64 c.fin] ++ c.a.cells
/-- A change that can be kept. -/
structure ChgG.OK (c : ChgG) : Prop where
  rev : c.rev ≤ 1099511627776
  key : c.key.toList.length ≤ 32
  s1 : -9223372036854775808 ≤ c.start
  s2 : c.start < 9223372036854775808
  f1 : -9223372036854775808 ≤ c.fin
  f2 : c.fin < 9223372036854775808
  a : c.a.OK
  count : c.a.count ≤ 1099511627776
def ChgG.canon (c : ChgG) : ChgG := { c with a := c.a.canon }
def chgB (c : ChgG) : List UInt8 := UInt8.ofNat c.put.toNat :: (leb c.rev ++ (leb c.key.toList.length ++ (c.key.toList ++ (leb (zig c.start) ++ (leb (zig c.fin) ++ aggB c.a)))))
def ledgerB (l : List ChgG) : List UInt8 := leb l.length ++ l.flatMap chgB
end Go.HR
namespace Go.Proofs.YteddohgdegggnaaGreatDoor
open Go.RowKit Go.HR
open Go.Proofs

attribute [local go_sem] run_store_float

theorem set5 {w : World} {bx : Nat} {x : ChgG} {u5 u6 u7 u8 u9 : Value} {T : TypeId} (h : w.heap[bx]? = some (.cells #[.bool x.put, .int .u64 x.rev, .string x.key, .int .i64 x.start, .int .i64 x.fin, u5, u6, u7, u8, u9] T (0, 0))) :
    (((((w.setCell ⟨bx, 5, none⟩ (.int .u64 x.a.count)).setCell ⟨bx, 6, none⟩ (.float .f64 (HR.canon x.a.sum))).setCell ⟨bx, 7, none⟩ (.bool x.a.over)).setCell ⟨bx, 8, none⟩ (.float .f64 (HR.canon x.a.min))).setCell ⟨bx, 9, none⟩ (.float .f64 (HR.canon x.a.max))).heap[bx]? = some (.cells x.canon.cells.toArray T (0, 0)) :=
  heap_setCell_same _ bx 9 _ _ (.float .f64 (HR.canon x.a.max)) (heap_setCell_same _ bx 8 _ _ (.float .f64 (HR.canon x.a.min)) (heap_setCell_same _ bx 7 _ _ (.bool x.a.over) (heap_setCell_same _ bx 6 _ _ (.float .f64 (HR.canon x.a.sum)) (heap_setCell_same _ bx 5 _ _ (.int .u64 x.a.count) h))))

theorem src_cells {P : Program} {tx e' : TypeId} (hk : P.underlying tx = some (.slice e')) (w : World) (xs : List Value) (h1 : ∀ u ∈ xs, u.oneCell' = true) (T : TypeId) {size g : Nat} (hl : xs.length = size) (hg : g = w.heap.size) :
    Src P size tx (.slice (some ⟨g, 0, none⟩) 1 1) 1 xs (w.alloc (.cells xs.toArray T)) := by
  subst hg
  refine Src.ofSlice _ hk _ 1 1 xs (by omega) (fun j u hu => ?_) h1
  have hh : (w.alloc (.cells xs.toArray T)).heap[w.heap.size]? = some (.cells xs.toArray T (0, 0)) := Go.heap_alloc_new w _
  have e : (⟨w.heap.size, 0, none⟩ : Addr).add j = ⟨w.heap.size, j, none⟩ := by rw [Addr.add_lit, Nat.zero_add]
  rw [e]
  unfold World.cell?
  simp only [hh]
  simpa using hu

theorem led_round {P : Program} {w wr w10 w11 w12 : World} {rb gb c bx k : Nat} {l : List ChgG} {x : ChgG} {v0 v' : Value} {o : Obj} {tl : List UInt8} (hx : l[k]? = some x) (hj : Only (fun k => k = c ∨ k = rb) w wr) (ho10 : Only (fun k => k = rb ∨ k = bx) wr w10) (ho11 : Only (fun k => k = bx) w10 w11)
    (hbw : wr.heap.size ≤ bx) (hr10 : RdrAt w10 rb gb tl) (htl : tl = (l.drop (k + 1)).flatMap chgB) (hcb : c < w.heap.size) (hrb : rb < w.heap.size) (hgb : gb < w.heap.size) (hcr : c ≠ rb) (hcg : c ≠ gb)
    (hfr0 : ∀ k, v0.ownBlock = some k → w.heap.size ≤ k) (happ : Appended P 61 10 v0 k (((l.map ChgG.canon).take k).flatMap ChgG.cells) (w11.alloc o) 1 x.canon.cells v' w12)
    (hvc : w12.heap[c]? = some (.cells #[v0] 33 (0, 0))) :
    RdrAt (w12.setCell ⟨c, 0, none⟩ v') rb gb ((l.drop (k + 1)).flatMap chgB) ∧ (∃ v, (w12.setCell ⟨c, 0, none⟩ v').heap[c]? = some (.cells #[v] 33 (0, 0)) ∧ (w12.setCell ⟨c, 0, none⟩ v').ownsRow 0 61 10 v (k + 1) (((l.take (k + 1)).map ChgG.canon).flatMap ChgG.cells) ∧ ∀ k, v.ownBlock = some k → w.heap.size ≤ k) ∧ Only (fun k => k = c ∨ k = rb) w (w12.setCell ⟨c, 0, none⟩ v') := by
  rw [← List.map_take] at happ
  have s1 := hj.size
  have s2 := ho10.size
  have s3 := ho11.size
  have hx0 : Ext w11 (w11.alloc o) := (Only.refl _ _).alloc _
  have s4 := hx0.size
  have hset : Only (fun k => k = c) w12 (w12.setCell ⟨c, 0, none⟩ v') := only_set (Only.refl _ _) _ _
  have ho12 : Only (fun k => v0.ownBlock = some k) w11 w12 := hx0.thenOnly happ.only
  have hfr' : ∀ k, v'.ownBlock = some k → w.heap.size ≤ k := fun j hj' => (happ.fresh j hj').elim (hfr0 j) fun h => by omega
  have htake : ((l.take (k + 1)).map ChgG.canon).flatMap ChgG.cells = ((l.take k).map ChgG.canon).flatMap ChgG.cells ++ x.canon.cells := by
    obtain ⟨hlt, he⟩ := List.getElem?_eq_some_iff.1 hx
    rw [List.take_succ_eq_append_getElem hlt, he]
    simp
  refine ⟨?_, ⟨v', heap_setCell_same w12 c 0 _ _ v' hvc, ?_, hfr'⟩, ?_⟩
  · rw [← htl]
    have r1 := hr10.keep ho11 (by omega) (by omega)
    have r2 := r1.keep ho12 (fun e => by have := hfr0 _ e; omega) (fun e => by have := hfr0 _ e; omega)
    exact r2.keep hset (fun e => hcr e.symm) (fun e => hcg e.symm)
  · rw [htake]
    exact owns_keep happ.owns hset fun j hj' e => by have := hfr' j hj'; omega
  · have t1 : Only (fun k => k = c ∨ k = rb) w w10 := hj.trans ho10 fun j hj' e => e.elim .inr fun e => by omega
    have t2 : Only (fun k => k = c ∨ k = rb) w w11 := t1.trans ho11 fun j hj' e => by omega
    have t3 : Only (fun k => k = c ∨ k = rb) w w12 := t2.trans ho12 fun j hj' e => by have := hfr0 j e; omega
    exact t3.trans hset fun j _ e => .inl e

theorem Tryz.infoChg : (Tryz.prog.info? 61).map (fun i => (i.zero, i.size, i.bytes)) = some (some (.agg #[.bool false, .int .u64 0, .string ByteArray.empty, .int .i64 0, .int .i64 0, .int .u64 0, .float .f64 0, .bool false, .float .f64 0, .float .f64 0]), 10, 88) := by kernel_rfl
theorem chg_one (x : ChgG) : ∀ u ∈ x.cells, u.oneCell' = true := by
  intro u hu
  simp only [ChgG.cells, AggG.cells, List.cons_append, List.nil_append, List.mem_cons, List.not_mem_nil, or_false] at hu
  rcases hu with rfl | rfl | rfl | rfl | rfl | rfl | rfl | rfl | rfl | rfl <;> rfl

set_option maxRecDepth 100000 in
set_option maxHeartbeats 4000000 in
theorem read1_is (rb gb c : Nat) (l : List ChgG) (w : World) (h : RdrAt w rb gb (ledgerB l)) (hl : ∀ x ∈ l, x.OK) (hn : l.length ≤ 1048576)
    (hc : w.heap[c]? = some (.cells #[.slice none 0 0] 33 (0, 0))) (hcr : c ≠ rb) (hcg : c ≠ gb) :
    Calls Tryz.prog 44 #[.pointer (some ⟨rb, 0, none⟩), .pointer (some ⟨c, 0, none⟩)] w fun e w' => e = .returned (.tuple #[]) ∧ RdrAt w' rb gb [] ∧
      (∃ v, w'.heap[c]? = some (.cells #[v] 33 (0, 0)) ∧ w'.ownsRow 0 61 10 v l.length ((l.map ChgG.canon).flatMap ChgG.cells) ∧ ∀ k, v.ownBlock = some k → w.heap.size ≤ k) ∧ Only (fun k => k = c ∨ k = rb) w w' := by
  obtain ⟨_, hrb0, _⟩ := h.ex
  have HRB : Hid (rb < w.heap.size) := lt_of_block hrb0
  have HGB : Hid (gb < w.heap.size) := h.lt
  have HCB : Hid (c < w.heap.size) := lt_of_block hc
  obtain ⟨i0, hi, hz0, hz1, hz2⟩ := info_parts Tryz.infoChg
  clear hrb0
  go_enter Tryz.func44, Tryz.ntmps44
  go_wp2_with fail
  refine (ruint_is rb gb l.length 1099511627776 (l.flatMap chgB) w h (by omega) (by omega) (by omega)).mono ?_
  rintro e w1 ⟨rfl, hr1, ho1⟩
  have hc1 := ho1.heap hc hcr
  have H0 : Hid (Only (fun k => k = rb) w w1) := ho1
  have HR1 : Hid (RdrAt w1 rb gb (l.flatMap chgB)) := hr1
  have HC1 : Hid (w1.heap[c]? = some (.cells #[.slice none 0 0] 33 (0, 0))) := hc1
  clear hc1 hr1 ho1 h hc
  go_wp2_with fail
  go_loopw [7] (fun i wr => ∃ k : Nat, i = .int .u64 k ∧ k ≤ l.length ∧ Hid (RdrAt wr rb gb ((l.drop k).flatMap chgB) ∧ (∃ v, wr.heap[c]? = some (.cells #[v] 33 (0, 0)) ∧ wr.ownsRow 0 61 10 v k (((l.take k).map ChgG.canon).flatMap ChgG.cells) ∧ ∀ k, v.ownBlock = some k → w.heap.size ≤ k) ∧ Only (fun k => k = c ∨ k = rb) w wr)) (fun i _ => l.length - (intOf i).toNat)
  case atStart => exact ⟨0, rfl, Nat.zero_le _, by simpa using HR1.out, ⟨_, HC1.out, ⟨rfl, .inl ⟨rfl, rfl⟩⟩, fun k hk => by simp [Value.ownBlock] at hk⟩, H0.out.mono fun _ _ e => .inr e⟩
  case round =>
    obtain ⟨k, rfl, hk, HJ⟩ := hrel
    rename World => wr
    by_cases hlt : k < l.length
    · obtain ⟨x, hx⟩ : ∃ x, l[k]? = some x := ⟨_, List.getElem?_eq_getElem hlt⟩
      have hok := hl x (List.mem_of_getElem? hx)
      obtain ⟨hlt', hx'⟩ := List.getElem?_eq_some_iff.1 hx
      have hdr : (l.drop k).flatMap chgB = chgB x ++ (l.drop (k + 1)).flatMap chgB := by rw [List.drop_eq_getElem_cons hlt', hx']; rfl
      obtain ⟨tl, htl⟩ : ∃ tl, tl = (l.drop (k + 1)).flatMap chgB := ⟨_, rfl⟩
      have HTL : Hid (tl = (l.drop (k + 1)).flatMap chgB) := htl
      have hr0 := HJ.out.1
      rw [hdr, ← htl, chgB] at hr0
      simp only [List.cons_append, List.append_assoc] at hr0
      have HR0 : Hid (RdrAt wr rb gb (UInt8.ofNat x.put.toNat :: (leb x.rev ++ (leb x.key.toList.length ++ (x.key.toList ++ (leb (zig x.start) ++ (leb (zig x.fin) ++ (aggB x.a ++ tl)))))))) := hr0
      have HX : Hid (l[k]? = some x) := hx
      have hpn : (UInt8.ofNat x.put.toNat).toNat = x.put.toNat := by cases x.put <;> rfl
      have hp2 : decide (((x.put.toNat : Nat) : Int) < 2) = true := by cases x.put <;> rfl
      have hp1 : (((x.put.toNat : Nat) : Int) == 1) = x.put := by cases x.put <;> rfl
      have hp256 : x.put.toNat < 2 := by cases x.put <;> decide
      clear hr0 hdr htl hx hx' hlt'
      go_wp2_with fail
      refine (byte_is rb gb _ _ wr HR0.out).mono ?_
      rintro e w2 ⟨rfl, hr2, ho2⟩
      rw [hpn]
      go_wp2_with fail
      refine (check_is rb w2).mono ?_
      rintro e w3 ⟨rfl, rfl⟩
      go_wp2_with fail
      refine (ruint_is rb gb x.rev 1099511627776 _ w2 hr2 (by have := hok.rev; omega) hok.rev (by omega)).mono ?_
      rintro e w3 ⟨rfl, hr3, ho3⟩
      go_wp2_with fail
      obtain ⟨bx, hbx⟩ : ∃ bx, bx = w3.heap.size := ⟨_, rfl⟩
      obtain ⟨w4, hw4⟩ : ∃ w4, w4 = w3.alloc (.cells #[.bool x.put, .int .u64 x.rev, .string { data := #[] }, .int .i64 0, .int .i64 0, .int .u64 0, .float .f64 0, .bool false, .float .f64 0, .float .f64 0] 61) := ⟨_, rfl⟩
      have hx4 : Ext w3 w4 := hw4 ▸ (Only.refl _ _).alloc _
      have hb4 : w4.heap[bx]? = some (.cells #[.bool x.put, .int .u64 x.rev, .string { data := #[] }, .int .i64 0, .int .i64 0, .int .u64 0, .float .f64 0, .bool false, .float .f64 0, .float .f64 0] 61 (0, 0)) := by rw [hw4, hbx]; exact Go.heap_alloc_new w3 _
      rw [← hw4, ← hbx]
      have hs2 := ho2.size
      have hs3 := ho3.size
      obtain ⟨_, hrh, _⟩ := HR0.out.ex
      have hrlt := lt_of_block hrh
      have hglt := HR0.out.lt
      obtain ⟨v0, hv0, hown0, hfr0⟩ := HJ.out.2.1
      have hclt := lt_of_block hv0
      have hbr : bx ≠ rb := by omega
      have hbg : bx ≠ gb := by omega
      have hbc : bx ≠ c := by omega
      have HBW : Hid (wr.heap.size ≤ bx) := by show _ ≤ _; omega
      have HO4 : Hid (Only (fun k => k = rb) wr w4) := (ho2.trans ho3 fun _ _ h => h).thenExt hx4
      have hr4 := hr3.ext hx4
      clear hw4 hbx hx4 ho2 ho3 hr3 hr2 hs2 hs3 hrlt hglt hclt hrh hv0 hown0 hfr0
      refine (rtext_is rb gb 32 x.key _ w4 hr4 hok.key (by omega)).mono ?_
      rintro e w5 ⟨rfl, hr5, ho5⟩
      have hb5 := ho5.heap hb4 hbr
      have c52 : w5.cell? ⟨bx, 2, none⟩ = some (.string { data := #[] }) := by simp [World.cell?, hb5]
      have z52 : w5.frozen? ⟨bx, 2, none⟩ = false := by simp [World.frozen?, hb5]
      have HB5 : Hid (w5.heap[bx]? = some (.cells #[.bool x.put, .int .u64 x.rev, .string { data := #[] }, .int .i64 0, .int .i64 0, .int .u64 0, .float .f64 0, .bool false, .float .f64 0, .float .f64 0] 61 (0, 0))) := hb5
      have HO5 : Hid (Only (fun k => k = rb) wr w5) := HO4.out.trans ho5 fun _ _ h => h
      clear hb5 hb4 hr4 ho5
      go_wp2_with fail
      obtain ⟨w6, hw6⟩ : ∃ w6, w6 = w5.setCell ⟨bx, 2, none⟩ (.string x.key) := ⟨_, rfl⟩
      rw [← hw6]
      have ho6 : Only (fun k => k = bx) w5 w6 := hw6 ▸ only_set (Only.refl _ _) _ _
      have hb6 := heap_setCell_same w5 bx 2 _ _ (.string x.key) HB5.out
      rw [← hw6] at hb6
      have hr6 := hr5.keep ho6 (fun e => hbr e.symm) (fun e => hbg e.symm)
      have hO6 : Only (fun k => k = rb ∨ k = bx) wr w6 := (HO5.out.mono fun _ _ e => .inl e).trans (ho6.mono fun _ _ e => .inr e) fun _ _ h => h
      clear hw6 ho6 hr5 c52 z52
      refine (rint_is rb gb x.start _ w6 hr6 hok.s1 hok.s2).mono ?_
      rintro e w7 ⟨rfl, hr7, ho7⟩
      go_wp2_with fail
      refine (rint_is rb gb x.fin _ w7 hr7 hok.f1 hok.f2).mono ?_
      rintro e w8 ⟨rfl, hr8, ho8⟩
      have hb8 := ho8.heap (ho7.heap hb6 hbr) hbr
      have c83 : w8.cell? ⟨bx, 3, none⟩ = some (.int .i64 0) := by simp [World.cell?, hb8]
      have z83 : w8.frozen? ⟨bx, 3, none⟩ = false := by simp [World.frozen?, hb8]
      have c84 : w8.cell? ⟨bx, 4, none⟩ = some (.int .i64 0) := by simp [World.cell?, hb8]
      have z84 : w8.frozen? ⟨bx, 4, none⟩ = false := by simp [World.frozen?, hb8]
      have hb9 := heap_setCell_same _ bx 4 _ _ (.int .i64 x.fin) (heap_setCell_same w8 bx 3 _ _ (.int .i64 x.start) hb8)
      have hO8 : Only (fun k => k = rb ∨ k = bx) wr w8 := (hO6.trans (ho7.mono fun _ _ e => .inl e) fun _ _ h => h).trans (ho8.mono fun _ _ e => .inl e) fun _ _ h => h
      have HB9 : Hid _ := hb9
      have HO8 : Hid (Only (fun k => k = rb ∨ k = bx) wr w8) := hO8
      clear hb9 hb8 hb6 hO6 hO8 hr6 hr7 ho7 ho8
      go_wp2_with fail
      obtain ⟨w9, hw9⟩ : ∃ w9, w9 = (w8.setCell ⟨bx, 3, none⟩ (.int .i64 x.start)).setCell ⟨bx, 4, none⟩ (.int .i64 x.fin) := ⟨_, rfl⟩
      rw [← hw9]
      have ho9 : Only (fun k => k = bx) w8 w9 := hw9 ▸ only_set (only_set (Only.refl _ _) _ _) _ _
      have hb9 := HB9.out
      rw [← hw9] at hb9
      have hr9 := hr8.keep ho9 (fun e => hbr e.symm) (fun e => hbg e.symm)
      have hO9 : Only (fun k => k = rb ∨ k = bx) wr w9 := HO8.out.trans (ho9.mono fun _ _ e => .inr e) fun _ _ h => h
      clear hw9 ho9 hr8 c83 z83 c84 z84 HB9
      refine (readvalue_is rb gb x.a tl w9 hr9 hok.a hok.count).mono ?_
      rintro e w10 ⟨rfl, hr10, ho10⟩
      have hcells : x.a.canon.cells.toArray = #[.int .u64 x.a.count, .float .f64 (HR.canon x.a.sum), .bool x.a.over, .float .f64 (HR.canon x.a.min), .float .f64 (HR.canon x.a.max)] := rfl
      rw [hcells]
      have hb10 := ho10.heap hb9 hbr
      have d5 : w10.cell? ⟨bx, 5, none⟩ = some (.int .u64 0) := by simp [World.cell?, hb10]
      have d6 : w10.cell? ⟨bx, 6, none⟩ = some (.float .f64 0) := by simp [World.cell?, hb10]
      have d7 : w10.cell? ⟨bx, 7, none⟩ = some (.bool false) := by simp [World.cell?, hb10]
      have d8 : w10.cell? ⟨bx, 8, none⟩ = some (.float .f64 0) := by simp [World.cell?, hb10]
      have d9 : w10.cell? ⟨bx, 9, none⟩ = some (.float .f64 0) := by simp [World.cell?, hb10]
      have zz : ∀ j, w10.frozen? ⟨bx, j, none⟩ = false := fun j => by simp [World.frozen?, hb10]
      have y5 := zz 5
      have y6 := zz 6
      have y7 := zz 7
      have y8 := zz 8
      have y9 := zz 9
      have d0 : w10.cell? ⟨bx, 0, none⟩ = some (.bool x.put) := by simp [World.cell?, hb10]
      have d1 : w10.cell? ⟨bx, 1, none⟩ = some (.int .u64 x.rev) := by simp [World.cell?, hb10]
      have d2 : w10.cell? ⟨bx, 2, none⟩ = some (.string x.key) := by simp [World.cell?, hb10]
      have d3 : w10.cell? ⟨bx, 3, none⟩ = some (.int .i64 x.start) := by simp [World.cell?, hb10]
      have d4 : w10.cell? ⟨bx, 4, none⟩ = some (.int .i64 x.fin) := by simp [World.cell?, hb10]
      obtain ⟨v0, hv0, hown0, hfr0⟩ := HJ.out.2.1
      have hO10 : Only (fun k => k = rb ∨ k = bx) wr w10 := hO9.trans (ho10.mono fun _ _ e => .inl e) fun _ _ h => h
      have hvc := hO10.heap hv0 (fun e => e.elim hcr (fun e => hbc e.symm))
      obtain ⟨a0, c0, rfl, _, _⟩ := owns_shape hown0
      have dc : w10.cell? ⟨c, 0, none⟩ = some (.slice a0 k c0) := by simp [World.cell?, hvc]
      have zc : w10.frozen? ⟨c, 0, none⟩ = false := by simp [World.frozen?, hvc]
      have HB10 : Hid _ := hb10
      have HVC : Hid _ := hvc
      have HOWN0 : Hid _ := hown0
      have HFR0 : Hid _ := hfr0
      have HV0 : Hid _ := hv0
      have HO10 : Hid _ := hO10
      have HR10 : Hid _ := hr10
      have hbc2 : ¬ c = bx := fun e => hbc e.symm
      clear hb10 hvc hown0 hfr0 hv0 hO10 hr10 zz hb9 hcells hO9 ho10 hr9
      obtain ⟨w11, hw11⟩ : ∃ w11, w11 = ((((w10.setCell ⟨bx, 5, none⟩ (.int .u64 x.a.count)).setCell ⟨bx, 6, none⟩ (.float .f64 (HR.canon x.a.sum))).setCell ⟨bx, 7, none⟩ (.bool x.a.over)).setCell ⟨bx, 8, none⟩ (.float .f64 (HR.canon x.a.min))).setCell ⟨bx, 9, none⟩ (.float .f64 (HR.canon x.a.max)) := ⟨_, rfl⟩
      have ho11 : Only (fun k => k = bx) w10 w11 := hw11 ▸ only_set (only_set (only_set (only_set (only_set (Only.refl _ _) _ _) _ _) _ _) _ _) _ _
      have HO11 : Hid (Only (fun k => k = bx) w10 w11) := ho11
      have HW11 : Hid _ := hw11
      clear hw11 ho11
      go_upto_region 8 with fail
      rw [← HW11.out]
      have hb11' : w11.heap[bx]? = some (.cells x.canon.cells.toArray 61 (0, 0)) := by rw [HW11.out]; exact set5 HB10.out
      clear d0 d1 d2 d3 d4 d5 d6 d7 d8 d9 y5 y6 y7 y8 y9
      have hvc11 := HO11.out.heap HVC.out hbc2
      have e0 : w11.cell? ⟨bx, 0, none⟩ = some (.bool x.put) := by simp [World.cell?, hb11', ChgG.cells, ChgG.canon, AggG.cells, AggG.canon]
      have e1 : w11.cell? ⟨bx, 1, none⟩ = some (.int .u64 x.rev) := by simp [World.cell?, hb11', ChgG.cells, ChgG.canon, AggG.cells, AggG.canon]
      have e2 : w11.cell? ⟨bx, 2, none⟩ = some (.string x.key) := by simp [World.cell?, hb11', ChgG.cells, ChgG.canon, AggG.cells, AggG.canon]
      have e3 : w11.cell? ⟨bx, 3, none⟩ = some (.int .i64 x.start) := by simp [World.cell?, hb11', ChgG.cells, ChgG.canon, AggG.cells, AggG.canon]
      have e4 : w11.cell? ⟨bx, 4, none⟩ = some (.int .i64 x.fin) := by simp [World.cell?, hb11', ChgG.cells, ChgG.canon, AggG.cells, AggG.canon]
      have e5 : w11.cell? ⟨bx, 5, none⟩ = some (.int .u64 x.a.count) := by simp [World.cell?, hb11', ChgG.cells, ChgG.canon, AggG.cells, AggG.canon]
      have e6 : w11.cell? ⟨bx, 6, none⟩ = some (.float .f64 (HR.canon x.a.sum)) := by simp [World.cell?, hb11', ChgG.cells, ChgG.canon, AggG.cells, AggG.canon]
      have e7 : w11.cell? ⟨bx, 7, none⟩ = some (.bool x.a.over) := by simp [World.cell?, hb11', ChgG.cells, ChgG.canon, AggG.cells, AggG.canon]
      have e8 : w11.cell? ⟨bx, 8, none⟩ = some (.float .f64 (HR.canon x.a.min)) := by simp [World.cell?, hb11', ChgG.cells, ChgG.canon, AggG.cells, AggG.canon]
      have e9 : w11.cell? ⟨bx, 9, none⟩ = some (.float .f64 (HR.canon x.a.max)) := by simp [World.cell?, hb11', ChgG.cells, ChgG.canon, AggG.cells, AggG.canon]
      have dc11 : w11.cell? ⟨c, 0, none⟩ = some (.slice a0 k c0) := by simp [World.cell?, hvc11]
      have HVC11 : Hid _ := hvc11
      have hsz := HJ.out.2.2.size
      have hwr10 := HO10.out.size
      have hwr11 := HO11.out.size
      have hown11 : w11.ownsRow 0 61 10 (.slice a0 k c0) k (((l.take k).map ChgG.canon).flatMap ChgG.cells) :=
        owns_keep (owns_keep HOWN0.out HO10.out fun j hj e => by have := HFR0.out j hj; have := owns_lt HOWN0.out hj; have := HRB.out; have := HBW.out; omega) HO11.out fun j hj e => by have := owns_lt HOWN0.out hj; have := HBW.out; omega
      have HOWN11 : Hid _ := hown11
      have HSZ : Hid (w.heap.size ≤ w11.heap.size) := by show _ ≤ _; omega
      have hsrc : Src Tryz.prog 10 33 (.slice (some ⟨w11.heap.size, 0, none⟩) 1 1) 1 x.canon.cells (w11.alloc (.cells x.canon.cells.toArray 61)) := src_cells Tryz.underlying33 w11 _ (chg_one _) _ rfl rfl
      have HSRC : Hid _ := hsrc
      have hklt : k < 1048576 := by omega
      clear hb11' hvc11 hown11 hsz hwr10 hwr11 hsrc zc dc
      go_wp2_with (at_builtin; refine wpList_append_any _ rfl _ _ 33 33 rfl 61 i0 (.agg #[.bool false, .int .u64 0, .string ByteArray.empty, .int .i64 0, .int .i64 0, .int .u64 0, .float .f64 0, .bool false, .float .f64 0, .float .f64 0]) 10 88 Tryz.underlying33 hi hz0 hz1 hz2 rfl _ k _ rfl (owns_ext HOWN11.out ((Only.refl _ _).alloc _)) _ rfl 1 _ HSRC.out (by simp only [maxLen]; omega) (by omega) ?_)
      intro v' w12 happ _
      obtain ⟨a9, c9, rfl, _, _⟩ := owns_shape happ.owns
      have hvc12 : w12.heap[c]? = some (.cells #[.slice a0 k c0] 33 (0, 0)) := happ.only.heap (Ext.heap ((Only.refl _ _).alloc _) HVC11.out) fun e => by have := HFR0.out c e; have := HCB.out; omega
      have d12 : w12.cell? ⟨c, 0, none⟩ = some (.slice a0 k c0) := by simp [World.cell?, hvc12]
      have z12 : w12.frozen? ⟨c, 0, none⟩ = false := by simp [World.frozen?, hvc12]
      have HFIN : Hid _ := led_round HX.out HJ.out.2.2 HO10.out HO11.out HBW.out HR10.out HTL.out HCB.out HRB.out HGB.out hcr hcg HFR0.out happ hvc12
      clear happ hvc12 e0 e1 e2 e3 e4 e5 e6 e7 e8 e9 dc11
      go_wp2
      go_roundw
      case rel => exact ⟨k + 1, by go_num, hlt, HFIN.out⟩
      case measure => simp [intOf]; omega
    · obtain rfl : k = l.length := by omega
      go_wp2
      go_end0
      have hj := HJ.out
      rw [List.drop_length, List.take_length] at hj
      exact ⟨rfl, hj.1, hj.2.1, hj.2.2⟩

end Go.Proofs.YteddohgdegggnaaGreatDoor
namespace Go.Proofs.YteddohgdegggnaaGreatDoor
open Go.RowKit Go.HR
open Go.Proofs

set_option maxRecDepth 100000 in
set_option maxHeartbeats 2000000 in
theorem ledread_is (v : Value) (l : List ChgG) (w : World) (h : Rd w v (9 + (ledgerB l).length) (by8 (pageB 108 (ledgerB l)))) (hl : ∀ x ∈ l, x.OK) (hn : (ledgerB l).length ≤ 1048576) (hn2 : l.length ≤ 1048576) (ht : TableAt w 0) :
    Calls Tryz.prog 26 #[v] w fun e w' => ∃ v', e = .returned (.tuple #[v', .int .i64 0]) ∧ NewRow 61 10 w l.length ((l.map ChgG.canon).flatMap ChgG.cells) v' w' := by
  obtain ⟨va, vc, rfl, _, _⟩ := h.shape
  have H : Hid (Rd w (.slice va (9 + (ledgerB l).length) vc) (9 + (ledgerB l).length) (by8 (pageB 108 (ledgerB l)))) := h
  have h0 := TableAt.lt ht
  clear h
  go_enter Tryz.func26, Tryz.ntmps26
  go_wp2_with fail
  refine (pageone_is 108 (ledgerB l) _ w H.out hn ht).mono ?_
  rintro e w1 ⟨v1, rfl, hn1⟩
  obtain ⟨a1, c1, rfl, _, _⟩ := owns_shape hn1.owns
  have hs1 := hn1.ext.size
  have HN1 : Hid (NewRow 5 1 w (ledgerB l).length (by8 (ledgerB l)) (.slice a1 (ledgerB l).length c1) w1) := hn1
  clear hn1
  go_wp2_with fail
  obtain ⟨w2, hw2⟩ : ∃ w2, w2 = w1.alloc (.cells #[.slice none 0 0] 33) := ⟨_, rfl⟩
  have hx2 : Ext w1 w2 := hw2 ▸ (Only.refl _ _).alloc _
  have hs2 : w2.heap.size = w1.heap.size + 1 := by rw [hw2]; simp
  obtain ⟨c, hc⟩ : ∃ c, c = w1.heap.size := ⟨_, rfl⟩
  have hbox : w2.heap[c]? = some (.cells #[.slice none 0 0] 33 (0, 0)) := by rw [hw2, hc]; exact Go.heap_alloc_new w1 _
  obtain ⟨gb, hgb⟩ : ∃ gb, gb = (Value.slice a1 (ledgerB l).length c1).ownBlock.getD 0 := ⟨_, rfl⟩
  have hgb1 : ∀ k, (Value.slice a1 (ledgerB l).length c1).ownBlock = some k → k = gb := fun k hk => by rw [hgb, hk]; rfl
  have hgbc : gb < c := by
    rw [hgb, hc]
    cases ho : (Value.slice a1 (ledgerB l).length c1).ownBlock with
    | none => show 0 < _; omega
    | some k => exact owns_lt HN1.out.owns ho
  rw [← hw2, ← hc]
  have HBOX : Hid (w2.heap[c]? = some (.cells #[.slice none 0 0] 33 (0, 0))) := hbox
  have HX2 : Hid (Ext w w2) := HN1.out.ext.thenExt hx2
  have hrd2 := (rd_of_owns HN1.out.owns).ext hx2
  have HRD2 : Hid _ := hrd2
  have HGB1 : Hid _ := hgb1
  have hcs : c < w2.heap.size := by omega
  have hcw : w.heap.size ≤ c := by omega
  clear hw2 hbox hgb hx2 hrd2 hgb1 hs2 hc
  refine (try_is _ gb (ledgerB l) 44 #[.pointer (some ⟨c, 0, none⟩)] w2 (fun k => k = c) (fun w3 => ∃ v, w3.heap[c]? = some (.cells #[v] 33 (0, 0)) ∧ w3.ownsRow 0 61 10 v l.length ((l.map ChgG.canon).flatMap ChgG.cells) ∧ ∀ k, v.ownBlock = some k → w2.heap.size + 2 ≤ k)
    HRD2.out HGB1.out (by omega) (.inl ⟨rfl, _, rfl⟩) (fun w3 hx3 hs3 hr3 => ?_) (fun k hk => by omega)).mono ?_
  · refine (read1_is (w2.heap.size + 1) gb c l w3 hr3 hl hn2 (hx3.heap HBOX.out) (by omega) (by omega)).mono ?_
    rintro e w4 ⟨rfl, q1, ⟨v, q2, q3, q4⟩, q5⟩
    exact ⟨rfl, q1, ⟨v, q2, q3, fun k hk => Nat.le_trans hs3 (q4 k hk)⟩, q5⟩
  · rintro e w4 ⟨rfl, ho4, w3, ⟨v, q2, q3, q4⟩, ho34⟩
    have b4 := ho34.heap q2 (by omega)
    have t4 : w4.cell? ⟨c, 0, none⟩ = some v := by simp [World.cell?, b4]
    have r4 := owns_keep q3 ho34 fun k hk e => by have := q4 k hk; omega
    obtain ⟨a4, c4, rfl, _, _⟩ := owns_shape r4
    have HR4 : Hid _ := r4
    have HO4 : Hid _ := ho4
    have HQ4 : Hid _ := q4
    clear b4 r4 ho4 ho34 q4 q3 q2
    go_wp2_with fail
    go_ret2
    exact ⟨_, rfl, HR4.out, HX2.out.trans HO4.out fun k hk e => by have e' : k = c := e; omega, fun k hk => by have := HQ4.out k hk; have := HX2.out.size; omega⟩

end Go.Proofs.YteddohgdegggnaaGreatDoor
