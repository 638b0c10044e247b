/- What is shown here, as far as 'ledlay_is': contracts of the program's functions, and the plain laws that they lean on; conditions: each theorem's own hypotheses. -/
import Derived.Test.YteddohgdegggnaaGreatDoorLed
import Derived.Deep.RegionHeld3
namespace Go.HR
theorem leb_ten' (n : Nat) (h : n < 18446744073709551616) : (leb n).length ≤ 10 := leb_ten h
theorem aggB_len {a : AggG} (h : a.OK) : (aggB a).length ≤ 50 := by
  obtain ⟨h1, h2, h3, h4⟩ := h
  have e1 := leb_ten h1
  have e2 := leb_ten (canon_lt h2)
  have e3 := leb_ten (canon_lt h3)
  have e4 := leb_ten (canon_lt h4)
  have e5 : (leb a.over.toNat).length ≤ 10 := leb_ten (by cases a.over <;> decide)
  simp only [aggB, List.length_append]
  omega
theorem chgB_len {x : ChgG} (h : x.OK) : (chgB x).length ≤ 123 := by
  have e1 := aggB_len h.a
  have e2 := leb_ten' x.rev (by have := h.rev; omega)
  have e3 := leb_ten' x.key.toList.length (by have := h.key; omega)
  have e4 := leb_ten' (zig x.start) (zig_lt h.s1 h.s2)
  have e5 := leb_ten' (zig x.fin) (zig_lt h.f1 h.f2)
  have e6 := h.key
  simp only [chgB, List.length_append, List.length_cons]
  omega
theorem flat_chg_len {l : List ChgG} (h : ∀ x ∈ l, x.OK) : (l.flatMap chgB).length ≤ 123 * l.length := by
  induction l with
  | nil => simp
  | cons x l ih =>
    have h1 := chgB_len (h x List.mem_cons_self)
    have h2 := ih fun y hy => h y (List.mem_cons_of_mem _ hy)
    simp only [List.flatMap_cons, List.length_append, List.length_cons]
    omega
theorem ledgerB_len {l : List ChgG} (h : ∀ x ∈ l, x.OK) (hn : l.length ≤ 65536) : (ledgerB l).length ≤ 123 * l.length + 10 := by
  have h1 := flat_chg_len h
  have h2 := leb_ten' l.length (by omega)
  simp only [ledgerB, List.length_append]
  omega
theorem cells_get (l : List ChgG) (i j : Nat) (x : ChgG) (hi : l[i]? = some x) (hj : j < 10) : (l.flatMap ChgG.cells)[i * 10 + j]? = x.cells[j]? := by
  induction l generalizing i with
  | nil => simp at hi
  | cons h l ih =>
    have hlen : h.cells.length = 10 := rfl
    cases i with
    | zero =>
      simp at hi; subst hi
      simp only [List.flatMap_cons, Nat.zero_mul, Nat.zero_add]
      rw [List.getElem?_append_left (by omega)]
    | succ i =>
      simp at hi
      simp only [List.flatMap_cons]
      rw [List.getElem?_append_right (by omega)]
      have : (i + 1) * 10 + j - h.cells.length = i * 10 + j := by omega
      rw [this]
      exact ih i hi
end Go.HR
namespace Go.Proofs.YteddohgdegggnaaGreatDoor
open Go.RowKit Go.HR
open Go.Proofs

attribute [local go_sem] run_store_float

theorem chg_at {w : World} {g cap : Nat} {l : List ChgG} {n : Nat} (h : w.ownsRow 0 61 10 (.slice (some ⟨g, 0, none⟩) n cap) l.length (l.flatMap ChgG.cells)) (k : Nat) (x : ChgG) (hx : l[k]? = some x) (j : Nat) (v : Value) (hj : j < 10) (hv : x.cells[j]? = some v) : w.cell? ⟨g, k * 10 + j, none⟩ = some v := by
  have := h.cells (g := g) rfl (k * 10 + j) v (by rw [cells_get l k j x hx hj]; exact hv)
  rwa [Addr.add_lit, Nat.zero_add] at this

theorem led_join {w w' : World} {l : List ChgG} {x : ChgG} {k n0 n2 n6 n7 n8 : Nat} {B : List UInt8} {v : Value} (hx : l[k]? = some x) (hB : B = leb l.length ++ (l.take k).flatMap chgB) (h0 : n0 = B.length) (h2 : n2 = n0 + 1 + (leb x.rev).length)
    (h6 : n6 = n2 + (leb x.key.toList.length ++ x.key.toList).length) (h7 : n7 = n6 + (leb (zig x.start)).length) (h8 : n8 = n7 + (leb (zig x.fin)).length)
    (h : NewRow 5 1 w (n8 + (aggB x.a).length) (by8 B ++ [.int .u8 x.put.toNat] ++ by8 (leb x.rev) ++ by8 (leb x.key.toList.length ++ x.key.toList) ++ by8 (leb (zig x.start)) ++ by8 (leb (zig x.fin)) ++ by8 (aggB x.a)) v w') :
    NewRow 5 1 w (leb l.length ++ (l.take (k + 1)).flatMap chgB).length (by8 (leb l.length ++ (l.take (k + 1)).flatMap chgB)) v w' := by
  obtain ⟨hlt, he⟩ := List.getElem?_eq_some_iff.1 hx
  have e0 : leb l.length ++ (l.take (k + 1)).flatMap chgB = B ++ chgB x := by
    rw [List.take_succ_eq_append_getElem hlt, he, hB]
    simp
  have e1 : ([.int .u8 x.put.toNat] : List Value) = by8 [UInt8.ofNat x.put.toNat] := by cases x.put <;> rfl
  rw [e1] at h
  simp only [← by8_append] at h
  have e2 : B ++ [UInt8.ofNat x.put.toNat] ++ leb x.rev ++ (leb x.key.toList.length ++ x.key.toList) ++ leb (zig x.start) ++ leb (zig x.fin) ++ aggB x.a = B ++ chgB x := by simp [chgB]
  rw [e2] at h
  have e3 : n8 + (aggB x.a).length = (B ++ chgB x).length := by
    subst h8 h7 h6 h2 h0
    simp only [chgB, List.length_append, List.length_cons]
    omega
  rw [e3] at h
  rw [e0]
  exact h

set_option linter.unusedSimpArgs false in
set_option maxRecDepth 100000 in
set_option maxHeartbeats 16000000 in
theorem ledlay_is (v : Value) (l : List ChgG) (w : World) (h : w.ownsRow 0 61 10 v l.length (l.flatMap ChgG.cells)) (hl : ∀ x ∈ l, x.OK) (hn : l.length ≤ 65536) (ht : TableAt w 0) :
    Calls Tryz.prog 38 #[v] w (NewBytes w (pageB 108 (ledgerB l))) := by
  obtain ⟨va, vc, rfl, _, _⟩ := owns_shape h
  obtain ⟨i0, hi, hz0, hz1, hz2⟩ := info_parts Tryz.infoB
  have H : Hid (w.ownsRow 0 61 10 (.slice va l.length vc) l.length (l.flatMap ChgG.cells)) := h
  have HT : Hid (TableAt w 0) := ht
  clear h ht
  go_enter Tryz.func38, Tryz.ntmps38
  go_wp2_with fail
  refine (uint_is _ 0 l.length [] w (World.ownsRow_nil _ _ _ _) (by omega) (by omega)).mono ?_
  rintro e w1 ⟨v1, rfl, hap1⟩
  have hn1 := NewRow.ofAppend hap1 (Only.refl _ _) fun k hk => by simp [Value.ownBlock] at hk
  have HN1 : Hid (NewRow 5 1 w (leb l.length).length (by8 (leb l.length)) v1 w1) := hn1
  clear hn1 hap1
  go_wp2_with fail
  go_loopw [3, 13] (fun b i wr => ∃ k : Nat, i = .int .i64 k ∧ k ≤ l.length ∧ Hid (NewRow 5 1 w (leb l.length ++ (l.take k).flatMap chgB).length (by8 (leb l.length ++ (l.take k).flatMap chgB)) b wr)) (fun _ i _ => l.length - (intOf i).toNat)
  case atStart => exact ⟨0, rfl, Nat.zero_le _, by show NewRow _ _ _ _ _ _ _; simpa using HN1.out⟩
  case round =>
    obtain ⟨k, rfl, hk, HJ⟩ := hrel
    rename World => wr
    by_cases hlt : k < l.length
    · obtain ⟨x, hx⟩ : ∃ x, l[k]? = some x := ⟨_, List.getElem?_eq_getElem hlt⟩
      have hok := hl x (List.mem_of_getElem? hx)
      have hown := owns_ext H.out HJ.out.ext
      obtain ⟨g, rfl⟩ : ∃ g, va = some ⟨g, 0, none⟩ := by
        rcases hown.2 with ⟨e1, e2⟩ | ⟨g, cap, cur, e1, _⟩
        · omega
        · simp at e1; exact ⟨g, e1.1⟩
      have d0 : wr.cell? ⟨g, k * 10, none⟩ = some (.bool x.put) := chg_at hown k x hx 0 (.bool x.put) (by omega) rfl
      have d1 := chg_at hown k x hx 1 (.int .u64 x.rev) (by omega) rfl
      have d2 := chg_at hown k x hx 2 (.string x.key) (by omega) rfl
      have d3 := chg_at hown k x hx 3 (.int .i64 x.start) (by omega) rfl
      have d4 := chg_at hown k x hx 4 (.int .i64 x.fin) (by omega) rfl
      have d5 := chg_at hown k x hx 5 (.int .u64 x.a.count) (by omega) rfl
      have d6 := chg_at hown k x hx 6 (.float .f64 x.a.sum) (by omega) rfl
      have d7 := chg_at hown k x hx 7 (.bool x.a.over) (by omega) rfl
      have d8 := chg_at hown k x hx 8 (.float .f64 x.a.min) (by omega) rfl
      have d9 := chg_at hown k x hx 9 (.float .f64 x.a.max) (by omega) rfl
      have HX : Hid (l[k]? = some x) := hx
      obtain ⟨B, hB⟩ : ∃ B, B = leb l.length ++ (l.take k).flatMap chgB := ⟨_, rfl⟩
      obtain ⟨n0, hn0⟩ : ∃ n0, n0 = B.length := ⟨_, rfl⟩
      have HBE : Hid (B = leb l.length ++ (l.take k).flatMap chgB) := hB
      have HN0E : Hid (n0 = B.length) := hn0
      have hj := HJ.out
      rw [← hB, ← hn0] at hj
      have hn0b : n0 ≤ 10000000 := by
        have e1 := flat_chg_len (l := l.take k) fun y hy => hl y (List.mem_of_mem_take hy)
        have e2 := leb_ten' l.length (by omega)
        have e3 : (l.take k).length ≤ 65536 := by rw [List.length_take]; omega
        rw [hn0, hB, List.length_append]
        omega
      obtain ⟨a0, c0, rfl, _, _⟩ := owns_shape hj.owns
      have HN0 : Hid (NewRow 5 1 w n0 (by8 B) (.slice a0 n0 c0) wr) := hj
      clear hx hB hn0 hj hown HJ
      go_upto_if 18 with fail
      obtain ⟨w2, hw2⟩ : ∃ w2, w2 = wr.alloc (.cells #[.bool x.put, .int .u64 x.rev, .string x.key, .int .i64 x.start, .int .i64 x.fin, .int .u64 x.a.count, .float .f64 x.a.sum, .bool x.a.over, .float .f64 x.a.min, .float .f64 x.a.max] 61) := ⟨_, rfl⟩
      have hx2 : Ext wr w2 := hw2 ▸ (Only.refl _ _).alloc _
      obtain ⟨bx, hbx⟩ : ∃ bx, bx = wr.heap.size := ⟨_, rfl⟩
      have hbox : w2.heap[bx]? = some (.cells #[.bool x.put, .int .u64 x.rev, .string x.key, .int .i64 x.start, .int .i64 x.fin, .int .u64 x.a.count, .float .f64 x.a.sum, .bool x.a.over, .float .f64 x.a.min, .float .f64 x.a.max] 61 (0, 0)) := by rw [hw2, hbx]; exact Go.heap_alloc_new wr _
      have hbv : ¬ (Value.slice a0 n0 c0).ownBlock = some bx := fun e => by have := owns_lt HN0.out.owns e; omega
      have HN2 : Hid (NewRow 5 1 w n0 (by8 B) (.slice a0 n0 c0) w2) := HN0.out.thenExt hx2
      rw [← hw2, ← hbx]
      clear hw2 hx2 hbx d0 d1 d2 d3 d4 d5 d6 d7 d8 d9 HN0
      have c0' : w2.cell? ⟨bx, 0, none⟩ = some (.bool x.put) := by simp [World.cell?, hbox]
      have HBX : Hid _ := hbox
      clear hbox
      go_cut [6, 16, 18] (fun p _ _ wx => p = .int .u8 x.put.toNat ∧ wx = w2)
      case first =>
        obtain ⟨o, ho⟩ : ∃ o, o = x.put := ⟨_, rfl⟩
        have HOV : Hid (o = x.put) := ho
        rw [← ho] at c0' ⊢
        clear ho
        cases o
        · go_wp2_with fail
          go_meet
          exact ⟨by rw [← HOV.out]; rfl, rfl⟩
        · go_wp2_with fail
          go_meet
          exact ⟨by rw [← HOV.out]; rfl, rfl⟩
      case rest =>
      obtain ⟨rfl, hwc⟩ := hcut
      rw [hwc]
      clear hwc
      have d1 : w2.cell? ⟨bx, 1, none⟩ = some (.int .u64 x.rev) := by simp [World.cell?, HBX.out]
      obtain ⟨n2, hn2⟩ : ∃ n2, n2 = n0 + 1 + (leb x.rev).length := ⟨_, rfl⟩
      obtain ⟨n6, hn6⟩ : ∃ n6, n6 = n2 + (leb x.key.toList.length ++ x.key.toList).length := ⟨_, rfl⟩
      obtain ⟨n7, hn7⟩ : ∃ n7, n7 = n6 + (leb (zig x.start)).length := ⟨_, rfl⟩
      obtain ⟨n8, hn8⟩ : ∃ n8, n8 = n7 + (leb (zig x.fin)).length := ⟨_, rfl⟩
      have HN2E : Hid (n2 = n0 + 1 + (leb x.rev).length) := hn2
      have HN6E : Hid (n6 = n2 + (leb x.key.toList.length ++ x.key.toList).length) := hn6
      have HN7E : Hid (n7 = n6 + (leb (zig x.start)).length) := hn7
      have HN8E : Hid (n8 = n7 + (leb (zig x.fin)).length) := hn8
      obtain ⟨hn2b, hn6b, hn7b, hn8b⟩ : n2 ≤ 20000000 ∧ n6 ≤ 20000000 ∧ n7 ≤ 20000000 ∧ n8 ≤ 20000000 := by
        have e2 := leb_ten' x.rev (by have := hok.rev; omega)
        have e3 := leb_ten' x.key.toList.length (by have := hok.key; omega)
        have e4 := leb_ten' (zig x.start) (zig_lt hok.s1 hok.s2)
        have e5 := leb_ten' (zig x.fin) (zig_lt hok.f1 hok.f2)
        have e6 := hok.key
        simp only [List.length_append] at hn6
        omega
      clear hn2 hn6 hn7 hn8
      go_wp2_with fail
      refine wp_region_held_drew (S := fun w' => w'.cell? ⟨bx, 1, none⟩ = some (.int .u64 x.rev)) (by kernel_rfl) d1 (fun hHeld => ?_)
      refine wpAnyH_take (i := 0) (v := ?_) rfl (by kernel_rfl) (by kernel_rfl) (by kernel_rfl) (fun _ _ _ h => h) (Or.inl ⟨by rfl, ?_⟩) hHeld ?_
      rotate_left
      · intro w hSw; go_split_ands; go_simp; with_reducible rfl
      simp only [Act.put, List.setIfInBounds_toArray, List.set_cons_zero, List.set_cons_succ]
      refine wpAnyH_take (i := 1) (v := ?_) rfl (by kernel_rfl) (by kernel_rfl) (by kernel_rfl) (fun _ _ _ h => h) (Or.inl ⟨by rfl, ?_⟩) hHeld ?_
      rotate_left
      · intro w hSw; go_split_ands; go_simp; with_reducible rfl
      simp only [Act.put, List.setIfInBounds_toArray, List.set_cons_zero, List.set_cons_succ]
      refine wpAnyH_take (i := 4) (v := ?_) rfl (by kernel_rfl) (by kernel_rfl) (by kernel_rfl) (fun _ _ _ h => h) (Or.inl ⟨by rfl, ?_⟩) hHeld ?_
      rotate_left
      · intro w hSw; go_split_ands; go_simp; with_reducible rfl
      simp only [Act.put, List.setIfInBounds_toArray, List.set_cons_zero, List.set_cons_succ]
      refine wpAnyH_take (i := 5) (v := ?_) rfl (by kernel_rfl) (by kernel_rfl) (by kernel_rfl) (fun _ _ _ h => h) (Or.inl ⟨by rfl, ?_⟩) hHeld ?_
      rotate_left
      · intro w hSw; go_split_ands; go_simp; with_reducible rfl
      simp only [Act.put, List.setIfInBounds_toArray, List.set_cons_zero, List.set_cons_succ]
      refine wpAnyH_ready (rs := [2]) (by kernel_rfl) (by simp) ?_
      refine AllReadyH.cons rfl (fun K hK => ?_) AllReadyH.nil
      go_simp
      refine hK.out _ _ (Ext.cell ((Only.refl _ _).alloc _) hHeld) (fun hHeld => ?_)
      clear hK
      refine wpAnyH_ready (rs := [3]) (by kernel_rfl) (by simp) ?_
      refine AllReadyH.cons rfl (fun K hK => ?_) AllReadyH.nil
      refine wp_append_any _ _ _ 29 29 rfl 5 i0 (.int .u8 0) 1 1 Tryz.underlying29 hi hz0 hz1 hz2 rfl (.slice a0 n0 c0) n0 (by8 B) rfl (owns_ext HN2.out.owns ((Only.refl _ _).alloc _).drew) _ rfl 1 [.int .u8 x.put.toNat] (src_one Tryz.underlying29 w2.drew _ rfl _ rfl) (by simp only [maxLen]; omega) (by omega) fun v3 w3 hap3 _ => ?_
      have hn3 := (HN2.out.thenExt (((Only.refl _ _).alloc _).drew)).append hap3
      have hbv3 := app_apart hap3 hbv (World.block_lt_of_cell? _ _ hHeld)
      obtain ⟨a3, c3, rfl, _, _⟩ := owns_shape hn3.owns
      have HN3 : Hid (NewRow 5 1 w (n0 + 1) (by8 B ++ [.int .u8 x.put.toNat]) (.slice a3 (n0 + 1) c3) w3) := hn3
      have hbox3 := hap3.only.heap (Ext.heap (((Only.refl _ _).alloc _).drew) HBX.out) hbv
      have HBX3 : Hid _ := hbox3
      refine hK.out _ _ (hap3.only.cell hHeld hbv) (fun hHeld => ?_)
      clear hK hap3 hn3 hbox3
      refine wpAnyH_ready (rs := [6]) (by kernel_rfl) (by simp) ?_
      refine AllReadyH.cons rfl (fun K hK => ?_) AllReadyH.nil
      go_simp
      go_at_call 40
      refine (uint_is _ (n0 + 1) x.rev _ _ HN3.out.owns (by have := hok.rev; omega) (by omega)).mono ?_
      rintro e w5 ⟨v5, rfl, hap5⟩
      have hn5 := HN3.out.append hap5
      rw [← HN2E.out] at hn5
      have hbv5 := app_apart hap5 hbv3 (World.block_lt_of_cell? _ _ hHeld)
      obtain ⟨a5, c5, rfl, _, _⟩ := owns_shape hn5.owns
      have HN5 : Hid (NewRow 5 1 w n2 (by8 B ++ [.int .u8 x.put.toNat] ++ by8 (leb x.rev)) (.slice a5 n2 c5) w5) := hn5
      have hbox5 := hap5.only.heap (HBX3.out) hbv3
      have HBX5 : Hid _ := hbox5
      clear hn5 hbox5
      go_wp2_with fail
      refine hK.out _ _ (hap5.only.cell hHeld hbv3) (fun hHeld => ?_)
      clear hK
      refine wpAnyH_ready (rs := [7]) (by kernel_rfl) (by simp) ?_
      refine AllReadyH.cons rfl (fun K hK => ?_) AllReadyH.nil
      go_simp
      refine hK.out _ _ hHeld (fun hHeld => ?_)
      clear hK
      refine wpAnyH_done (by kernel_rfl) ?_ _
      have g2 : w5.cell? ⟨bx, 2, none⟩ = some (.string x.key) := by simp [World.cell?, HBX5.out]
      have g3 : w5.cell? ⟨bx, 3, none⟩ = some (.int .i64 x.start) := by simp [World.cell?, HBX5.out]
      have g4 : w5.cell? ⟨bx, 4, none⟩ = some (.int .i64 x.fin) := by simp [World.cell?, HBX5.out]
      clear hHeld hap5 d1 c0'
      go_wp2_with fail
      refine wp_region_held_drew (S := fun w' => w'.cell? ⟨bx, 2, none⟩ = some (.string x.key) ∧ w'.cell? ⟨bx, 3, none⟩ = some (.int .i64 x.start) ∧ w'.cell? ⟨bx, 4, none⟩ = some (.int .i64 x.fin)) (by kernel_rfl) ⟨g2, g3, g4⟩ (fun hHeld => ?_)
      refine wpAnyH_take (i := 0) (v := ?_) rfl (by kernel_rfl) (by kernel_rfl) (by kernel_rfl) (fun _ _ _ h => h) (Or.inl ⟨by rfl, ?_⟩) hHeld ?_
      rotate_left
      · intro w hSw; go_split_ands; go_simp; with_reducible rfl
      simp only [Act.put, List.setIfInBounds_toArray, List.set_cons_zero, List.set_cons_succ]
      refine wpAnyH_take (i := 1) (v := ?_) rfl (by kernel_rfl) (by kernel_rfl) (by kernel_rfl) (fun _ _ _ h => h) (Or.inl ⟨by rfl, ?_⟩) hHeld ?_
      rotate_left
      · intro w hSw; go_split_ands; go_simp; with_reducible rfl
      simp only [Act.put, List.setIfInBounds_toArray, List.set_cons_zero, List.set_cons_succ]
      refine wpAnyH_take (i := 2) (v := ?_) rfl (by kernel_rfl) (by kernel_rfl) (by kernel_rfl) (fun _ _ _ h => h) (Or.inl ⟨by rfl, ?_⟩) hHeld ?_
      rotate_left
      · intro w hSw; go_split_ands; go_simp; with_reducible rfl
      simp only [Act.put, List.setIfInBounds_toArray, List.set_cons_zero, List.set_cons_succ]
      refine wpAnyH_take (i := 3) (v := ?_) rfl (by kernel_rfl) (by kernel_rfl) (by kernel_rfl) (fun _ _ _ h => h) (Or.inl ⟨by rfl, ?_⟩) hHeld ?_
      rotate_left
      · intro w hSw; go_split_ands; go_simp; with_reducible rfl
      simp only [Act.put, List.setIfInBounds_toArray, List.set_cons_zero, List.set_cons_succ]
      refine wpAnyH_take (i := 5) (v := ?_) rfl (by kernel_rfl) (by kernel_rfl) (by kernel_rfl) (fun _ _ _ h => h) (Or.inl ⟨by rfl, ?_⟩) hHeld ?_
      rotate_left
      · intro w hSw; go_split_ands; go_simp; with_reducible rfl
      simp only [Act.put, List.setIfInBounds_toArray, List.set_cons_zero, List.set_cons_succ]
      refine wpAnyH_take (i := 6) (v := ?_) rfl (by kernel_rfl) (by kernel_rfl) (by kernel_rfl) (fun _ _ _ h => h) (Or.inl ⟨by rfl, ?_⟩) hHeld ?_
      rotate_left
      · intro w hSw; go_split_ands; go_simp; with_reducible rfl
      simp only [Act.put, List.setIfInBounds_toArray, List.set_cons_zero, List.set_cons_succ]
      refine wpAnyH_take (i := 7) (v := ?_) rfl (by kernel_rfl) (by kernel_rfl) (by kernel_rfl) (fun _ _ _ h => h) (Or.inl ⟨by rfl, ?_⟩) hHeld ?_
      rotate_left
      · intro w hSw; go_split_ands; go_simp; with_reducible rfl
      simp only [Act.put, List.setIfInBounds_toArray, List.set_cons_zero, List.set_cons_succ]
      refine wpAnyH_take (i := 8) (v := ?_) rfl (by kernel_rfl) (by kernel_rfl) (by kernel_rfl) (fun _ _ _ h => h) (Or.inl ⟨by rfl, ?_⟩) hHeld ?_
      rotate_left
      · intro w hSw; go_split_ands; go_simp; with_reducible rfl
      simp only [Act.put, List.setIfInBounds_toArray, List.set_cons_zero, List.set_cons_succ]
      refine wpAnyH_take (i := 10) (v := ?_) rfl (by kernel_rfl) (by kernel_rfl) (by kernel_rfl) (fun _ _ _ h => h) (Or.inl ⟨by rfl, ?_⟩) hHeld ?_
      rotate_left
      · intro w hSw; go_split_ands; go_simp; with_reducible rfl
      simp only [Act.put, List.setIfInBounds_toArray, List.set_cons_zero, List.set_cons_succ]
      refine wpAnyH_take (i := 11) (v := ?_) rfl (by kernel_rfl) (by kernel_rfl) (by kernel_rfl) (fun _ _ _ h => h) (Or.inl ⟨by rfl, ?_⟩) hHeld ?_
      rotate_left
      · intro w hSw; go_split_ands; go_simp; with_reducible rfl
      simp only [Act.put, List.setIfInBounds_toArray, List.set_cons_zero, List.set_cons_succ]
      refine wpAnyH_take (i := 12) (v := ?_) rfl (by kernel_rfl) (by kernel_rfl) (by kernel_rfl) (fun _ _ _ h => h) (Or.inl ⟨by rfl, ?_⟩) hHeld ?_
      rotate_left
      · intro w hSw; go_split_ands; go_simp; with_reducible rfl
      simp only [Act.put, List.setIfInBounds_toArray, List.set_cons_zero, List.set_cons_succ]
      refine wpAnyH_take (i := 13) (v := ?_) rfl (by kernel_rfl) (by kernel_rfl) (by kernel_rfl) (fun _ _ _ h => h) (Or.inl ⟨by rfl, ?_⟩) hHeld ?_
      rotate_left
      · intro w hSw; go_split_ands; go_simp; with_reducible rfl
      simp only [Act.put, List.setIfInBounds_toArray, List.set_cons_zero, List.set_cons_succ]
      refine wpAnyH_ready (rs := [4]) (by kernel_rfl) (by simp) ?_
      refine AllReadyH.cons rfl (fun K hK => ?_) AllReadyH.nil
      go_simp
      go_at_call 62
      refine (text_is _ n2 x.key _ _ (owns_ext HN5.out.owns ((Only.refl _ _).drew)) (by have := hok.key; omega) (by omega)).mono ?_
      rintro e w6 ⟨v6, rfl, hap6⟩
      have hn6 := (HN5.out.thenExt ((Only.refl _ _).drew)).append hap6
      rw [← HN6E.out] at hn6
      have hbv6 := app_apart hap6 hbv5 (World.block_lt_of_cell? _ _ hHeld.1)
      obtain ⟨a6, c6, rfl, _, _⟩ := owns_shape hn6.owns
      have hbox6 := hap6.only.heap (Ext.heap ((Only.refl _ _).drew) HBX5.out) hbv5
      have HBX6 : Hid _ := hbox6
      have HN6 : Hid _ := hn6
      clear hn6 hbox6
      go_wp2_with fail
      refine hK.out _ _ ⟨hap6.only.cell hHeld.1 hbv5, hap6.only.cell hHeld.2.1 hbv5, hap6.only.cell hHeld.2.2 hbv5⟩ (fun hHeld => ?_)
      clear hK
      refine wpAnyH_ready (rs := [9]) (by kernel_rfl) (by simp) ?_
      refine AllReadyH.cons rfl (fun K hK => ?_) AllReadyH.nil
      go_simp
      go_at_call 61
      refine (int_is _ n6 x.start _ _ HN6.out.owns hok.s1 hok.s2 (by omega)).mono ?_
      rintro e w7 ⟨v7, rfl, hap7⟩
      have hn7 := HN6.out.append hap7
      rw [← HN7E.out] at hn7
      have hbv7 := app_apart hap7 hbv6 (World.block_lt_of_cell? _ _ hHeld.1)
      obtain ⟨a7, c7, rfl, _, _⟩ := owns_shape hn7.owns
      have hbox7 := hap7.only.heap HBX6.out hbv6
      have HBX7 : Hid _ := hbox7
      have HN7 : Hid _ := hn7
      clear hn7 hbox7
      go_wp2_with fail
      refine hK.out _ _ ⟨hap7.only.cell hHeld.1 hbv6, hap7.only.cell hHeld.2.1 hbv6, hap7.only.cell hHeld.2.2 hbv6⟩ (fun hHeld => ?_)
      clear hK
      refine wpAnyH_ready (rs := [14]) (by kernel_rfl) (by simp) ?_
      refine AllReadyH.cons rfl (fun K hK => ?_) AllReadyH.nil
      go_simp
      go_at_call 61
      refine (int_is _ n7 x.fin _ _ HN7.out.owns hok.f1 hok.f2 (by omega)).mono ?_
      rintro e w8 ⟨v8, rfl, hap8⟩
      have hn8 := HN7.out.append hap8
      rw [← HN8E.out] at hn8
      have hbv8 := app_apart hap8 hbv7 (World.block_lt_of_cell? _ _ hHeld.1)
      obtain ⟨a8, c8, rfl, _, _⟩ := owns_shape hn8.owns
      have hbox8 := hap8.only.heap HBX7.out hbv7
      have HBX8 : Hid _ := hbox8
      have HN8 : Hid _ := hn8
      clear hn8 hbox8
      go_wp2_with fail
      refine hK.out _ _ ⟨hap8.only.cell hHeld.1 hbv7, hap8.only.cell hHeld.2.1 hbv7, hap8.only.cell hHeld.2.2 hbv7⟩ (fun hHeld => ?_)
      clear hK
      refine wpAnyH_ready (rs := [15]) (by kernel_rfl) (by simp) ?_
      refine AllReadyH.cons rfl (fun K hK => ?_) AllReadyH.nil
      go_simp
      refine hK.out _ _ hHeld (fun hHeld => ?_)
      clear hK
      refine wpAnyH_done (by kernel_rfl) ?_ _
      have h5 : w8.cell? ⟨bx, 5, none⟩ = some (.int .u64 x.a.count) := by simp [World.cell?, HBX8.out]
      have h6 : w8.cell? ⟨bx, 6, none⟩ = some (.float .f64 x.a.sum) := by simp [World.cell?, HBX8.out]
      have h7 : w8.cell? ⟨bx, 7, none⟩ = some (.bool x.a.over) := by simp [World.cell?, HBX8.out]
      have h8 : w8.cell? ⟨bx, 8, none⟩ = some (.float .f64 x.a.min) := by simp [World.cell?, HBX8.out]
      have h9 : w8.cell? ⟨bx, 9, none⟩ = some (.float .f64 x.a.max) := by simp [World.cell?, HBX8.out]
      clear hHeld hap6 hap7 hap8 g2 g3 g4
      go_wp2_with fail
      refine (layvalue_is _ n8 x.a _ w8 HN8.out.owns hok.a (by omega)).mono ?_
      rintro e w9 ⟨v9, rfl, hap9⟩
      have hn9 := HN8.out.append hap9
      have HN9 : Hid _ := hn9
      clear hn9 hap9 h5 h6 h7 h8 h9
      go_wp2
      go_roundw
      case rel => exact ⟨k + 1, by go_num, hlt, led_join HX.out HBE.out HN0E.out HN2E.out HN6E.out HN7E.out HN8E.out HN9.out⟩
      case measure => simp [intOf]; omega
    · obtain rfl : k = l.length := by omega
      have hj := HJ.out
      rw [List.take_length, show leb l.length ++ l.flatMap chgB = ledgerB l from rfl] at hj
      have hll := ledgerB_len hl hn
      obtain ⟨a0, c0, rfl, _, _⟩ := owns_shape hj.owns
      have HJ2 : Hid (NewRow 5 1 w (ledgerB l).length (by8 (ledgerB l)) (.slice a0 (ledgerB l).length c0) wr) := hj
      have HT2 : Hid (TableAt wr 0) := TableAt.keep HT.out HJ2.out.ext id
      have hll2 : (ledgerB l).length ≤ 1073741824 := by omega
      clear HJ hj hll
      go_wp2_with fail
      refine (pagelay_is 108 _ (ledgerB l) wr (rd_of_owns HJ2.out.owns) hll2 HT2.out).mono ?_
      rintro e w9 ⟨v9, rfl, hn9⟩
      go_wp2
      go_ret
      exact ⟨_, rfl, hn9.owns, HJ2.out.ext.thenExt hn9.ext, fun j hj => Nat.le_trans HJ2.out.ext.size (hn9.fresh j hj)⟩

end Go.Proofs.YteddohgdegggnaaGreatDoor
