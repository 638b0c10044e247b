/- What is shown here, as far as 'layvalue_is': contracts of the program's functions, and the plain laws that they lean on; conditions: each theorem's own hypotheses. -/
import Derived.Test.YteddohgdegggnaaGreatDoorReal
import Derived.Deep.RegionHeld3
namespace Go.HR
/-- What is told of a pane. -/
structure AggG where
  count : Nat
  sum : Nat
  over : Bool
  min : Nat
  max : Nat
def AggG.cells (a : AggG) : List Value := [.int .u64 a.count, .float .f64 a.sum, .bool a.over, .float .f64 a.min, .float .f64 a.max]
def AggG.OK (a : AggG) : Prop := a.count < 18446744073709551616 ∧ a.sum < 18446744073709551616 ∧ a.min < 18446744073709551616 ∧ a.max < 18446744073709551616
def aggB (a : AggG) : List UInt8 := leb a.count ++ (leb (canon a.sum) ++ (leb a.over.toNat ++ (leb (canon a.min) ++ leb (canon a.max))))
end Go.HR
namespace Go.Proofs.YteddohgdegggnaaGreatDoor
open Go.RowKit Go.HR
open Go.Proofs

theorem app_apart {P : Program} {e size n m k : Nat} {v v' : Value} {xs news : List Value} {w w' : World} (h : Appended P e size v n xs w m news v' w') (hv : ¬ v.ownBlock = some k) (hk : k < w.heap.size) : ¬ v'.ownBlock = some k :=
  fun e => (h.fresh k e).elim hv (by omega)

theorem agg_join {P : Program} {e n n1 n3 n4 n5 : Nat} {v v1 v3 v4 v5 v6 : Value} {xs : List Value} {w w1 w3 w4 w5 w6 : World} (a : AggG)
    (h1 : Appended P e 1 v n xs w (leb a.count).length (by8 (leb a.count)) v1 w1) (h2 : Appended P e 1 v1 n1 (xs ++ by8 (leb a.count)) w1 (leb (canon a.sum)).length (by8 (leb (canon a.sum))) v3 w3)
    (h3 : Appended P e 1 v3 n3 (xs ++ by8 (leb a.count) ++ by8 (leb (canon a.sum))) w3 (leb a.over.toNat).length (by8 (leb a.over.toNat)) v4 w4)
    (h4 : Appended P e 1 v4 n4 (xs ++ by8 (leb a.count) ++ by8 (leb (canon a.sum)) ++ by8 (leb a.over.toNat)) w4 (leb (canon a.min)).length (by8 (leb (canon a.min))) v5 w5)
    (h5 : Appended P e 1 v5 n5 (xs ++ by8 (leb a.count) ++ by8 (leb (canon a.sum)) ++ by8 (leb a.over.toNat) ++ by8 (leb (canon a.min))) w5 (leb (canon a.max)).length (by8 (leb (canon a.max))) v6 w6)
    (e1 : n1 = n + (leb a.count).length) (e3 : n3 = n1 + (leb (canon a.sum)).length) (e4 : n4 = n3 + (leb a.over.toNat).length) (e5 : n5 = n4 + (leb (canon a.min)).length) : Appended P e 1 v n xs w (aggB a).length (by8 (aggB a)) v6 w6 := by
  subst e5 e4 e3 e1
  have h := h1.trans (h2.trans (h3.trans (h4.trans h5)))
  unfold aggB
  simp only [List.length_append, by8_append]
  exact h

set_option linter.unusedSimpArgs false in
set_option maxRecDepth 100000 in
set_option maxHeartbeats 2000000 in
theorem layvalue_is (v : Value) (n : Nat) (a : AggG) (xs : List Value) (w : World) (hown : w.ownsRow 0 5 1 v n xs) (ha : a.OK) (hn : n ≤ 274877906944) :
    Calls Tryz.prog 63 #[v, .agg a.cells.toArray] w (AppPost w v n xs (aggB a)) := by
  obtain ⟨va, vc, rfl, _, _⟩ := owns_shape hown
  obtain ⟨q1, q2, q3, q4⟩ := ha
  unfold AggG.cells
  go_enter Tryz.func63, Tryz.ntmps63
  go_wp2_with fail
  obtain ⟨w0, hw0⟩ : ∃ w0, w0 = w.alloc (.cells #[.int .u64 a.count, .float .f64 a.sum, .bool a.over, .float .f64 a.min, .float .f64 a.max] 57) := ⟨_, rfl⟩
  rw [← hw0]
  have hx0 : Ext w w0 := hw0 ▸ (Only.refl _ _).alloc _
  have hbox : w0.heap[w.heap.size]? = some (.cells #[.int .u64 a.count, .float .f64 a.sum, .bool a.over, .float .f64 a.min, .float .f64 a.max] 57 (0, 0)) := by rw [hw0]; exact Go.heap_alloc_new w _
  obtain ⟨bx, hbx⟩ : ∃ bx, bx = w.heap.size := ⟨_, rfl⟩
  rw [← hbx] at hbox ⊢
  have d0 : w0.cell? ⟨bx, 0, none⟩ = some (.int .u64 a.count) := by simp [World.cell?, hbox]
  have d1 : w0.cell? ⟨bx, 1, none⟩ = some (.float .f64 a.sum) := by simp [World.cell?, hbox]
  have d2 : w0.cell? ⟨bx, 2, none⟩ = some (.bool a.over) := by simp [World.cell?, hbox]
  have d3 : w0.cell? ⟨bx, 3, none⟩ = some (.float .f64 a.min) := by simp [World.cell?, hbox]
  have d4 : w0.cell? ⟨bx, 4, none⟩ = some (.float .f64 a.max) := by simp [World.cell?, hbox]
  have hbv : ¬ (Value.slice va n vc).ownBlock = some bx := fun e => by have := owns_lt hown e; omega
  have H0 : Hid (w0.ownsRow 0 5 1 (.slice va n vc) n xs) := owns_ext hown hx0
  have HX0 : Hid (Ext w w0) := hx0
  obtain ⟨n1, hn1⟩ : ∃ n1, n1 = n + (leb a.count).length := ⟨_, rfl⟩
  have hn1b : n1 ≤ 1099511627776 := by have := leb_ten q1; omega
  have HN1 : Hid (n1 = n + (leb a.count).length) := hn1
  clear hw0 hx0 hbox hbx hown hn1
  refine wp_region_held_drew (S := fun w' => w'.cell? ⟨bx, 0, none⟩ = some (.int .u64 a.count) ∧ w'.cell? ⟨bx, 1, none⟩ = some (.float .f64 a.sum)) (by kernel_rfl) ⟨d0, d1⟩ (fun hHeld => ?_)
  refine wpAnyH_take (i := 0) (v := ?_) rfl (by kernel_rfl) (by kernel_rfl) (by kernel_rfl) (fun _ _ _ h => h) (Or.inl ⟨by rfl, ?_⟩) hHeld ?_
  rotate_left
  · intro w hSw; go_split_ands; go_simp; with_reducible rfl
  simp only [Act.put, List.setIfInBounds_toArray, List.set_cons_zero, List.set_cons_succ]
  refine wpAnyH_take (i := 1) (v := ?_) rfl (by kernel_rfl) (by kernel_rfl) (by kernel_rfl) (fun _ _ _ h => h) (Or.inl ⟨by rfl, ?_⟩) hHeld ?_
  rotate_left
  · intro w hSw; go_split_ands; go_simp; with_reducible rfl
  simp only [Act.put, List.setIfInBounds_toArray, List.set_cons_zero, List.set_cons_succ]
  refine wpAnyH_take (i := 4) (v := ?_) rfl (by kernel_rfl) (by kernel_rfl) (by kernel_rfl) (fun _ _ _ h => h) (Or.inl ⟨by rfl, ?_⟩) hHeld ?_
  rotate_left
  · intro w hSw; go_split_ands; go_simp; with_reducible rfl
  simp only [Act.put, List.setIfInBounds_toArray, List.set_cons_zero, List.set_cons_succ]
  refine wpAnyH_take (i := 2) (v := ?_) rfl (by kernel_rfl) (by kernel_rfl) (by kernel_rfl) (fun _ _ _ h => h) (Or.inl ⟨by rfl, ?_⟩) hHeld ?_
  rotate_left
  · intro w hSw; go_split_ands; go_simp; with_reducible rfl
  simp only [Act.put, List.setIfInBounds_toArray, List.set_cons_zero, List.set_cons_succ]
  refine wpAnyH_take (i := 5) (v := ?_) rfl (by kernel_rfl) (by kernel_rfl) (by kernel_rfl) (fun _ _ _ h => h) (Or.inl ⟨by rfl, ?_⟩) hHeld ?_
  rotate_left
  · intro w hSw; go_split_ands; go_simp; with_reducible rfl
  simp only [Act.put, List.setIfInBounds_toArray, List.set_cons_zero, List.set_cons_succ]
  refine wpAnyH_ready (rs := [3]) (by kernel_rfl) (by simp) ?_
  refine AllReadyH.cons rfl (fun K hK => ?_) AllReadyH.nil
  go_simp
  go_at_call 40
  refine (uint_is _ n a.count xs _ (owns_ext H0.out ((Only.refl _ _).drew)) q1 (by omega)).mono ?_
  rintro e w1 ⟨v1, rfl, hapA⟩
  have hoA := hapA.owns
  rw [← HN1.out] at hoA
  obtain ⟨a1, c1, rfl, _, _⟩ := owns_shape hoA
  have hbv1 := app_apart hapA hbv (World.block_lt_of_cell? w0 _ d0)
  go_wp2_with fail
  refine hK.out _ _ ⟨hapA.only.cell hHeld.1 hbv, hapA.only.cell hHeld.2 hbv⟩ (fun hHeld => ?_)
  clear hK
  refine wpAnyH_ready (rs := [6]) (by kernel_rfl) (by simp) ?_
  refine AllReadyH.cons rfl (fun K hK => ?_) AllReadyH.nil
  go_simp
  go_at_call 81
  refine (bits_is a.sum _).mono ?_
  rintro e w2 ⟨rfl, rfl⟩
  go_wp2_with fail
  refine hK.out _ _ hHeld (fun hHeld => ?_)
  clear hK
  refine wpAnyH_ready (rs := [7]) (by kernel_rfl) (by simp) ?_
  refine AllReadyH.cons rfl (fun K hK => ?_) AllReadyH.nil
  go_simp
  go_at_call 40
  refine (uint_is _ n1 (canon a.sum) _ _ hoA (canon_lt q2) hn1b).mono ?_
  rintro e w3 ⟨v3, rfl, hapC⟩
  go_wp2_with fail
  refine hK.out _ _ ⟨hapC.only.cell hHeld.1 hbv1, hapC.only.cell hHeld.2 hbv1⟩ (fun hHeld => ?_)
  clear hK
  refine wpAnyH_ready (rs := [8]) (by kernel_rfl) (by simp) ?_
  refine AllReadyH.cons rfl (fun K hK => ?_) AllReadyH.nil
  go_simp
  refine hK.out _ _ hHeld (fun hHeld => ?_)
  clear hK
  refine wpAnyH_done (by kernel_rfl) ?_ _
  obtain ⟨n3, hn3⟩ : ∃ n3, n3 = n1 + (leb (canon a.sum)).length := ⟨_, rfl⟩
  have hn3b : n3 ≤ 1099511627776 := by have := leb_ten (canon_lt q2); have := leb_ten q1; have := HN1.out; omega
  have HN3 : Hid (n3 = n1 + (leb (canon a.sum)).length) := hn3
  have hoC := hapC.owns
  rw [← hn3] at hoC
  obtain ⟨a3, c3, rfl, _, _⟩ := owns_shape hoC
  have hblt3 : bx < w3.heap.size := Nat.lt_of_lt_of_le (World.block_lt_of_cell? w0 _ d0) (Nat.le_trans hapA.only.size hapC.only.size)
  have hbv3 := app_apart hapC hbv1 (Nat.lt_of_lt_of_le (World.block_lt_of_cell? w0 _ d0) hapA.only.size)
  have g2 : w3.cell? ⟨bx, 2, none⟩ = some (.bool a.over) := hapC.only.cell (hapA.only.cell d2 hbv) hbv1
  have g3 : w3.cell? ⟨bx, 3, none⟩ = some (.float .f64 a.min) := hapC.only.cell (hapA.only.cell d3 hbv) hbv1
  have g4 : w3.cell? ⟨bx, 4, none⟩ = some (.float .f64 a.max) := hapC.only.cell (hapA.only.cell d4 hbv) hbv1
  have HO3 : Hid (w3.ownsRow 0 5 1 (.slice a3 n3 c3) n3 (xs ++ by8 (leb a.count) ++ by8 (leb (canon a.sum)))) := hoC
  have HA : Hid (Appended Tryz.prog 5 1 (.slice va n vc) n xs w0 (leb a.count).length (by8 (leb a.count)) (.slice a1 n1 c1) w1) := hapA.ofExt ((Only.refl _ _).drew)
  have HC : Hid (Appended Tryz.prog 5 1 (.slice a1 n1 c1) n1 (xs ++ by8 (leb a.count)) w1 (leb (canon a.sum)).length (by8 (leb (canon a.sum))) (.slice a3 n3 c3) w3) := hapC
  have hov : a.over.toNat < 18446744073709551616 := by cases a.over <;> decide
  clear hapA hapC hoC hoA hHeld hn3 d0 d1 d2 d3 d4
  go_upto_if 15 with fail
  go_cut [1, 5, 15] (fun _ x _ wx => x = .int .u64 a.over.toNat ∧ wx = w3)
  case first =>
    obtain ⟨o, ho⟩ : ∃ o, o = a.over := ⟨_, rfl⟩
    have HOV : Hid (o = a.over) := ho
    rw [← ho] at g2 ⊢
    clear ho
    cases o
    · go_wp2_with fail
      go_meet
      exact ⟨by rw [← HOV.out]; rfl, rfl⟩
    · go_wp2_with fail
      go_meet
      exact ⟨by rw [← HOV.out]; rfl, rfl⟩
  case rest =>
  obtain ⟨rfl, rfl⟩ := hcut
  obtain ⟨n4, hn4⟩ : ∃ n4, n4 = n3 + (leb a.over.toNat).length := ⟨_, rfl⟩
  obtain ⟨n5, hn5⟩ : ∃ n5, n5 = n4 + (leb (canon a.min)).length := ⟨_, rfl⟩
  have hn4b : n4 ≤ 1099511627776 := by have := leb_ten (canon_lt q2); have := leb_ten q1; have := HN1.out; have := HN3.out; have := leb_ten hov; omega
  have hn5b : n5 ≤ 1099511627776 := by have := leb_ten (canon_lt q2); have := leb_ten q1; have := HN1.out; have := HN3.out; have := leb_ten hov; have := leb_ten (canon_lt q3); omega
  have HN4 : Hid (n4 = n3 + (leb a.over.toNat).length) := hn4
  have HN5 : Hid (n5 = n4 + (leb (canon a.min)).length) := hn5
  clear hn4 hn5
  go_wp2_with fail
  refine wp_region_held_drew (S := fun w' => w'.cell? ⟨bx, 3, none⟩ = some (.float .f64 a.min) ∧ w'.cell? ⟨bx, 4, none⟩ = some (.float .f64 a.max)) (by kernel_rfl) ⟨g3, g4⟩ (fun hHeld => ?_)
  refine wpAnyH_take (i := 0) (v := ?_) rfl (by kernel_rfl) (by kernel_rfl) (by kernel_rfl) (fun _ _ _ h => h) (Or.inl ⟨by rfl, ?_⟩) hHeld ?_
  rotate_left
  · intro w hSw; go_split_ands; go_simp; with_reducible rfl
  simp only [Act.put, List.setIfInBounds_toArray, List.set_cons_zero, List.set_cons_succ]
  refine wpAnyH_take (i := 1) (v := ?_) rfl (by kernel_rfl) (by kernel_rfl) (by kernel_rfl) (fun _ _ _ h => h) (Or.inl ⟨by rfl, ?_⟩) hHeld ?_
  rotate_left
  · intro w hSw; go_split_ands; go_simp; with_reducible rfl
  simp only [Act.put, List.setIfInBounds_toArray, List.set_cons_zero, List.set_cons_succ]
  refine wpAnyH_take (i := 3) (v := ?_) rfl (by kernel_rfl) (by kernel_rfl) (by kernel_rfl) (fun _ _ _ h => h) (Or.inl ⟨by rfl, ?_⟩) hHeld ?_
  rotate_left
  · intro w hSw; go_split_ands; go_simp; with_reducible rfl
  simp only [Act.put, List.setIfInBounds_toArray, List.set_cons_zero, List.set_cons_succ]
  refine wpAnyH_take (i := 7) (v := ?_) rfl (by kernel_rfl) (by kernel_rfl) (by kernel_rfl) (fun _ _ _ h => h) (Or.inl ⟨by rfl, ?_⟩) hHeld ?_
  rotate_left
  · intro w hSw; go_split_ands; go_simp; with_reducible rfl
  simp only [Act.put, List.setIfInBounds_toArray, List.set_cons_zero, List.set_cons_succ]
  refine wpAnyH_take (i := 4) (v := ?_) rfl (by kernel_rfl) (by kernel_rfl) (by kernel_rfl) (fun _ _ _ h => h) (Or.inl ⟨by rfl, ?_⟩) hHeld ?_
  rotate_left
  · intro w hSw; go_split_ands; go_simp; with_reducible rfl
  simp only [Act.put, List.setIfInBounds_toArray, List.set_cons_zero, List.set_cons_succ]
  refine wpAnyH_take (i := 8) (v := ?_) rfl (by kernel_rfl) (by kernel_rfl) (by kernel_rfl) (fun _ _ _ h => h) (Or.inl ⟨by rfl, ?_⟩) hHeld ?_
  rotate_left
  · intro w hSw; go_split_ands; go_simp; with_reducible rfl
  simp only [Act.put, List.setIfInBounds_toArray, List.set_cons_zero, List.set_cons_succ]
  refine wpAnyH_ready (rs := [2]) (by kernel_rfl) (by simp) ?_
  refine AllReadyH.cons rfl (fun K hK => ?_) AllReadyH.nil
  go_simp
  go_at_call 40
  refine (uint_is _ n3 a.over.toNat _ _ (owns_ext HO3.out ((Only.refl _ _).drew)) hov hn3b).mono ?_
  rintro e w4 ⟨v4, rfl, hapD⟩
  have hoD := hapD.owns
  rw [← HN4.out] at hoD
  obtain ⟨a4, c4, rfl, _, _⟩ := owns_shape hoD
  have hbv4 := app_apart hapD hbv3 hblt3
  go_wp2_with fail
  refine hK.out _ _ ⟨hapD.only.cell hHeld.1 hbv3, hapD.only.cell hHeld.2 hbv3⟩ (fun hHeld => ?_)
  clear hK
  refine wpAnyH_ready (rs := [5]) (by kernel_rfl) (by simp) ?_
  refine AllReadyH.cons rfl (fun K hK => ?_) AllReadyH.nil
  go_simp
  go_at_call 81
  refine (bits_is a.min _).mono ?_
  rintro e w5 ⟨rfl, rfl⟩
  go_wp2_with fail
  refine hK.out _ _ hHeld (fun hHeld => ?_)
  clear hK
  refine wpAnyH_ready (rs := [6]) (by kernel_rfl) (by simp) ?_
  refine AllReadyH.cons rfl (fun K hK => ?_) AllReadyH.nil
  go_simp
  go_at_call 40
  refine (uint_is _ n4 (canon a.min) _ _ hoD (canon_lt q3) hn4b).mono ?_
  rintro e w5 ⟨v5, rfl, hapE⟩
  have hoE := hapE.owns
  rw [← HN5.out] at hoE
  obtain ⟨a5, c5, rfl, _, _⟩ := owns_shape hoE
  have hbv5 := app_apart hapE hbv4 (World.block_lt_of_cell? _ _ hHeld.1)
  go_wp2_with fail
  refine hK.out _ _ ⟨hapE.only.cell hHeld.1 hbv4, hapE.only.cell hHeld.2 hbv4⟩ (fun hHeld => ?_)
  clear hK
  refine wpAnyH_ready (rs := [9]) (by kernel_rfl) (by simp) ?_
  refine AllReadyH.cons rfl (fun K hK => ?_) AllReadyH.nil
  go_simp
  go_at_call 81
  refine (bits_is a.max _).mono ?_
  rintro e w6 ⟨rfl, rfl⟩
  go_wp2_with fail
  refine hK.out _ _ hHeld (fun hHeld => ?_)
  clear hK
  refine wpAnyH_ready (rs := [10]) (by kernel_rfl) (by simp) ?_
  refine AllReadyH.cons rfl (fun K hK => ?_) AllReadyH.nil
  go_simp
  go_at_call 40
  refine (uint_is _ n5 (canon a.max) _ _ hoE (canon_lt q4) hn5b).mono ?_
  rintro e w6 ⟨v6, rfl, hapF⟩
  go_wp2_with fail
  refine hK.out _ _ ⟨hapF.only.cell hHeld.1 hbv5, hapF.only.cell hHeld.2 hbv5⟩ (fun hHeld => ?_)
  clear hK
  refine wpAnyH_ready (rs := [11]) (by kernel_rfl) (by simp) ?_
  refine AllReadyH.cons rfl (fun K hK => ?_) AllReadyH.nil
  go_simp
  refine hK.out _ _ hHeld (fun hHeld => ?_)
  clear hK
  refine wpAnyH_done (by kernel_rfl) ?_ _
  go_wp2_with fail
  go_ret
  exact ⟨v6, rfl, (agg_join a HA.out HC.out (hapD.ofExt ((Only.refl _ _).drew)) hapE hapF HN1.out HN3.out HN4.out HN5.out).ofExt HX0.out⟩

end Go.Proofs.YteddohgdegggnaaGreatDoor
