/- What is shown here, as far as 'ledread_is': contracts of the program's functions, and the plain laws that they lean on; conditions: each theorem's own hypotheses. -/
import Derived.Test.YteddohgdegggnaaGreatDoorLed
namespace Go.Proofs.YteddohgdegggnaaGreatDoor
open Go.RowKit Go.HR
open Go.Proofs

set_option maxRecDepth 100000 in
set_option maxHeartbeats 2000000 in
theorem ledread_is (v : Value) (l : List ChgG) (w : World) (h : Rd w v (9 + (ledgerB l).length) (by8 (pageB 108 (ledgerB l)))) (hl : ∀ x ∈ l, x.OK) (hn : (ledgerB l).length ≤ 1048576) (hn2 : l.length ≤ 1048576) (ht : TableAt w 0) :
    Calls Tryz.prog 26 #[v] w fun e w' => ∃ v', e = .returned (.tuple #[v', .int .i64 0]) ∧ NewRow 61 10 w l.length ((l.map ChgG.canon).flatMap ChgG.cells) v' w' := by
  obtain ⟨va, vc, rfl, _, _⟩ := h.shape
  have H : Hid (Rd w (.slice va (9 + (ledgerB l).length) vc) (9 + (ledgerB l).length) (by8 (pageB 108 (ledgerB l)))) := h
  have h0 := TableAt.lt ht
  clear h
  go_enter Tryz.func26, Tryz.ntmps26
  go_wp2_with fail
  refine (pageone_is 108 (ledgerB l) _ w H.out hn ht).mono ?_
  rintro e w1 ⟨v1, rfl, hn1⟩
  obtain ⟨a1, c1, rfl, _, _⟩ := owns_shape hn1.owns
  have hs1 := hn1.ext.size
  have HN1 : Hid (NewRow 5 1 w (ledgerB l).length (by8 (ledgerB l)) (.slice a1 (ledgerB l).length c1) w1) := hn1
  clear hn1
  go_wp2_with fail
  obtain ⟨w2, hw2⟩ : ∃ w2, w2 = w1.alloc (.cells #[.slice none 0 0] 33) := ⟨_, rfl⟩
  have hx2 : Ext w1 w2 := hw2 ▸ (Only.refl _ _).alloc _
  have hs2 : w2.heap.size = w1.heap.size + 1 := by rw [hw2]; simp
  obtain ⟨c, hc⟩ : ∃ c, c = w1.heap.size := ⟨_, rfl⟩
  have hbox : w2.heap[c]? = some (.cells #[.slice none 0 0] 33 (0, 0)) := by rw [hw2, hc]; exact Go.heap_alloc_new w1 _
  obtain ⟨gb, hgb⟩ : ∃ gb, gb = (Value.slice a1 (ledgerB l).length c1).ownBlock.getD 0 := ⟨_, rfl⟩
  have hgb1 : ∀ k, (Value.slice a1 (ledgerB l).length c1).ownBlock = some k → k = gb := fun k hk => by rw [hgb, hk]; rfl
  have hgbc : gb < c := by
    rw [hgb, hc]
    cases ho : (Value.slice a1 (ledgerB l).length c1).ownBlock with
    | none => show 0 < _; omega
    | some k => exact owns_lt HN1.out.owns ho
  rw [← hw2, ← hc]
  have HBOX : Hid (w2.heap[c]? = some (.cells #[.slice none 0 0] 33 (0, 0))) := hbox
  have HX2 : Hid (Ext w w2) := HN1.out.ext.thenExt hx2
  have hrd2 := (rd_of_owns HN1.out.owns).ext hx2
  have HRD2 : Hid _ := hrd2
  have HGB1 : Hid _ := hgb1
  have hcs : c < w2.heap.size := by omega
  have hcw : w.heap.size ≤ c := by omega
  clear hw2 hbox hgb hx2 hrd2 hgb1 hs2 hc
  refine (try_is _ gb (ledgerB l) 44 #[.pointer (some ⟨c, 0, none⟩)] w2 (fun k => k = c) (fun w3 => ∃ v, w3.heap[c]? = some (.cells #[v] 33 (0, 0)) ∧ w3.ownsRow 0 61 10 v l.length ((l.map ChgG.canon).flatMap ChgG.cells) ∧ ∀ k, v.ownBlock = some k → w2.heap.size + 2 ≤ k)
    HRD2.out HGB1.out (by omega) (.inl ⟨rfl, _, rfl⟩) (fun w3 hx3 hs3 hr3 => ?_) (fun k hk => by omega)).mono ?_
  · refine (read1_is (w2.heap.size + 1) gb c l w3 hr3 hl hn2 (hx3.heap HBOX.out) (by omega) (by omega)).mono ?_
    rintro e w4 ⟨rfl, q1, ⟨v, q2, q3, q4⟩, q5⟩
    exact ⟨rfl, q1, ⟨v, q2, q3, fun k hk => Nat.le_trans hs3 (q4 k hk)⟩, q5⟩
  · rintro e w4 ⟨rfl, ho4, w3, ⟨v, q2, q3, q4⟩, ho34⟩
    have b4 := ho34.heap q2 (by omega)
    have t4 : w4.cell? ⟨c, 0, none⟩ = some v := by simp [World.cell?, b4]
    have r4 := owns_keep q3 ho34 fun k hk e => by have := q4 k hk; omega
    obtain ⟨a4, c4, rfl, _, _⟩ := owns_shape r4
    have HR4 : Hid _ := r4
    have HO4 : Hid _ := ho4
    have HQ4 : Hid _ := q4
    clear b4 r4 ho4 ho34 q4 q3 q2
    go_wp2_with fail
    go_ret2
    exact ⟨_, rfl, HR4.out, HX2.out.trans HO4.out fun k hk e => by have e' : k = c := e; omega, fun k hk => by have := HQ4.out k hk; have := HX2.out.size; omega⟩

end Go.Proofs.YteddohgdegggnaaGreatDoor
