/- What is shown here, as far as 'delete1_is': contracts of the program's functions, and the plain laws that they lean on; conditions: each theorem's own hypotheses. -/
import Derived.Test.YteddohgdegggnaaGreatDoorIns
import Derived.Deep.RegionLaw
namespace Go.Proofs.YteddohgdegggnaaGreatDoor
open Go.RowKit Go.HR
open Go.Proofs

/-- A store was worked on: it is S' now; only its blocks were written; its blocks are old ones of its own, or new. -/
def Did (w : World) (b : Nat) (F : List Nat) (S' : St) (w' : World) : Prop := ∃ F', StoreAt w' b S' F' ∧ Only (fun k => k ∈ F) w w' ∧ ∀ k ∈ F', k ∈ F ∨ w.heap.size ≤ k

theorem foot_mem_g {b g n cap : Nat} {fs : List FV} : g ∈ foot b (.slice (some ⟨g, 0, none⟩) n cap) fs := by simp [foot, Value.ownBlock]
theorem foot_mem_b (b : Nat) (lv : Value) (fs : List FV) : b ∈ foot b lv fs := by simp [foot]
theorem foot_mem_f {b : Nat} {lv : Value} {fs : List FV} {f : FV} {k : Nat} (hf : f ∈ fs) (hk : f.pv.ownBlock = some k) : k ∈ foot b lv fs := by
  simp only [foot, List.mem_cons, List.mem_append, List.mem_filterMap]; exact .inr (.inr ⟨f, hf, hk⟩)

theorem StoreIs.one {w : World} {b : Nat} {S : St} {lv : Value} {fs : List FV} (h : StoreIs w b S lv fs) : ∀ u ∈ fs.flatMap FV.cells, u.oneCell' = true := by
  intro u hu
  obtain ⟨f, hf, hu⟩ := List.mem_flatMap.1 hu
  obtain ⟨a, c, hv, _, _⟩ := owns_shape (h.bytes f hf)
  exact cells_one f ⟨a, _, c, hv⟩ u hu

theorem used_sublist {l m : List FileG} (h : l.Sublist m) : used l ≤ used m := by
  induction h with
  | slnil => exact Nat.le_refl _
  | cons a _ ih => simp only [used, List.map_cons, List.sum_cons] at *; omega
  | cons_cons a _ ih => simp only [used, List.map_cons, List.sum_cons] at *; omega

theorem wf_erase {S : St} (h : S.WF) (i : Nat) : ({ S with l := S.l.eraseIdx i } : St).WF where
  sorted := h.sorted.sublist (List.eraseIdx_sublist _ _)
  room := Nat.le_trans (used_sublist (List.eraseIdx_sublist _ _)) h.room
  roomMax := h.roomMax
  count := Nat.le_trans (List.eraseIdx_sublist _ _).length_le h.count
  sure := fun f hf => h.sure f (List.mem_of_mem_eraseIdx hf)
  names := fun f hf => h.names f (List.mem_of_mem_eraseIdx hf)

theorem map_erase (fs : List FV) (i : Nat) : (fs.eraseIdx i).map (·.g) = (fs.map (·.g)).eraseIdx i := by rw [List.eraseIdx_eq_take_drop_succ, List.eraseIdx_eq_take_drop_succ]; simp

/-- A store behind the erasure of a file. -/
theorem StoreIs.erase {w w1 : World} {b : Nat} {S : St} {fs : List FV} {g n cap i n' : Nat} (h : StoreIs w b S (.slice (some ⟨g, 0, none⟩) n cap) fs)
    (hown : w1.ownsRow 0 69 3 (.slice (some ⟨g, 0, none⟩) n' cap) n' ((fs.eraseIdx i).flatMap FV.cells)) (hn' : n' = (fs.eraseIdx i).length) (ho : Only (fun k => k = g) w w1) :
    StoreIs (w1.setCell ⟨b, 0, none⟩ (.slice (some ⟨g, 0, none⟩) n' cap)) b { S with l := S.l.eraseIdx i } (.slice (some ⟨g, 0, none⟩) n' cap) (fs.eraseIdx i) ∧
    Only (fun k => k ∈ foot b (.slice (some ⟨g, 0, none⟩) n cap) fs) w (w1.setCell ⟨b, 0, none⟩ (.slice (some ⟨g, 0, none⟩) n' cap)) := by
  have hap := h.apart
  have hbg : b ≠ g := by
    intro e; subst e
    simp only [foot, List.nodup_cons, List.mem_append, Option.mem_toList, Value.ownBlock, not_or] at hap
    exact hap.1.1 trivial
  have ho2 : Only (fun k => k = b) w1 (w1.setCell ⟨b, 0, none⟩ (.slice (some ⟨g, 0, none⟩) n' cap)) := only_set (Only.refl _ _) _ _
  have hsub : (foot b (.slice (some ⟨g, 0, none⟩) n' cap) (fs.eraseIdx i)).Sublist (foot b (.slice (some ⟨g, 0, none⟩) n cap) fs) :=
    ((List.Sublist.refl _).append ((List.eraseIdx_sublist fs i).filterMap _)).cons_cons b
  refine ⟨⟨?_, ?_, ?_, ?_, hap.sublist hsub, wf_erase h.wf i⟩, ?_⟩
  · obtain ⟨ops, hh, _⟩ := h.cell
    exact ⟨ops, heap_setCell_same w1 b 0 _ _ _ (ho.heap hh hbg)⟩
  · rw [← hn']
    exact owns_keep hown ho2 fun k hk e => by simp [Value.ownBlock] at hk; omega
  · show S.l.eraseIdx i = _
    rw [map_erase, h.files]
  · intro f hf
    have hf' := List.mem_of_mem_eraseIdx hf
    refine owns_keep (owns_keep (h.bytes f hf') ho fun k hk e => ?_) ho2 fun k hk e => ?_
    · subst e
      simp only [foot, List.nodup_cons, List.nodup_append, List.mem_append, Option.mem_toList, Value.ownBlock, not_or, List.mem_filterMap] at hap
      exact hap.2.2.2 k rfl k ⟨f, hf', hk⟩ rfl
    · subst e
      simp only [foot, List.nodup_cons, List.mem_append, List.mem_filterMap, not_or] at hap
      exact hap.1.2 ⟨f, hf', hk⟩
  · exact (ho.mono fun k _ e => by subst e; exact foot_mem_g).trans (ho2.mono fun k _ e => by subst e; exact foot_mem_b _ _ _) fun _ _ h => h

theorem foot_erase {b g n n' cap i k : Nat} {fs : List FV} (h : k ∈ foot b (.slice (some ⟨g, 0, none⟩) n' cap) (fs.eraseIdx i)) : k ∈ foot b (.slice (some ⟨g, 0, none⟩) n cap) fs :=
  (((List.Sublist.refl _).append ((List.eraseIdx_sublist fs i).filterMap _)).cons_cons b : (foot b (.slice (some ⟨g, 0, none⟩) n' cap) (fs.eraseIdx i)).Sublist (foot b (.slice (some ⟨g, 0, none⟩) n cap) fs)).subset h

set_option maxRecDepth 100000 in
set_option maxHeartbeats 2000000 in
theorem delete1_is {b c : Nat} {S : St} {lv : Value} {fs : List FV} (i : Nat) (w : World) (h : StoreIs w b S lv fs) (hi : i < fs.length) (hc : w.cell? ⟨c, 0, none⟩ = some (.pointer (some ⟨b, 0, none⟩))) (hcf : c ∉ foot b lv fs) :
    Calls Tryz.prog 22 #[.int .i64 i, .pointer (some ⟨c, 0, none⟩)] w fun e w' => e = .returned (.tuple #[]) ∧ Did w b (foot b lv fs) { S with l := S.l.eraseIdx i } w' := by
  rcases h.lv with ⟨rfl, rfl⟩ | ⟨g, cap, rfl, hcap, _⟩
  · simp at hi
  obtain ⟨ops, _, c0, c1, c2, c3, c4⟩ := h.cell
  have f0 := h.free 0
  have hcb : ¬ c = b := fun e => hcf (by rw [e]; exact foot_mem_b _ _ _)
  have hbc : ¬ b = c := fun e => hcf (by rw [← e]; exact foot_mem_b _ _ _)
  have hcg : ¬ c = g := fun e => hcf (by rw [e]; exact foot_mem_g)
  have hbg : ¬ b = g := by
    intro e; subst e
    have hap := h.apart
    simp only [foot, List.nodup_cons, List.mem_append, Option.mem_toList, Value.ownBlock, not_or] at hap
    exact hap.1.1 trivial
  obtain ⟨k, hk⟩ : ∃ k, i + 1 + k = fs.length := ⟨fs.length - (i + 1), by omega⟩
  have hrow := h.row
  rw [← hk] at hrow c0
  have HR : Hid (w.ownsRow 0 69 3 (.slice (some ⟨g, 0, none⟩) (i + 1 + k) cap) (i + 1 + k) (fs.flatMap FV.cells)) := hrow
  have HK : Hid (i + 1 + k = fs.length) := hk
  have hcnt := h.count
  have hik : i + 1 + k ≤ 500 := by omega
  have H : Hid (StoreIs w b S (.slice (some ⟨g, 0, none⟩) fs.length cap) fs) := h
  clear hrow hk h hcnt hi hcap
  have hlen' : i + k = (fs.eraseIdx i).length := by have := HK.out; rw [List.length_eraseIdx]; split <;> omega
  have HL : Hid (i + k = (fs.eraseIdx i).length) := hlen'
  clear hlen'
  have hw1 : IntKind.i64.wrap ((i : Int) + 1) = (i : Int) + 1 := by rw [IntKind.wrap_i64]; omega
  go_enter Tryz.func22, Tryz.ntmps22
  go_region_law
    (first | (go_simp; go_at_call 23; refine (delete_row' g cap i k fs w.drew HK.out (by exact HR.out) hik H.out.one).mono ?_; rintro e w1 ⟨rfl, hown1, ho1⟩; have d0 := Only.cell ho1.ofDrew hc hcg; have d1 := Only.cell ho1.ofDrew c0 hbg; have d2 := (World.frozen?_of_block (w := w) (ho1.ofDrew.block b (lt_of_block H.out.head.choose_spec) hbg)).trans f0))
  all_goals go_wp2
  all_goals go_end0
  all_goals obtain ⟨hs, ho⟩ := H.out.erase (i := i) hown1 HL.out ho1.ofDrew
  all_goals exact ⟨rfl, _, ⟨_, _, hs, rfl⟩, ho, fun k hk => .inl (foot_erase hk)⟩

end Go.Proofs.YteddohgdegggnaaGreatDoor
