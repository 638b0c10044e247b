/- What is shown here, as far as 'arm_is': contracts of the program's functions, and the plain laws that they lean on; conditions: each theorem's own hypotheses. -/
import Derived.Test.YteddohgdegggnaaGreatDoorApp
import Derived.BigQuiet
namespace Go.Proofs.YteddohgdegggnaaGreatDoor
open Go.RowKit Go.HR
open Go.Proofs

theorem StoreIs.head2 {w w' : World} {b : Nat} {S S' : St} {lv : Value} {fs : List FV} (h : StoreIs w b S lv fs) (ho : Only (fun k => k = b) w w')
    (hh : ∃ ops : Int, w'.heap[b]? = some (.cells #[lv, .int .i64 S'.room, .int .i64 S'.armed, .bool S'.off, .int .i64 ops] 64 (0, 0))) (hl : S'.l = S.l) (_hr : S'.room = S.room) (hwf : S'.WF) : StoreIs w' b S' lv fs where
  head := hh
  row := owns_keep h.row ho fun k hk e => by
    subst e
    have hap := h.apart
    simp only [foot, List.nodup_cons, List.mem_append, Option.mem_toList, not_or] at hap
    exact hap.1.1 hk
  files := hl.trans h.files
  bytes := fun f hf => owns_keep (h.bytes f hf) ho fun k hk e => by
    subst e
    have hap := h.apart
    simp only [foot, List.nodup_cons, List.mem_append, List.mem_filterMap, not_or] at hap
    exact hap.1.2 ⟨f, hf, hk⟩
  apart := h.apart
  wf := hwf

/-- A new store. -/
def NewStore (room : Nat) (w : World) (e : Ending) (w' : World) : Prop := ∃ b, e = .returned (.tuple #[.pointer (some ⟨b, 0, none⟩), .int .i64 0]) ∧ StoreAt w' b ⟨[], room, 0, false⟩ [b] ∧ Ext w w' ∧ w.heap.size ≤ b

theorem new_is (room : Nat) (w : World) (h1 : 1 ≤ room) (h2 : room ≤ 16777216) : Calls Tryz.prog 7 #[.int .i64 room] w (NewStore room w) := by
  go_enter Tryz.func7, Tryz.ntmps7
  go_wp2
  go_ret2
  refine ⟨w.heap.size, rfl, ⟨.slice none 0 0, [], ⟨⟨0, ?_⟩, ⟨rfl, .inl ⟨rfl, rfl⟩⟩, rfl, fun _ h => by simp at h, by simp [foot, Value.ownBlock], ?_⟩, by simp [foot, Value.ownBlock]⟩, (Only.refl _ _).alloc _, Nat.le_refl _⟩
  · rw [Go.heap_alloc_new]; rfl
  · exact ⟨List.Pairwise.nil, Nat.zero_le _, h2, Nat.zero_le _, fun _ h => (List.not_mem_nil h).elim, fun _ h => (List.not_mem_nil h).elim⟩

theorem on_is {b : Nat} {S : St} {lv : Value} {fs : List FV} (w : World) (h : StoreIs w b S lv fs) :
    Calls Tryz.prog 16 #[.pointer (some ⟨b, 0, none⟩)] w fun e w' => e = .returned (.bool (!S.off)) ∧ w = w' := by
  obtain ⟨ops, _, c0, c1, c2, c3, c4⟩ := h.cell
  go_enter Tryz.func16, Tryz.ntmps16
  go_wp2
  go_ret
  exact ⟨rfl, rfl⟩

theorem arm_is {b : Nat} {S : St} {lv : Value} {fs : List FV} (n : Nat) (w : World) (h : StoreIs w b S lv fs) :
    Calls Tryz.prog 15 #[.pointer (some ⟨b, 0, none⟩), .int .i64 n] w fun e w' => e = .returned (.int .i64 0) ∧ StoreIs w' b { S with armed := n } lv fs ∧ Only (fun k => k = b) w w' := by
  obtain ⟨ops, hh, c0, c1, c2, c3, c4⟩ := h.cell
  have f2 := h.free 2
  have HH : Hid (w.heap[b]? = some (.cells #[lv, .int .i64 S.room, .int .i64 S.armed, .bool S.off, .int .i64 ops] 64 (0, 0))) := hh
  have hn : ¬ ((n : Int) < 0) := by omega
  clear hh
  go_enter Tryz.func15, Tryz.ntmps15
  go_wp2
  go_ret
  have ho : Only (fun k => k = b) w (w.setCell ⟨b, 2, none⟩ (.int .i64 n)) := only_set (Only.refl _ _) _ _
  refine ⟨rfl, ?_, ho⟩
  refine h.head2 ho ⟨ops, head_set HH.out 2 (.int .i64 n)⟩ rfl rfl ⟨h.wf.sorted, h.wf.room, h.wf.roomMax, h.wf.count, h.wf.sure, h.wf.names⟩

end Go.Proofs.YteddohgdegggnaaGreatDoor
