/- What is shown here, as far as 'begin_is': contracts of the program's functions, and the plain laws that they lean on; conditions: each theorem's own hypotheses. -/
import Derived.Test.YteddohgdegggnaaGreatDoorFind
namespace Go.Proofs.YteddohgdegggnaaGreatDoor
open Go.RowKit Go.HR
open Go.Proofs

theorem okByte_iff (c : UInt8) : okByte c = true ↔ c.toNat = 46 ∨ (48 ≤ c.toNat ∧ c.toNat ≤ 57) ∨ (97 ≤ c.toNat ∧ c.toNat ≤ 122) := by
  simp only [okByte, Bool.or_eq_true, Bool.and_eq_true, beq_iff_eq, decide_eq_true_eq, UInt8.le_iff_toNat_le]
  constructor
  · rintro ((rfl | h) | h)
    · left; rfl
    · right; left; exact h
    · right; right; exact h
  · rintro (h | h | h)
    · left; left; exact UInt8.toNat_inj.1 h
    · left; right; exact h
    · right; exact h

theorem all_succ (s : ByteArray) (p : UInt8 → Bool) (k : Nat) (h : k < s.size) : (s.toList.take (k + 1)).all p = ((s.toList.take k).all p && p s[k]) := by
  rw [ByteArray.toList_eq, List.take_succ_eq_append_getElem (by simpa using h), List.all_append]
  simp
  rfl

theorem all_full (s : ByteArray) (p : UInt8 → Bool) : (s.toList.take s.size).all p = s.toList.all p := by
  rw [List.take_of_length_le (by rw [ByteArray.toList_eq]; exact Nat.le_refl _)]

theorem all_not (s : ByteArray) (p : UInt8 → Bool) (k : Nat) (h : k < s.size) (hp : p s[k] = false) : s.toList.all p = false := by
  rw [List.all_eq_false]
  refine ⟨s[k], ?_, by simp [hp]⟩
  rw [ByteArray.toList_eq]
  exact Array.getElem_mem_toList h

set_option maxHeartbeats 1000000 in
theorem form_any (s : ByteArray) (w : World) (hs : s.size ≤ 4611686018427387904) :
    Calls Tryz.prog 50 #[.string s] w fun e w' => e = .returned (.bool (form s.toList)) ∧ w = w' := by
  have hsz : s.toList.length = s.size := by rw [ByteArray.toList_eq]; rfl
  have HSZ : Hid (s.toList.length = s.size) := hsz
  clear hsz
  go_enter Tryz.func50, Tryz.ntmps50
  go_wp2_with fail
  go_loop [7] (fun i => ∃ k : Nat, i = .int .i64 k ∧ k ≤ s.size ∧ Hid ((s.toList.take k).all okByte = true)) (fun i => (s.size : Int).toNat - (intOf i).toNat)
  case atStart => exact ⟨0, rfl, Nat.zero_le _, rfl⟩
  case round =>
    obtain ⟨k, rfl, hk, hall⟩ := hrel
    by_cases hlt : k < s.size
    · obtain ⟨c, hc⟩ : ∃ c, c = s[k] := ⟨_, rfl⟩
      have HC : Hid (c = s[k]) := hc
      go_wp2
      all_goals first
        | (have hok : okByte s[k] = true := by (try simp only [bne_eq_false_iff_eq] at *); rw [okByte_iff]; omega
           go_round
           case rel => exact ⟨k + 1, by go_num, hlt, by show _ = true; rw [all_succ s _ k hlt, hok, hall.out]; rfl⟩
           case measure => simp [intOf]; omega)
        | (have hno : okByte s[k] = false := by rw [Bool.eq_false_iff, Ne, okByte_iff]; omega
           go_ret
           refine ⟨?_, rfl⟩
           rw [form, all_not s _ k hlt hno]; rfl)
    · obtain rfl : k = s.size := by omega
      have hf : form s.toList = (!s.toList.isEmpty && decide (s.size ≤ 32)) := by
        rw [form, ← all_full, hall.out, HSZ.out]; rfl
      have HF : Hid (form s.toList = (!s.toList.isEmpty && decide (s.size ≤ 32))) := hf
      clear hf hall
      go_wp2
      all_goals go_ret
      all_goals refine ⟨?_, rfl⟩
      · have h0 : s.toList = [] := (by assumption)
        rfl
      · rw [HF.out, ← show decide ((s.size : Int) ≤ 32) = decide (s.size ≤ 32) from decide_eq_decide.2 (by omega)]
        rfl

set_option maxHeartbeats 400000 in
theorem look_is {b : Nat} {S : St} {lv : Value} {fs : List FV} (tg : ByteArray) (w : World) (hs : tg.size ≤ 4611686018427387904) (h : StoreIs w b S lv fs) :
    Calls Tryz.prog 28 #[.pointer (some ⟨b, 0, none⟩), .string tg] w fun e w' => e = .returned (.int .i64 (S.look tg.toList)) ∧ w = w' := by
  obtain ⟨ops, _, c0, c1, c2, c3, c4⟩ := h.cell
  obtain ⟨q, hq⟩ : ∃ q, q = form tg.toList := ⟨_, rfl⟩
  have HQ : Hid (q = form tg.toList) := hq
  have hl : S.look tg.toList = if q then (if S.off then 9 else 0) else 1 := by rw [St.look, hq]
  have HL : Hid (S.look tg.toList = if q then (if S.off then 9 else 0) else 1) := hl
  obtain ⟨o, ho⟩ : ∃ o, o = S.off := ⟨_, rfl⟩
  rw [← ho] at c3
  have HO : Hid (o = S.off) := ho
  clear hq hl ho
  cases q <;> cases o <;>
  · go_enter Tryz.func28, Tryz.ntmps28
    go_wp2_with (go_at_call 50; refine (form_any _ _ hs).mono ?_; rintro e w1 ⟨he, rfl⟩; rw [← HQ.out] at he; subst he)
    go_ret
    refine ⟨?_, rfl⟩
    rw [HL.out, ← HO.out]
    rfl

theorem only_set {b : Nat} {a w : World} (h : Only (fun k => k = b) a w) (i : Nat) (u : Value) : Only (fun k => k = b) a (w.setCell ⟨b, i, none⟩ u) := h.setCell u fun _ => rfl

/-- The head of a store behind a store into one of its cells. -/
theorem head_set {w : World} {b : Nat} {c0 c1 c2 c3 c4 : Value} {T : TypeId} (h : w.heap[b]? = some (.cells #[c0, c1, c2, c3, c4] T (0, 0))) (i : Nat) (v : Value) :
    (w.setCell ⟨b, i, none⟩ v).heap[b]? = some (.cells (#[c0, c1, c2, c3, c4].setIfInBounds i v) T (0, 0)) := heap_setCell_same w b i _ T v h

theorem begin_wf {S : St} (h : S.WF) : S.begin.WF := by
  unfold St.begin
  split
  · exact ⟨h.sorted, h.room, h.roomMax, h.count, h.sure, h.names⟩
  · exact h

theorem StoreIs.begun {w w' : World} {b : Nat} {S : St} {lv : Value} {fs : List FV} (h : StoreIs w b S lv fs) (ho : Only (fun k => k = b) w w')
    (hh : ∃ ops : Int, w'.heap[b]? = some (.cells #[lv, .int .i64 S.room, .int .i64 S.begin.armed, .bool S.begin.off, .int .i64 ops] 64 (0, 0))) : StoreIs w' b S.begin lv fs := by
  have hn := h.apart
  simp only [foot, List.nodup_cons, List.mem_append, Option.mem_toList, List.mem_filterMap, not_or, not_exists, not_and] at hn
  have e1 : S.begin.room = S.room := by unfold St.begin; split <;> rfl
  have e2 : S.begin.l = S.l := by unfold St.begin; split <;> rfl
  exact ⟨by rw [e1]; exact hh, owns_keep h.row ho fun k hk e => hn.1.1 (e ▸ hk), by rw [e2]; exact h.files, fun f hf => owns_keep (h.bytes f hf) ho fun k hk e => hn.1.2 f hf (e ▸ hk), h.apart, begin_wf h.wf⟩

set_option maxHeartbeats 400000 in
theorem begin_is {b : Nat} {S : St} {lv : Value} {fs : List FV} (w : World) (h : StoreIs w b S lv fs) (ha : S.armed ≤ 4611686018427387904) :
    Calls Tryz.prog 42 #[.pointer (some ⟨b, 0, none⟩)] w
      fun e w' => e = .returned (.bool (!S.begin.off)) ∧ StoreIs w' b S.begin lv fs ∧ Only (fun k => k = b) w w' := by
  obtain ⟨ops, hh, c0, c1, c2, c3, c4⟩ := h.cell
  have f2 := h.free 2
  have f3 := h.free 3
  have f4 := h.free 4
  have HH : Hid (w.heap[b]? = some (.cells #[lv, .int .i64 S.room, .int .i64 S.armed, .bool S.off, .int .i64 ops] 64 (0, 0))) := hh
  clear hh
  by_cases h0 : 0 < S.armed
  · have e1 : S.begin = { S with armed := S.armed - 1, off := S.armed - 1 == 0 } := by rw [St.begin, if_pos h0]
    have E1 : Hid (S.begin = { S with armed := S.armed - 1, off := S.armed - 1 == 0 }) := e1
    clear e1
    go_enter Tryz.func42, Tryz.ntmps42
    go_wp2
    go_ret
    have hoff : ((S.armed : Int) - 1 == 0) = (S.armed - 1 == 0) := by rw [Bool.eq_iff_iff]; simp; omega
    refine ⟨?_, h.begun ?_ ?_, ?_⟩
    · rw [E1.out, ← hoff]; rfl
    · exact only_set (only_set (only_set (Only.refl _ _) _ _) _ _) _ _
    · rw [E1.out]
      refine ⟨wrap64 (ops + 1), ?_⟩
      have a1 := head_set HH.out 4 (.int .i64 (wrap64 (ops + 1)))
      have a2 := head_set a1 2 (.int .i64 ((S.armed : Int) - 1))
      have a3 := head_set a2 3 (.bool ((S.armed : Int) - 1 == 0))
      rw [a3, hoff, show ((S.armed : Int) - 1) = ((S.armed - 1 : Nat) : Int) from by omega]
      rfl
    · exact only_set (only_set (only_set (Only.refl _ _) _ _) _ _) _ _
  · have e1 : S.begin = S := by rw [St.begin, if_neg h0]
    have E1 : Hid (S.begin = S) := e1
    clear e1
    go_enter Tryz.func42, Tryz.ntmps42
    go_wp2
    go_ret
    refine ⟨?_, h.begun ?_ ?_, ?_⟩
    · rw [E1.out]; rfl
    · exact only_set (Only.refl _ _) _ _
    · rw [E1.out]
      exact ⟨_, head_set HH.out 4 (.int .i64 (wrap64 (ops + 1)))⟩
    · exact only_set (Only.refl _ _) _ _

end Go.Proofs.YteddohgdegggnaaGreatDoor
