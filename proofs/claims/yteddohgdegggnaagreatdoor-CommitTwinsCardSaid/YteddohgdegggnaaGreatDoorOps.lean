/- What is shown here, as far as 'rename_is': contracts of the program's functions, and the plain laws that they lean on; conditions: each theorem's own hypotheses. -/
import Derived.Test.YteddohgdegggnaaGreatDoorChg
namespace Go.HR
def kSync (S : St) (i : Nat) : St := match S.l[i]? with
  | none => S
  | some g => { S with l := S.l.set i g.sync }
def kDel (S : St) (i : Nat) : St := { S with l := S.l.eraseIdx i }
def kRen (t : List UInt8) (S : St) (i : Nat) : St := match S.l[i]? with
  | none => S
  | some g => { S with l := putFile (S.l.eraseIdx i) { g with name := t } }
def St.sync (S : St) (t : List UInt8) : Int × St := S.change t kSync
def St.delete (S : St) (t : List UInt8) : Int × St := S.change t kDel
def St.rename (S : St) (t u : List UInt8) : Int × St := if form t then (if S.look u = 0 then S.change t (kRen u) else (S.look u, S)) else (1, S)
theorem form_len {t : List UInt8} (h : form t = true) : t.length ≤ 32 := by
  simp only [form, Bool.and_eq_true, decide_eq_true_eq] at h
  exact h.2
theorem look_zero {S : St} {t : List UInt8} (h : S.look t = 0) : form t = true ∧ S.off = false := by
  unfold St.look at h
  split at h
  · rename_i h1
    refine ⟨h1, ?_⟩
    cases ho : S.off
    · rfl
    · rw [ho] at h; simp at h
  · simp at h
end Go.HR
namespace Go.Proofs.YteddohgdegggnaaGreatDoor
open Go.RowKit Go.HR
open Go.Proofs

theorem box_cell (w : World) (v : Value) (T : TypeId) : (w.alloc (.cells #[v] T)).cell? ⟨w.heap.size, 0, none⟩ = some v := by
  unfold World.cell?
  rw [show (w.alloc (.cells #[v] T)).heap[w.heap.size]? = _ from Go.heap_alloc_new w _]
  rfl

theorem two_boxes (w : World) (v u : Value) (T U : TypeId) : ((w.alloc (.cells #[v] T)).alloc (.cells #[u] U)).cell? ⟨w.heap.size, 0, none⟩ = some v ∧ ((w.alloc (.cells #[v] T)).alloc (.cells #[u] U)).cell? ⟨w.heap.size + 1, 0, none⟩ = some u := by
  have h1 : (w.alloc (.cells #[v] T)).heap.size = w.heap.size + 1 := by simp
  refine ⟨Only.cell ((Only.refl (fun _ => False) (w.alloc (.cells #[v] T))).alloc _) (box_cell w v T) id, ?_⟩
  have := box_cell (w.alloc (.cells #[v] T)) u U
  rwa [h1] at this

theorem StoreIs.alloc {w : World} {b : Nat} {S : St} {lv : Value} {fs : List FV} (h : StoreIs w b S lv fs) (o : Obj) : StoreIs (w.alloc o) b S lv fs := h.keep ((Only.refl (fun _ => False) w).alloc o) fun _ _ => id

theorem StoreIs.notNew {w : World} {b : Nat} {S : St} {lv : Value} {fs : List FV} (h : StoreIs w b S lv fs) {n : Nat} (hn : w.heap.size ≤ n) : n ∉ foot b lv fs := fun hm => by have := h.lt n hm; omega

set_option maxRecDepth 100000 in
set_option maxHeartbeats 2000000 in
theorem sync_is {b : Nat} {S : St} {lv : Value} {fs : List FV} (tg : ByteArray) (w : World) (h : StoreIs w b S lv fs) (ha : S.armed ≤ 4611686018427387904) (hs : tg.size ≤ 4611686018427387904) :
    Calls Tryz.prog 60 #[.pointer (some ⟨b, 0, none⟩), .string tg] w
      fun e w' => e = .returned (.int .i64 (S.sync tg.toList).1) ∧ Did w b (foot b lv fs) (S.sync tg.toList).2 w' := by
  have H : Hid (StoreIs w b S lv fs) := h
  go_enter Tryz.func60, Tryz.ntmps60
  go_wp2_with fail
  refine (change_is (S := S) (lv := lv) (fs := fs) tg _ _ kSync (w.alloc _) (H.out.alloc _) ha hs (.inl ⟨rfl, _, rfl⟩) (fun w1 i f h1 ho hf => ?_)).mono ?_
  · refine (sync1_is i f w1 h1 hf (ho.cell (box_cell _ _ _) ?_) (H.out.notNew (Nat.le_refl _))).mono ?_
    · have := H.out.lt b (foot_mem_b _ _ _); show w.heap.size ≠ b; omega
    · rintro e w2 ⟨rfl, hd⟩
      refine ⟨rfl, ?_⟩
      have : kSync S.begin i = { S.begin with l := S.begin.l.set i f.g.sync } := by
        unfold kSync; rw [h1.files, List.getElem?_map, hf]; rfl
      rw [this]; exact hd
  · rintro e w2 ⟨rfl, hd⟩
    go_wp2
    go_ret
    exact ⟨rfl, hd.after ((Only.refl _ _).alloc _)⟩

set_option maxRecDepth 100000 in
set_option maxHeartbeats 2000000 in
theorem del_is {b : Nat} {S : St} {lv : Value} {fs : List FV} (tg : ByteArray) (w : World) (h : StoreIs w b S lv fs) (ha : S.armed ≤ 4611686018427387904) (hs : tg.size ≤ 4611686018427387904) :
    Calls Tryz.prog 10 #[.pointer (some ⟨b, 0, none⟩), .string tg] w
      fun e w' => e = .returned (.int .i64 (S.delete tg.toList).1) ∧ Did w b (foot b lv fs) (S.delete tg.toList).2 w' := by
  have H : Hid (StoreIs w b S lv fs) := h
  go_enter Tryz.func10, Tryz.ntmps10
  go_wp2_with fail
  refine (change_is (S := S) (lv := lv) (fs := fs) tg _ _ kDel (w.alloc _) (H.out.alloc _) ha hs (.inr (.inl ⟨rfl, _, rfl⟩)) (fun w1 i f h1 ho hf => ?_)).mono ?_
  · refine (delete1_is i w1 h1 (List.getElem?_eq_some_iff.1 hf).1 (ho.cell (box_cell _ _ _) ?_) (H.out.notNew (Nat.le_refl _))).mono ?_
    · have := H.out.lt b (foot_mem_b _ _ _); show w.heap.size ≠ b; omega
    · rintro e w2 ⟨rfl, hd⟩
      exact ⟨rfl, hd⟩
  · rintro e w2 ⟨rfl, hd⟩
    go_wp2
    go_ret
    exact ⟨rfl, hd.after ((Only.refl _ _).alloc _)⟩

set_option maxRecDepth 100000 in
set_option maxHeartbeats 4000000 in
theorem rename_is {b : Nat} {S : St} {lv : Value} {fs : List FV} (tg tn : ByteArray) (w : World) (h : StoreIs w b S lv fs) (ha : S.armed ≤ 4611686018427387904) (hs : tg.size ≤ 4611686018427387904) (hn : tn.size ≤ 4611686018427387904) :
    Calls Tryz.prog 41 #[.pointer (some ⟨b, 0, none⟩), .string tg, .string tn] w
      fun e w' => e = .returned (.int .i64 (S.rename tg.toList tn.toList).1) ∧ Did w b (foot b lv fs) (S.rename tg.toList tn.toList).2 w' := by
  have H : Hid (StoreIs w b S lv fs) := h
  have hbw := h.lt b (foot_mem_b _ _ _)
  go_enter Tryz.func41, Tryz.ntmps41
  go_wp2_with fail
  refine (form_any tg _ hs).mono ?_
  rintro e w1 ⟨rfl, rfl⟩
  obtain ⟨q, hq⟩ : ∃ q, q = form tg.toList := ⟨_, rfl⟩
  have HQ : Hid (q = form tg.toList) := hq
  rw [← hq]
  cases q
  · have HR : Hid (S.rename tg.toList tn.toList = (1, S)) := by show S.rename _ _ = _; unfold St.rename; rw [← hq]; rfl
    clear hq
    go_wp2
    go_ret
    rw [HR.out]
    exact ⟨rfl, H.out.did (((Only.refl _ _).alloc _).alloc _)⟩
  · have HR : Hid (S.rename tg.toList tn.toList = if S.look tn.toList = 0 then S.change tg.toList (kRen tn.toList) else (S.look tn.toList, S)) := by show S.rename _ _ = _; unfold St.rename; rw [← hq]; rfl
    clear hq
    go_wp2_with fail
    refine (look_is (S := S) (lv := lv) (fs := fs) tn _ hn ((H.out.alloc _).alloc _)).mono ?_
    rintro e w1 ⟨rfl, rfl⟩
    obtain ⟨q, hq⟩ : ∃ q, q = S.look tn.toList := ⟨_, rfl⟩
    have HQ : Hid (q = S.look tn.toList) := hq
    rw [← hq]
    by_cases h0 : q = 0
    · subst h0
      clear hq
      go_wp2_with fail
      refine (change_is (S := S) (lv := lv) (fs := fs) tg _ _ (kRen tn.toList) _ ((H.out.alloc _).alloc _) ha hs (.inr (.inr ⟨rfl, _, _, rfl⟩)) (fun w1 i f h1 ho hf => ?_)).mono ?_
      · have e1 := (two_boxes w (.pointer (some ⟨b, 0, none⟩)) (.string tn) 23 9).1
        have e2 := (two_boxes w (.pointer (some ⟨b, 0, none⟩)) (.string tn) 23 9).2
        refine (rename1_is (c := w.heap.size) (d := w.heap.size + 1) i f tn w1 h1 hf (form_len (look_zero HQ.out.symm).1) (ho.cell e1 (fun e => by have e' : w.heap.size = b := e; omega)) (H.out.notNew (Nat.le_refl _)) (ho.cell e2 (fun e => by have e' : w.heap.size + 1 = b := e; omega)) (H.out.notNew (Nat.le_succ _))).mono ?_
        · rintro e w2 ⟨rfl, hd⟩
          refine ⟨rfl, ?_⟩
          have : kRen tn.toList S.begin i = { S.begin with l := putFile (S.begin.l.eraseIdx i) { f.g with name := tn.toList } } := by
            unfold kRen; rw [h1.files, List.getElem?_map, hf]; rfl
          rw [this]; exact hd
      · rintro e w2 ⟨rfl, hd⟩
        go_wp2
        go_ret
        rw [HR.out, if_pos HQ.out.symm]
        exact ⟨rfl, hd.after (((Only.refl _ _).alloc _).alloc _)⟩
    · have hq3 : q = 1 ∨ q = 9 := by rcases look_cases S tn.toList with h | h | h <;> omega
      have HN : Hid (S.rename tg.toList tn.toList = (q, S)) := by
        show S.rename _ _ = _
        rw [HR.out, if_neg (by rw [← hq]; exact h0), ← hq]
      clear h0 
      rcases hq3 with rfl | rfl
      all_goals
        clear hq
        go_wp2
        go_ret
        rw [HN.out]
        exact ⟨rfl, H.out.did (((Only.refl _ _).alloc _).alloc _)⟩

end Go.Proofs.YteddohgdegggnaaGreatDoor
