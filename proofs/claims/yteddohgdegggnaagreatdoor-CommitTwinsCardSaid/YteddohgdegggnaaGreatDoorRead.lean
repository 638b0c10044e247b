/- What is shown here, as far as 'read_is': contracts of the program's functions, and the plain laws that they lean on; conditions: each theorem's own hypotheses. -/
import Derived.Test.YteddohgdegggnaaGreatDoorLook
namespace Go.Proofs.YteddohgdegggnaaGreatDoor
open Go.RowKit Go.HR
open Go.Proofs

theorem Tryz.infoB : (Tryz.prog.info? 5).map (fun i => (i.zero, i.size, i.bytes)) = some (some (.int .u8 0), 1, 1) := by kernel_rfl
theorem Tryz.infoS : (Tryz.prog.info? 9).map (fun i => (i.zero, i.size, i.bytes)) = some (some (.string ByteArray.empty), 1, 16) := by kernel_rfl

/-- A new slice of bytes. -/
structure NewRow (e size : Nat) (w : World) (n : Nat) (xs : List Value) (v : Value) (w' : World) : Prop where
  owns : w'.ownsRow 0 e size v n xs
  ext : Ext w w'
  fresh : ∀ k, v.ownBlock = some k → w.heap.size ≤ k

def NewBytes (w : World) (l : List UInt8) (e : Ending) (w' : World) : Prop := ∃ v, e = .returned v ∧ NewRow 5 1 w l.length (by8 l) v w'

theorem owns_empty (w : World) (e size : Nat) : (w.alloc (.cells #[] e)).ownsRow 0 e size (.slice (some ⟨w.heap.size, 0, none⟩) 0 0) 0 [] :=
  ⟨by simp, .inr ⟨w.heap.size, 0, #[], rfl, Nat.zero_le _, Go.heap_alloc_new w _, Nat.le_refl _, by simp [maxLen], by simp, by simp⟩⟩

theorem NewRow.ofAppend {P : Program} {e size : Nat} {w w1 w' : World} {v v' : Value} {m : Nat} {news : List Value} (h : Appended P e size v 0 [] w1 m news v' w') (hx : Ext w w1) (hv : ∀ k, v.ownBlock = some k → w.heap.size ≤ k) : NewRow e size w m news v' w' :=
  ⟨by simpa using h.owns, (hx.to.trans h.only fun k hk e => by have := hv k e; omega : Only (fun k => False) w w'), fun k hk => by
    rcases h.fresh k hk with h1 | h1
    · exact hv k h1
    · exact Nat.le_trans hx.size h1⟩

theorem NewRow.none (e size : Nat) {w w' : World} (h : Ext w w') : NewRow e size w 0 [] (.slice none 0 0) w' := ⟨World.ownsRow_nil _ _ _ _, h, fun k hk => by simp [Value.ownBlock] at hk⟩

set_option maxHeartbeats 400000 in
theorem clone_any (v : Value) (l : List UInt8) (w : World) (h : Rd w v l.length (by8 l)) (hl : l.length ≤ 1073741824) :
    Calls Tryz.prog 27 #[v] w (NewBytes w l) := by
  rcases h with ⟨rfl, h0, _⟩ | ⟨g, off, cap, rfl, h1, h2, h3, h4⟩
  · obtain rfl : l = [] := List.eq_nil_of_length_eq_zero h0
    clear hl h0
    go_enter Tryz.func27, Tryz.ntmps27
    have heq := @Lib.run_eql_slice_nil Tryz.prog
    go_wp2
    go_ret
    exact ⟨.slice none 0 0, rfl, NewRow.none _ _ (Only.refl _ _)⟩
  · obtain ⟨i0, hi, hz0, hz1, hz2⟩ := info_parts Tryz.infoB
    have hsrc : ∀ o : Obj, Src Tryz.prog 1 29 (.slice (some ⟨g, off, none⟩) l.length cap) l.length (by8 l) (w.alloc o) := fun o =>
      Rd.src (Rd.ext (.inr ⟨g, off, cap, rfl, h1, h2, h3, h4⟩) ((Only.refl _ _).alloc o)) Tryz.underlying29 (by simp [by8_length]) (by8_one l)
    have HS : Hid (∀ o : Obj, Src Tryz.prog 1 29 (.slice (some ⟨g, off, none⟩) l.length cap) l.length (by8 l) (w.alloc o)) := hsrc
    clear hsrc h4
    go_enter Tryz.func27, Tryz.ntmps27
    have heq := @Lib.run_eql_slice_nil Tryz.prog
    go_wp2_with (at_builtin; refine wpList_append_any _ rfl _ _ 29 29 rfl 5 i0 (.int .u8 0) 1 1 Tryz.underlying29 hi hz0 hz1 hz2 rfl _ 0 [] rfl (owns_empty w _ _) _ rfl _ _ (HS.out _) (by simp only [maxLen]; omega) (by omega) ?_)
    intro v' w1 happ _
    go_wp2
    go_ret
    exact ⟨v', rfl, NewRow.ofAppend happ ((Only.refl _ _).alloc _) fun k hk => by simp [Value.ownBlock] at hk; omega⟩

/-- What Read answers. -/
def St.read (S : St) (t : List UInt8) : Int × List UInt8 := if S.look t = 0 then (match get? S.l t with | none => (5, []) | some f => (0, f.p)) else (S.look t, [])

def ReadPost (w : World) (r : Int × List UInt8) (e : Ending) (w' : World) : Prop := ∃ v, e = .returned (.tuple #[v, .int .i64 r.1]) ∧ NewRow 5 1 w r.2.length (by8 r.2) v w'

theorem look_cases (S : St) (t : List UInt8) : S.look t = 0 ∨ S.look t = 1 ∨ S.look t = 9 := by
  unfold St.look
  split
  · split <;> simp
  · simp

theorem used_mem {l : List FileG} {f : FileG} (h : f ∈ l) : f.p.length ≤ used l := by
  induction l with
  | nil => cases h
  | cons g l ih =>
    simp only [used, List.map_cons, List.sum_cons]
    rcases List.mem_cons.1 h with rfl | h
    · omega
    · have := ih h; unfold used at this; omega

/-- The file that a search has found. -/
theorem StoreIs.found {w : World} {b : Nat} {S : St} {lv : Value} {fs : List FV} (h : StoreIs w b S lv fs) {t : List UInt8} (hh : has (fs.map (·.g)) t = true) :
    ∃ f, fs[pos (fs.map (·.g)) t]? = some f ∧ f.g.name = t ∧ get? S.l t = some f.g ∧ f ∈ fs := by
  obtain ⟨g, hg, ht⟩ := (has_pos h.sorted).1 hh
  rw [List.getElem?_map, Option.map_eq_some_iff] at hg
  obtain ⟨f, hf, rfl⟩ := hg
  refine ⟨f, hf, ht, ?_, List.mem_of_getElem? hf⟩
  rw [h.files]
  exact get_of_has h.sorted (by rw [List.getElem?_map, hf]; rfl) ht

set_option maxHeartbeats 1000000 in
theorem read_is {b : Nat} {S : St} {lv : Value} {fs : List FV} (tg : ByteArray) (w : World) (hs : tg.size ≤ 4611686018427387904) (h : StoreIs w b S lv fs) :
    Calls Tryz.prog 14 #[.pointer (some ⟨b, 0, none⟩), .string tg] w (ReadPost w (St.read S tg.toList)) := by
  obtain ⟨ops, _, c0, c1, c2, c3, c4⟩ := h.cell
  obtain ⟨r, hr⟩ : ∃ r, r = St.read S tg.toList := ⟨_, rfl⟩
  obtain ⟨q, hq⟩ : ∃ q, q = S.look tg.toList := ⟨_, rfl⟩
  rw [← hr]
  have HQ : Hid (q = S.look tg.toList) := hq
  by_cases hq0 : q = 0
  · subst hq0
    cases hhas : has (fs.map (·.g)) tg.toList with
    | false =>
      have HH : Hid (has (fs.map (·.g)) tg.toList = false) := hhas
      have hn : get? S.l tg.toList = none := get_none (by rw [h.files]; exact hhas)
      have hr2 : r = (5, []) := by rw [hr, St.read, ← hq, hn]; rfl
      clear hr hq hhas hn
      subst hr2
      go_enter Tryz.func14, Tryz.ntmps14
      go_wp2_with (first | (go_at_call 28; refine (look_is _ _ hs h).mono ?_; rintro e w1 ⟨he, rfl⟩; rw [← HQ.out] at he; subst he) | (go_at_call 29; refine (find_is _ _ h).mono ?_; rintro e w1 ⟨he, hx1⟩; rw [HH.out] at he; subst he))
      go_ret2
      exact ⟨_, rfl, NewRow.none _ _ hx1⟩
    | true =>
      obtain ⟨f, hf, ht, hg, hmem⟩ := h.found hhas
      have HH : Hid (has (fs.map (·.g)) tg.toList = true) := hhas
      have hr2 : r = (0, f.g.p) := by rw [hr, St.read, ← hq, hg]; rfl
      obtain ⟨k, hk⟩ : ∃ k, k = pos (fs.map (·.g)) tg.toList := ⟨_, rfl⟩
      rw [← hk] at hf
      have HK : Hid (k = pos (fs.map (·.g)) tg.toList) := hk
      have hklt : k < fs.length := (List.getElem?_eq_some_iff.1 hf).1
      have hfb := h.bytes f hmem
      have hpl : f.g.p.length ≤ 1073741824 := by
        have h1 := h.wf.room
        have h2 := h.wf.roomMax
        have h3 := used_mem (l := S.l) (f := f.g) (by rw [h.files]; exact List.mem_map_of_mem hmem)
        omega
      have HF : Hid (fs[k]? = some f) := hf
      have HB : Hid (w.ownsRow 0 5 1 f.pv f.g.p.length (by8 f.g.p)) := hfb
      have hcnt := h.count
      clear hr hq hhas hg ht hk hf hmem hfb
      subst hr2
      rcases h.lv with ⟨h1, h2⟩ | ⟨g, cap, rfl, hcap, _⟩
      · subst h2; simp at hklt
      · have hrow := h.rowAt rfl
        have HROW : Hid (RowAt w g fs) := hrow
        clear hrow
        go_enter Tryz.func14, Tryz.ntmps14
        go_wp2_with (first
          | (go_at_call 28; refine (look_is _ _ hs h).mono ?_; rintro e w1 ⟨he, rfl⟩; rw [← HQ.out] at he; subst he)
          | (go_at_call 29; refine (find_is _ _ h).mono ?_; rintro e w1 ⟨he, hx1⟩; rw [HH.out, ← HK.out] at he; subst he; have d0 := hx1.cell c0; have d1 := hx1.cell (HROW.out k f HF.out).2.1)
          | (go_at_call 27; refine (clone_any _ f.g.p _ (rd_of_owns (owns_ext HB.out hx1)) hpl).mono ?_; rintro e w2 ⟨v2, rfl, hnew⟩))
        go_ret2
        exact ⟨v2, rfl, hnew.owns, hx1.thenExt hnew.ext, fun j hj => Nat.le_trans hx1.size (hnew.fresh j hj)⟩
  · have hr2 : r = (q, []) := by rw [hr, St.read, ← hq, if_neg hq0]
    have hqb : (q == 0) = false := by simpa using hq0
    have hqb2 : (q != 0) = true := by simpa using hq0
    clear hr hq
    subst hr2
    go_enter Tryz.func14, Tryz.ntmps14
    go_wp2_with (first | (go_at_call 28; refine (look_is _ _ hs h).mono ?_; rintro e w1 ⟨he, rfl⟩; rw [← HQ.out] at he; subst he))
    go_ret2
    exact ⟨_, rfl, NewRow.none _ _ (Only.refl _ _)⟩

end Go.Proofs.YteddohgdegggnaaGreatDoor
