/- What is shown here, as far as 'last_is': contracts of the program's functions, and the plain laws that they lean on; conditions: each theorem's own hypotheses. -/
import Derived.Test.YteddohgdegggnaaGreatDoorGl
namespace Go.HR
/-- Which commit the store says is the last. -/
def ManIs (S : St) (k : Nat) : Prop := (get? S.l Nm.man.name = none ∧ k = 0) ∨ ∃ f, get? S.l Nm.man.name = some f ∧ f.p = pageB 109 (leb k) ∧ 1 ≤ k ∧ k ≤ 500
theorem ManIs.le {S : St} {k : Nat} (h : ManIs S k) : k ≤ 500 := by
  rcases h with ⟨_, rfl⟩ | ⟨_, _, _, _, h⟩
  · omega
  · exact h
end Go.HR
namespace Go.Proofs.YteddohgdegggnaaGreatDoor
open Go.RowKit Go.HR
open Go.Proofs

theorem read_man (S : St) : St.read S Nm.man.name = if S.off then ((9, []) : Int × List UInt8) else (match get? S.l Nm.man.name with | none => (5, []) | some f => (0, f.p)) := by
  unfold St.read
  rw [look_form (form_name (m := .man) trivial)]
  cases S.off
  · simp only [Bool.false_eq_true, if_false, if_true]
    cases get? S.l Nm.man.name <;> rfl
  · simp

set_option maxRecDepth 100000 in
set_option maxHeartbeats 2000000 in
theorem last_is {b : Nat} {S : St} {lv : Value} {fs : List FV} (k : Nat) (w : World) (h : StoreIs w b S lv fs) (hg : Gl w) (hm : ManIs S k) :
    Calls Tryz.prog 18 #[.pointer (some ⟨b, 0, none⟩)] w fun e w' => e = .returned (.tuple #[.int .u64 (if S.off then 0 else k : Nat), .int .i64 (if S.off then 9 else 0)]) ∧ Ext w w' := by
  have HRM : Hid (St.read S Nm.man.name = _) := read_man S
  have hbt : (⟨#[109, 97, 110]⟩ : ByteArray).toList = Nm.man.name := bytes_of [109, 97, 110]
  obtain ⟨o, ho⟩ : ∃ o, o = S.off := ⟨_, rfl⟩
  rw [← ho] at HRM ⊢
  clear ho
  have HT : Hid (Gl w) := hg
  have hlt := Gl.lt hg
  have hko := hm.le
  go_enter Tryz.func18, Tryz.ntmps18
  go_wp2_with fail
  have hrd := read_is (S := S) (lv := lv) (fs := fs) ⟨#[109, 97, 110]⟩ w (by decide) h
  rw [hbt] at hrd
  cases o
  · simp only [Bool.false_eq_true, if_false] at HRM ⊢
    rcases hm with ⟨hn, rfl⟩ | ⟨f, hf, hfp, hk1, hk2⟩
    · have e1 : St.read S Nm.man.name = (5, []) := by rw [HRM.out, hn]
      rw [e1] at hrd
      clear e1 HRM
      refine hrd.mono ?_
      rintro e w1 ⟨v, rfl, hn1⟩
      clear hrd
      go_wp2
      go_ret2
      exact ⟨rfl, hn1.ext⟩
    · have e1 : St.read S Nm.man.name = (0, f.p) := by rw [HRM.out, hf]
      rw [e1] at hrd
      clear e1 HRM
      refine hrd.mono ?_
      rintro e w1 ⟨v, rfl, hn1⟩
      have hlen : f.p.length = 9 + (leb k).length := by rw [hfp, pageB_length]; omega
      have hn1' : NewRow 5 1 w (9 + (leb k).length) (by8 (pageB 109 (leb k))) v w1 := by
        rw [← hlen, ← hfp]; exact hn1
      obtain ⟨a1, c1, rfl, _, _⟩ := owns_shape hn1'.owns
      have HN1 : Hid (NewRow 5 1 w (9 + (leb k).length) (by8 (pageB 109 (leb k))) (.slice a1 (9 + (leb k).length) c1) w1) := hn1'
      have hll := leb_ten (n := k) (by omega)
      clear hrd hn1 hn1' hlen hf hfp
      go_wp2_with fail
      refine (pageone_is 109 (leb k) _ w1 (rd_of_owns HN1.out.owns) (by omega) (TableAt.keep HT.out.table HN1.out.ext id)).mono ?_
      rintro e w2 ⟨v2, rfl, hn2⟩
      obtain ⟨a2, c2, rfl, _, _⟩ := owns_shape hn2.owns
      have HN2 : Hid (NewRow 5 1 w1 (leb k).length (by8 (leb k)) (.slice a2 (leb k).length c2) w2) := hn2
      have hs1 := HN1.out.ext.size
      have hs2 := hn2.ext.size
      clear hn2
      go_wp2_with fail
      obtain ⟨w3, hw3⟩ : ∃ w3, w3 = w2.alloc (.cells #[.int .u64 0] 27) := ⟨_, rfl⟩
      have hx3 : Ext w2 w3 := hw3 ▸ (Only.refl _ _).alloc _
      have hs3 : w3.heap.size = w2.heap.size + 1 := by rw [hw3]; simp
      obtain ⟨c, hc⟩ : ∃ c, c = w2.heap.size := ⟨_, rfl⟩
      have hbox : w3.heap[c]? = some (.cells #[.int .u64 0] 27 (0, 0)) := by rw [hw3, hc]; exact Go.heap_alloc_new w2 _
      obtain ⟨gb, hgb⟩ : ∃ gb, gb = (Value.slice a2 (leb k).length c2).ownBlock.getD 0 := ⟨_, rfl⟩
      have hgb1 : ∀ j, (Value.slice a2 (leb k).length c2).ownBlock = some j → j = gb := fun j hj => by rw [hgb, hj]; rfl
      have hgbc : gb < c := by
        rw [hgb, hc]
        cases ho : (Value.slice a2 (leb k).length c2).ownBlock with
        | none => show 0 < _; omega
        | some j => exact owns_lt HN2.out.owns ho
      rw [← hw3, ← hc]
      have HBOX : Hid (w3.heap[c]? = some (.cells #[.int .u64 0] 27 (0, 0))) := hbox
      have HX3 : Hid (Ext w w3) := (HN1.out.ext.thenExt HN2.out.ext).thenExt hx3
      have HRD3 : Hid (Rd w3 (.slice a2 (leb k).length c2) (leb k).length (by8 (leb k))) := (rd_of_owns HN2.out.owns).ext hx3
      have HGB1 : Hid _ := hgb1
      have hcs : c < w3.heap.size := by omega
      have hcw : w.heap.size ≤ c := by omega
      clear hw3 hbox hgb hx3 hgb1 hs3 hc
      refine (try_is _ gb (leb k) 33 #[.pointer (some ⟨c, 0, none⟩)] w3 (fun j => j = c) (fun w4 => w4.heap[c]? = some (.cells #[.int .u64 k] 27 (0, 0)))
        HRD3.out HGB1.out (by omega) (.inr ⟨rfl, _, rfl⟩) (fun w4 hx4 hs4 hr4 => ?_) (fun j hj => by omega)).mono ?_
      · exact last1_is (w3.heap.size + 1) gb c k w4 hr4 hk2 (hx4.heap HBOX.out) (by omega) (by omega)
      · rintro e w5 ⟨rfl, ho5, w4, q2, ho45⟩
        have b5 := ho45.heap q2 (by omega)
        have t5 : w5.cell? ⟨c, 0, none⟩ = some (.int .u64 k) := by simp [World.cell?, b5]
        have hk0 : ((k : Int) == 0) = false := by simp; omega
        have HO5 : Hid _ := ho5
        clear b5 ho45 q2 ho5
        go_wp2_with fail
        go_ret2
        exact ⟨rfl, HX3.out.trans HO5.out fun j hj e => by have e' : j = c := e; omega⟩
  · simp only [if_true] at HRM ⊢
    have e1 : St.read S Nm.man.name = (9, []) := HRM.out
    rw [e1] at hrd
    clear e1 HRM
    refine hrd.mono ?_
    rintro e w1 ⟨v, rfl, hn1⟩
    clear hrd
    go_wp2
    go_ret2
    exact ⟨rfl, hn1.ext⟩

end Go.Proofs.YteddohgdegggnaaGreatDoor
