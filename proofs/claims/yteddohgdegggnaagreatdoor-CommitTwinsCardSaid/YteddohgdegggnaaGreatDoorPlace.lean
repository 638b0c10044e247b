/- What is shown here, as far as 'flat_set3': contracts of the program's functions, and the plain laws that they lean on; conditions: each theorem's own hypotheses. -/
import Derived.Test.YteddohgdegggnaaGreatDoorSync
import Derived.Test.YteddohgdegggnaaGreatDoorFs2
namespace Go.Proofs.YteddohgdegggnaaGreatDoor
open Go.RowKit Go.HR
open Go.Proofs

theorem foot_pull {b : Nat} {lv : Value} {fs : List FV} {i : Nat} {f : FV} (hi : fs[i]? = some f) : (f.pv.ownBlock.toList ++ foot b lv (fs.eraseIdx i)).Perm (foot b lv fs) := by
  obtain ⟨hlt, rfl⟩ := List.getElem?_eq_some_iff.1 hi
  have h0 : fs.take i ++ fs[i] :: fs.drop (i + 1) = fs := by rw [← List.drop_eq_getElem_cons hlt, List.take_append_drop]
  have h1 : (fs[i] :: fs.eraseIdx i).Perm fs := by
    rw [List.eraseIdx_eq_take_drop_succ]
    have h4 : (fs[i] :: (fs.take i ++ fs.drop (i + 1))).Perm (fs.take i ++ fs[i] :: fs.drop (i + 1)) := List.perm_middle.symm
    rwa [h0] at h4
  have h2 := h1.filterMap (·.pv.ownBlock)
  have h3 : (fs[i] :: fs.eraseIdx i).filterMap (·.pv.ownBlock) = fs[i].pv.ownBlock.toList ++ (fs.eraseIdx i).filterMap (·.pv.ownBlock) := by
    cases h : fs[i].pv.ownBlock <;> simp [h]
  rw [h3] at h2
  unfold foot
  refine List.Perm.trans List.perm_middle (List.Perm.cons _ ?_)
  refine List.Perm.trans ?_ (List.Perm.append_left _ h2)
  rw [← List.append_assoc, ← List.append_assoc]
  exact List.Perm.append_right _ List.perm_append_comm

theorem foot_put {b : Nat} {lv : Value} {fs : List FV} {i : Nat} {f : FV} (hi : i < fs.length) : (foot b lv (fs.set i f)).Perm (f.pv.ownBlock.toList ++ foot b lv (fs.eraseIdx i)) := by
  have hs : (fs.set i f)[i]? = some f := by rw [List.getElem?_set]; simp [hi]
  have := foot_pull (b := b) (lv := lv) hs
  rw [List.eraseIdx_set_eq] at this
  exact this.symm

theorem foot_ins {b : Nat} {lv : Value} {fs : List FV} {i : Nat} {f : FV} : (foot b lv (fs.take i ++ f :: fs.drop i)).Perm (f.pv.ownBlock.toList ++ foot b lv fs) := by
  have h1 : (fs.take i ++ f :: fs.drop i).Perm (f :: fs) := by
    refine List.Perm.trans List.perm_middle ?_
    rw [List.take_append_drop]
  have h2 := h1.filterMap (·.pv.ownBlock)
  have h3 : (f :: fs).filterMap (·.pv.ownBlock) = f.pv.ownBlock.toList ++ fs.filterMap (·.pv.ownBlock) := by
    cases h : f.pv.ownBlock <;> simp [h]
  rw [h3] at h2
  unfold foot
  refine List.Perm.trans (List.Perm.cons _ (List.Perm.append_left _ h2)) ?_
  refine List.Perm.trans ?_ List.perm_middle.symm
  refine List.Perm.cons _ ?_
  rw [← List.append_assoc, ← List.append_assoc]
  exact List.Perm.append_right _ List.perm_append_comm

/-- A store whose list was written anew: its files' bytes lie where they lay. -/
theorem StoreIs.rebuild {w w2 : World} {b : Nat} {S S' : St} {lv lv' : Value} {fs fs' : List FV} {f : FV} (h : StoreIs w b S lv fs) (hown : w.ownsRow 0 5 1 f.pv f.g.p.length (by8 f.g.p))
    (hmem : ∀ x ∈ fs', x ∈ fs ∨ x = f) (ho : Only (fun k => k = b ∨ lv.ownBlock = some k) w w2) (hfb : ∀ k, f.pv.ownBlock = some k → k ≠ b ∧ lv.ownBlock ≠ some k)
    (hhead : ∃ ops : Int, w2.heap[b]? = some (.cells #[lv', .int .i64 S'.room, .int .i64 S'.armed, .bool S'.off, .int .i64 ops] 64 (0, 0)))
    (hrow : w2.ownsRow 0 69 3 lv' fs'.length (fs'.flatMap FV.cells)) (hfiles : S'.l = fs'.map (·.g)) (hap : (foot b lv' fs').Nodup) (hwf : S'.WF) : StoreIs w2 b S' lv' fs' where
  head := hhead
  row := hrow
  files := hfiles
  bytes := fun x hx => by
    rcases hmem x hx with h1 | rfl
    · refine owns_keep (h.bytes x h1) ho fun k hk e => ?_
      have hap0 := h.apart
      rcases e with rfl | e
      · simp only [foot, List.nodup_cons, List.mem_append, List.mem_filterMap, not_or] at hap0
        exact hap0.1.2 ⟨x, h1, hk⟩
      · simp only [foot, List.nodup_cons, List.nodup_append, List.mem_append, Option.mem_toList, not_or, List.mem_filterMap] at hap0
        exact hap0.2.2.2 k e k ⟨x, h1, hk⟩ rfl
    · exact owns_keep hown ho fun k hk e => by
        rcases e with rfl | e
        · exact (hfb k hk).1 rfl
        · exact (hfb k hk).2 e
  apart := hap
  wf := hwf

theorem map_ins (fs : List FV) (i : Nat) (f : FV) : (fs.take i ++ f :: fs.drop i).map (·.g) = (fs.map (·.g)).take i ++ f.g :: (fs.map (·.g)).drop i := by simp

/-- WF behind a put. -/
theorem wf_put {S : St} (h : S.WF) (f : FileG) (hr : used (putFile S.l f) ≤ S.room) (hc : has S.l f.name = false → S.l.length < 500) (hsure : f.sure ≤ f.p.length) (hn : f.name.length ≤ 32) : ({ S with l := putFile S.l f } : St).WF where
  sorted := putFile_sorted h.sorted f
  room := hr
  roomMax := h.roomMax
  count := by
    show (putFile S.l f).length ≤ 500
    rw [length_putFile]
    have := h.count
    split
    · omega
    · rename_i hh; have := hc (by simpa using hh); omega
  sure := fun g hg => by
    rcases (mem_putFile h.sorted f g).1 hg with rfl | ⟨hg, _⟩
    · exact hsure
    · exact h.sure g hg
  names := fun g hg => by
    rcases (mem_putFile h.sorted f g).1 hg with rfl | ⟨hg, _⟩
    · exact hn
    · exact h.names g hg

/-- Behind Insert and the store of the list. -/
theorem StoreIs.insert {w w1 : World} {b : Nat} {S : St} {lv lv' : Value} {fs : List FV} {f : FV} (h : StoreIs w b S lv fs) (hown : w.ownsRow 0 5 1 f.pv f.g.p.length (by8 f.g.p))
    (hnew : ∀ k, f.pv.ownBlock = some k → k ∉ foot b lv fs ∧ k < w.heap.size) (hhas : has S.l f.g.name = false)
    (hrow : w1.ownsRow 0 69 3 lv' (fs.length + 1) ((fs.take (pos S.l f.g.name) ++ f :: fs.drop (pos S.l f.g.name)).flatMap FV.cells)) (hfr : Fresh w lv lv') (ho : Only (fun k => lv.ownBlock = some k) w w1)
    (hwf : ({ S with l := putFile S.l f.g } : St).WF) :
    ∃ fs', StoreIs (w1.setCell ⟨b, 0, none⟩ lv') b { S with l := putFile S.l f.g } lv' fs' ∧ Only (fun k => k ∈ foot b lv fs) w (w1.setCell ⟨b, 0, none⟩ lv') ∧
      ∀ k ∈ foot b lv' fs', k ∈ foot b lv fs ∨ f.pv.ownBlock = some k ∨ w.heap.size ≤ k := by
  have hlb : lv.ownBlock ≠ some b := fun e => by
    have hap := h.apart
    simp only [foot, List.nodup_cons, List.mem_append, Option.mem_toList, not_or] at hap
    exact hap.1.1 e
  have hblt : b < w.heap.size := h.lt b (foot_mem_b _ _ _)
  have ho2 : Only (fun k => k = b) w1 (w1.setCell ⟨b, 0, none⟩ lv') := only_set (Only.refl _ _) _ _
  have hon : Only (fun k => k = b ∨ lv.ownBlock = some k) w (w1.setCell ⟨b, 0, none⟩ lv') := (ho.mono fun k _ e => .inr e).trans (ho2.mono fun k _ e => .inl e) fun _ _ h => h
  have hlv'b : lv'.ownBlock ≠ some b := fun e => (hfr b e).elim hlb (by omega)
  refine ⟨fs.take (pos S.l f.g.name) ++ f :: fs.drop (pos S.l f.g.name), h.rebuild hown (fun x hx => ?_) hon (fun k hk => ⟨fun e => (hnew k hk).1 (by rw [e]; exact foot_mem_b _ _ _), fun e => (hnew k hk).1 (by simp [foot, e])⟩) ?_ ?_ ?_ ?_ hwf, ?_, fun k hk => ?_⟩
  · rcases List.mem_append.1 hx with h1 | h1
    · exact .inl (List.mem_of_mem_take h1)
    · rcases List.mem_cons.1 h1 with h1 | h1
      · exact .inr h1
      · exact .inl (List.mem_of_mem_drop h1)
  · obtain ⟨ops, hh, _⟩ := h.cell
    exact ⟨ops, heap_setCell_same w1 b 0 _ _ _ (ho.heap hh hlb)⟩
  · have hl : (fs.take (pos S.l f.g.name) ++ f :: fs.drop (pos S.l f.g.name)).length = fs.length + 1 := by
      have := pos_le S.l f.g.name
      rw [h.files, List.length_map] at this
      rw [h.files]
      simp only [List.length_append, List.length_cons, List.length_take, List.length_drop]
      omega
    rw [hl]
    exact owns_keep hrow ho2 fun k hk e => hlv'b (by rw [hk, e])
  · show putFile S.l f.g = _
    rw [map_ins, ← h.files, ins_pos hhas]
  · refine foot_ins.nodup_iff.2 ?_
    have hap := h.apart
    simp only [foot, List.nodup_cons, List.nodup_append, List.mem_append, Option.mem_toList, List.mem_filterMap, not_or, List.mem_cons] at hap hnew ⊢
    refine ⟨by cases f.pv.ownBlock <;> simp, ⟨⟨hlv'b, hap.1.2⟩, by cases lv'.ownBlock <;> simp, hap.2.2.1, fun a ha c hc e => ?_⟩, fun a ha c hc e => ?_⟩
    · subst e
      obtain ⟨x, hx, hk⟩ := hc
      rcases hfr a ha with h1 | h1
      · exact hap.2.2.2 a h1 a ⟨x, hx, hk⟩ rfl
      · have := owns_lt (h.bytes x hx) hk; omega
    · subst e
      have h1 := hnew a ha
      rcases hc with rfl | hc | hc
      · exact h1.1.1 rfl
      · rcases hfr a hc with h2 | h2
        · exact h1.1.2.1 h2
        · omega
      · exact h1.1.2.2 hc
  · refine hon.mono fun k _ e => ?_
    rcases e with rfl | e
    · exact foot_mem_b _ _ _
    · simp [foot, e]
  · have := foot_ins.mem_iff.1 hk
    simp only [foot, List.mem_append, Option.mem_toList, List.mem_cons] at this ⊢
    rcases this with h1 | rfl | h1 | h1
    · exact .inr (.inl h1)
    · exact .inl (.inl rfl)
    · rcases hfr k h1 with h2 | h2
      · exact .inl (.inr (.inl h2))
      · exact .inr (.inr h2)
    · exact .inl (.inr (.inr h1))

theorem row_len {w : World} {b : Nat} {S : St} {a : Option Addr} {n cap : Nat} {fs : List FV} (h : StoreIs w b S (.slice a n cap) fs) : n = fs.length := by
  rcases h.row.2 with ⟨h1, h2⟩ | ⟨_, _, _, h1, _⟩
  · cases h1; omega
  · cases h1; rfl

/-- One file of a store is another now, in the same place. -/
theorem StoreIs.setFile {w w1 : World} {b r g n cap : Nat} {S : St} {fs : List FV} {f f' : FV} (h : StoreIs w b S (.slice (some ⟨g, 0, none⟩) n cap) fs) (hi : fs[r]? = some f)
    (hrow : w1.ownsRow 0 69 3 (.slice (some ⟨g, 0, none⟩) n cap) n ((fs.set r f').flatMap FV.cells)) (hown : w1.ownsRow 0 5 1 f'.pv f'.g.p.length (by8 f'.g.p))
    (ho : Only (fun k => k = g ∨ f.pv.ownBlock = some k) w w1) (hfr : ∀ k, f'.pv.ownBlock = some k → f.pv.ownBlock = some k ∨ k ∉ foot b (.slice (some ⟨g, 0, none⟩) n cap) fs)
    (hwf : ({ S with l := S.l.set r f'.g } : St).WF) :
    StoreIs w1 b { S with l := S.l.set r f'.g } (.slice (some ⟨g, 0, none⟩) n cap) (fs.set r f') ∧ Only (fun k => k ∈ foot b (.slice (some ⟨g, 0, none⟩) n cap) fs) w w1 ∧
      ∀ k ∈ foot b (.slice (some ⟨g, 0, none⟩) n cap) (fs.set r f'), k ∈ foot b (.slice (some ⟨g, 0, none⟩) n cap) fs ∨ f'.pv.ownBlock = some k := by
  obtain rfl := row_len h
  have hlt := (List.getElem?_eq_some_iff.1 hi).1
  have hmem := List.mem_of_getElem? hi
  have hap := h.apart
  have hapP := (foot_pull (b := b) (lv := .slice (some ⟨g, 0, none⟩) fs.length cap) hi).nodup_iff.2 hap
  have hapP2 := List.nodup_append.1 hapP
  have hbg : b ≠ g := by
    intro e; subst e
    simp only [foot, List.nodup_cons, List.mem_append, Option.mem_toList, Value.ownBlock, not_or] at hap
    exact hap.1.1 trivial
  have hbf : f.pv.ownBlock ≠ some b := fun e => by
    simp only [foot, List.nodup_cons, List.mem_append, List.mem_filterMap, not_or] at hap
    exact hap.1.2 ⟨f, hmem, e⟩
  have hx : ∀ x ∈ fs.eraseIdx r, ∀ k, x.pv.ownBlock = some k → k ∈ foot b (.slice (some ⟨g, 0, none⟩) fs.length cap) (fs.eraseIdx r) := fun x hx k hk => foot_mem_f hx hk
  have hsub : ∀ k, k ∈ foot b (.slice (some ⟨g, 0, none⟩) fs.length cap) (fs.eraseIdx r) → k ∈ foot b (.slice (some ⟨g, 0, none⟩) fs.length cap) fs := fun k hk =>
    (foot_pull hi).mem_iff.1 (List.mem_append.2 (.inr hk))
  have hmem' : ∀ x ∈ fs.set r f', x ∈ fs.eraseIdx r ∨ x = f' := fun x hx => by
    have h1 : ((fs.set r f')[r]'(by simpa using hlt) :: (fs.set r f').eraseIdx r).Perm (fs.set r f') := by
      have h0 : (fs.set r f').take r ++ (fs.set r f')[r]'(by simpa using hlt) :: (fs.set r f').drop (r + 1) = fs.set r f' := by rw [← List.drop_eq_getElem_cons (by simpa using hlt), List.take_append_drop]
      rw [List.eraseIdx_eq_take_drop_succ]
      have h4 := (List.perm_middle (a := (fs.set r f')[r]'(by simpa using hlt)) (l₁ := (fs.set r f').take r) (l₂ := (fs.set r f').drop (r + 1))).symm
      rwa [h0] at h4
    have h2 := h1.mem_iff.2 hx
    rw [List.eraseIdx_set_eq] at h2
    rcases List.mem_cons.1 h2 with h3 | h3
    · right; rw [h3]; simp
    · exact .inl h3
  refine ⟨⟨?_, ?_, ?_, ?_, ?_, hwf⟩, ?_, fun k hk => ?_⟩
  · obtain ⟨ops, hh, _⟩ := h.cell
    exact ⟨ops, ho.heap hh fun e => e.elim hbg hbf⟩
  · simpa using hrow
  · show S.l.set r f'.g = _
    rw [map_set, h.files]
  · intro x hxm
    rcases hmem' x hxm with h1 | rfl
    · refine owns_keep (h.bytes x (List.mem_of_mem_eraseIdx h1)) ho fun k hk e => ?_
      have hk1 := hx x h1 k hk
      rcases e with rfl | e
      · have hap1 := hapP2.2.1
        simp only [foot, List.nodup_cons, List.nodup_append, List.mem_append, Option.mem_toList, Value.ownBlock, not_or, List.mem_filterMap] at hap1
        exact hap1.2.2.2 k rfl k ⟨x, h1, hk⟩ rfl
      · exact hapP2.2.2 k (by simp [e]) k hk1 rfl
    · exact hown
  · refine (foot_put hlt).nodup_iff.2 (List.nodup_append.2 ⟨by cases f'.pv.ownBlock <;> simp, hapP2.2.1, fun a ha c hc e => ?_⟩)
    subst e
    rw [Option.mem_toList] at ha
    rcases hfr a ha with h1 | h1
    · exact hapP2.2.2 a (by simp [h1]) a hc rfl
    · exact h1 (hsub a hc)
  · refine ho.mono fun k _ e => ?_
    rcases e with rfl | e
    · exact foot_mem_g
    · exact foot_mem_f hmem e
  · rcases List.mem_append.1 ((foot_put hlt).mem_iff.1 hk) with h1 | h1
    · exact .inr (by simpa using h1)
    · exact .inl (hsub k h1)

theorem flat_set3 (fs : List FV) (i : Nat) (f f' : FV) (hi : fs[i]? = some f) :
    (((fs.flatMap FV.cells).set (i * 3) (.string ⟨f'.g.name.toArray⟩)).set (i * 3 + 1) f'.pv).set (i * 3 + 2) (.int .i64 f'.g.sure) = (fs.set i f').flatMap FV.cells := by
  have hlt := (List.getElem?_eq_some_iff.1 hi).1
  have e0 := flat_set fs i 0 f ⟨{ f.g with name := f'.g.name }, f.pv⟩ (.string ⟨f'.g.name.toArray⟩) hi (by omega) rfl
  rw [Nat.add_zero] at e0
  have h1 : (fs.set i ⟨{ f.g with name := f'.g.name }, f.pv⟩)[i]? = some ⟨{ f.g with name := f'.g.name }, f.pv⟩ := by rw [List.getElem?_set]; simp [hlt]
  have e1 := flat_set _ i 1 _ ⟨{ f.g with name := f'.g.name }, f'.pv⟩ f'.pv h1 (by omega) rfl
  have h2 : (fs.set i ⟨{ f.g with name := f'.g.name }, f'.pv⟩)[i]? = some ⟨{ f.g with name := f'.g.name }, f'.pv⟩ := by rw [List.getElem?_set]; simp [hlt]
  rw [List.set_set] at e1
  have e2 := flat_set _ i 2 _ f' (.int .i64 f'.g.sure) h2 (by omega) rfl
  rw [List.set_set] at e2
  rw [e0, e1, e2]

end Go.Proofs.YteddohgdegggnaaGreatDoor
