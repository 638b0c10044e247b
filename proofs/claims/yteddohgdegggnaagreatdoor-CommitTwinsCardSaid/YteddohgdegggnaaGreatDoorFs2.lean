/-
  The store of files as plain data, on: a file is put in its place; what a name finds behind a put, an erasure. No program is named here.
-/
import Derived.Test.YteddohgdegggnaaGreatDoorFs
namespace Go.HR

theorem names_inj {l : List FileG} (hs : Sorted l) {f g : FileG} (hf : f ∈ l) (hg : g ∈ l) (h : f.name = g.name) : f = g := by
  induction l with
  | nil => cases hf
  | cons a l ih =>
    have hs' := List.pairwise_cons.1 hs
    rcases List.mem_cons.1 hf with rfl | hf' <;> rcases List.mem_cons.1 hg with rfl | hg'
    · rfl
    · exact absurd (hs'.1 g hg') (by rw [h]; exact lt_irrefl' _)
    · exact absurd (hs'.1 f hf') (by rw [h]; exact lt_irrefl' _)
    · exact ih hs'.2 hf' hg'

theorem get_iff {l : List FileG} (hs : Sorted l) {t : List UInt8} {f : FileG} : get? l t = some f ↔ f ∈ l ∧ f.name = t := by
  constructor
  · intro h
    exact ⟨List.mem_of_find?_eq_some h, by simpa using List.find?_some h⟩
  · rintro ⟨hf, rfl⟩
    cases h : get? l f.name with
    | none =>
      have := List.find?_eq_none.1 h f hf
      simp at this
    | some g =>
      have hg := List.mem_of_find?_eq_some h
      have hn : g.name = f.name := by simpa using List.find?_some h
      rw [names_inj hs hg hf hn]

theorem has_get {l : List FileG} {t : List UInt8} : has l t = (get? l t).isSome := by
  unfold has get?
  rw [List.isSome_find?]

/-- A file in its place: instead of the one of its name, or a new one. -/
def putFile (l : List FileG) (f : FileG) : List FileG := if has l f.name then l.set (pos l f.name) f else l.take (pos l f.name) ++ f :: l.drop (pos l f.name)

theorem take_pos_lt {l : List FileG} (hs : Sorted l) {t : List UInt8} {f : FileG} (h : f ∈ l.take (pos l t)) : f.name < t := by
  obtain ⟨k, hk⟩ := List.mem_iff_getElem?.1 h
  rw [List.getElem?_take] at hk
  split at hk
  · exact (pos_lt hs hk).2 (by assumption)
  · cases hk

theorem drop_pos_not {l : List FileG} (hs : Sorted l) {t : List UInt8} {f : FileG} (h : f ∈ l.drop (pos l t)) : ¬ f.name < t := by
  obtain ⟨k, hk⟩ := List.mem_iff_getElem?.1 h
  rw [List.getElem?_drop] at hk
  intro hlt
  have := (pos_lt hs hk).1 hlt
  omega

theorem putFile_sorted {l : List FileG} (hs : Sorted l) (f : FileG) : Sorted (putFile l f) := by
  unfold putFile
  split
  · rename_i h
    obtain ⟨g, hg, hn⟩ := (has_pos hs).1 h
    have h' : (l.set (pos l f.name) f).map (·.name) = l.map (·.name) := by
      rw [List.map_set]
      apply List.ext_getElem?
      intro k
      rw [List.getElem?_set]
      split
      · rename_i e; subst e
        obtain ⟨hlt, he⟩ := List.getElem?_eq_some_iff.1 hg
        simp [hlt, he, hn]
      · rfl
    have hp : (l.map (·.name)).Pairwise (· < ·) := List.pairwise_map.2 hs
    rw [← h'] at hp
    exact List.pairwise_map.1 hp
  · rename_i h
    refine List.pairwise_append.2 ⟨hs.sublist (List.take_sublist _ _), List.pairwise_cons.2 ⟨fun g hg => ?_, hs.sublist (List.drop_sublist _ _)⟩, fun a ha c hc => ?_⟩
    · have h1 := drop_pos_not hs hg
      refine Classical.byContradiction fun h2 => h ?_
      exact (has_iff l f.name).2 ⟨g, List.mem_of_mem_drop hg, lt_tri h1 h2⟩
    · have h1 := take_pos_lt hs ha
      rcases List.mem_cons.1 hc with rfl | hc
      · exact h1
      · have h2 := drop_pos_not hs hc
        by_cases h3 : f.name < c.name
        · exact lt_trans' h1 h3
        · rw [← lt_tri h3 h2]; exact h1

theorem mem_putFile {l : List FileG} (hs : Sorted l) (f g : FileG) : g ∈ putFile l f ↔ g = f ∨ (g ∈ l ∧ g.name ≠ f.name) := by
  unfold putFile
  split
  · rename_i h
    obtain ⟨x, hx, hn⟩ := (has_pos hs).1 h
    constructor
    · intro hg
      by_cases hgf : g = f
      · exact .inl hgf
      · obtain ⟨k, hk⟩ := List.mem_iff_getElem?.1 hg
        rw [List.getElem?_set] at hk
        split at hk
        · split at hk
          · cases hk; exact absurd rfl hgf
          · cases hk
        · rename_i hne
          refine .inr ⟨List.mem_of_getElem? hk, fun e => hne ?_⟩
          have h1 : ¬ k < pos l f.name := fun h1 => by have := (pos_lt hs hk).2 h1; rw [e] at this; exact lt_irrefl' _ this
          have hxm := names_inj hs (List.mem_of_getElem? hk) (List.mem_of_getElem? hx) (by rw [e, hn])
          have hnd : (l.map (·.name)).Pairwise (· < ·) := List.pairwise_map.2 hs
          by_cases h2 : pos l f.name < k
          · have hklt := (List.getElem?_eq_some_iff.1 hk).1
            have hplt := (List.getElem?_eq_some_iff.1 hx).1
            have h3 := List.pairwise_iff_getElem.1 hs (pos l f.name) k hplt hklt h2
            rw [(List.getElem?_eq_some_iff.1 hk).2, (List.getElem?_eq_some_iff.1 hx).2, hn, e] at h3
            exact absurd h3 (lt_irrefl' _)
          · omega
    · rintro (rfl | ⟨hg, hne⟩)
      · exact List.mem_set (List.getElem?_eq_some_iff.1 hx).1 _
      · obtain ⟨k, hk⟩ := List.mem_iff_getElem?.1 hg
        refine List.mem_iff_getElem?.2 ⟨k, ?_⟩
        rw [List.getElem?_set, if_neg (fun e => hne ?_)]
        · exact hk
        · subst e
          rw [hk] at hx
          cases hx
          exact hn
  · rename_i h
    have hno : ∀ x ∈ l, x.name ≠ f.name := fun x hx e => h ((has_iff l f.name).2 ⟨x, hx, e⟩)
    constructor
    · intro hg
      rcases List.mem_append.1 hg with h1 | h1
      · exact .inr ⟨List.mem_of_mem_take h1, hno g (List.mem_of_mem_take h1)⟩
      · rcases List.mem_cons.1 h1 with h1 | h1
        · exact .inl h1
        · exact .inr ⟨List.mem_of_mem_drop h1, hno g (List.mem_of_mem_drop h1)⟩
    · rintro (rfl | ⟨hg, _⟩)
      · simp
      · rw [← List.take_append_drop (pos l f.name) l] at hg
        rcases List.mem_append.1 hg with h1 | h1
        · exact List.mem_append.2 (.inl h1)
        · exact List.mem_append.2 (.inr (List.mem_cons_of_mem _ h1))

theorem get_putFile {l : List FileG} (hs : Sorted l) (f : FileG) (t : List UInt8) : get? (putFile l f) t = if t = f.name then some f else get? l t := by
  have hs' := putFile_sorted hs f
  split
  · rename_i h
    subst h
    exact (get_iff hs').2 ⟨(mem_putFile hs f f).2 (.inl rfl), rfl⟩
  · rename_i h
    cases hg : get? l t with
    | none =>
      cases hg' : get? (putFile l f) t with
      | none => rfl
      | some x =>
        obtain ⟨hx, hn⟩ := (get_iff hs').1 hg'
        rcases (mem_putFile hs f x).1 hx with rfl | ⟨hx, _⟩
        · exact absurd hn.symm h
        · rw [(get_iff hs).2 ⟨hx, hn⟩] at hg; cases hg
    | some x =>
      obtain ⟨hx, hn⟩ := (get_iff hs).1 hg
      exact (get_iff hs').2 ⟨(mem_putFile hs f x).2 (.inr ⟨hx, by rw [hn]; exact h⟩), hn⟩

theorem used_append (l m : List FileG) : used (l ++ m) = used l + used m := by simp [used]
theorem used_cons (f : FileG) (l : List FileG) : used (f :: l) = f.p.length + used l := by simp [used]

theorem used_set' (l : List FileG) (i : Nat) (f f' : FileG) (hi : l[i]? = some f) : used (l.set i f') + f.p.length = used l + f'.p.length := by
  induction l generalizing i with
  | nil => simp at hi
  | cons h l ih =>
    cases i with
    | zero => simp at hi; subst hi; simp [used]; omega
    | succ i => simp at hi; have := ih i hi; simp [used] at *; omega

/-- How many bytes there are behind a put. -/
theorem used_putFile {l : List FileG} (hs : Sorted l) (f : FileG) : used (putFile l f) + ((get? l f.name).map (·.p.length)).getD 0 = used l + f.p.length := by
  unfold putFile
  split
  · rename_i h
    obtain ⟨x, hx, hn⟩ := (has_pos hs).1 h
    rw [get_of_has hs hx hn]
    simpa using used_set' l _ x f hx
  · rename_i h
    have h' : has l f.name = false := by simpa using h
    rw [get_none h']
    rw [used_append, used_cons]
    have := used_append (l.take (pos l f.name)) (l.drop (pos l f.name))
    rw [List.take_append_drop] at this
    simp only [Option.map_none, Option.getD_none]
    omega

theorem length_putFile (l : List FileG) (f : FileG) : (putFile l f).length = l.length + (if has l f.name then 0 else 1) := by
  unfold putFile
  split
  · rename_i h; simp
  · rename_i h
    have := pos_le l f.name
    simp only [List.length_append, List.length_cons, List.length_take, List.length_drop]
    omega

/-- A file goes. -/
def dropFile (l : List FileG) (t : List UInt8) : List FileG := l.filter fun f => !(f.name == t)

theorem dropFile_sorted {l : List FileG} (hs : Sorted l) (t : List UInt8) : Sorted (dropFile l t) := hs.sublist List.filter_sublist

theorem mem_dropFile {l : List FileG} {t : List UInt8} {f : FileG} : f ∈ dropFile l t ↔ f ∈ l ∧ f.name ≠ t := by simp [dropFile]

theorem get_dropFile {l : List FileG} (hs : Sorted l) (t u : List UInt8) : get? (dropFile l t) u = if u = t then none else get? l u := by
  have hs' := dropFile_sorted hs t
  cases hg : get? (dropFile l t) u with
  | some x =>
    obtain ⟨hx, hn⟩ := (get_iff hs').1 hg
    obtain ⟨hx, hne⟩ := mem_dropFile.1 hx
    rw [if_neg (by rw [← hn]; exact hne), (get_iff hs).2 ⟨hx, hn⟩]
  | none =>
    split
    · rfl
    · rename_i hne
      cases hg' : get? l u with
      | none => rfl
      | some x =>
        obtain ⟨hx, hn⟩ := (get_iff hs).1 hg'
        rw [(get_iff hs').2 ⟨mem_dropFile.2 ⟨hx, by rw [hn]; exact hne⟩, hn⟩] at hg
        cases hg

theorem erase_pos {l : List FileG} (hs : Sorted l) {t : List UInt8} (h : has l t = true) : l.eraseIdx (pos l t) = dropFile l t := by
  induction l with
  | nil => simp [has] at h
  | cons a l ih =>
    have hs' := List.pairwise_cons.1 hs
    by_cases hat : a.name = t
    · have hp : pos (a :: l) t = 0 := by
        subst hat
        simp only [pos, List.filter_cons, lt_irrefl', decide_false]
        rw [if_neg (by simp)]
        simp only [List.length_eq_zero_iff, List.filter_eq_nil_iff, decide_eq_true_eq]
        intro x hx hlt
        exact lt_asymm' (hs'.1 x hx) hlt
      rw [hp]
      have : dropFile l t = l := by
        simp only [dropFile, List.filter_eq_self, Bool.not_eq_true', beq_eq_false_iff_ne]
        intro x hx e
        have := hs'.1 x hx
        rw [hat, e] at this
        exact lt_irrefl' _ this
      simp only [List.eraseIdx_cons_zero]
      show l = dropFile (a :: l) t
      rw [dropFile, List.filter_cons, if_neg (by simp [hat])]
      exact this.symm
    · have hm : has l t = true := by simpa [has, hat] using h
      have hlt : a.name < t := by
        obtain ⟨x, hx, hn⟩ := (has_iff l t).1 hm
        rw [← hn]; exact hs'.1 x hx
      have hp : pos (a :: l) t = pos l t + 1 := by simp [pos, hlt]
      rw [hp, List.eraseIdx_cons_succ, ih hs'.2 hm]
      show a :: dropFile l t = dropFile (a :: l) t
      rw [dropFile, dropFile, List.filter_cons, if_pos (by simp [hat])]

theorem set_pos {l : List FileG} {f : FileG} (h : has l f.name = true) : l.set (pos l f.name) f = putFile l f := by
  unfold putFile; rw [if_pos h]
theorem ins_pos {l : List FileG} {f : FileG} (h : has l f.name = false) : l.take (pos l f.name) ++ f :: l.drop (pos l f.name) = putFile l f := by
  unfold putFile; rw [if_neg (by rw [h]; simp)]

theorem used_erase {l : List FileG} {i : Nat} {f : FileG} (hi : l[i]? = some f) : used (l.eraseIdx i) + f.p.length = used l := by
  induction l generalizing i with
  | nil => simp at hi
  | cons h l ih =>
    cases i with
    | zero => simp at hi; subst hi; simp [used]; omega
    | succ i => simp at hi; have := ih hi; simp [used] at *; omega

/-- A renaming doesn't take more room. -/
theorem used_ren {l : List FileG} (hs : Sorted l) {i : Nat} {f : FileG} (hi : l[i]? = some f) (f' : FileG) (hp : f'.p = f.p) : used (putFile (l.eraseIdx i) f') ≤ used l := by
  have h1 := used_putFile (hs.sublist (List.eraseIdx_sublist l i)) f'
  have h2 := used_erase hi
  rw [hp] at h1
  omega

theorem count_ren {l : List FileG} {i : Nat} {f : FileG} (hi : l[i]? = some f) : (l.eraseIdx i).length < l.length := by
  have := (List.getElem?_eq_some_iff.1 hi).1
  rw [List.length_eraseIdx]; split <;> omega

end Go.HR
