/-
  Commits where the power doesn't go off, and there is room. No program is named here.
-/
import Derived.Test.YteddohgdegggnaaGreatDoorRec
namespace Go.HR

theorem used_sync {S : St} (hs : Sorted S.l) (t : List UInt8) : used (S.sync t).2.l = used S.l ∧ (S.sync t).2.l.length = S.l.length := by
  unfold St.sync St.change
  split
  · split
    · rename_i hh
      split
      · rw [S.begin_l]; exact ⟨rfl, rfl⟩
      · obtain ⟨f, hf, ht, e⟩ := kSync_of (S := S.begin) (begin_sorted hs) (t := t) (by rw [S.begin_l]; exact hh)
        rw [S.begin_l] at e hf
        rw [e]
        have h1 := used_putFile hs f.sync
        have h2 := length_putFile S.l f.sync
        have hn : f.sync.name = t := ht
        rw [hn] at h1 h2
        rw [hf] at h1
        rw [hh] at h2
        simp only [Option.map_some, Option.getD_some, if_true] at h1 h2
        have : f.sync.p = f.p := rfl
        rw [this] at h1
        exact ⟨by simp only []; omega, by simpa using h2⟩
    · exact ⟨rfl, rfl⟩
  · exact ⟨rfl, rfl⟩
theorem used_delete (S : St) (t : List UInt8) : used (S.delete t).2.l ≤ used S.l ∧ (S.delete t).2.l.length ≤ S.l.length := by
  unfold St.delete St.change
  split
  · split
    · split
      · rw [S.begin_l]; exact ⟨Nat.le_refl _, Nat.le_refl _⟩
      · show used (S.begin.l.eraseIdx _) ≤ _ ∧ (S.begin.l.eraseIdx _).length ≤ _
        rw [S.begin_l]
        refine ⟨?_, List.length_eraseIdx_le _ _⟩
        cases hf : S.l[pos S.l t]? with
        | none =>
          rw [List.eraseIdx_of_length_le (List.getElem?_eq_none_iff.1 hf)]
          exact Nat.le_refl _
        | some f => have := used_erase hf; omega
    · exact ⟨Nat.le_refl _, Nat.le_refl _⟩
  · exact ⟨Nat.le_refl _, Nat.le_refl _⟩
theorem used_rename {S : St} (hs : Sorted S.l) (t u : List UInt8) : used (S.rename t u).2.l ≤ used S.l ∧ (S.rename t u).2.l.length ≤ S.l.length := by
  unfold St.rename
  split
  · split
    · unfold St.change
      split
      · split
        · split
          · rw [S.begin_l]; exact ⟨Nat.le_refl _, Nat.le_refl _⟩
          · unfold kRen
            rw [S.begin_l]
            split
            · simp only [S.begin_l]; exact ⟨Nat.le_refl _, Nat.le_refl _⟩
            · rename_i g hg
              have h1 := used_ren hs hg { g with name := u } rfl
              have h2 := count_ren hg
              have h3 := length_putFile (S.l.eraseIdx (pos S.l t)) { g with name := u }
              refine ⟨h1, ?_⟩
              simp only []
              rw [h3]
              split <;> omega
        · exact ⟨Nat.le_refl _, Nat.le_refl _⟩
      · exact ⟨Nat.le_refl _, Nat.le_refl _⟩
    · exact ⟨Nat.le_refl _, Nat.le_refl _⟩
  · exact ⟨Nat.le_refl _, Nat.le_refl _⟩
theorem used_append' {S : St} (hs : Sorted S.l) (t x : List UInt8) : used (S.append t x).2.l ≤ used S.l + x.length ∧ (S.append t x).2.l.length ≤ S.l.length + 1 := by
  unfold St.append
  split
  · split
    · exact ⟨Nat.le_add_right _ _, Nat.le_succ _⟩
    · simp only []
      unfold addTo
      cases hg : get? S.l t with
      | none =>
        have h1 := used_putFile hs ⟨t, x, 0⟩
        have h2 := length_putFile S.l ⟨t, x, 0⟩
        simp only [] at h1 h2 ⊢
        refine ⟨by omega, ?_⟩
        rw [h2]; split <;> omega
      | some f =>
        have hn := ((get_iff hs).1 hg).2
        have h1 := used_putFile hs { f with p := f.p ++ x }
        have h2 := length_putFile S.l { f with p := f.p ++ x }
        have hg' : get? S.l ({ f with p := f.p ++ x } : FileG).name = some f := by simp only [hn]; exact hg
        rw [hg'] at h1
        simp only [Option.map_some, Option.getD_some, List.length_append] at h1 ⊢
        refine ⟨by omega, ?_⟩
        rw [h2]; split <;> omega
  · exact ⟨Nat.le_add_right _ _, Nat.le_succ _⟩
theorem used_andThen {r : Int × St} {f : St → Int × St} {a b c d : Nat} (h : used r.2.l ≤ a ∧ r.2.l.length ≤ c) (hf : used (f r.2).2.l ≤ used r.2.l + b ∧ (f r.2).2.l.length ≤ r.2.l.length + d) : used (andThen r f).2.l ≤ a + b ∧ (andThen r f).2.l.length ≤ c + d := by
  unfold andThen
  split <;> omega
theorem used_file {S : St} (hs : Sorted S.l) (t x : List UInt8) : used (S.file t x).2.l ≤ used S.l + x.length ∧ (S.file t x).2.l.length ≤ S.l.length + 1 := by
  have h1 := used_append' hs t x
  have h2 := used_sync (append_frame hs t x).sorted t
  have := used_andThen (f := fun S => S.sync t) (b := 0) (d := 0) h1 (by omega)
  exact this
theorem used_write {S : St} (hs : Sorted S.l) (n : Nat) (o st : List UInt8) : used (S.write n o st).2.l ≤ used S.l + o.length + (st.length + ((pageB 109 (leb n)).length + 0)) ∧ (S.write n o st).2.l.length ≤ S.l.length + 1 + (1 + (1 + 0)) := by
  have h1 := used_file hs (Nm.out n).name o
  have s1 := (file_frame hs (Nm.out n).name o).sorted
  have h2 := used_file s1 (Nm.state n).name st
  have s2 := (file_frame s1 (Nm.state n).name st).sorted
  have h3 := used_file s2 Nm.tmp.name (pageB 109 (leb n))
  have s3 := (file_frame s2 Nm.tmp.name (pageB 109 (leb n))).sorted
  have h4 := used_rename s3 Nm.tmp.name Nm.man.name
  have i3 := used_andThen (f := fun S => S.rename Nm.tmp.name Nm.man.name) (b := 0) (d := 0) h3 (by omega)
  have i2 := used_andThen (f := fun S => andThen (S.file Nm.tmp.name (pageB 109 (leb n))) fun S => S.rename Nm.tmp.name Nm.man.name) (b := (pageB 109 (leb n)).length + 0) (d := 1 + 0) h2 (by have i := i3; omega)
  exact used_andThen (f := fun S => andThen (S.file (Nm.state n).name st) fun S => andThen (S.file Nm.tmp.name (pageB 109 (leb n))) fun S => S.rename Nm.tmp.name Nm.man.name) (b := st.length + ((pageB 109 (leb n)).length + 0)) (d := 1 + (1 + 0)) h1 (by have i := i2; omega)
theorem used_sweepL (k : Nat) : ∀ (ms : List Nm) (S : St), used (sweepL k ms S).2.l ≤ used S.l ∧ (sweepL k ms S).2.l.length ≤ S.l.length
  | [], S => ⟨Nat.le_refl _, Nat.le_refl _⟩
  | m :: ms, S => by
    unfold sweepL
    split
    · have h1 := used_delete S m.name
      unfold andThen
      split
      · have h2 := used_sweepL k ms (S.delete m.name).2
        omega
      · exact h1
    · exact used_sweepL k ms S
theorem sweepL_none {k : Nat} : ∀ (ms : List Nm) (S : St), (∀ m ∈ ms, m.junk k = false) → sweepL k ms S = (0, S)
  | [], S, _ => rfl
  | m :: ms, S, h => by
    unfold sweepL
    rw [if_neg (by rw [h m List.mem_cons_self]; simp)]
    exact sweepL_none ms S fun m' hm => h m' (List.mem_cons_of_mem _ hm)
/-- Where nothing is to be swept nothing is turned. -/
theorem sweep_clean_id {S : St} (hs : Sorted S.l) (hn : Named S.l) {k : Nat} (hc : Clean S k) : S.sweep k = (0, S) := by
  unfold St.sweep
  refine sweepL_none _ S fun m hm => ?_
  obtain ⟨f, hf, rfl⟩ := List.mem_map.1 hm
  obtain ⟨m, h1, h2⟩ := hn f hf
  rw [h2, nmOf_name h1]
  cases hj : m.junk k
  · rfl
  · have := hc m.name ⟨m, h1, hj, rfl⟩
    rw [(get_iff hs).2 ⟨hf, h2⟩] at this
    cases this

theorem append_calm {S : St} (ho : S.off = false) (ha : S.armed = 0) {t x : List UInt8} (hf : form t = true) (hu : used S.l + x.length ≤ S.room) (hc : S.l.length < 500) : (S.append t x).1 = 0 := by
  unfold St.append
  rw [if_pos ((look_off hf).2.2 ho), if_neg, begin_calm ha, ho]
  · rfl
  · unfold St.full
    simp only [Bool.or_eq_true, decide_eq_true_eq, Bool.and_eq_true]
    omega
theorem change_calm {S : St} (ho : S.off = false) (ha : S.armed = 0) {t : List UInt8} (hf : form t = true) (hh : has S.l t = true) (k : St → Nat → St) : (S.change t k).1 = 0 := by
  unfold St.change
  rw [if_pos ((look_off hf).2.2 ho), if_pos hh, begin_calm ha, ho]
  rfl
theorem file_calm {S : St} (hs : Sorted S.l) (ho : S.off = false) (ha : S.armed = 0) {t x : List UInt8} (hf : form t = true) (hu : used S.l + x.length ≤ S.room) (hc : S.l.length < 500) : (S.file t x).1 = 0 := by
  have h0 := append_calm ho ha (t := t) (x := x) hf hu hc
  have hfr := append_frame hs t x
  unfold St.file
  rw [andThen_zero h0]
  exact change_calm (hfr.calm ha ho) (by have := hfr.armed; omega) hf (append_has hs h0) _

/-- What is committed, and nothing else is there; the power is on; how much there is. -/
structure Good (S : St) (os : List (List UInt8)) (st : List UInt8) (u c : Nat) : Prop where
  inv : Inv S os st
  clean : Clean S os.length
  on : S.off = false
  armed : S.armed = 0
  used : used S.l ≤ u
  count : S.l.length ≤ c

theorem man_len (n : Nat) (hn : n ≤ 500) : (pageB 109 (leb n)).length ≤ 19 := by
  have := leb_ten (n := n) (by omega)
  rw [pageB_length]; omega

theorem write_calm {S : St} (hs : Sorted S.l) (ho : S.off = false) (ha : S.armed = 0) {n : Nat} (hn : n ≤ 500) (o st : List UInt8) (hu : used S.l + o.length + st.length + 19 ≤ S.room) (hc : S.l.length + 3 ≤ 500) : (S.write n o st).1 = 0 := by
  have fo := form_name (m := .out n) hn
  have fs := form_name (m := .state n) hn
  have ft := form_name (m := .tmp) trivial
  have fm := form_name (m := .man) trivial
  have hml := man_len n hn
  have z1 := file_calm hs ho ha (x := o) fo (by omega) (by omega)
  have f1 := file_frame hs (Nm.out n).name o
  have u1 := used_file hs (Nm.out n).name o
  unfold St.write
  rw [andThen_zero z1]
  obtain ⟨S1, hS1⟩ : ∃ S1, S1 = (S.file (Nm.out n).name o).2 := ⟨_, rfl⟩
  rw [← hS1] at f1 u1 ⊢
  have o1 := f1.calm ha ho
  have a1 : S1.armed = 0 := by have := f1.armed; omega
  have z2 := file_calm f1.sorted o1 a1 (x := st) fs (by rw [f1.room]; omega) (by omega)
  have f2 := file_frame f1.sorted (Nm.state n).name st
  have u2 := used_file f1.sorted (Nm.state n).name st
  rw [andThen_zero z2]
  obtain ⟨S2, hS2⟩ : ∃ S2, S2 = (S1.file (Nm.state n).name st).2 := ⟨_, rfl⟩
  rw [← hS2] at f2 u2 ⊢
  have o2 := f2.calm a1 o1
  have a2 : S2.armed = 0 := by have := f2.armed; omega
  have z3 := file_calm f2.sorted o2 a2 (x := pageB 109 (leb n)) ft (by rw [f2.room, f1.room]; omega) (by omega)
  have f3 := file_frame f2.sorted Nm.tmp.name (pageB 109 (leb n))
  rw [andThen_zero z3]
  have h3 : has (S2.file Nm.tmp.name (pageB 109 (leb n))).2.l Nm.tmp.name = true := by
    unfold St.file at z3 ⊢
    have h0 := append_calm o2 a2 (t := Nm.tmp.name) (x := pageB 109 (leb n)) ft (by rw [f2.room, f1.room]; omega) (by omega)
    rw [andThen_zero h0] at z3 ⊢
    obtain ⟨f, _, e2⟩ := sync_zero (append_frame f2.sorted _ _).sorted z3
    rw [has_get, e2]; rfl
  obtain ⟨S3, hS3⟩ : ∃ S3, S3 = (S2.file Nm.tmp.name (pageB 109 (leb n))).2 := ⟨_, rfl⟩
  rw [← hS3] at f3 h3 ⊢
  have o3 := f3.calm a2 o2
  have a3 : S3.armed = 0 := by have := f3.armed; omega
  unfold St.rename
  rw [if_pos ft, if_pos ((look_off fm).2.2 o3)]
  exact change_calm o3 a3 ft h3 _

theorem commit_good {S : St} {os : List (List UInt8)} {st : List UInt8} {u c : Nat} (h : Good S os st u c) (hfew : os.length < 125) (o st' : List UInt8) (hu : u + o.length + st'.length + 19 ≤ S.room) (hc : c + 3 ≤ 500) :
    (S.commit os.length o st').1 = 0 ∧ Good (S.commit os.length o st').2 (os ++ [o]) st' (u + o.length + st'.length + 19) (c + 3) ∧ (S.commit os.length o st').2.room = S.room := by
  have hu0 := h.used
  have hc0 := h.count
  have e0 := sweep_clean_id h.inv.sorted h.inv.named h.clean
  have z1 := write_calm h.inv.sorted h.on h.armed (n := os.length + 1) (by omega) o st' (by omega) (by omega)
  have u1 := used_write h.inv.sorted (os.length + 1) o st'
  have m1 := man_len (os.length + 1) (by omega)
  have hci := commit_is h.inv hfew o st'
  simp only [] at hci
  obtain ⟨i1, i2, i3, i4, i5, i6, i7⟩ := hci
  have hon := i4 h.armed h.on
  have hr : andThen (S.sweep os.length) (fun S => S.write (os.length + 1) o st') = S.write (os.length + 1) o st' := by rw [e0]; rfl
  have hcm : S.commit os.length o st' = (S.write (os.length + 1) o st').2.sweep (os.length + 1) := by
    have := commit_zero h.on (k := os.length) (o := o) (st := st') (r := S.write (os.length + 1) o st') hr.symm z1
    exact this
  have hz : (S.commit os.length o st').1 = 0 := by
    rcases i1 with h0 | h9 | h10
    · exact h0
    · exact ff hon (i5 h9)
    · exfalso
      rw [hcm] at h10
      have f1 := write_frame h.inv.sorted (os.length + 1) o st'
      have n1 := write_named h.inv.sorted h.inv.named (n := os.length + 1) (by omega) o st'
      rcases sweep_codes f1.sorted (f1.calm h.armed h.on) n1 (os.length + 1) with hh | hh <;> omega
  obtain ⟨hi, hcl⟩ := i6 hz
  have hus : used (S.commit os.length o st').2.l ≤ used (S.write (os.length + 1) o st').2.l ∧ (S.commit os.length o st').2.l.length ≤ (S.write (os.length + 1) o st').2.l.length := by
    rw [hcm]; exact used_sweepL _ _ _
  refine ⟨hz, ⟨hi, by rw [List.length_append]; exact hcl, hon, by have := h.armed; omega, by omega, by omega⟩, i2⟩

theorem good_new (room : Nat) : Good ⟨[], room, 0, false⟩ [] [] 0 0 where
  inv := ⟨List.Pairwise.nil, fun _ h => (List.not_mem_nil h).elim, by decide, rfl, fun i o h => by simp at h, fun h => by simp at h⟩
  clean := fun _ _ => rfl
  on := rfl
  armed := rfl
  used := Nat.le_refl _
  count := Nat.le_refl _

theorem Inv.manIs {S : St} {os : List (List UInt8)} {st : List UInt8} (h : Inv S os st) : ManIs S os.length := by
  have hm := h.man
  by_cases h0 : os.length = 0
  · rw [if_pos h0] at hm; exact .inl ⟨hm, h0⟩
  · rw [if_neg h0] at hm; exact .inr ⟨_, hm, rfl, by omega, by have := h.few; omega⟩
theorem Inv.whole {S : St} {os : List (List UInt8)} {st : List UInt8} (h : Inv S os st) (h0 : 0 < os.length) : ¬ Lacks S os.length := by
  rintro (h1 | ⟨i, hi, h1⟩)
  · rw [h.state h0] at h1; cases h1
  · rw [h.outs i _ (List.getElem?_eq_getElem hi)] at h1; cases h1

end Go.HR
