/-
  A store of commits as plain data: the files' names, what each call of package commit makes of the files. No program is named here.
-/
import Derived.Test.YteddohgdegggnaaGreatDoorRest
import Derived.Test.YteddohgdegggnaaGreatDoorPage2
import Derived.Test.YteddohgdegggnaaGreatDoorCol2
namespace Go.HR

/-- A number's digits, below a thousand. -/
def dig (n : Nat) : UInt8 := UInt8.ofNat (48 + n)
def dec (n : Nat) : List UInt8 := if n < 10 then [dig n] else if n < 100 then [dig (n / 10), dig (n % 10)] else [dig (n / 100), dig (n / 10 % 10), dig (n % 10)]
theorem dec_len' (n : Nat) : (dec n).length ≤ 3 := by
  unfold dec
  split
  · simp
  · split <;> simp
def undec (l : List UInt8) : Nat := l.foldl (fun a c => a * 10 + (c.toNat - 48)) 0
theorem undec_dec : ∀ i, i < 501 → undec (dec i) = i := by decide +kernel
theorem dec_inj {i j : Nat} (hi : i ≤ 500) (hj : j ≤ 500) (h : dec i = dec j) : i = j := by
  rw [← undec_dec i (by omega), h, undec_dec j (by omega)]

/-- The files of a store of commits. -/
inductive Nm where
  | man
  | tmp
  | out (i : Nat)
  | state (i : Nat)
deriving DecidableEq
def Nm.name : Nm → List UInt8
  | .man => [109, 97, 110]
  | .tmp => [109, 97, 110, 46, 116, 109, 112]
  | .out i => [111, 117, 116, 46] ++ dec i
  | .state i => [115, 116, 97, 116, 101, 46] ++ dec i
def Nm.OK : Nm → Prop
  | .man => True
  | .tmp => True
  | .out i => i ≤ 500
  | .state i => i ≤ 500
/-- Is it none of the last commit's? -/
def Nm.junk (k : Nat) : Nm → Bool
  | .man => false
  | .tmp => true
  | .out i => i == 0 || decide (k < i)
  | .state i => i != k

theorem name_inj {m m' : Nm} (h : m.OK) (h' : m'.OK) (e : m.name = m'.name) : m = m' := by
  cases m with
  | man => cases m' <;> first | rfl | (simp [Nm.name] at e; done)
  | tmp => cases m' <;> first | rfl | (simp [Nm.name] at e; done)
  | out i => cases m' with
    | man => simp [Nm.name] at e
    | tmp => simp [Nm.name] at e
    | out j => rw [dec_inj h h' (List.append_cancel_left e)]
    | state j => simp [Nm.name] at e
  | state i => cases m' with
    | man => simp [Nm.name] at e
    | tmp => simp [Nm.name] at e
    | out j => simp [Nm.name] at e
    | state j => rw [dec_inj h h' (List.append_cancel_left e)]

theorem form_out : ∀ i, i < 501 → form (Nm.out i).name = true := by decide +kernel
theorem form_state : ∀ i, i < 501 → form (Nm.state i).name = true := by decide +kernel
theorem form_name {m : Nm} (h : m.OK) : form m.name = true := by
  cases m with
  | man => decide
  | tmp => decide
  | out i => exact form_out i (Nat.lt_succ_of_le h)
  | state i => exact form_state i (Nat.lt_succ_of_le h)

def Named (l : List FileG) : Prop := ∀ f ∈ l, ∃ m : Nm, m.OK ∧ f.name = m.name
open Classical in
/-- The file that a name is of. -/
noncomputable def nmOf (t : List UInt8) : Nm := if h : ∃ m : Nm, m.OK ∧ t = m.name then Classical.choose h else .man
theorem nmOf_name {m : Nm} (h : m.OK) : nmOf m.name = m := by
  have hex : ∃ m' : Nm, m'.OK ∧ m.name = m'.name := ⟨m, h, rfl⟩
  unfold nmOf
  rw [dif_pos hex]
  exact (name_inj h (Classical.choose_spec hex).1 (Classical.choose_spec hex).2).symm

/-- What two calls make, the second only where the first told no error. -/
def andThen (r : Int × St) (f : St → Int × St) : Int × St := if r.1 = 0 then f r.2 else r
def sweepL (k : Nat) : List Nm → St → Int × St
  | [], S => (0, S)
  | m :: ms, S => if m.junk k then andThen (S.delete m.name) (sweepL k ms) else sweepL k ms S
noncomputable def St.sweep (S : St) (k : Nat) : Int × St := sweepL k (S.l.map fun f => nmOf f.name) S
def St.file (S : St) (t x : List UInt8) : Int × St := andThen (S.append t x) fun S => S.sync t
def St.write (S : St) (n : Nat) (o st : List UInt8) : Int × St :=
  andThen (S.file (Nm.out n).name o) fun S => andThen (S.file (Nm.state n).name st) fun S => andThen (S.file Nm.tmp.name (pageB 109 (leb n))) fun S => S.rename Nm.tmp.name Nm.man.name
/-- The commit behind the k-th. -/
noncomputable def St.commit (S : St) (k : Nat) (o st : List UInt8) : Int × St :=
  if S.off then (9, S) else
    let r := andThen (S.sweep k) fun S => S.write (k + 1) o st
    if r.1 = 0 then r.2.sweep (k + 1) else if r.1 = 9 then r else (r.1, (r.2.sweep k).2)

/-- What a call may have turned: files of the names T, the head. -/
structure Frame (S S' : St) (T : List UInt8 → Prop) : Prop where
  sorted : Sorted S'.l
  get : ∀ u, ¬ T u → get? S'.l u = get? S.l u
  room : S'.room = S.room
  armed : S'.armed ≤ S.armed
  calm : S.armed = 0 → S.off = false → S'.off = false
  offs : S.off = true → S'.off = true

theorem ff {b : Bool} {C : Prop} (h : b = false) (h' : b = true) : C := by rw [h] at h'; cases h'
theorem Frame.refl {S : St} (h : Sorted S.l) (T : List UInt8 → Prop) : Frame S S T := ⟨h, fun _ _ => rfl, rfl, Nat.le_refl _, fun _ h => h, fun h => h⟩
theorem Frame.trans {S S' S'' : St} {T : List UInt8 → Prop} (h : Frame S S' T) (h' : Frame S' S'' T) : Frame S S'' T :=
  ⟨h'.sorted, fun u hu => (h'.get u hu).trans (h.get u hu), h'.room.trans h.room, Nat.le_trans h'.armed h.armed, fun ha ho => h'.calm (by have := h.armed; omega) (h.calm ha ho), fun ho => h'.offs (h.offs ho)⟩
theorem Frame.mono {S S' : St} {T T' : List UInt8 → Prop} (h : Frame S S' T) (hT : ∀ u, T u → T' u) : Frame S S' T' := ⟨h.sorted, fun u hu => h.get u fun e => hu (hT u e), h.room, h.armed, h.calm, h.offs⟩

/-- How a call ends: its number, and is the power on? -/
structure Ends (S : St) (r : Int × St) : Prop where
  on : S.off = false → r.1 = 0 → r.2.off = false
  off : r.1 = 9 → r.2.off = true
  ofOff : S.off = false → r.2.off = true → r.1 = 9
  same : S.off = false → r.1 ≠ 0 → r.1 ≠ 9 → r.2.off = false

theorem begin_armed (S : St) : S.begin.armed ≤ S.armed := by unfold St.begin; split <;> simp
theorem begin_calm {S : St} (h : S.armed = 0) : S.begin = S := by unfold St.begin; rw [if_neg (by omega)]
theorem begin_frame {S : St} (h : Sorted S.l) (T : List UInt8 → Prop) : Frame S { S with off := S.begin.off || S.off, armed := S.begin.armed } T := ⟨h, fun _ _ => rfl, rfl, begin_armed S, fun ha ho => by rw [begin_calm ha, ho]; rfl, fun ho => by simp [ho]⟩

theorem look_form {S : St} {t : List UInt8} (h : form t = true) : S.look t = if S.off then 9 else 0 := by unfold St.look; rw [if_pos h]

theorem get_addTo {l : List FileG} (hs : Sorted l) (t x u : List UInt8) : get? (addTo l t x) u = if u = t then (match get? l t with | none => some ⟨t, x, 0⟩ | some f => some { f with p := f.p ++ x }) else get? l u := by
  unfold addTo
  cases hg : get? l t with
  | none => simp only []; rw [get_putFile hs]
  | some f =>
    simp only []
    rw [get_putFile hs]
    have := ((get_iff hs).1 hg).2
    simp only [this]
theorem addTo_sorted {l : List FileG} (hs : Sorted l) (t x : List UInt8) : Sorted (addTo l t x) := by
  unfold addTo
  split <;> exact putFile_sorted hs _

theorem append_frame {S : St} (hs : Sorted S.l) (t x : List UInt8) : Frame S (S.append t x).2 (· = t) := by
  unfold St.append
  split
  · rename_i h0
    split
    · exact Frame.refl hs _
    · have ho := (look_zero h0).2
      exact ⟨addTo_sorted hs _ _, fun u hu => by rw [get_addTo hs, if_neg hu], S.begin_room, begin_armed S, fun ha _ => by rw [begin_calm ha]; exact ho, fun h => ff ho h⟩
  · exact Frame.refl hs _
theorem look_num (S : St) (t : List UInt8) : S.look t ≠ 0 → S.look t ≠ 9 → True := fun _ _ => trivial
theorem look_off {S : St} {t : List UInt8} (hf : form t = true) : (S.look t = 9 ↔ S.off = true) ∧ (S.look t = 0 ↔ S.off = false) := by
  rw [look_form hf]; cases S.off <;> simp
theorem append_ends {S : St} (t x : List UInt8) (hf : form t = true) : Ends S (S.append t x) := by
  unfold St.append
  rw [look_form hf]
  cases ho : S.off
  · simp only [Bool.false_eq_true, if_false, if_true]
    split
    · exact ⟨fun _ h => by simp at h, fun h => by simp at h, fun _ h => ff ho h, fun _ _ _ => ho⟩
    · cases hb : S.begin.off
      · exact ⟨fun _ _ => rfl, fun h => by simp at h, fun _ h => ff rfl h, fun _ _ _ => rfl⟩
      · exact ⟨fun _ h => by simp at h, fun _ => rfl, fun _ _ => rfl, fun _ _ h => by simp at h⟩
  · simp only [if_true]
    exact ⟨fun h => ff h ho, fun _ => by simpa using ho, fun h => ff h ho, fun h => ff h ho⟩

theorem begin_sorted {S : St} (h : Sorted S.l) : Sorted S.begin.l := by rw [S.begin_l]; exact h

/-- What a change leaves. -/
theorem change_frame {S : St} (hs : Sorted S.l) (t : List UInt8) (k : St → Nat → St) (T : List UInt8 → Prop)
    (hk : has S.l t = true → Sorted (k S.begin (pos S.l t)).l ∧ (∀ u, ¬ T u → get? (k S.begin (pos S.l t)).l u = get? S.l u))
    (hk2 : (k S.begin (pos S.l t)).room = S.begin.room ∧ (k S.begin (pos S.l t)).armed = S.begin.armed ∧ (k S.begin (pos S.l t)).off = S.begin.off) : Frame S (S.change t k).2 T := by
  unfold St.change
  split
  · rename_i h0
    have ho := (look_zero h0).2
    split
    · rename_i hh
      split
      · exact ⟨begin_sorted hs, fun u _ => by rw [S.begin_l], S.begin_room, begin_armed S, fun ha _ => by rw [begin_calm ha]; exact ho, fun h => ff ho h⟩
      · exact ⟨(hk hh).1, (hk hh).2, hk2.1.trans S.begin_room, by rw [hk2.2.1]; exact begin_armed S, fun ha _ => by rw [hk2.2.2, begin_calm ha]; exact ho, fun h => ff ho h⟩
    · exact Frame.refl hs _
  · exact Frame.refl hs _
theorem change_ends {S : St} (t : List UInt8) (hf : form t = true) (k : St → Nat → St) (hk : (k S.begin (pos S.l t)).off = S.begin.off) : Ends S (S.change t k) := by
  unfold St.change
  rw [look_form hf]
  cases ho : S.off
  · simp only [Bool.false_eq_true, if_false, if_true]
    split
    · cases hb : S.begin.off
      · exact ⟨fun _ _ => by simpa [hk] using hb, fun h => by simp at h, fun _ h => by simp [hk, hb] at h, fun _ _ _ => by simpa [hk] using hb⟩
      · exact ⟨fun _ h => by simp at h, fun _ => by simpa using hb, fun _ _ => by simp, fun _ _ h => by simp at h⟩
    · exact ⟨fun _ _ => ho, fun h => by simp at h, fun _ h => ff ho h, fun _ _ _ => ho⟩
  · simp only [if_true]
    exact ⟨fun h => ff h ho, fun _ => by simpa using ho, fun h => ff h ho, fun h => ff h ho⟩

theorem kSync_of {S : St} (hs : Sorted S.l) {t : List UInt8} (h : has S.l t = true) : ∃ f, get? S.l t = some f ∧ f.name = t ∧ (kSync S (pos S.l t)) = { S with l := putFile S.l f.sync } := by
  obtain ⟨f, hf, ht⟩ := (has_pos hs).1 h
  refine ⟨f, get_of_has hs hf ht, ht, ?_⟩
  unfold kSync
  rw [hf]
  have : putFile S.l f.sync = S.l.set (pos S.l t) f.sync := by
    have h2 := set_pos (l := S.l) (f := f.sync) (by show has S.l f.name = true; rw [ht]; exact h)
    have h3 : f.sync.name = t := ht
    rw [h3] at h2; exact h2.symm
  rw [this]
theorem kDel_of {S : St} (hs : Sorted S.l) {t : List UInt8} (h : has S.l t = true) : kDel S (pos S.l t) = { S with l := dropFile S.l t } := by
  unfold kDel; rw [erase_pos hs h]
theorem kRen_of {S : St} (hs : Sorted S.l) {t : List UInt8} (u : List UInt8) (h : has S.l t = true) : ∃ f, get? S.l t = some f ∧ f.name = t ∧ kRen u S (pos S.l t) = { S with l := putFile (dropFile S.l t) { f with name := u } } := by
  obtain ⟨f, hf, ht⟩ := (has_pos hs).1 h
  refine ⟨f, get_of_has hs hf ht, ht, ?_⟩
  unfold kRen
  rw [hf, erase_pos hs h]

theorem kSync_head (S : St) (i : Nat) : (kSync S i).room = S.room ∧ (kSync S i).armed = S.armed ∧ (kSync S i).off = S.off := by unfold kSync; split <;> simp
theorem kRen_head (u : List UInt8) (S : St) (i : Nat) : (kRen u S i).room = S.room ∧ (kRen u S i).armed = S.armed ∧ (kRen u S i).off = S.off := by unfold kRen; split <;> simp

theorem sync_frame {S : St} (hs : Sorted S.l) (t : List UInt8) : Frame S (S.sync t).2 (· = t) := by
  refine change_frame hs t kSync _ (fun h => ?_) (kSync_head _ _)
  obtain ⟨f, hf, ht, e⟩ := kSync_of (S := S.begin) (begin_sorted hs) (t := t) (by rw [S.begin_l]; exact h)
  rw [S.begin_l] at e
  rw [e]
  refine ⟨putFile_sorted hs _, fun u hu => ?_⟩
  have hn : f.sync.name = t := ht
  simp only []
  rw [get_putFile hs, hn, if_neg hu]
theorem delete_frame {S : St} (hs : Sorted S.l) (t : List UInt8) : Frame S (S.delete t).2 (· = t) := by
  refine change_frame hs t kDel _ (fun h => ?_) ⟨rfl, rfl, rfl⟩
  have e := kDel_of (S := S.begin) (begin_sorted hs) (t := t) (by rw [S.begin_l]; exact h)
  rw [S.begin_l] at e
  rw [e]
  exact ⟨dropFile_sorted hs _, fun u hu => by simp only []; rw [get_dropFile hs, if_neg hu]⟩
theorem rename_frame {S : St} (hs : Sorted S.l) (t v : List UInt8) : Frame S (S.rename t v).2 (fun u => u = t ∨ u = v) := by
  unfold St.rename
  split
  · split
    · refine change_frame hs t (kRen v) _ (fun h => ?_) (kRen_head v _ _)
      obtain ⟨f, hf, ht, e⟩ := kRen_of (S := S.begin) (begin_sorted hs) (t := t) v (by rw [S.begin_l]; exact h)
      rw [S.begin_l] at e
      rw [e]
      refine ⟨putFile_sorted (dropFile_sorted hs _) _, fun u hu => ?_⟩
      simp only []
      rw [get_putFile (dropFile_sorted hs _), if_neg (fun e => hu (.inr e)), get_dropFile hs, if_neg fun e => hu (.inl e)]
    · exact Frame.refl hs _
  · exact Frame.refl hs _
theorem sync_ends {S : St} (t : List UInt8) (hf : form t = true) : Ends S (S.sync t) := change_ends t hf _ (kSync_head _ _).2.2
theorem delete_ends {S : St} (t : List UInt8) (hf : form t = true) : Ends S (S.delete t) := change_ends t hf _ rfl
theorem rename_ends {S : St} (t v : List UInt8) (hf : form t = true) (hv : form v = true) : Ends S (S.rename t v) := by
  unfold St.rename
  rw [if_pos hf]
  split
  · exact change_ends t hf _ (kRen_head v _ _).2.2
  · rename_i h
    have : S.off = true := by
      cases ho : S.off
      · exact absurd ((look_off hv).2.2 ho) h
      · rfl
    exact ⟨fun h' => ff h' this, fun _ => this, fun h' => ff h' this, fun h' => ff h' this⟩

theorem Ends.andThen {S : St} {r : Int × St} {f : St → Int × St} (h : Ends S r) (hf : r.1 = 0 → Ends r.2 (f r.2)) : Ends S (andThen r f) := by
  unfold HR.andThen
  split
  · rename_i h0
    have h2 := hf h0
    exact ⟨fun ho h1 => h2.on (h.on ho h0) h1, h2.off, fun ho h1 => h2.ofOff (h.on ho h0) h1, fun ho => h2.same (h.on ho h0)⟩
  · exact h
theorem Frame.andThen {S : St} {r : Int × St} {f : St → Int × St} {T : List UInt8 → Prop} (h : Frame S r.2 T) (hf : r.1 = 0 → Sorted r.2.l → Frame r.2 (f r.2).2 T) : Frame S (andThen r f).2 T := by
  unfold HR.andThen
  split
  · rename_i h0
    exact h.trans (hf h0 h.sorted)
  · exact h

/-- What a call that told no error made. -/
theorem change_zero {S : St} {t : List UInt8} {k : St → Nat → St} (h : (S.change t k).1 = 0) : has S.l t = true ∧ (S.change t k).2 = k S.begin (pos S.l t) := by
  unfold St.change at h ⊢
  split at h
  · rename_i h0
    rw [if_pos h0]
    split at h
    · rename_i hh
      rw [if_pos hh]
      split at h
      · simp at h
      · rename_i hb
        rw [if_neg hb]
        exact ⟨hh, rfl⟩
    · simp at h
  · rename_i h0
    exact absurd h h0
theorem delete_zero {S : St} (hs : Sorted S.l) {t : List UInt8} (h : (S.delete t).1 = 0) : (S.delete t).2.l = dropFile S.l t := by
  obtain ⟨h1, h2⟩ := change_zero h
  have e := kDel_of (S := S.begin) (begin_sorted hs) (t := t) (by rw [S.begin_l]; exact h1)
  rw [S.begin_l] at e
  show (S.change t kDel).2.l = _
  rw [h2, e]
theorem sync_zero {S : St} (hs : Sorted S.l) {t : List UInt8} (h : (S.sync t).1 = 0) : ∃ f, get? S.l t = some f ∧ get? (S.sync t).2.l t = some f.sync := by
  obtain ⟨h1, h2⟩ := change_zero h
  obtain ⟨f, hf, ht, e⟩ := kSync_of (S := S.begin) (begin_sorted hs) (t := t) (by rw [S.begin_l]; exact h1)
  rw [S.begin_l] at e hf
  refine ⟨f, hf, ?_⟩
  show get? (S.change t kSync).2.l t = _
  have hn : f.sync.name = t := ht
  rw [h2, e]
  simp only []
  rw [get_putFile hs, hn, if_pos rfl]
theorem append_zero {S : St} (hs : Sorted S.l) {t x : List UInt8} (h : (S.append t x).1 = 0) (hn : get? S.l t = none) : get? (S.append t x).2.l t = some ⟨t, x, 0⟩ := by
  unfold St.append at h ⊢
  split at h
  · rename_i h0
    rw [if_pos h0]
    split at h
    · simp at h
    · rename_i h1
      rw [if_neg h1]
      simp only []
      rw [get_addTo hs, if_pos rfl, hn]
  · rename_i h0
    exact absurd h h0
theorem file_zero {S : St} (hs : Sorted S.l) {t x : List UInt8} (h : (S.file t x).1 = 0) (hn : get? S.l t = none) : get? (S.file t x).2.l t = some ⟨t, x, x.length⟩ := by
  unfold St.file andThen at h ⊢
  split at h
  · rename_i h0
    rw [if_pos h0]
    obtain ⟨f, h1, h2⟩ := sync_zero (append_frame hs t x).sorted h
    rw [append_zero hs h0 hn] at h1
    cases h1
    exact h2
  · rename_i h0
    exact absurd h h0
theorem rename_zero {S : St} (hs : Sorted S.l) {t v : List UInt8} (h : (S.rename t v).1 = 0) (hne : v ≠ t) : ∃ f, get? S.l t = some f ∧ get? (S.rename t v).2.l v = some { f with name := v } ∧ get? (S.rename t v).2.l t = none := by
  unfold St.rename at h ⊢
  split at h
  · rename_i hf
    rw [if_pos hf]
    split at h
    · rename_i hv
      rw [if_pos hv]
      obtain ⟨h1, h2⟩ := change_zero h
      obtain ⟨f, hf, ht, e⟩ := kRen_of (S := S.begin) (begin_sorted hs) (t := t) v (by rw [S.begin_l]; exact h1)
      rw [S.begin_l] at e hf
      refine ⟨f, hf, ?_⟩
      rw [h2, e]
      simp only []
      rw [get_putFile (dropFile_sorted hs _), if_pos rfl, get_putFile (dropFile_sorted hs _)]
      refine ⟨rfl, ?_⟩
      rw [if_neg (by exact fun e => hne e.symm), get_dropFile hs, if_pos rfl]
    · rename_i hv
      exact absurd h hv
  · exact absurd h (by simp)
theorem rename_fail {S : St} {t v : List UInt8} (h : (S.rename t v).1 ≠ 0) : (S.rename t v).2.l = S.l := by
  unfold St.rename St.change at h ⊢
  split <;> rename_i h1 <;> simp only [h1, if_true] at h
  · split <;> rename_i h2 <;> simp only [h2, if_true] at h
    · split <;> rename_i h3 <;> simp only [h3, if_true] at h
      · split <;> rename_i h4 <;> simp only [h4, if_true] at h
        · split <;> rename_i h5 <;> simp only [h5, if_true] at h
          · exact S.begin_l
          · exact absurd rfl h
        · rfl
      · rfl
    · rfl
  · rfl

end Go.HR
