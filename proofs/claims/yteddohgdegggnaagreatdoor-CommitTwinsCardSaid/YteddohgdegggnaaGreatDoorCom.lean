/-
  A store of commits as plain data: the files' names, what each call of package commit makes of the files. No program is named here.
-/
import Derived.Test.YteddohgdegggnaaGreatDoorRest
import Derived.Test.YteddohgdegggnaaGreatDoorPage2
import Derived.Test.YteddohgdegggnaaGreatDoorCol2
namespace Go.HR

/-- A number's digits, below a thousand. -/
def dig (n : Nat) : UInt8 := UInt8.ofNat (48 + n)
def dec (n : Nat) : List UInt8 := if n < 10 then [dig n] else if n < 100 then [dig (n / 10), dig (n % 10)] else [dig (n / 100), dig (n / 10 % 10), dig (n % 10)]
theorem dec_len' (n : Nat) : (dec n).length ≤ 3 := by
  unfold dec
  split
  · simp
  · split <;> simp
def undec (l : List UInt8) : Nat := l.foldl (fun a c => a * 10 + (c.toNat - 48)) 0
theorem undec_dec : ∀ i, i < 501 → undec (dec i) = i := by decide +kernel
theorem dec_inj {i j : Nat} (hi : i ≤ 500) (hj : j ≤ 500) (h : dec i = dec j) : i = j := by
  rw [← undec_dec i (by omega), h, undec_dec j (by omega)]

/-- The files of a store of commits. -/
inductive Nm where
  | man
  | tmp
  | out (i : Nat)
  | state (i : Nat)
deriving DecidableEq
def Nm.name : Nm → List UInt8
  | .man => [109, 97, 110]
  | .tmp => [109, 97, 110, 46, 116, 109, 112]
  | .out i => [111, 117, 116, 46] ++ dec i
  | .state i => [115, 116, 97, 116, 101, 46] ++ dec i
def Nm.OK : Nm → Prop
  | .man => True
  | .tmp => True
  | .out i => i ≤ 500
  | .state i => i ≤ 500
/-- Is it none of the last commit's? -/
def Nm.junk (k : Nat) : Nm → Bool
  | .man => false
  | .tmp => true
  | .out i => i == 0 || decide (k < i)
  | .state i => i != k

theorem name_inj {m m' : Nm} (h : m.OK) (h' : m'.OK) (e : m.name = m'.name) : m = m' := by
  cases m with
  | man => cases m' <;> first | rfl | (simp [Nm.name] at e; done)
  | tmp => cases m' <;> first | rfl | (simp [Nm.name] at e; done)
  | out i => cases m' with
    | man => simp [Nm.name] at e
    | tmp => simp [Nm.name] at e
    | out j => rw [dec_inj h h' (List.append_cancel_left e)]
    | state j => simp [Nm.name] at e
  | state i => cases m' with
    | man => simp [Nm.name] at e
    | tmp => simp [Nm.name] at e
    | out j => simp [Nm.name] at e
    | state j => rw [dec_inj h h' (List.append_cancel_left e)]

theorem form_out : ∀ i, i < 501 → form (Nm.out i).name = true := by decide +kernel
theorem form_state : ∀ i, i < 501 → form (Nm.state i).name = true := by decide +kernel
theorem form_name {m : Nm} (h : m.OK) : form m.name = true := by
  cases m with
  | man => decide
  | tmp => decide
  | out i => exact form_out i (Nat.lt_succ_of_le h)
  | state i => exact form_state i (Nat.lt_succ_of_le h)

def Named (l : List FileG) : Prop := ∀ f ∈ l, ∃ m : Nm, m.OK ∧ f.name = m.name
open Classical in
/-- The file that a name is of. -/
noncomputable def nmOf (t : List UInt8) : Nm := if h : ∃ m : Nm, m.OK ∧ t = m.name then Classical.choose h else .man
theorem nmOf_name {m : Nm} (h : m.OK) : nmOf m.name = m := by
  have hex : ∃ m' : Nm, m'.OK ∧ m.name = m'.name := ⟨m, h, rfl⟩
  unfold nmOf
  rw [dif_pos hex]
  exact (name_inj h (Classical.choose_spec hex).1 (Classical.choose_spec hex).2).symm

/-- What two calls make, the second only where the first told no error. -/
def andThen (r : Int × St) (f : St → Int × St) : Int × St := if r.1 = 0 then f r.2 else r
def sweepL (k : Nat) : List Nm → St → Int × St
  | [], S => (0, S)
  | m :: ms, S => if m.junk k then andThen (S.delete m.name) (sweepL k ms) else sweepL k ms S
noncomputable def St.sweep (S : St) (k : Nat) : Int × St := sweepL k (S.l.map fun f => nmOf f.name) S
def St.file (S : St) (t x : List UInt8) : Int × St := andThen (S.append t x) fun S => S.sync t
def St.write (S : St) (n : Nat) (o st : List UInt8) : Int × St :=
  andThen (S.file (Nm.out n).name o) fun S => andThen (S.file (Nm.state n).name st) fun S => andThen (S.file Nm.tmp.name (pageB 109 (leb n))) fun S => S.rename Nm.tmp.name Nm.man.name
/-- The commit behind the k-th. -/
noncomputable def St.commit (S : St) (k : Nat) (o st : List UInt8) : Int × St :=
  if S.off then (9, S) else
    let r := andThen (S.sweep k) fun S => S.write (k + 1) o st
    if r.1 = 0 then r.2.sweep (k + 1) else if r.1 = 9 then r else (r.1, (r.2.sweep k).2)

/-- What a call may have turned: files of the names T, the head. -/
structure Frame (S S' : St) (T : List UInt8 → Prop) : Prop where
  sorted : Sorted S'.l
  get : ∀ u, ¬ T u → get? S'.l u = get? S.l u
  room : S'.room = S.room
  armed : S'.armed ≤ S.armed
  calm : S.armed = 0 → S.off = false → S'.off = false
  offs : S.off = true → S'.off = true

theorem ff {b : Bool} {C : Prop} (h : b = false) (h' : b = true) : C := by rw [h] at h'; cases h'
theorem Frame.refl {S : St} (h : Sorted S.l) (T : List UInt8 → Prop) : Frame S S T := ⟨h, fun _ _ => rfl, rfl, Nat.le_refl _, fun _ h => h, fun h => h⟩
theorem Frame.trans {S S' S'' : St} {T : List UInt8 → Prop} (h : Frame S S' T) (h' : Frame S' S'' T) : Frame S S'' T :=
  ⟨h'.sorted, fun u hu => (h'.get u hu).trans (h.get u hu), h'.room.trans h.room, Nat.le_trans h'.armed h.armed, fun ha ho => h'.calm (by have := h.armed; omega) (h.calm ha ho), fun ho => h'.offs (h.offs ho)⟩
theorem Frame.mono {S S' : St} {T T' : List UInt8 → Prop} (h : Frame S S' T) (hT : ∀ u, T u → T' u) : Frame S S' T' := ⟨h.sorted, fun u hu => h.get u fun e => hu (hT u e), h.room, h.armed, h.calm, h.offs⟩

/-- How a call ends: its number, and is the power on? -/
structure Ends (S : St) (r : Int × St) : Prop where
  on : S.off = false → r.1 = 0 → r.2.off = false
  off : r.1 = 9 → r.2.off = true
  ofOff : S.off = false → r.2.off = true → r.1 = 9
  same : S.off = false → r.1 ≠ 0 → r.1 ≠ 9 → r.2.off = false

theorem begin_armed (S : St) : S.begin.armed ≤ S.armed := by unfold St.begin; split <;> simp
theorem begin_calm {S : St} (h : S.armed = 0) : S.begin = S := by unfold St.begin; rw [if_neg (by omega)]
theorem begin_frame {S : St} (h : Sorted S.l) (T : List UInt8 → Prop) : Frame S { S with off := S.begin.off || S.off, armed := S.begin.armed } T := ⟨h, fun _ _ => rfl, rfl, begin_armed S, fun ha ho => by rw [begin_calm ha, ho]; rfl, fun ho => by simp [ho]⟩

theorem look_form {S : St} {t : List UInt8} (h : form t = true) : S.look t = if S.off then 9 else 0 := by unfold St.look; rw [if_pos h]

theorem get_addTo {l : List FileG} (hs : Sorted l) (t x u : List UInt8) : get? (addTo l t x) u = if u = t then (match get? l t with | none => some ⟨t, x, 0⟩ | some f => some { f with p := f.p ++ x }) else get? l u := by
  unfold addTo
  cases hg : get? l t with
  | none => simp only []; rw [get_putFile hs]
  | some f =>
    simp only []
    rw [get_putFile hs]
    have := ((get_iff hs).1 hg).2
    simp only [this]
theorem addTo_sorted {l : List FileG} (hs : Sorted l) (t x : List UInt8) : Sorted (addTo l t x) := by
  unfold addTo
  split <;> exact putFile_sorted hs _

theorem append_frame {S : St} (hs : Sorted S.l) (t x : List UInt8) : Frame S (S.append t x).2 (· = t) := by
  unfold St.append
  split
  · rename_i h0
    split
    · exact Frame.refl hs _
    · have ho := (look_zero h0).2
      exact ⟨addTo_sorted hs _ _, fun u hu => by rw [get_addTo hs, if_neg hu], S.begin_room, begin_armed S, fun ha _ => by rw [begin_calm ha]; exact ho, fun h => ff ho h⟩
  · exact Frame.refl hs _
theorem look_num (S : St) (t : List UInt8) : S.look t ≠ 0 → S.look t ≠ 9 → True := fun _ _ => trivial
theorem look_off {S : St} {t : List UInt8} (hf : form t = true) : (S.look t = 9 ↔ S.off = true) ∧ (S.look t = 0 ↔ S.off = false) := by
  rw [look_form hf]; cases S.off <;> simp
theorem append_ends {S : St} (t x : List UInt8) (hf : form t = true) : Ends S (S.append t x) := by
  unfold St.append
  rw [look_form hf]
  cases ho : S.off
  · simp only [Bool.false_eq_true, if_false, if_true]
    split
    · exact ⟨fun _ h => by simp at h, fun h => by simp at h, fun _ h => ff ho h, fun _ _ _ => ho⟩
    · cases hb : S.begin.off
      · exact ⟨fun _ _ => rfl, fun h => by simp at h, fun _ h => ff rfl h, fun _ _ _ => rfl⟩
      · exact ⟨fun _ h => by simp at h, fun _ => rfl, fun _ _ => rfl, fun _ _ h => by simp at h⟩
  · simp only [if_true]
    exact ⟨fun h => ff h ho, fun _ => by simpa using ho, fun h => ff h ho, fun h => ff h ho⟩

theorem begin_sorted {S : St} (h : Sorted S.l) : Sorted S.begin.l := by rw [S.begin_l]; exact h

/-- What a change leaves. -/
theorem change_frame {S : St} (hs : Sorted S.l) (t : List UInt8) (k : St → Nat → St) (T : List UInt8 → Prop)
    (hk : has S.l t = true → Sorted (k S.begin (pos S.l t)).l ∧ (∀ u, ¬ T u → get? (k S.begin (pos S.l t)).l u = get? S.l u))
    (hk2 : (k S.begin (pos S.l t)).room = S.begin.room ∧ (k S.begin (pos S.l t)).armed = S.begin.armed ∧ (k S.begin (pos S.l t)).off = S.begin.off) : Frame S (S.change t k).2 T := by
  unfold St.change
  split
  · rename_i h0
    have ho := (look_zero h0).2
    split
    · rename_i hh
      split
      · exact ⟨begin_sorted hs, fun u _ => by rw [S.begin_l], S.begin_room, begin_armed S, fun ha _ => by rw [begin_calm ha]; exact ho, fun h => ff ho h⟩
      · exact ⟨(hk hh).1, (hk hh).2, hk2.1.trans S.begin_room, by rw [hk2.2.1]; exact begin_armed S, fun ha _ => by rw [hk2.2.2, begin_calm ha]; exact ho, fun h => ff ho h⟩
    · exact Frame.refl hs _
  · exact Frame.refl hs _
theorem change_ends {S : St} (t : List UInt8) (hf : form t = true) (k : St → Nat → St) (hk : (k S.begin (pos S.l t)).off = S.begin.off) : Ends S (S.change t k) := by
  unfold St.change
  rw [look_form hf]
  cases ho : S.off
  · simp only [Bool.false_eq_true, if_false, if_true]
    split
    · cases hb : S.begin.off
      · exact ⟨fun _ _ => by simpa [hk] using hb, fun h => by simp at h, fun _ h => by simp [hk, hb] at h, fun _ _ _ => by simpa [hk] using hb⟩
      · exact ⟨fun _ h => by simp at h, fun _ => by simpa using hb, fun _ _ => by simp, fun _ _ h => by simp at h⟩
    · exact ⟨fun _ _ => ho, fun h => by simp at h, fun _ h => ff ho h, fun _ _ _ => ho⟩
  · simp only [if_true]
    exact ⟨fun h => ff h ho, fun _ => by simpa using ho, fun h => ff h ho, fun h => ff h ho⟩

theorem kSync_of {S : St} (hs : Sorted S.l) {t : List UInt8} (h : has S.l t = true) : ∃ f, get? S.l t = some f ∧ f.name = t ∧ (kSync S (pos S.l t)) = { S with l := putFile S.l f.sync } := by
  obtain ⟨f, hf, ht⟩ := (has_pos hs).1 h
  refine ⟨f, get_of_has hs hf ht, ht, ?_⟩
  unfold kSync
  rw [hf]
  have : putFile S.l f.sync = S.l.set (pos S.l t) f.sync := by
    have h2 := set_pos (l := S.l) (f := f.sync) (by show has S.l f.name = true; rw [ht]; exact h)
    have h3 : f.sync.name = t := ht
    rw [h3] at h2; exact h2.symm
  rw [this]
theorem kDel_of {S : St} (hs : Sorted S.l) {t : List UInt8} (h : has S.l t = true) : kDel S (pos S.l t) = { S with l := dropFile S.l t } := by
  unfold kDel; rw [erase_pos hs h]
theorem kRen_of {S : St} (hs : Sorted S.l) {t : List UInt8} (u : List UInt8) (h : has S.l t = true) : ∃ f, get? S.l t = some f ∧ f.name = t ∧ kRen u S (pos S.l t) = { S with l := putFile (dropFile S.l t) { f with name := u } } := by
  obtain ⟨f, hf, ht⟩ := (has_pos hs).1 h
  refine ⟨f, get_of_has hs hf ht, ht, ?_⟩
  unfold kRen
  rw [hf, erase_pos hs h]

theorem kSync_head (S : St) (i : Nat) : (kSync S i).room = S.room ∧ (kSync S i).armed = S.armed ∧ (kSync S i).off = S.off := by unfold kSync; split <;> simp
theorem kRen_head (u : List UInt8) (S : St) (i : Nat) : (kRen u S i).room = S.room ∧ (kRen u S i).armed = S.armed ∧ (kRen u S i).off = S.off := by unfold kRen; split <;> simp

theorem sync_frame {S : St} (hs : Sorted S.l) (t : List UInt8) : Frame S (S.sync t).2 (· = t) := by
  refine change_frame hs t kSync _ (fun h => ?_) (kSync_head _ _)
  obtain ⟨f, hf, ht, e⟩ := kSync_of (S := S.begin) (begin_sorted hs) (t := t) (by rw [S.begin_l]; exact h)
  rw [S.begin_l] at e
  rw [e]
  refine ⟨putFile_sorted hs _, fun u hu => ?_⟩
  have hn : f.sync.name = t := ht
  simp only []
  rw [get_putFile hs, hn, if_neg hu]
theorem delete_frame {S : St} (hs : Sorted S.l) (t : List UInt8) : Frame S (S.delete t).2 (· = t) := by
  refine change_frame hs t kDel _ (fun h => ?_) ⟨rfl, rfl, rfl⟩
  have e := kDel_of (S := S.begin) (begin_sorted hs) (t := t) (by rw [S.begin_l]; exact h)
  rw [S.begin_l] at e
  rw [e]
  exact ⟨dropFile_sorted hs _, fun u hu => by simp only []; rw [get_dropFile hs, if_neg hu]⟩
theorem rename_frame {S : St} (hs : Sorted S.l) (t v : List UInt8) : Frame S (S.rename t v).2 (fun u => u = t ∨ u = v) := by
  unfold St.rename
  split
  · split
    · refine change_frame hs t (kRen v) _ (fun h => ?_) (kRen_head v _ _)
      obtain ⟨f, hf, ht, e⟩ := kRen_of (S := S.begin) (begin_sorted hs) (t := t) v (by rw [S.begin_l]; exact h)
      rw [S.begin_l] at e
      rw [e]
      refine ⟨putFile_sorted (dropFile_sorted hs _) _, fun u hu => ?_⟩
      simp only []
      rw [get_putFile (dropFile_sorted hs _), if_neg (fun e => hu (.inr e)), get_dropFile hs, if_neg fun e => hu (.inl e)]
    · exact Frame.refl hs _
  · exact Frame.refl hs _
theorem sync_ends {S : St} (t : List UInt8) (hf : form t = true) : Ends S (S.sync t) := change_ends t hf _ (kSync_head _ _).2.2
theorem delete_ends {S : St} (t : List UInt8) (hf : form t = true) : Ends S (S.delete t) := change_ends t hf _ rfl
theorem rename_ends {S : St} (t v : List UInt8) (hf : form t = true) (hv : form v = true) : Ends S (S.rename t v) := by
  unfold St.rename
  rw [if_pos hf]
  split
  · exact change_ends t hf _ (kRen_head v _ _).2.2
  · rename_i h
    have : S.off = true := by
      cases ho : S.off
      · exact absurd ((look_off hv).2.2 ho) h
      · rfl
    exact ⟨fun h' => ff h' this, fun _ => this, fun h' => ff h' this, fun h' => ff h' this⟩

theorem Ends.andThen {S : St} {r : Int × St} {f : St → Int × St} (h : Ends S r) (hf : r.1 = 0 → Ends r.2 (f r.2)) : Ends S (andThen r f) := by
  unfold HR.andThen
  split
  · rename_i h0
    have h2 := hf h0
    exact ⟨fun ho h1 => h2.on (h.on ho h0) h1, h2.off, fun ho h1 => h2.ofOff (h.on ho h0) h1, fun ho => h2.same (h.on ho h0)⟩
  · exact h
theorem Frame.andThen {S : St} {r : Int × St} {f : St → Int × St} {T : List UInt8 → Prop} (h : Frame S r.2 T) (hf : r.1 = 0 → Sorted r.2.l → Frame r.2 (f r.2).2 T) : Frame S (andThen r f).2 T := by
  unfold HR.andThen
  split
  · rename_i h0
    exact h.trans (hf h0 h.sorted)
  · exact h

/-- What a call that told no error made. -/
theorem change_zero {S : St} {t : List UInt8} {k : St → Nat → St} (h : (S.change t k).1 = 0) : has S.l t = true ∧ (S.change t k).2 = k S.begin (pos S.l t) := by
  unfold St.change at h ⊢
  split at h
  · rename_i h0
    rw [if_pos h0]
    split at h
    · rename_i hh
      rw [if_pos hh]
      split at h
      · simp at h
      · rename_i hb
        rw [if_neg hb]
        exact ⟨hh, rfl⟩
    · simp at h
  · rename_i h0
    exact absurd h h0
theorem delete_zero {S : St} (hs : Sorted S.l) {t : List UInt8} (h : (S.delete t).1 = 0) : (S.delete t).2.l = dropFile S.l t := by
  obtain ⟨h1, h2⟩ := change_zero h
  have e := kDel_of (S := S.begin) (begin_sorted hs) (t := t) (by rw [S.begin_l]; exact h1)
  rw [S.begin_l] at e
  show (S.change t kDel).2.l = _
  rw [h2, e]
theorem sync_zero {S : St} (hs : Sorted S.l) {t : List UInt8} (h : (S.sync t).1 = 0) : ∃ f, get? S.l t = some f ∧ get? (S.sync t).2.l t = some f.sync := by
  obtain ⟨h1, h2⟩ := change_zero h
  obtain ⟨f, hf, ht, e⟩ := kSync_of (S := S.begin) (begin_sorted hs) (t := t) (by rw [S.begin_l]; exact h1)
  rw [S.begin_l] at e hf
  refine ⟨f, hf, ?_⟩
  show get? (S.change t kSync).2.l t = _
  have hn : f.sync.name = t := ht
  rw [h2, e]
  simp only []
  rw [get_putFile hs, hn, if_pos rfl]
theorem append_zero {S : St} (hs : Sorted S.l) {t x : List UInt8} (h : (S.append t x).1 = 0) (hn : get? S.l t = none) : get? (S.append t x).2.l t = some ⟨t, x, 0⟩ := by
  unfold St.append at h ⊢
  split at h
  · rename_i h0
    rw [if_pos h0]
    split at h
    · simp at h
    · rename_i h1
      rw [if_neg h1]
      simp only []
      rw [get_addTo hs, if_pos rfl, hn]
  · rename_i h0
    exact absurd h h0
theorem file_zero {S : St} (hs : Sorted S.l) {t x : List UInt8} (h : (S.file t x).1 = 0) (hn : get? S.l t = none) : get? (S.file t x).2.l t = some ⟨t, x, x.length⟩ := by
  unfold St.file andThen at h ⊢
  split at h
  · rename_i h0
    rw [if_pos h0]
    obtain ⟨f, h1, h2⟩ := sync_zero (append_frame hs t x).sorted h
    rw [append_zero hs h0 hn] at h1
    cases h1
    exact h2
  · rename_i h0
    exact absurd h h0
theorem rename_zero {S : St} (hs : Sorted S.l) {t v : List UInt8} (h : (S.rename t v).1 = 0) (hne : v ≠ t) : ∃ f, get? S.l t = some f ∧ get? (S.rename t v).2.l v = some { f with name := v } ∧ get? (S.rename t v).2.l t = none := by
  unfold St.rename at h ⊢
  split at h
  · rename_i hf
    rw [if_pos hf]
    split at h
    · rename_i hv
      rw [if_pos hv]
      obtain ⟨h1, h2⟩ := change_zero h
      obtain ⟨f, hf, ht, e⟩ := kRen_of (S := S.begin) (begin_sorted hs) (t := t) v (by rw [S.begin_l]; exact h1)
      rw [S.begin_l] at e hf
      refine ⟨f, hf, ?_⟩
      rw [h2, e]
      simp only []
      rw [get_putFile (dropFile_sorted hs _), if_pos rfl, get_putFile (dropFile_sorted hs _)]
      refine ⟨rfl, ?_⟩
      rw [if_neg (by exact fun e => hne e.symm), get_dropFile hs, if_pos rfl]
    · rename_i hv
      exact absurd h hv
  · exact absurd h (by simp)
theorem rename_fail {S : St} {t v : List UInt8} (h : (S.rename t v).1 ≠ 0) : (S.rename t v).2.l = S.l := by
  unfold St.rename St.change at h ⊢
  split <;> rename_i h1 <;> simp only [h1, if_true] at h
  · split <;> rename_i h2 <;> simp only [h2, if_true] at h
    · split <;> rename_i h3 <;> simp only [h3, if_true] at h
      · split <;> rename_i h4 <;> simp only [h4, if_true] at h
        · split <;> rename_i h5 <;> simp only [h5, if_true] at h
          · exact S.begin_l
          · exact absurd rfl h
        · rfl
      · rfl
    · rfl
  · rfl

end Go.HR
namespace Go.HR

/-- Files that aren't of the k-th commit. -/
def Junk (k : Nat) (u : List UInt8) : Prop := ∃ m : Nm, m.OK ∧ m.junk k = true ∧ u = m.name

/-- What is committed: how many, the bytes of each, the state. -/
structure Inv (S : St) (os : List (List UInt8)) (st : List UInt8) : Prop where
  sorted : Sorted S.l
  named : Named S.l
  few : os.length ≤ 125
  man : get? S.l Nm.man.name = if os.length = 0 then none else some ⟨Nm.man.name, pageB 109 (leb os.length), (pageB 109 (leb os.length)).length⟩
  outs : ∀ i o, os[i]? = some o → get? S.l (Nm.out (i + 1)).name = some ⟨(Nm.out (i + 1)).name, o, o.length⟩
  state : 0 < os.length → get? S.l (Nm.state os.length).name = some ⟨(Nm.state os.length).name, st, st.length⟩

def Clean (S : St) (k : Nat) : Prop := ∀ u, Junk k u → get? S.l u = none

theorem junk_of {k : Nat} {m : Nm} (h : m.OK) (hj : Junk k m.name) : m.junk k = true := by
  obtain ⟨m', h1, h2, h3⟩ := hj
  rw [name_inj h h1 h3]; exact h2

theorem named_frame {S S' : St} {T : List UInt8 → Prop} (h : Frame S S' T) (hs : Sorted S.l) (hn : Named S.l) (hT : ∀ u, T u → ∃ m : Nm, m.OK ∧ u = m.name) : Named S'.l := by
  intro f hf
  by_cases hT' : T f.name
  · exact hT _ hT'
  · have := (get_iff h.sorted).2 ⟨hf, rfl⟩
    rw [h.get _ hT'] at this
    exact hn f ((get_iff hs).1 this).1

/-- What is committed is as it was, where only other files are turned. -/
theorem Inv.frame {S S' : St} {os : List (List UInt8)} {st : List UInt8} (h : Inv S os st) {T : List UInt8 → Prop} (hf : Frame S S' T) (hT : ∀ u, T u → Junk os.length u) : Inv S' os st where
  sorted := hf.sorted
  named := named_frame hf h.sorted h.named fun u hu => by obtain ⟨m, h1, _, h3⟩ := hT u hu; exact ⟨m, h1, h3⟩
  few := h.few
  man := by rw [hf.get _ fun hu => by have := junk_of (m := .man) trivial (hT _ hu); simp [Nm.junk] at this]; exact h.man
  outs := fun i o ho => by
    have hlt := (List.getElem?_eq_some_iff.1 ho).1
    have hfew := h.few
    rw [hf.get _ fun hu => by have := junk_of (m := .out (i + 1)) (by show i + 1 ≤ 500; omega) (hT _ hu); simp [Nm.junk] at this; omega]
    exact h.outs i o ho
  state := fun h0 => by
    have hfew := h.few
    rw [hf.get _ fun hu => by have := junk_of (m := .state os.length) (by show os.length ≤ 500; omega) (hT _ hu); simp [Nm.junk] at this]
    exact h.state h0
theorem Clean.frame {S S' : St} {k : Nat} (h : Clean S k) {T : List UInt8 → Prop} (hf : Frame S S' T) (hT : ∀ u, T u → ¬ Junk k u) : Clean S' k := fun u hu => by rw [hf.get u fun hT' => hT u hT' hu]; exact h u hu

theorem sweepL_frame (k : Nat) : ∀ (ms : List Nm) (S : St), Sorted S.l → (∀ m ∈ ms, m.OK) → Frame S (sweepL k ms S).2 (Junk k)
  | [], S, hs, _ => Frame.refl hs _
  | m :: ms, S, hs, ho => by
    unfold sweepL
    have ho' : ∀ m ∈ ms, m.OK := fun m hm => ho m (List.mem_cons_of_mem _ hm)
    split
    · rename_i hj
      refine Frame.andThen ((delete_frame hs m.name).mono fun u hu => ⟨m, ho m List.mem_cons_self, hj, hu⟩) fun _ hs' => sweepL_frame k ms _ hs' ho'
    · exact sweepL_frame k ms S hs ho'
theorem Ends.refl {S : St} : S.off = false → Ends S (0, S) := fun ho => ⟨fun _ _ => ho, fun h => by simp at h, fun _ h => by simp [ho] at h, fun _ _ _ => ho⟩
theorem sweepL_ends (k : Nat) : ∀ (ms : List Nm) (S : St), S.off = false → (∀ m ∈ ms, m.OK) → Ends S (sweepL k ms S)
  | [], S, hs, _ => Ends.refl hs
  | m :: ms, S, hs, ho => by
    unfold sweepL
    have ho' : ∀ m ∈ ms, m.OK := fun m hm => ho m (List.mem_cons_of_mem _ hm)
    split
    · have hd := delete_ends (S := S) m.name (form_name (ho m List.mem_cons_self))
      exact hd.andThen fun h0 => sweepL_ends k ms _ (hd.on hs h0) ho'
    · exact sweepL_ends k ms S hs ho'
/-- Behind a sweep that told no error what it went through is none, or of the commit. -/
theorem sweepL_zero (k : Nat) : ∀ (ms : List Nm) (S : St), Sorted S.l → (∀ m ∈ ms, m.OK) → (sweepL k ms S).1 = 0 → (∀ m ∈ ms, m.junk k = true → get? (sweepL k ms S).2.l m.name = none) ∧ ∀ u, get? S.l u = none → get? (sweepL k ms S).2.l u = none
  | [], S, hs, _, _ => ⟨fun m hm => (List.not_mem_nil hm).elim, fun _ h => h⟩
  | m :: ms, S, hs, ho, h => by
    unfold sweepL at h ⊢
    have ho' : ∀ m ∈ ms, m.OK := fun m hm => ho m (List.mem_cons_of_mem _ hm)
    split at h
    · rename_i hj
      rw [if_pos hj]
      unfold andThen at h ⊢
      split at h
      · rename_i h0
        rw [if_pos h0]
        obtain ⟨h1, h2⟩ := sweepL_zero k ms _ (delete_frame hs m.name).sorted ho' h
        have hd := delete_zero hs h0
        refine ⟨fun m' hm' hj' => ?_, fun u hu => h2 u ?_⟩
        · rcases List.mem_cons.1 hm' with rfl | hm'
          · exact h2 _ (by rw [hd, get_dropFile hs, if_pos rfl])
          · exact h1 m' hm' hj'
        · rw [hd, get_dropFile hs, hu]; split <;> rfl
      · rename_i h0
        exact absurd h h0
    · rename_i hj
      rw [if_neg hj]
      obtain ⟨h1, h2⟩ := sweepL_zero k ms S hs ho' h
      exact ⟨fun m' hm' hj' => (List.mem_cons.1 hm').elim (fun e => by subst e; exact absurd hj' hj) fun hm' => h1 m' hm' hj', h2⟩

theorem nms_ok {l : List FileG} (hn : Named l) : ∀ m ∈ l.map (fun f => nmOf f.name), m.OK := by
  intro m hm
  obtain ⟨f, hf, rfl⟩ := List.mem_map.1 hm
  obtain ⟨m', h1, h2⟩ := hn f hf
  rw [h2, nmOf_name h1]; exact h1

theorem sweep_frame {S : St} (hs : Sorted S.l) (hn : Named S.l) (k : Nat) : Frame S (S.sweep k).2 (Junk k) := sweepL_frame k _ S hs (nms_ok hn)
theorem sweep_ends {S : St} (ho : S.off = false) (hn : Named S.l) (k : Nat) : Ends S (S.sweep k) := sweepL_ends k _ S ho (nms_ok hn)
theorem sweep_clean {S : St} (hs : Sorted S.l) (hn : Named S.l) {k : Nat} (h : (S.sweep k).1 = 0) : Clean (S.sweep k).2 k := by
  obtain ⟨h1, h2⟩ := sweepL_zero k _ S hs (nms_ok hn) h
  rintro u ⟨m, hm, hj, rfl⟩
  cases hg : get? S.l m.name with
  | none => exact h2 _ hg
  | some f =>
    obtain ⟨hf, hfn⟩ := (get_iff hs).1 hg
    have : m = nmOf f.name := by rw [hfn, nmOf_name hm]
    exact h1 m (this ▸ List.mem_map_of_mem hf) hj

/-- A sweep only tells that the power went off. -/
theorem sweepL_codes (k : Nat) : ∀ (ms : List Nm) (S : St), Sorted S.l → S.off = false → (∀ m ∈ ms, m.OK) → ms.Nodup → (∀ m ∈ ms, has S.l m.name = true) → (sweepL k ms S).1 = 0 ∨ (sweepL k ms S).1 = 9
  | [], S, _, _, _, _, _ => .inl rfl
  | m :: ms, S, hs, hoff, ho, hnd, hh => by
    unfold sweepL
    have ho' : ∀ m ∈ ms, m.OK := fun m hm => ho m (List.mem_cons_of_mem _ hm)
    have hnd' := List.nodup_cons.1 hnd
    split
    · have hm := ho m List.mem_cons_self
      have hd : (S.delete m.name).1 = 0 ∨ (S.delete m.name).1 = 9 := by
        unfold St.delete St.change
        rw [if_pos ((look_off (form_name hm)).2.2 hoff), if_pos (hh m List.mem_cons_self)]
        split <;> simp
      unfold andThen
      split
      · rename_i h0
        refine sweepL_codes k ms _ (delete_frame hs _).sorted ((delete_ends m.name (form_name hm)).on hoff h0) ho' hnd'.2 fun m' hm' => ?_
        have hne : m'.name ≠ m.name := fun e => hnd'.1 (name_inj (ho' m' hm') hm e ▸ hm')
        have := hh m' (List.mem_cons_of_mem _ hm')
        rw [has_get] at this ⊢
        rw [delete_zero hs h0, get_dropFile hs, if_neg hne]
        exact this
      · rename_i h0
        exact hd
    · exact sweepL_codes k ms S hs hoff ho' hnd'.2 fun m' hm' => hh m' (List.mem_cons_of_mem _ hm')

theorem sorted_nodup {l : List FileG} (hs : Sorted l) (hn : Named l) : (l.map fun f => nmOf f.name).Nodup := by
  refine List.pairwise_map.2 (List.Pairwise.imp_of_mem (R := fun f g => f.name < g.name) (fun {f g} hf hg hlt e => ?_) hs)
  obtain ⟨m, h1, h2⟩ := hn f hf
  obtain ⟨m', h1', h2'⟩ := hn g hg
  rw [h2, h2', nmOf_name h1, nmOf_name h1'] at e
  rw [h2, h2', e] at hlt
  exact lt_irrefl' _ hlt
theorem sweep_codes {S : St} (hs : Sorted S.l) (ho : S.off = false) (hn : Named S.l) (k : Nat) : (S.sweep k).1 = 0 ∨ (S.sweep k).1 = 9 := by
  refine sweepL_codes k _ S hs ho (nms_ok hn) (sorted_nodup hs hn) fun m hm => ?_
  obtain ⟨f, hf, rfl⟩ := List.mem_map.1 hm
  obtain ⟨m', h1, h2⟩ := hn f hf
  exact (has_iff _ _).2 ⟨f, hf, by rw [h2, nmOf_name h1]⟩

theorem file_frame {S : St} (hs : Sorted S.l) (t x : List UInt8) : Frame S (S.file t x).2 (· = t) := (append_frame hs t x).andThen fun _ hs' => sync_frame hs' t
theorem file_ends {S : St} (t x : List UInt8) (hf : form t = true) : Ends S (S.file t x) := (append_ends t x hf).andThen fun _ => sync_ends t hf

/-- Which numbers a call tells. -/
def Codes (e : Int) : Prop := e = 0 ∨ e = 9 ∨ e = 10
theorem append_codes {S : St} (t x : List UInt8) (hf : form t = true) : Codes (S.append t x).1 := by
  unfold St.append Codes
  rw [look_form hf]
  cases S.off
  · simp only [Bool.false_eq_true, if_false, if_true]
    split
    · simp
    · cases S.begin.off <;> simp
  · simp
theorem change_codes {S : St} {t : List UInt8} (hf : form t = true) (k : St → Nat → St) (hh : has S.l t = true) : Codes (S.change t k).1 := by
  unfold St.change Codes
  rw [look_form hf]
  cases S.off
  · simp only [Bool.false_eq_true, if_false, if_true]
    rw [if_pos hh]
    split <;> simp
  · simp
theorem append_has {S : St} (hs : Sorted S.l) {t x : List UInt8} (h : (S.append t x).1 = 0) : has (S.append t x).2.l t = true := by
  unfold St.append at h ⊢
  split at h
  · rename_i h0
    rw [if_pos h0]
    split at h
    · simp at h
    · rename_i h1
      rw [if_neg h1]
      simp only []
      rw [has_get, get_addTo hs, if_pos rfl]
      cases get? S.l t <;> rfl
  · rename_i h0
    exact absurd h h0
theorem file_codes {S : St} (hs : Sorted S.l) (t x : List UInt8) (hf : form t = true) : Codes (S.file t x).1 := by
  unfold St.file andThen
  split
  · rename_i h0
    exact change_codes hf _ (append_has hs h0)
  · exact append_codes t x hf

/-- The part of a commit that writes. -/
theorem write_is {S : St} {os : List (List UInt8)} {st : List UInt8} (h : Inv S os st) (hc : Clean S os.length) (hfew : os.length < 125) (o st' : List UInt8) :
    Ends S (S.write (os.length + 1) o st') ∧ Codes (S.write (os.length + 1) o st').1 ∧ Frame S (S.write (os.length + 1) o st').2 (fun u => Junk os.length u ∨ u = Nm.man.name) ∧
      ((S.write (os.length + 1) o st').1 ≠ 0 → Inv (S.write (os.length + 1) o st').2 os st) ∧ ((S.write (os.length + 1) o st').1 = 0 → Inv (S.write (os.length + 1) o st').2 (os ++ [o]) st') := by
  obtain ⟨n, hn⟩ : ∃ n, n = os.length + 1 := ⟨_, rfl⟩
  rw [← hn]
  have o1 : (Nm.out n).OK := by show n ≤ 500; omega
  have o2 : (Nm.state n).OK := by show n ≤ 500; omega
  have o3 : Nm.tmp.OK := trivial
  have j1 : Junk os.length (Nm.out n).name := ⟨_, o1, by simp [Nm.junk]; omega, rfl⟩
  have j2 : Junk os.length (Nm.state n).name := ⟨_, o2, by simp [Nm.junk]; omega, rfl⟩
  have j3 : Junk os.length Nm.tmp.name := ⟨_, o3, rfl, rfl⟩
  unfold St.write
  obtain ⟨r1, hr1⟩ : ∃ r, r = S.file (Nm.out n).name o := ⟨_, rfl⟩
  have f1 : Frame S r1.2 (· = (Nm.out n).name) := hr1 ▸ file_frame h.sorted _ _
  have e1 : Ends S r1 := hr1 ▸ file_ends _ _ (form_name o1)
  have c1 : Codes r1.1 := hr1 ▸ file_codes h.sorted _ _ (form_name o1)
  have i1 := h.frame f1 fun u hu => hu ▸ j1
  have J1 : Frame S r1.2 (fun u => Junk os.length u ∨ u = Nm.man.name) := f1.mono fun u hu => .inl (hu ▸ j1)
  have z1 : r1.1 = 0 → get? r1.2.l (Nm.out n).name = some ⟨(Nm.out n).name, o, o.length⟩ := fun h0 => by subst hr1; exact file_zero h.sorted h0 (hc _ j1)
  rw [← hr1]
  clear hr1
  unfold andThen
  split
  rotate_left
  · rename_i h0
    exact ⟨e1, c1, J1, fun _ => i1, fun h => absurd h h0⟩
  rename_i h01
  have z1 := z1 h01
  obtain ⟨r2, hr2⟩ : ∃ r, r = r1.2.file (Nm.state n).name st' := ⟨_, rfl⟩
  have f2 : Frame r1.2 r2.2 (· = (Nm.state n).name) := hr2 ▸ file_frame i1.sorted _ _
  have e2 : Ends r1.2 r2 := hr2 ▸ file_ends _ _ (form_name o2)
  have c2 : Codes r2.1 := hr2 ▸ file_codes i1.sorted _ _ (form_name o2)
  have i2 := i1.frame f2 fun u hu => hu ▸ j2
  have J2 : Frame S r2.2 (fun u => Junk os.length u ∨ u = Nm.man.name) := J1.trans (f2.mono fun u hu => .inl (hu ▸ j2))
  have n21 : (Nm.state n).name ≠ (Nm.out n).name := fun e => by have := name_inj o2 o1 e; cases this
  have g2 : get? r1.2.l (Nm.state n).name = none := by rw [f1.get _ n21]; exact hc _ j2
  have z2 : r2.1 = 0 → get? r2.2.l (Nm.state n).name = some ⟨(Nm.state n).name, st', st'.length⟩ := fun h0 => by subst hr2; exact file_zero i1.sorted h0 g2
  have y2 : get? r2.2.l (Nm.out n).name = some ⟨(Nm.out n).name, o, o.length⟩ := by rw [f2.get _ fun e => n21 e.symm]; exact z1
  have E2 : Ends S r2 := by
    have := e1.andThen (f := fun _ => r2) fun _ => e2
    unfold andThen at this
    rwa [if_pos h01] at this
  simp only []
  rw [← hr2]
  clear hr2
  split
  rotate_left
  · rename_i h0
    exact ⟨E2, c2, J2, fun _ => i2, fun h => absurd h h0⟩
  rename_i h02
  have z2 := z2 h02
  obtain ⟨r3, hr3⟩ : ∃ r, r = r2.2.file Nm.tmp.name (pageB 109 (leb n)) := ⟨_, rfl⟩
  have f3 : Frame r2.2 r3.2 (· = Nm.tmp.name) := hr3 ▸ file_frame i2.sorted _ _
  have e3 : Ends r2.2 r3 := hr3 ▸ file_ends _ _ (form_name o3)
  have c3 : Codes r3.1 := hr3 ▸ file_codes i2.sorted _ _ (form_name o3)
  have i3 := i2.frame f3 fun u hu => hu ▸ j3
  have J3 : Frame S r3.2 (fun u => Junk os.length u ∨ u = Nm.man.name) := J2.trans (f3.mono fun u hu => .inl (hu ▸ j3))
  have n31 : Nm.tmp.name ≠ (Nm.out n).name := fun e => by have := name_inj o3 o1 e; cases this
  have n32 : Nm.tmp.name ≠ (Nm.state n).name := fun e => by have := name_inj o3 o2 e; cases this
  have g3 : get? r2.2.l Nm.tmp.name = none := by rw [f2.get _ n32, f1.get _ n31]; exact hc _ j3
  have z3 : r3.1 = 0 → get? r3.2.l Nm.tmp.name = some ⟨Nm.tmp.name, pageB 109 (leb n), (pageB 109 (leb n)).length⟩ := fun h0 => by subst hr3; exact file_zero i2.sorted h0 g3
  have y31 : get? r3.2.l (Nm.out n).name = some ⟨(Nm.out n).name, o, o.length⟩ := by rw [f3.get _ fun e => n31 e.symm]; exact y2
  have y32 : get? r3.2.l (Nm.state n).name = some ⟨(Nm.state n).name, st', st'.length⟩ := by rw [f3.get _ fun e => n32 e.symm]; exact z2
  have E3 : Ends S r3 := by
    have := E2.andThen (f := fun _ => r3) fun _ => e3
    unfold andThen at this
    rwa [if_pos h02] at this
  rw [← hr3]
  clear hr3
  split
  rotate_left
  · rename_i h0
    exact ⟨E3, c3, J3, fun _ => i3, fun h => absurd h h0⟩
  rename_i h03
  have z3 := z3 h03
  obtain ⟨r4, hr4⟩ : ∃ r, r = r3.2.rename Nm.tmp.name Nm.man.name := ⟨_, rfl⟩
  have f4 : Frame r3.2 r4.2 (fun u => u = Nm.tmp.name ∨ u = Nm.man.name) := hr4 ▸ rename_frame i3.sorted _ _
  have e4 : Ends r3.2 r4 := hr4 ▸ rename_ends _ _ (form_name o3) (form_name (m := .man) trivial)
  have nmt : Nm.man.name ≠ Nm.tmp.name := by decide
  have J4 : Frame S r4.2 (fun u => Junk os.length u ∨ u = Nm.man.name) := J3.trans (f4.mono fun u hu => hu.elim (fun e => .inl (e ▸ j3)) .inr)
  have E4 : Ends S r4 := by
    have := E3.andThen (f := fun _ => r4) fun _ => e4
    unfold andThen at this
    rwa [if_pos h03] at this
  have c4 : Codes r4.1 := by
    rw [hr4]
    unfold St.rename
    rw [if_pos (form_name o3)]
    split
    · exact change_codes (form_name o3) _ (by rw [has_get, z3]; rfl)
    · rw [look_form (form_name (m := .man) trivial)]
      cases r3.2.off <;> simp [Codes]
  rw [← hr4]
  refine ⟨E4, c4, J4, fun h0 => ?_, fun h0 => ?_⟩
  · have hl : r4.2.l = r3.2.l := by rw [hr4] at h0 ⊢; exact rename_fail h0
    exact ⟨by rw [hl]; exact i3.sorted, by rw [hl]; exact i3.named, i3.few, by rw [hl]; exact i3.man, by rw [hl]; exact i3.outs, by rw [hl]; exact i3.state⟩
  · obtain ⟨g, q1, q2, q3⟩ := rename_zero (v := Nm.man.name) i3.sorted (by rw [← hr4]; exact h0) nmt
    rw [← hr4] at q2 q3
    rw [z3] at q1
    cases q1
    have hlen : (os ++ [o]).length = n := by simp [hn]
    have nk : ∀ m : Nm, m.OK → m ≠ .man → m ≠ .tmp → ¬ (m.name = Nm.tmp.name ∨ m.name = Nm.man.name) := fun m hm h1 h2 e => e.elim (fun e => h2 (name_inj hm o3 e)) fun e => h1 (name_inj (m' := .man) hm trivial e)
    refine ⟨f4.sorted, named_frame f4 i3.sorted i3.named fun u hu => hu.elim (fun e => ⟨_, o3, e⟩) fun e => ⟨.man, trivial, e⟩, by rw [hlen]; omega, ?_, fun i o' ho => ?_, fun _ => ?_⟩
    · rw [hlen, if_neg (by omega), q2]
    · have hi : i < n := by have := (List.getElem?_eq_some_iff.1 ho).1; omega
      rw [f4.get _ (nk (.out (i + 1)) (by show i + 1 ≤ 500; omega) (by simp) (by simp))]
      by_cases hlt : i < os.length
      · rw [List.getElem?_append_left hlt] at ho
        exact i3.outs i o' ho
      · obtain rfl : i = os.length := by omega
        rw [List.getElem?_append_right (Nat.le_refl _)] at ho
        simp at ho
        subst ho
        rw [← hn]; exact y31
    · rw [hlen, f4.get _ (nk (.state n) o2 (by simp) (by simp))]
      exact y32

/-- ALL OF IT, OR NOTHING. -/
theorem commit_is {S : St} {os : List (List UInt8)} {st : List UInt8} (h : Inv S os st) (hfew : os.length < 125) (o st' : List UInt8) :
    let r := S.commit os.length o st'
    Codes r.1 ∧ r.2.room = S.room ∧ r.2.armed ≤ S.armed ∧ (S.armed = 0 → S.off = false → r.2.off = false) ∧ (r.1 = 9 → r.2.off = true) ∧
      (r.1 = 0 → Inv r.2 (os ++ [o]) st' ∧ Clean r.2 (os.length + 1)) ∧ (r.1 ≠ 0 → Inv r.2 os st ∨ r.2.off = true ∧ Inv r.2 (os ++ [o]) st') := by
  intro r
  have hr : r = S.commit os.length o st' := rfl
  clear_value r
  unfold St.commit at hr
  split at hr
  · rename_i ho
    subst hr
    exact ⟨.inr (.inl rfl), rfl, Nat.le_refl _, fun _ h => h, fun _ => ho, fun h => by simp at h, fun _ => .inl h⟩
  · rename_i hoff
    have hoff : S.off = false := by simpa using hoff
    have f1 := sweep_frame h.sorted h.named os.length
    have e1 := sweep_ends hoff h.named os.length
    have c1 := sweep_codes h.sorted hoff h.named os.length
    have i1 := h.frame f1 fun _ hu => hu
    simp only [] at hr
    obtain ⟨r1, hr1⟩ : ∃ r1, r1 = andThen (S.sweep os.length) fun S => S.write (os.length + 1) o st' := ⟨_, rfl⟩
    rw [← hr1] at hr
    have key : Ends S r1 ∧ Codes r1.1 ∧ Frame S r1.2 (fun u => Junk os.length u ∨ u = Nm.man.name) ∧ (r1.1 ≠ 0 → Inv r1.2 os st) ∧ (r1.1 = 0 → Inv r1.2 (os ++ [o]) st') := by
      unfold andThen at hr1
      split at hr1
      · rename_i h0
        have hc := sweep_clean h.sorted h.named h0
        simp only [] at hr1
        obtain ⟨a1, a2, a3, a4, a5⟩ := write_is i1 hc hfew o st'
        rw [← hr1] at a1 a2 a3 a4 a5
        have E : Ends S r1 := by
          have := e1.andThen (f := fun _ => r1) fun _ => a1
          unfold andThen at this
          rwa [if_pos h0] at this
        exact ⟨E, a2, (f1.mono fun u hu => .inl hu).trans a3, a4, a5⟩
      · rename_i h0
        subst hr1
        exact ⟨e1, c1.elim (fun h => absurd h h0) fun h => .inr (.inl h), f1.mono fun u hu => .inl hu, fun _ => i1, fun h => absurd h h0⟩
    obtain ⟨a1, a2, a3, a4, a5⟩ := key
    clear hr1
    split at hr
    · rename_i h0
      have i2 := a5 h0
      have ho2 := a1.on hoff h0
      have hlen : (os ++ [o]).length = os.length + 1 := by simp
      have f2 := sweep_frame i2.sorted i2.named (os.length + 1)
      have e2 := sweep_ends ho2 i2.named (os.length + 1)
      have c2 := sweep_codes i2.sorted ho2 i2.named (os.length + 1)
      have cl := sweep_clean i2.sorted i2.named (k := os.length + 1)
      rw [← hr] at f2 e2 c2 cl
      have i3 := i2.frame f2 fun u hu => by rw [hlen]; exact hu
      refine ⟨c2.elim .inl fun h => .inr (.inl h), f2.room.trans a3.room, Nat.le_trans f2.armed a3.armed, fun ha _ => f2.calm (by have := a3.armed; omega) ho2, e2.off, fun h0 => ⟨i3, cl h0⟩, fun hne => .inr ⟨e2.off (c2.resolve_left hne), i3⟩⟩
    · rename_i h0
      have i2 := a4 h0
      split at hr
      · rename_i h9
        subst hr
        exact ⟨a2, a3.room, a3.armed, a3.calm, a1.off, fun h => absurd h h0, fun _ => .inl i2⟩
      · rename_i h9
        have f2 := sweep_frame i2.sorted i2.named os.length
        have ho2 := a1.same hoff h0 h9
        subst hr
        exact ⟨a2, f2.room.trans a3.room, Nat.le_trans f2.armed a3.armed, fun ha _ => f2.calm (by have := a3.armed; omega) ho2, fun h => absurd h h9, fun h => absurd h h0, fun _ => .inl (i2.frame f2 fun _ hu => hu)⟩

end Go.HR
