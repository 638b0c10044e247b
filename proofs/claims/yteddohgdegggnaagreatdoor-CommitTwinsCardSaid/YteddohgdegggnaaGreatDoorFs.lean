/-
  The store of files as plain data: files by their names, rising; what each call makes of it. No program is named here.
-/
import Derived.WalkKit
namespace Go.HR

/-- A file: its name, its bytes, how many are durable. -/
structure FileG where
  name : List UInt8
  p : List UInt8
  sure : Nat

/-- What Sync makes of a file. -/
def FileG.sync (f : FileG) : FileG := { f with sure := f.p.length }

/-- A store. -/
structure St where
  l : List FileG
  room : Nat
  armed : Nat
  off : Bool

/-- The model's order of texts is the lists' own. -/
theorem bytesLess_lt : ∀ (x y : List UInt8), Op.bytesLess x y = decide (x < y)
  | [], [] => by simp [Op.bytesLess]
  | _ :: _, [] => by simp [Op.bytesLess]
  | [], _ :: _ => by simp [Op.bytesLess]
  | a :: x, b :: y => by
    rw [Op.bytesLess, bytesLess_lt x y]
    simp only [List.cons_lt_cons_iff]
    by_cases h1 : a < b <;> by_cases h2 : a = b <;> by_cases h3 : x < y <;> simp [h1, h2, h3]

abbrev Sorted (l : List FileG) : Prop := l.Pairwise fun f g => f.name < g.name

/-- Where a name stands, or would stand. -/
def pos (l : List FileG) (t : List UInt8) : Nat := (l.filter fun f => decide (f.name < t)).length
def has (l : List FileG) (t : List UInt8) : Bool := l.any fun f => f.name == t
def get? (l : List FileG) (t : List UInt8) : Option FileG := l.find? fun f => f.name == t

theorem lt_irrefl' (a : List UInt8) : ¬ a < a := List.lt_irrefl a
theorem lt_asymm' {a b : List UInt8} (h : a < b) : ¬ b < a := List.lt_asymm h
theorem lt_trans' {a b c : List UInt8} (h : a < b) (h' : b < c) : a < c := List.lt_trans h h'
theorem lt_tri {a b : List UInt8} (h : ¬ a < b) (h' : ¬ b < a) : a = b := List.le_antisymm (List.not_lt.1 h') (List.not_lt.1 h)

theorem pos_le (l : List FileG) (t : List UInt8) : pos l t ≤ l.length := List.length_filter_le _ _

/-- In a sorted list the names ahead of 'pos' are below, the others aren't. -/
theorem pos_lt {l : List FileG} (hs : Sorted l) {t : List UInt8} {k : Nat} {f : FileG} (hk : l[k]? = some f) : f.name < t ↔ k < pos l t := by
  induction l generalizing k with
  | nil => simp at hk
  | cons g l ih =>
    have hs' := (List.pairwise_cons.1 hs).2
    have hg := (List.pairwise_cons.1 hs).1
    by_cases hgt : g.name < t
    · have hp : pos (g :: l) t = pos l t + 1 := by simp [pos, hgt]
      cases k with
      | zero => simp at hk; subst hk; simp [hp, hgt]
      | succ k => simp at hk; rw [ih hs' hk, hp]; omega
    · have hnone : pos l t = 0 := by
        unfold pos
        rw [List.length_eq_zero_iff, List.filter_eq_nil_iff]
        intro x hx hxt
        exact hgt (lt_trans' (hg x hx) (by simpa using hxt))
      have hp : pos (g :: l) t = 0 := by simp only [pos, List.filter_cons, hgt, decide_false]; simpa [pos] using hnone
      rw [hp]
      constructor
      · intro h
        cases k with
        | zero => simp at hk; subst hk; exact absurd h hgt
        | succ k => simp at hk; exact absurd (lt_trans' (hg f (List.mem_of_getElem? hk)) h) hgt
      · intro h; omega

/-- What a search that ends at r has found. -/
theorem pos_eq {l : List FileG} (hs : Sorted l) {t : List UInt8} {r : Nat} (hr : r ≤ l.length) (h1 : ∀ (k : Nat) (f : FileG), k < r → l[k]? = some f → f.name < t) (h2 : ∀ (k : Nat) (f : FileG), r ≤ k → l[k]? = some f → ¬ f.name < t) : r = pos l t := by
  have hp := pos_le l t
  rcases Nat.lt_trichotomy r (pos l t) with h | h | h
  · have hlt : r < l.length := by omega
    exact absurd ((pos_lt hs (List.getElem?_eq_getElem hlt)).2 h) (h2 r _ (Nat.le_refl _) (List.getElem?_eq_getElem hlt))
  · exact h
  · have hlt : pos l t < l.length := by omega
    have := (pos_lt hs (List.getElem?_eq_getElem hlt)).1 (h1 _ _ h (List.getElem?_eq_getElem hlt))
    omega

theorem below_up {l : List FileG} (hs : Sorted l) {t : List UInt8} {m : Nat} {f : FileG} (hf : l[m]? = some f) (h : f.name < t) : ∀ (k : Nat) (g : FileG), k < m + 1 → l[k]? = some g → g.name < t :=
  fun k g hk hg => (pos_lt hs hg).2 (by have := (pos_lt hs hf).1 h; omega)
theorem above_down {l : List FileG} (hs : Sorted l) {t : List UInt8} {m : Nat} {f : FileG} (hf : l[m]? = some f) (h : ¬ f.name < t) : ∀ (k : Nat) (g : FileG), m ≤ k → l[k]? = some g → ¬ g.name < t :=
  fun k g hk hg hgt => h ((pos_lt hs hf).2 (by have := (pos_lt hs hg).1 hgt; omega))

theorem has_iff (l : List FileG) (t : List UInt8) : has l t = true ↔ ∃ f ∈ l, f.name = t := by simp [has]

theorem has_pos {l : List FileG} (hs : Sorted l) {t : List UInt8} : has l t = true ↔ ∃ f, l[pos l t]? = some f ∧ f.name = t := by
  rw [has_iff]
  constructor
  · rintro ⟨f, hf, rfl⟩
    obtain ⟨k, hk⟩ := List.mem_iff_getElem?.1 hf
    have h1 : ¬ k < pos l f.name := fun h => lt_irrefl' _ ((pos_lt hs hk).2 h)
    have h2 : ¬ pos l f.name < k := fun h => by
      have hlt : pos l f.name < l.length := by have := (List.getElem?_eq_some_iff.1 hk).1; omega
      have hk' := List.getElem?_eq_getElem hlt
      have : ¬ l[pos l f.name].name < f.name := fun h' => by have := (pos_lt hs hk').1 h'; omega
      have h3 := List.pairwise_iff_getElem.1 hs (pos l f.name) k hlt (List.getElem?_eq_some_iff.1 hk).1 h
      rw [(List.getElem?_eq_some_iff.1 hk).2] at h3
      exact this h3
    have : k = pos l f.name := by omega
    exact ⟨f, by rw [← this]; exact hk, rfl⟩
  · rintro ⟨f, hf, h⟩
    exact ⟨f, List.mem_of_getElem? hf, h⟩

theorem get_of_has {l : List FileG} (hs : Sorted l) {t : List UInt8} {f : FileG} (hf : l[pos l t]? = some f) (ht : f.name = t) : get? l t = some f := by
  unfold get?
  rw [List.find?_eq_some_iff_append]
  refine ⟨by simp [ht], l.take (pos l t), l.drop (pos l t + 1), ?_, ?_⟩
  · have hlt := (List.getElem?_eq_some_iff.1 hf).1
    have := (List.getElem?_eq_some_iff.1 hf).2
    rw [← this]
    rw [← List.drop_eq_getElem_cons hlt, List.take_append_drop]
  · intro g hg
    obtain ⟨k, hk⟩ := List.mem_iff_getElem?.1 hg
    rw [List.getElem?_take] at hk
    split at hk
    · rename_i hlt
      have := (pos_lt hs hk).2 hlt
      simp only [Bool.not_eq_true', beq_eq_false_iff_ne]
      intro e
      rw [e] at this
      exact lt_irrefl' _ this
    · cases hk

theorem get_none {l : List FileG} {t : List UInt8} (h : has l t = false) : get? l t = none := by
  unfold get?
  rw [List.find?_eq_none]
  intro f hf hft
  have : has l t = true := (has_iff l t).2 ⟨f, hf, by simpa using hft⟩
  rw [h] at this
  cases this

/-- files.Form. -/
def okByte (c : UInt8) : Bool := c == 46 || (48 ≤ c && c ≤ 57) || (97 ≤ c && c ≤ 122)
def form (t : List UInt8) : Bool := t.all okByte && !t.isEmpty && decide (t.length ≤ 32)

/-- How many bytes all files have. -/
def used (l : List FileG) : Nat := (l.map fun f => f.p.length).sum

/-- Errors ahead of a call's own. -/
def St.look (S : St) (t : List UInt8) : Int := if form t then (if S.off then 9 else 0) else 1

/-- An operation is begun. -/
def St.begin (S : St) : St := if 0 < S.armed then { S with armed := S.armed - 1, off := S.armed - 1 == 0 } else S

/-- What a store is like, whatever was done to it. -/
structure St.WF (S : St) : Prop where
  sorted : Sorted S.l
  room : used S.l ≤ S.room
  roomMax : S.room ≤ 16777216
  count : S.l.length ≤ 500
  sure : ∀ f ∈ S.l, f.sure ≤ f.p.length
  names : ∀ f ∈ S.l, f.name.length ≤ 32

end Go.HR
