/-
  How a store lies in memory, and the walks of the functions of package files that only look at it.
-/
import Derived.Test.YteddohgdegggnaaGreatDoorChecked
import Derived.Test.YteddohgdegggnaaGreatDoorMem
import Derived.Test.YteddohgdegggnaaGreatDoorFs
namespace Go.Proofs.YteddohgdegggnaaGreatDoor
open Go.RowKit Go.HR
open Go.Proofs

/-- A file, and the slice value of its bytes. -/
structure FV where
  g : FileG
  pv : Value

def FV.cells (f : FV) : List Value := [.string ⟨f.g.name.toArray⟩, f.pv, .int .i64 f.g.sure]

/-- The blocks of a store. -/
def foot (b : Nat) (lv : Value) (fs : List FV) : List Nat := b :: (lv.ownBlock.toList ++ fs.filterMap (·.pv.ownBlock))

structure StoreIs (w : World) (b : Nat) (S : St) (lv : Value) (fs : List FV) : Prop where
  head : ∃ ops : Int, w.heap[b]? = some (.cells #[lv, .int .i64 S.room, .int .i64 S.armed, .bool S.off, .int .i64 ops] 64 (0, 0))
  row : w.ownsRow 0 69 3 lv fs.length (fs.flatMap FV.cells)
  files : S.l = fs.map (·.g)
  bytes : ∀ f ∈ fs, w.ownsRow 0 5 1 f.pv f.g.p.length (by8 f.g.p)
  apart : (foot b lv fs).Nodup
  wf : S.WF

/-- A store at block b, whose blocks are F. -/
def StoreAt (w : World) (b : Nat) (S : St) (F : List Nat) : Prop := ∃ lv fs, StoreIs w b S lv fs ∧ F = foot b lv fs

theorem flat_length (fs : List FV) : (fs.flatMap FV.cells).length = fs.length * 3 := by
  induction fs with
  | nil => rfl
  | cons f fs ih => simp [FV.cells, ih]; omega

theorem flat_get (fs : List FV) (i j : Nat) (f : FV) (hi : fs[i]? = some f) (hj : j < 3) : (fs.flatMap FV.cells)[i * 3 + j]? = f.cells[j]? := by
  induction fs generalizing i with
  | nil => simp at hi
  | cons h fs ih =>
    cases i with
    | zero =>
      simp at hi; subst hi
      simp only [List.flatMap_cons, Nat.zero_mul, Nat.zero_add]
      rw [List.getElem?_append_left (by simp [FV.cells]; omega)]
    | succ i =>
      simp at hi
      simp only [List.flatMap_cons]
      rw [List.getElem?_append_right (by simp [FV.cells]; omega)]
      have : (i + 1) * 3 + j - h.cells.length = i * 3 + j := by simp [FV.cells]; omega
      rw [this]
      exact ih i hi

theorem StoreIs.cell {w : World} {b : Nat} {S : St} {lv : Value} {fs : List FV} (h : StoreIs w b S lv fs) :
    ∃ ops : Int, w.heap[b]? = some (.cells #[lv, .int .i64 S.room, .int .i64 S.armed, .bool S.off, .int .i64 ops] 64 (0, 0)) ∧
    w.cell? ⟨b, 0, none⟩ = some lv ∧ w.cell? ⟨b, 1, none⟩ = some (.int .i64 S.room) ∧ w.cell? ⟨b, 2, none⟩ = some (.int .i64 S.armed) ∧ w.cell? ⟨b, 3, none⟩ = some (.bool S.off) ∧ w.cell? ⟨b, 4, none⟩ = some (.int .i64 ops) := by
  obtain ⟨ops, this⟩ := h.head
  refine ⟨ops, this, ?_⟩
  simp [World.cell?, this]

theorem StoreIs.free {w : World} {b : Nat} {S : St} {lv : Value} {fs : List FV} (h : StoreIs w b S lv fs) (j : Nat) : w.frozen? ⟨b, j, none⟩ = false := by
  obtain ⟨ops, this⟩ := h.head
  simp [World.frozen?, this]

theorem StoreIs.lt {w : World} {b : Nat} {S : St} {lv : Value} {fs : List FV} (h : StoreIs w b S lv fs) : ∀ k ∈ foot b lv fs, k < w.heap.size := by
  intro k hk
  simp only [foot, List.mem_cons, List.mem_append, Option.mem_toList, List.mem_filterMap] at hk
  rcases hk with rfl | hk | ⟨f, hf, hk⟩
  · obtain ⟨ops, this⟩ := h.head; exact lt_of_block this
  · exact owns_lt h.row hk
  · exact owns_lt (h.bytes f hf) hk

theorem StoreIs.keep {w w' : World} {b : Nat} {S : St} {lv : Value} {fs : List FV} (h : StoreIs w b S lv fs) {F : Nat → Prop} (ho : Only F w w') (hF : ∀ k ∈ foot b lv fs, ¬ F k) : StoreIs w' b S lv fs where
  head := h.head.imp fun ops this => ho.heap this (hF b (by simp [foot]))
  row := owns_keep h.row ho fun k hk => hF k (by simp [foot, hk])
  files := h.files
  bytes := fun f hf => owns_keep (h.bytes f hf) ho fun k hk => hF k (by
    simp only [foot, List.mem_cons, List.mem_append, List.mem_filterMap]; exact .inr (.inr ⟨f, hf, hk⟩))
  apart := h.apart
  wf := h.wf

theorem StoreAt.keep {w w' : World} {b : Nat} {S : St} {F : List Nat} (h : StoreAt w b S F) {G : Nat → Prop} (ho : Only G w w') (hG : ∀ k ∈ F, ¬ G k) : StoreAt w' b S F := by
  obtain ⟨lv, fs, hs, rfl⟩ := h
  exact ⟨lv, fs, hs.keep ho hG, rfl⟩
theorem StoreAt.ext {w w' : World} {b : Nat} {S : St} {F : List Nat} (h : StoreAt w b S F) (ho : Ext w w') : StoreAt w' b S F := h.keep ho fun _ _ => id
theorem StoreAt.lt {w : World} {b : Nat} {S : St} {F : List Nat} (h : StoreAt w b S F) : ∀ k ∈ F, k < w.heap.size := by
  obtain ⟨lv, fs, hs, rfl⟩ := h
  exact hs.lt
theorem StoreAt.wf {w : World} {b : Nat} {S : St} {F : List Nat} (h : StoreAt w b S F) : S.WF := by
  obtain ⟨lv, fs, hs, rfl⟩ := h
  exact hs.wf

end Go.Proofs.YteddohgdegggnaaGreatDoor
