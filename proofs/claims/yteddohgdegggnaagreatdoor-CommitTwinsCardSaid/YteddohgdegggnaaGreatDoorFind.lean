/- What is shown here, as far as 'find_is': contracts of the program's functions, and the plain laws that they lean on; conditions: each theorem's own hypotheses. -/
import Derived.Test.YteddohgdegggnaaGreatDoorStore
import Derived.Deep.LoopGhost
import Derived.BigQuiet
import Derived.Deep.QuietTactic
namespace Go.Proofs.YteddohgdegggnaaGreatDoor
open Go.RowKit Go.HR
open Go.Proofs

/-- How two names compare. -/
def cmpN (a b : List UInt8) : Int := if a < b then -1 else if b < a then 1 else 0

theorem cmpN_cases (a t : List UInt8) : (cmpN a t = -1 ∧ a < t) ∨ (cmpN a t = 1 ∧ t < a) ∨ (cmpN a t = 0 ∧ a = t) := by
  unfold cmpN
  by_cases h1 : a < t
  · exact .inl ⟨if_pos h1, h1⟩
  · rw [if_neg h1]
    by_cases h2 : t < a
    · exact .inr (.inl ⟨if_pos h2, h2⟩)
    · exact .inr (.inr ⟨if_neg h2, lt_tri h1 h2⟩)

theorem ret_int {k : IntKind} {a b : Int} (h : a = b) : Ending.returned (.int k a) = .returned (.int k b) := by rw [h]

set_option maxHeartbeats 400000 in
theorem find1_any (nm tg : ByteArray) (pv : Value) (su : Value) (w : World) :
    Calls Tryz.prog 52 #[.agg #[.string nm, pv, su], .string tg] w fun e w' => e = .returned (.int .i64 (cmpN nm.toList tg.toList)) ∧ Ext w w' := by
  go_enter Tryz.func52, Tryz.ntmps52
  go_wp2
  · have h : Op.bytesLess nm.toList tg.toList = true := by assumption
    rw [bytesLess_lt] at h
    have h1 : nm.toList < tg.toList := by simpa using h
    go_ret
    exact ⟨ret_int (by simp [cmpN, h1]), (Only.refl _ _).alloc _⟩
  · have h : Op.bytesLess nm.toList tg.toList = false := by assumption
    have h' : (!nm.toList == tg.toList) = true := by assumption
    rw [bytesLess_lt] at h
    have h1 : ¬ nm.toList < tg.toList := by simpa using h
    have h2 : nm.toList ≠ tg.toList := by simpa using h'
    have h3 : tg.toList < nm.toList := Classical.byContradiction fun h4 => h2 (lt_tri h1 h4)
    go_ret
    exact ⟨ret_int (by simp [cmpN, h1, h3]), (Only.refl _ _).alloc _⟩
  · have h' : (!nm.toList == tg.toList) = false := by assumption
    have h2 : nm.toList = tg.toList := by simpa using h'
    go_ret
    exact ⟨ret_int (by simp [cmpN, h2, lt_irrefl']), (Only.refl _ _).alloc _⟩

/-- The cells of a row of files. -/
def RowAt (w : World) (g : Nat) (fs : List FV) : Prop := ∀ (i : Nat) (f : FV), fs[i]? = some f →
  w.cell? ⟨g, i * 3, none⟩ = some (.string ⟨f.g.name.toArray⟩) ∧ w.cell? ⟨g, i * 3 + 1, none⟩ = some f.pv ∧ w.cell? ⟨g, i * 3 + 2, none⟩ = some (.int .i64 f.g.sure)

theorem RowAt.ext {w w' : World} {g : Nat} {fs : List FV} (h : RowAt w g fs) (ho : Ext w w') : RowAt w' g fs := fun i f hf =>
  ⟨ho.cell (h i f hf).1, ho.cell (h i f hf).2.1, ho.cell (h i f hf).2.2⟩

set_option maxHeartbeats 1000000 in
theorem bsearch_some (g cap : Nat) (fs : List FV) (tg : ByteArray) (w : World) (hrow : RowAt w g fs) (hs : Sorted (fs.map (·.g))) (hn : fs.length ≤ 500) :
    Calls Tryz.prog 51 #[.slice (some ⟨g, 0, none⟩) fs.length cap, .string tg, .func (.func 52) #[] #[]] w
      fun e w' => e = .returned (.tuple #[.int .i64 (pos (fs.map (·.g)) tg.toList), .bool (has (fs.map (·.g)) tg.toList)]) ∧ Ext w w' := by
  go_enter Tryz.func51, Tryz.ntmps51
  have HS : Hid (Sorted (fs.map (·.g))) := hs
  clear hs
  have HR : Hid (RowAt w g fs) := hrow
  clear hrow
  go_wp2_with fail
  go_loopw [9, 10] (fun i j wr => ∃ a c : Nat, i = .int .i64 a ∧ j = .int .i64 c ∧ a ≤ c ∧ c ≤ fs.length ∧ Ext w wr ∧
      Hid ((∀ (k : Nat) (f : FileG), k < a → (fs.map (·.g))[k]? = some f → f.name < tg.toList) ∧ (∀ (k : Nat) (f : FileG), c ≤ k → (fs.map (·.g))[k]? = some f → ¬ f.name < tg.toList)))
    (fun i j _ => (intOf j - intOf i).toNat)
  case atStart => exact ⟨0, fs.length, rfl, rfl, Nat.zero_le _, Nat.le_refl _, Only.refl _ _, fun k f hk => by omega, fun k f hk hf => by
    have := (List.getElem?_eq_some_iff.1 hf).1; simp at this; omega⟩
  case round =>
    obtain ⟨a, c, rfl, rfl, hac, hc, hx, hinv⟩ := hrel
    by_cases hlt : a < c
    · have hmid : (a + c) / 2 < fs.length := by omega
      obtain ⟨f, hf⟩ : ∃ f, fs[(a + c) / 2]? = some f := ⟨_, List.getElem?_eq_getElem hmid⟩
      obtain ⟨h0, h1, h2⟩ := HR.out.ext hx _ f hf
      have hfg : (fs.map (·.g))[(a + c) / 2]? = some f.g := by simp [hf]
      have HF : Hid (fs[(a + c) / 2]? = some f) := hf
      have HG : Hid ((fs.map (·.g))[(a + c) / 2]? = some f.g) := hfg
      clear hf hfg
      obtain ⟨q, hq⟩ : ∃ q, q = cmpN f.g.name tg.toList := ⟨_, rfl⟩
      have HQ : Hid (q = cmpN f.g.name tg.toList) := hq
      clear hq
      go_wp2_with (go_at_call 52; refine (find1_any _ _ _ _ _).mono ?_; rintro e w1 ⟨he, hx1⟩; rw [ByteArray.toList_mk, ← HQ.out] at he; subst he)
      · have hlt0 : q < 0 := by assumption
        have hname : f.g.name < tg.toList := by
          rcases cmpN_cases f.g.name tg.toList with ⟨_, h⟩ | ⟨h, _⟩ | ⟨h, _⟩
          · exact h
          · rw [← HQ.out] at h; omega
          · rw [← HQ.out] at h; omega
        go_roundw
        case rel => exact ⟨(a + c) / 2 + 1, c, by go_num, rfl, by omega, hc, hx.thenExt hx1, below_up HS.out HG.out hname, hinv.2⟩
        case measure => simp [intOf]; omega
      · have hge0 : ¬ q < 0 := by omega
        have hname : ¬ f.g.name < tg.toList := by
          rcases cmpN_cases f.g.name tg.toList with ⟨h, _⟩ | ⟨_, h⟩ | ⟨_, h⟩
          · rw [← HQ.out] at h; omega
          · exact lt_asymm' h
          · rw [h]; exact lt_irrefl' _
        go_roundw
        case rel => exact ⟨a, (a + c) / 2, rfl, by go_num, by omega, by omega, hx.thenExt hx1, hinv.1, above_down HS.out HG.out hname⟩
        case measure => simp [intOf]; omega
    · obtain rfl : a = c := by omega
      have hpos : a = pos (fs.map (·.g)) tg.toList := pos_eq HS.out (by simpa using hc) hinv.1 hinv.2
      have HP : Hid (a = pos (fs.map (·.g)) tg.toList) := hpos
      clear hpos hinv
      by_cases hn2 : a < fs.length
      · obtain ⟨f, hf⟩ : ∃ f, fs[a]? = some f := ⟨_, List.getElem?_eq_getElem hn2⟩
        obtain ⟨h0, h1, h2⟩ := HR.out.ext hx _ f hf
        have hfg : (fs.map (·.g))[a]? = some f.g := by simp [hf]
        have hh : has (fs.map (·.g)) tg.toList = (cmpN f.g.name tg.toList == 0) := by
          rw [Bool.eq_iff_iff, has_pos HS.out, ← HP.out, hfg]
          rcases cmpN_cases f.g.name tg.toList with ⟨h, h'⟩ | ⟨h, h'⟩ | ⟨h, h'⟩
          · simp [h]; intro e; rw [e] at h'; exact lt_irrefl' _ h'
          · simp [h]; intro e; rw [e] at h'; exact lt_irrefl' _ h'
          · rw [h]; simp [h']
        have HH : Hid (has (fs.map (·.g)) tg.toList = (cmpN f.g.name tg.toList == 0)) := hh
        clear hf hfg hh
        obtain ⟨q, hq⟩ : ∃ q, q = cmpN f.g.name tg.toList := ⟨_, rfl⟩
        have HQ : Hid (q = cmpN f.g.name tg.toList) := hq
        clear hq
        go_wp2_with (go_at_call 52; refine (find1_any _ _ _ _ _).mono ?_; rintro e w1 ⟨he, hx1⟩; rw [ByteArray.toList_mk, ← HQ.out] at he; subst he)
        go_ret2
        refine ⟨?_, hx.thenExt hx1⟩
        rw [HH.out, ← HQ.out, ← HP.out]; rfl
      · have hh : has (fs.map (·.g)) tg.toList = false := by
          rw [Bool.eq_false_iff, Ne, has_pos HS.out, ← HP.out]
          rintro ⟨f, hf, _⟩
          have := (List.getElem?_eq_some_iff.1 hf).1
          simp at this
          omega
        have HH : Hid (has (fs.map (·.g)) tg.toList = false) := hh
        clear hh
        go_wp2
        go_ret2
        refine ⟨?_, hx⟩
        rw [HH.out, ← HP.out]; rfl

set_option maxHeartbeats 400000 in
theorem bsearch_none (tg : ByteArray) (w : World) :
    Calls Tryz.prog 51 #[.slice none 0 0, .string tg, .func (.func 52) #[] #[]] w
      fun e w' => e = .returned (.tuple #[.int .i64 ((0 : Nat) : Int), .bool false]) ∧ Ext w w' := by
  go_enter Tryz.func51, Tryz.ntmps51
  go_wp2_with fail
  go_loop [9, 10] (fun i j => i = .int .i64 0 ∧ j = .int .i64 0) (fun _ _ => 0)
  case atStart => exact ⟨rfl, rfl⟩
  case round =>
    obtain ⟨rfl, rfl⟩ := hrel
    go_wp2
    go_ret2
    exact ⟨rfl, Only.refl _ _⟩

theorem StoreIs.rowAt {w : World} {b : Nat} {S : St} {lv : Value} {fs : List FV} (h : StoreIs w b S lv fs) {g n cap : Nat} (hlv : lv = .slice (some ⟨g, 0, none⟩) n cap) : RowAt w g fs := by
  intro i f hf
  subst hlv
  have hc := h.row.cells (g := g) rfl
  have h0 := hc (i * 3 + 0) _ (by rw [flat_get fs i 0 f hf (by omega)]; rfl)
  have h1 := hc (i * 3 + 1) _ (by rw [flat_get fs i 1 f hf (by omega)]; rfl)
  have h2 := hc (i * 3 + 2) _ (by rw [flat_get fs i 2 f hf (by omega)]; rfl)
  rw [Addr.add_lit] at h0 h1 h2
  simp only [Nat.zero_add, Nat.add_zero] at h0 h1 h2
  exact ⟨h0, h1, h2⟩

theorem StoreIs.sorted {w : World} {b : Nat} {S : St} {lv : Value} {fs : List FV} (h : StoreIs w b S lv fs) : Sorted (fs.map (·.g)) := h.files ▸ h.wf.sorted
theorem StoreIs.count {w : World} {b : Nat} {S : St} {lv : Value} {fs : List FV} (h : StoreIs w b S lv fs) : fs.length ≤ 500 := by
  have := h.wf.count
  rw [h.files] at this
  simpa using this

/-- The list's slice value: none, or a row's head. -/
theorem StoreIs.lv {w : World} {b : Nat} {S : St} {lv : Value} {fs : List FV} (h : StoreIs w b S lv fs) :
    (lv = .slice none 0 0 ∧ fs = []) ∨ ∃ g cap, lv = .slice (some ⟨g, 0, none⟩) fs.length cap ∧ fs.length ≤ cap ∧ cap ≤ maxLen := by
  rcases h.row.2 with ⟨h1, h2⟩ | ⟨g, cap, cur, h1, _, _, h2, h3, _⟩
  · exact .inl ⟨h1, List.eq_nil_of_length_eq_zero h2⟩
  · exact .inr ⟨g, cap, h1, h2, h3⟩

set_option maxHeartbeats 400000 in
theorem find_is {b : Nat} {S : St} {lv : Value} {fs : List FV} (tg : ByteArray) (w : World) (h : StoreIs w b S lv fs) :
    Calls Tryz.prog 29 #[.pointer (some ⟨b, 0, none⟩), .string tg] w
      fun e w' => e = .returned (.tuple #[.int .i64 (pos (fs.map (·.g)) tg.toList), .bool (has (fs.map (·.g)) tg.toList)]) ∧ Ext w w' := by
  obtain ⟨ops, _, c0, c1, c2, c3, c4⟩ := h.cell
  rcases h.lv with ⟨rfl, rfl⟩ | ⟨g, cap, rfl, hcap, _⟩
  · have hp : pos (List.map (·.g) ([] : List FV)) tg.toList = 0 := rfl
    have hh : has (List.map (·.g) ([] : List FV)) tg.toList = false := rfl
    rw [hp, hh]
    clear hp hh
    go_enter Tryz.func29, Tryz.ntmps29
    go_wp2_with (go_at_call 51; refine (bsearch_none tg _).mono ?_; rintro e w1 ⟨rfl, hx1⟩)
    go_ret2
    exact ⟨rfl, hx1⟩
  · go_enter Tryz.func29, Tryz.ntmps29
    go_wp2_with (go_at_call 51; refine (bsearch_some g cap fs tg _ (h.rowAt rfl) h.sorted h.count).mono ?_; rintro e w1 ⟨rfl, hx1⟩)
    go_ret2
    exact ⟨rfl, hx1⟩

end Go.Proofs.YteddohgdegggnaaGreatDoor
