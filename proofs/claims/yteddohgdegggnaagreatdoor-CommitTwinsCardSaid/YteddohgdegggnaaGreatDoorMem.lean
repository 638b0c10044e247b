/-
  Memory words for this seat's contracts: what a call may have written ('Only'), what a slice value reads as ('Rd'), what is owned stays owned, append onto an owned row from whatever source, with the block's freshness. No program is named here.
-/
import Derived.WalkKit
import Derived.WalkLawsBesides
import Derived.WalkSpells
import Derived.Deep.AppendSrc
import Derived.Deep.Upon
import Derived.Lib.Hide
namespace Go.HR
open Go.RowKit

/-- w' is w, but for the blocks of F, and for new blocks. -/
structure Only (F : Nat → Prop) (w w' : World) : Prop where
  os : w'.os = w.os
  tape : w'.tape = w.tape
  output : w'.output = w.output
  size : w.heap.size ≤ w'.heap.size
  block : ∀ k, k < w.heap.size → ¬ F k → w'.heap[k]? = w.heap[k]?

/-- Nothing that was there has turned. -/
abbrev Ext (w w' : World) : Prop := Only (fun _ => False) w w'

theorem Only.refl (F : Nat → Prop) (w : World) : Only F w w := ⟨rfl, rfl, rfl, Nat.le_refl _, fun _ _ _ => rfl⟩
theorem Only.mono {F G : Nat → Prop} {w w' : World} (h : Only F w w') (hFG : ∀ k, k < w.heap.size → F k → G k) : Only G w w' :=
  ⟨h.os, h.tape, h.output, h.size, fun k hk hn => h.block k hk fun hF => hn (hFG k hk hF)⟩
theorem Only.trans {F G : Nat → Prop} {a b c : World} (h : Only F a b) (h' : Only G b c) (hG : ∀ k, k < a.heap.size → G k → F k) : Only F a c :=
  ⟨h'.os.trans h.os, h'.tape.trans h.tape, h'.output.trans h.output, Nat.le_trans h.size h'.size, fun k hk hn =>
    (h'.block k (Nat.lt_of_lt_of_le hk h.size) fun hg => hn (hG k hk hg)).trans (h.block k hk hn)⟩
theorem Ext.to {F : Nat → Prop} {w w' : World} (h : Ext w w') : Only F w w' := h.mono fun _ _ h => h.elim
theorem Only.thenExt {F : Nat → Prop} {a b c : World} (h : Only F a b) (h' : Ext b c) : Only F a c := h.trans h' fun _ _ h => h.elim
theorem Ext.thenOnly {F : Nat → Prop} {a b c : World} (h : Ext a b) (h' : Only F b c) : Only F a c := h.to.trans h' fun _ _ h => h
theorem Only.drew {F : Nat → Prop} {a w : World} (h : Only F a w) : Only F a w.drew := ⟨h.os, h.tape, h.output, h.size, h.block⟩
theorem Only.drewN {F : Nat → Prop} {a w : World} (h : Only F a w) (n : Nat) : Only F a (w.drewN n) := ⟨h.os, h.tape, h.output, h.size, h.block⟩
theorem Only.ofDrew {F : Nat → Prop} {w w' : World} (h : Only F w.drew w') : Only F w w' := ⟨h.os, h.tape, h.output, h.size, h.block⟩
theorem Only.ofDrewN {F : Nat → Prop} {w w' : World} {n : Nat} (h : Only F (w.drewN n) w') : Only F w w' := ⟨h.os, h.tape, h.output, h.size, h.block⟩
theorem Only.alloc {F : Nat → Prop} {a w : World} (h : Only F a w) (o : Obj) : Only F a (w.alloc o) :=
  h.trans ⟨rfl, rfl, rfl, by simp, fun k hk _ => Below.heap_alloc w o k hk⟩ fun _ _ hf => hf
theorem Only.setCell {F : Nat → Prop} {a w : World} (h : Only F a w) {p : Addr} (u : Value) (hp : p.block < a.heap.size → F p.block) : Only F a (w.setCell p u) :=
  h.trans (G := fun k => k = p.block) ⟨rfl, rfl, rfl, by simp, fun k _ hk => heap_setCell_other w p k u hk⟩ fun k hk e => by subst e; exact hp hk
theorem Only.ofGrown {w w' : World} {row : Option Nat} (h : w.grownBy w' row) : Only (fun k => row = some k) w w' :=
  ⟨h.os, h.tape, h.output, h.size, fun k hk hn => h.block k hk fun e => hn e.symm⟩
theorem Only.toGrown {w w' : World} {row : Option Nat} (h : Only (fun k => row = some k) w w') : w.grownBy w' row :=
  ⟨h.os, h.tape, h.output, h.size, fun k hk hn => h.block k hk fun e => hn e.symm⟩
theorem Only.below {F : Nat → Prop} {w w' : World} (h : Only F w w') {B : Nat} (hB : B ≤ w.heap.size) (hF : ∀ k, F k → B ≤ k) : Below B w w' :=
  ⟨h.os, h.tape, h.output, h.size, fun k hk => h.block k (by omega) fun hf => by have := hF k hf; omega⟩
theorem Only.cell {F : Nat → Prop} {w w' : World} (h : Only F w w') {a : Addr} {v : Value} (hc : w.cell? a = some v) (hn : ¬ F a.block) : w'.cell? a = some v :=
  (World.cell?_of_block (w := w) (h.block a.block (World.block_lt_of_cell? w a hc) hn)).trans hc
theorem Only.heap {F : Nat → Prop} {w w' : World} (h : Only F w w') {k : Nat} {o : Obj} (hk : w.heap[k]? = some o) (hn : ¬ F k) : w'.heap[k]? = some o :=
  (h.block k (lt_of_block hk) hn).trans hk
theorem Ext.cell {w w' : World} (h : Ext w w') {a : Addr} {v : Value} (hc : w.cell? a = some v) : w'.cell? a = some v := Only.cell h hc id
theorem Ext.heap {w w' : World} (h : Ext w w') {k : Nat} {o : Obj} (hk : w.heap[k]? = some o) : w'.heap[k]? = some o := Only.heap h hk id

/-- A slice value of n elements that reads as the cells xs. -/
def Rd (w : World) (v : Value) (n : Nat) (xs : List Value) : Prop :=
  (v = .slice none 0 0 ∧ n = 0 ∧ xs = []) ∨
  ∃ g off cap, v = .slice (some ⟨g, off, none⟩) n cap ∧ n ≤ cap ∧ cap ≤ maxLen ∧ g < w.heap.size ∧ ∀ (j : Nat) (u : Value), xs[j]? = some u → w.cell? ⟨g, off + j, none⟩ = some u

/-- The block in which a slice's elements lie. -/
theorem Rd.nil (w : World) : Rd w (.slice none 0 0) 0 [] := .inl ⟨rfl, rfl, rfl⟩
theorem Rd.keep {F : Nat → Prop} {w w' : World} {v : Value} {n : Nat} {xs : List Value} (h : Rd w v n xs) (ho : Only F w w') (hF : ∀ k, v.ownBlock = some k → ¬ F k) : Rd w' v n xs := by
  rcases h with h | ⟨g, off, cap, rfl, h1, h2, h3, h4⟩
  · exact .inl h
  · exact .inr ⟨g, off, cap, rfl, h1, h2, Nat.lt_of_lt_of_le h3 ho.size, fun j u hu => ho.cell (h4 j u hu) (hF g rfl)⟩
theorem Rd.ext {w w' : World} {v : Value} {n : Nat} {xs : List Value} (h : Rd w v n xs) (ho : Ext w w') : Rd w' v n xs := h.keep ho fun _ _ => id
theorem Rd.lt {w : World} {v : Value} {n : Nat} {xs : List Value} (h : Rd w v n xs) {k : Nat} (hk : v.ownBlock = some k) : k < w.heap.size := by
  rcases h with ⟨rfl, _, _⟩ | ⟨g, off, cap, rfl, h1, h2, h3, h4⟩
  · simp [Value.ownBlock] at hk
  · simp [Value.ownBlock] at hk; omega
theorem Rd.shape {w : World} {v : Value} {n : Nat} {xs : List Value} (h : Rd w v n xs) : ∃ a cap, v = .slice a n cap ∧ n ≤ cap ∧ cap ≤ maxLen := by
  rcases h with ⟨rfl, rfl, _⟩ | ⟨g, off, cap, rfl, h1, h2, h3, h4⟩
  · exact ⟨none, 0, rfl, Nat.le_refl _, by simp [maxLen]⟩
  · exact ⟨_, cap, rfl, h1, h2⟩

theorem rd_of_owns {w : World} {base e size n : Nat} {v : Value} {xs : List Value} (h : w.ownsRow base e size v n xs) : Rd w v n xs := by
  rcases h.2 with ⟨rfl, rfl⟩ | ⟨g, cap, cur, rfl, hb, hg, h1, h2, h3, h4⟩
  · exact .inl ⟨rfl, rfl, List.eq_nil_of_length_eq_zero (by simpa using h.1)⟩
  · refine .inr ⟨g, 0, cap, rfl, h1, h2, lt_of_block hg, fun j u hu => ?_⟩
    have := h.cells (g := g) rfl j u hu
    simpa [Addr.add_lit] using this

/-- What an append may read: the second argument. -/
theorem Rd.src {P : Program} {w : World} {v : Value} {n : Nat} {xs : List Value} (h : Rd w v n xs) {size : Nat} {tx e' : TypeId} (hk : P.underlying tx = some (.slice e'))
    (hl : xs.length = n * size) (h1 : ∀ u ∈ xs, u.oneCell' = true) : Src P size tx v n xs w := by
  rcases h with ⟨rfl, rfl, rfl⟩ | ⟨g, off, cap, rfl, _, _, _, h4⟩
  · exact Src.ofNil w hk 0
  · exact Src.ofSlice w hk _ n cap xs hl (fun j u hu => by rw [Addr.add_lit]; exact h4 j u hu) h1

theorem owns_keep {F : Nat → Prop} {w w' : World} {base e size n : Nat} {v : Value} {xs : List Value} (h : w.ownsRow base e size v n xs) (ho : Only F w w') (hF : ∀ k, v.ownBlock = some k → ¬ F k) : w'.ownsRow base e size v n xs := by
  refine ⟨h.1, ?_⟩
  rcases h.2 with hn | ⟨g, cap, cur, rfl, hb, hgg, rest⟩
  · exact .inl hn
  · exact .inr ⟨g, cap, cur, rfl, hb, ho.heap hgg (hF g rfl), rest⟩
theorem owns_ext {w w' : World} {base e size n : Nat} {v : Value} {xs : List Value} (h : w.ownsRow base e size v n xs) (ho : Ext w w') : w'.ownsRow base e size v n xs := owns_keep h ho fun _ _ => id
theorem owns_lt {w : World} {base e size n : Nat} {v : Value} {xs : List Value} (h : w.ownsRow base e size v n xs) {k : Nat} (hk : v.ownBlock = some k) : k < w.heap.size := (h.lt k hk).2
theorem owns_shape {w : World} {base e size n : Nat} {v : Value} {xs : List Value} (h : w.ownsRow base e size v n xs) : ∃ a cap, v = .slice a n cap ∧ n ≤ cap ∧ cap ≤ maxLen := (rd_of_owns h).shape
theorem owns_zero {w : World} {base e size n : Nat} {v : Value} {xs : List Value} (h : w.ownsRow base e size v n xs) : w.ownsRow 0 e size v n xs := by
  refine ⟨h.1, ?_⟩
  rcases h.2 with hn | ⟨g, cap, cur, rfl, hb, rest⟩
  · exact .inl hn
  · exact .inr ⟨g, cap, cur, rfl, Nat.zero_le _, rest⟩

/-- Where the block of an appended slice is: the old one, or a new one. -/
def Fresh (w : World) (v v' : Value) : Prop := ∀ k, v'.ownBlock = some k → v.ownBlock = some k ∨ w.heap.size ≤ k
theorem Fresh.refl (w : World) (v : Value) : Fresh w v v := fun _ h => .inl h
theorem Fresh.trans {w w' : World} {v v' v'' : Value} (h : Fresh w v v') (h' : Fresh w' v' v'') (hs : w.heap.size ≤ w'.heap.size) : Fresh w v v'' := fun k hk => by
  rcases h' k hk with h1 | h1
  · exact h k h1
  · exact .inr (Nat.le_trans hs h1)

/-- What an appending call leaves: v' owns what v owned and the new cells behind it; only v's block is written. -/
structure Appended (P : Program) (e size : Nat) (v : Value) (n : Nat) (xs : List Value) (w : World) (m : Nat) (news : List Value) (v' : Value) (w' : World) : Prop where
  owns : w'.ownsRow 0 e size v' (n + m) (xs ++ news)
  only : Only (fun k => v.ownBlock = some k) w w'
  fresh : Fresh w v v'

theorem Appended.trans {P : Program} {e size : Nat} {v : Value} {n : Nat} {xs : List Value} {w : World} {m : Nat} {news : List Value} {v' : Value} {w' : World} {m2 : Nat} {news2 : List Value} {v'' : Value} {w'' : World}
    (h : Appended P e size v n xs w m news v' w') (h' : Appended P e size v' (n + m) (xs ++ news) w' m2 news2 v'' w'') : Appended P e size v n xs w (m + m2) (news ++ news2) v'' w'' :=
  ⟨by rw [← Nat.add_assoc, ← List.append_assoc]; exact h'.owns,
   h.only.trans h'.only fun k hk e => (h.fresh k e).resolve_right (by omega),
   h.fresh.trans h'.fresh h.only.size⟩
theorem Appended.ofExt {P : Program} {e size : Nat} {v : Value} {n : Nat} {xs : List Value} {w0 w : World} {m : Nat} {news : List Value} {v' : Value} {w' : World} (h0 : Ext w0 w)
    (h : Appended P e size v n xs w m news v' w') : Appended P e size v n xs w0 m news v' w' :=
  ⟨h.owns, h0.thenOnly h.only, fun k hk => (h.fresh k hk).imp id fun h1 => Nat.le_trans h0.size h1⟩
theorem Appended.thenExt {P : Program} {e size : Nat} {v : Value} {n : Nat} {xs : List Value} {w : World} {m : Nat} {news : List Value} {v' : Value} {w' w'' : World}
    (h : Appended P e size v n xs w m news v' w') (h0 : Ext w' w'') : Appended P e size v n xs w m news v' w'' :=
  ⟨owns_ext h.owns h0, h.only.thenExt h0, h.fresh⟩

section
variable {P : Program} (w : World)
/-- append onto a row that is owned, from whatever source. -/
theorem run_append_any (t tx ty e : TypeId) (i : TypeInfo) (z : Value) (size bytes : Nat) (ht : P.underlying t = some (.slice e)) (hi : P.info? e = some i) (hz : i.zero = some z)
    (hsize : i.size = size) (hby : i.bytes = bytes) (hzs : z.cells.size = size)
    (v : Value) (n : Nat) (xs : List Value) (hown : w.ownsRow 0 e size v n xs) (x : Value) (m : Nat) (news : List Value) (hs : Src P size tx x m news w)
    (h63 : n + m ≤ maxLen) (hbytes : (n + m) * bytes ≤ 140737488355328) :
    ∃ v' w', (Builtin.append_ #[t, tx] ty #[v, x]).run P w = .ok v' w' ∧ Appended P e size v n xs w m news v' w' ∧ (v' = .slice none 0 0 ↔ v = .slice none 0 0 ∧ m = 0) := by
  subst hsize
  subst hby
  have hsmall : n + m ≤ 9223372036854775807 := by simp only [maxLen] at h63; omega
  have hlen : (xs ++ news).length = (n + m) * i.size := by rw [List.length_append, hown.1, hs.newsLen, Nat.add_mul]
  obtain ⟨a0, cap0, hv0, hn0, hc0⟩ := owns_shape hown
  by_cases hroom : n + m ≤ cap0
  · by_cases hm : m = 0
    · subst hm
      have hne : news = [] := List.eq_nil_of_length_eq_zero (by simpa using hs.newsLen)
      subst hne
      subst hv0
      refine ⟨_, w, run_append_nothing w t tx ty e i ht hi a0 n cap0 hn0 x hs, ⟨by simpa using hown, Only.refl _ _, Fresh.refl _ _⟩, by simp⟩
    · rcases hown.2 with ⟨h1, h2⟩ | ⟨g, cap, cur, h1, hbg, hg, hnc, hcm, hcs, htake⟩
      · rw [h1] at hv0; cases hv0; omega
      · rw [h1] at hv0; cases hv0; subst h1
        have hfit : n * i.size + news.length ≤ cur.size := by rw [hs.newsLen, hcs, ← Nat.add_mul]; exact Nat.mul_le_mul_right _ hroom
        have hst := run_storeCells_at P g (n * i.size) e news 0 cur w hg (by simpa using hfit) hs.one
        simp only [Nat.add_zero] at hst
        have hr : (Builtin.append_ #[t, tx] ty #[.slice (some ⟨g, 0, none⟩) n cap0, x]).run P w =
            .ok (.slice (some ⟨g, 0, none⟩) (n + m) cap0) (w.setRow g (cur.toList.take (n * i.size) ++ news ++ cur.toList.drop (n * i.size + news.length)).toArray) := by
          rcases hs.kind with ⟨e', hk⟩ | hk <;> simp [Builtin.append_, run_underlying ht, run_underlying hk, sizeOf, typeInfo, hi, hs.len, hroom, hs.cells, Addr.add_lit, hst]
        refine ⟨_, _, hr, ⟨⟨hlen, .inr ⟨g, cap0, _, rfl, Nat.zero_le _, setRow_heap w g cur _ e _ hg, hroom, hcm, ?_, ?_⟩⟩, ⟨rfl, rfl, rfl, by simp, fun k _ hk => setRow_other w g k _ (fun e => hk (by simp [Value.ownBlock, e]))⟩, Fresh.refl _ _⟩, by simp⟩
        · simp only [List.size_toArray, List.length_append, List.length_take, List.length_drop, Array.length_toList]
          omega
        · rw [htake, ← hlen]
          exact List.take_left
  · have hold : (Builtin.firstCells i.size n (.slice a0 n cap0)).run P w.drew = .ok xs.toArray w.drew := by
      rcases hown.2 with ⟨h1, h2⟩ | ⟨g, cap, cur, h1, hbg, hg, hnc, hcm, hcs, htake⟩
      · rw [h1] at hv0; cases hv0
        have : xs = [] := List.eq_nil_of_length_eq_zero (by simpa [h2] using hown.1)
        subst this
        exact run_firstCells_none w.drew i.size 0 0 0
      · have hcells := hown.cells (g := g) (by rw [h1]; rfl)
        rw [h1] at hv0; cases hv0
        exact run_firstCells_some w.drew i.size n _ n cap0 xs hown.1 (by simpa using hcells)
    have hr := run_append_grow_src (P := P) w t tx ty e i z ht hi hz a0 n cap0 xs hold x m news hs (by omega) (by omega) (growslice_fits (by omega) hbytes)
    have hge := grownCap_ge w (n + m) cap0 e
    have hcm : grownCap w (n + m) cap0 e ≤ maxLen := grownCap_le_maxLen w (n + m) cap0 e h63
    subst hv0
    refine ⟨_, _, hr, ⟨⟨hlen, .inr ⟨w.heap.size, _, _, rfl, Nat.zero_le _, heap_alloc_new w.drew _, hge, hcm, ?_, ?_⟩⟩, ⟨rfl, rfl, rfl, by simp, fun k hk _ => Below.heap_alloc w.drew _ k hk⟩, fun k hk => ?_⟩, ?_⟩
    · simp only [Array.size_append, List.size_toArray, size_zeroCells, hzs]
      rw [hlen, ← Nat.add_mul]
      congr 1
      omega
    · simp only [Array.toList_append]
      rw [← hlen]
      exact List.take_left
    · simp [Value.ownBlock] at hk
      exact .inr (by omega)
    · constructor
      · intro h; cases h
      · rintro ⟨h1, h2⟩
        cases h1
        omega

theorem wp_append_any {o : Oper} {a : Act} {K : Act → World → Prop} {Q : Exit → Act → World → Prop} (s x : Operand) (t tx : TypeId)
    (ho : o.op = .call { callee := .builtin .append, args := #[s, x], argTypes := #[t, tx] })
    (e : TypeId) (i : TypeInfo) (z : Value) (size bytes : Nat) (ht : P.underlying t = some (.slice e)) (hi : P.info? e = some i) (hz : i.zero = some z)
    (hsize : i.size = size) (hby : i.bytes = bytes) (hzs : z.cells.size = size)
    (v : Value) (n : Nat) (xs : List Value) (hsv : a.eval s = v) (hown : w.ownsRow 0 e size v n xs) (xv : Value) (hx : a.eval x = xv) (m : Nat) (news : List Value) (hs : Src P size tx xv m news w)
    (h63 : n + m ≤ maxLen) (hbytes : (n + m) * bytes ≤ 140737488355328)
    (h : ∀ v' w', Appended P e size v n xs w m news v' w' → (v' = .slice none 0 0 ↔ v = .slice none 0 0 ∧ m = 0) → K (a.put o.dst v') w') : o.wp P a w K Q := by
  obtain ⟨v', w', hr, h2, h3⟩ := run_append_any (P := P) w t tx o.type e i z size bytes ht hi hz hsize hby hzs v n xs hown xv m news hs h63 hbytes
  unfold Oper.wp execOp
  simp only [ho, resolve, invoke, builtin, Sem.run_bind, Sem.run_pure, Result.andThen_ok, List.map_toArray, List.map_cons, List.map_nil, hsv, hx, hr]
  exact h v' w' h2 h3

theorem wpList_append_any {ops : Array Oper} {rest : List Oper} {o : Oper} {a : Act} {Q : Exit → Act → World → Prop} (hgd : o.guard = none) (s x : Operand) (t tx : TypeId)
    (ho : o.op = .call { callee := .builtin .append, args := #[s, x], argTypes := #[t, tx] })
    (e : TypeId) (i : TypeInfo) (z : Value) (size bytes : Nat) (ht : P.underlying t = some (.slice e)) (hi : P.info? e = some i) (hz : i.zero = some z)
    (hsize : i.size = size) (hby : i.bytes = bytes) (hzs : z.cells.size = size)
    (v : Value) (n : Nat) (xs : List Value) (hsv : a.eval s = v) (hown : w.ownsRow 0 e size v n xs) (xv : Value) (hx : a.eval x = xv) (m : Nat) (news : List Value) (hs : Src P size tx xv m news w)
    (h63 : n + m ≤ maxLen) (hbytes : (n + m) * bytes ≤ 140737488355328)
    (h : ∀ v' w', Appended P e size v n xs w m news v' w' → (v' = .slice none 0 0 ↔ v = .slice none 0 0 ∧ m = 0) → wpList P ops Q rest (a.put o.dst v') w') : wpList P ops Q (o :: rest) a w :=
  wpList_plain hgd fun _ hK => wp_append_any w s x t tx ho e i z size bytes ht hi hz hsize hby hzs v n xs hsv hown xv hx m news hs h63 hbytes fun v' w' h2 h3 => hK _ _ (h v' w' h2 h3)

theorem step_append_any {ops : Array Oper} {o : Oper} {a : Act} {K : Act → World → Prop} {Q : Exit → Act → World → Prop} {E : Prop} (hgd : o.guard = none) (s x : Operand) (t tx : TypeId)
    (ho : o.op = .call { callee := .builtin .append, args := #[s, x], argTypes := #[t, tx] })
    (e : TypeId) (i : TypeInfo) (z : Value) (size bytes : Nat) (ht : P.underlying t = some (.slice e)) (hi : P.info? e = some i) (hz : i.zero = some z)
    (hsize : i.size = size) (hby : i.bytes = bytes) (hzs : z.cells.size = size)
    (v : Value) (n : Nat) (xs : List Value) (hsv : a.eval s = v) (hown : w.ownsRow 0 e size v n xs) (xv : Value) (hx : a.eval x = xv) (m : Nat) (news : List Value) (hs : Src P size tx xv m news w)
    (h63 : n + m ≤ maxLen) (hbytes : (n + m) * bytes ≤ 140737488355328)
    (h : ∀ v' w', Appended P e size v n xs w m news v' w' → (v' = .slice none 0 0 ↔ v = .slice none 0 0 ∧ m = 0) → K (a.put o.dst v') w') :
    if Region.wanted o (yielded ops a.tmps) = true then Oper.wp P o a w K Q else E := by
  rw [if_pos (by simp [Region.wanted, hgd])]
  exact wp_append_any w s x t tx ho e i z size bytes ht hi hz hsize hby hzs v n xs hsv hown xv hx m news hs h63 hbytes h
end

/-- Bytes as cells. -/
def by8 (l : List UInt8) : List Value := l.map fun b => Value.int .u8 b.toNat
theorem by8_length (l : List UInt8) : (by8 l).length = l.length := by simp [by8]
theorem by8_append (l m : List UInt8) : by8 (l ++ m) = by8 l ++ by8 m := by simp [by8]
theorem by8_one (l : List UInt8) : ∀ u ∈ by8 l, u.oneCell' = true := by
  intro u hu
  obtain ⟨_, _, rfl⟩ := List.mem_map.1 hu
  rfl
theorem by8_get {l : List UInt8} {j : Nat} (h : j < l.length) : (by8 l)[j]? = some (.int .u8 l[j].toNat) := by
  simp [by8, h]

end Go.HR
