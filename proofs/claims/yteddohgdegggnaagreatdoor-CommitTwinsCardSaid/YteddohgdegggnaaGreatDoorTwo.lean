/- Two stores to which the same is done; what an act's cells are; conditions: each theorem's own hypotheses. -/
import Derived.Test.YteddohgdegggnaaGreatDoorFine
import Derived.Test.YteddohgdegggnaaGreatDoorMiss
import Derived.ProofKit
import Derived.OpenShut
namespace Go.HR
/-- An act. -/
structure ActG where
  kind : UInt8
  state : List UInt8
  l : List ChgG
  n : UInt8
  keep : List Int
/-- An act, and its slice values. -/
structure ActV where
  g : ActG
  sv : Value
  lv : Value
  kv : Value
def ActV.cells (a : ActV) : List Value := [.int .u8 a.g.kind.toNat, a.sv, a.lv, .int .u8 a.g.n.toNat, a.kv]
theorem acts_get (l : List ActV) (i j : Nat) (x : ActV) (hi : l[i]? = some x) (hj : j < 5) : (l.flatMap ActV.cells)[i * 5 + j]? = x.cells[j]? := by
  induction l generalizing i with
  | nil => simp at hi
  | cons h l ih =>
    have hlen : h.cells.length = 5 := rfl
    cases i with
    | zero =>
      simp at hi; subst hi
      simp only [List.flatMap_cons, Nat.zero_mul, Nat.zero_add]
      rw [List.getElem?_append_left (by omega)]
    | succ i =>
      simp at hi
      simp only [List.flatMap_cons]
      rw [List.getElem?_append_right (by omega)]
      have : (i + 1) * 5 + j - h.cells.length = i * 5 + j := by omega
      rw [this]
      exact ih i hi
def lsOf (acts : List ActV) (j : Nat) : List (List ChgG) := (acts.take j).map fun a => fineL a.g.l
theorem lsOf_succ {acts : List ActV} {j : Nat} {a : ActV} (h : acts[j]? = some a) : lsOf acts (j + 1) = lsOf acts j ++ [fineL a.g.l] := by
  obtain ⟨hlt, he⟩ := List.getElem?_eq_some_iff.1 h
  unfold lsOf
  rw [List.take_succ_eq_append_getElem hlt, List.map_append, he]
  rfl
theorem lsOf_len {acts : List ActV} {j : Nat} (h : j ≤ acts.length) : (lsOf acts j).length = j := by
  unfold lsOf; rw [List.length_map, List.length_take]; omega

/-- All of what is committed is durable. -/
theorem Good.sure {S : St} {os : List (List UInt8)} {st : List UInt8} {u c : Nat} (h : Good S os st u c) (h0 : 0 < os.length) : ∀ f ∈ S.l, f.sure = f.p.length := by
  intro f hf
  obtain ⟨m, h1, h2, h3⟩ := good_name h hf
  have hg := (get_iff h.inv.sorted).2 ⟨hf, h2⟩
  cases m with
  | man =>
    have := h.inv.man
    rw [hg] at this
    split at this
    · cases this
    · cases this; rfl
  | tmp => simp [Nm.junk] at h3
  | out i =>
    simp [Nm.junk] at h3
    have := h.inv.outs (i - 1) os[i - 1] (List.getElem?_eq_getElem (by omega))
    rw [show i - 1 + 1 = i by omega, hg] at this
    cases this; rfl
  | state i =>
    simp only [Nm.junk, bne_eq_false_iff_eq] at h3
    subst h3
    have := h.inv.state h0
    rw [hg] at this
    cases this; rfl
theorem cut_sure {f : FileG} (h : f.sure = f.p.length) (k : Int) : f.cut k = f := by
  have ht : f.trim k = f := by
    unfold FileG.trim
    rw [if_neg (by omega)]
  unfold FileG.cut FileG.sync
  rw [ht, ← h]
theorem restart_same {S : St} (ho : S.off = false) (ha : S.armed = 0) (h : ∀ f ∈ S.l, f.sure = f.p.length) (keep : List Int) : S.restart keep = S := by
  have hl : cutTo keep S.l S.l.length = S.l := by
    apply List.ext_getElem?
    intro i
    rw [cutTo_get]
    cases hi : S.l[i]? with
    | none => rfl
    | some f =>
      simp only [Option.map_some]
      split
      · rw [cut_sure (h f (List.mem_of_getElem? hi))]
      · rfl
  unfold St.restart
  rw [hl]
  cases S
  simp_all
end Go.HR
namespace Go.Proofs.YteddohgdegggnaaGreatDoor
open Go.RowKit Go.HR
open Go.Proofs

/-- What an act's slices read as. -/
structure ActIn (w : World) (a : ActV) : Prop where
  state : Arg w [] a.sv a.g.state.length (by8 a.g.state)
  l : Arg w [] a.lv a.g.l.length (a.g.l.flatMap ChgG.cells)
  keep : Arg w [] a.kv a.g.keep.length (ints a.g.keep)
  wf : ∀ c ∈ a.g.l, c.WF
theorem _root_.Go.HR.Arg.up {w wr : World} {F : List Nat} {v : Value} {n : Nat} {xs : List Value} (h : Arg w [] v n xs) (hx : Ext w wr) (hF : ∀ q ∈ F, w.heap.size ≤ q) : Arg wr F v n xs := by
  rcases h with ⟨h, _⟩ | h
  · exact .inl ⟨h.ext hx, fun k hk hm => by have := h.lt hk; have := hF k hm; omega⟩
  · exact .inr h

/-- Two stores that are alike. -/
structure Two (w0 wr : World) (b c : Nat) (F G : List Nat) (S : St) (ls : List (List ChgG)) (st : List UInt8) (u n : Nat) : Prop where
  s : Sys wr b F S ls st u n
  t : Sys wr c G S ls st u n
  dis : ∀ q ∈ F, q ∉ G
  hF : ∀ q ∈ F, w0.heap.size ≤ q
  hG : ∀ q ∈ G, w0.heap.size ≤ q
  ext : Ext w0 wr

theorem Two.keep {w0 wr w' : World} {b c : Nat} {F G : List Nat} {S : St} {ls : List (List ChgG)} {st : List UInt8} {u n : Nat} (h : Two w0 wr b c F G S ls st u n) (hx : Ext wr w') : Two w0 w' b c F G S ls st u n :=
  ⟨h.s.ext hx, h.t.ext hx, h.dis, h.hF, h.hG, h.ext.thenExt hx⟩
theorem Sys.apart {w w' : World} {c : Nat} {F G : List Nat} {S : St} {ls : List (List ChgG)} {st : List UInt8} {u n : Nat} (h : Sys w c G S ls st u n) (ho : Only (fun k => k ∈ F) w w') (hd : ∀ q ∈ F, q ∉ G) (h8 : ∀ q ∈ F, 8 ≤ q) : Sys w' c G S ls st u n :=
  h.keep ho (fun q hq hm => hd q hm hq) fun k hk hm => by have := h8 k hm; omega
theorem fresh_apart {w : World} {F F' G : List Nat} (hF : ∀ k ∈ F', k ∈ F ∨ w.heap.size ≤ k) (hd : ∀ q ∈ F, q ∉ G) (hG : ∀ q ∈ G, q < w.heap.size) : ∀ q ∈ F', q ∉ G := fun q hq hm => by
  rcases hF q hq with h | h
  · exact hd q h hm
  · have := hG q hm; omega

end Go.Proofs.YteddohgdegggnaaGreatDoor
namespace Go.HR
open Go.RowKit

theorem list_of {β : Type} (n : Nat) (P : Nat → β → Prop) (h : ∀ i, i < n → ∃ b, P i b) : ∃ l : List β, l.length = n ∧ ∀ i b, l[i]? = some b → P i b := by
  induction n with
  | zero => exact ⟨[], rfl, fun i b hb => by simp at hb⟩
  | succ n ih =>
    obtain ⟨l, hl, hP⟩ := ih fun i hi => h i (by omega)
    obtain ⟨b, hb⟩ := h n (by omega)
    refine ⟨l ++ [b], by simp [hl], fun i c hc => ?_⟩
    by_cases hi : i < l.length
    · rw [List.getElem?_append_left hi] at hc
      exact hP i c hc
    · rw [List.getElem?_append_right (by omega)] at hc
      by_cases h0 : i - l.length = 0
      · rw [h0] at hc
        simp at hc
        subst hc
        have : i = n := by omega
        rw [this]; exact hb
      · rw [List.getElem?_eq_none (by simp; omega)] at hc
        cases hc
theorem flat_at {β : Type} {cells : β → List Value} {size : Nat} (hsz : 0 < size) (hlen : ∀ b, (cells b).length = size) (l : List β) (j : Nat) (u : Value) (h : (l.flatMap cells)[j]? = some u) : ∃ b, l[j / size]? = some b ∧ (cells b)[j % size]? = some u := by
  induction l generalizing j with
  | nil => simp at h
  | cons b l ih =>
    simp only [List.flatMap_cons] at h
    by_cases hj : j < size
    · rw [List.getElem?_append_left (by rw [hlen]; exact hj)] at h
      refine ⟨b, ?_, ?_⟩
      · rw [Nat.div_eq_of_lt hj]; rfl
      · rw [Nat.mod_eq_of_lt hj]; exact h
    · rw [List.getElem?_append_right (by rw [hlen]; omega), hlen] at h
      obtain ⟨c, h1, h2⟩ := ih (j - size) h
      refine ⟨c, ?_, ?_⟩
      · rw [Nat.div_eq_sub_div hsz (by omega)]; exact h1
      · rw [Nat.mod_eq_sub_mod (by omega)]; exact h2
theorem spot_none {w : World} {b o : Nat} {sp : Option Nat} {v : Value} (h : w.cell? ⟨b, o, sp⟩ = some v) : sp = none := by
  cases sp with
  | none => rfl
  | some x =>
    unfold World.cell? at h
    split at h <;> simp at h

section
variable {H : Type} {enc : TypeId × Value → H} {P : Program} {w : World} {sp : Nat → Bool}

/-- A slice, element by element. -/
theorem slice_open {β : Type} {t e : TypeId} {size fuel : Nat} {v : Value} {x : DataW H × List MemPlace} (ht : P.underlying t = some (.slice e)) (hce : P.cellsOf e = size) (hsz : 0 < size) (cells : β → List Value) (hlen : ∀ b, (cells b).length = size) (good : β → Prop)
    (dec : ∀ fuel cs x, cs.length = size → DataW.trod enc P w 0 sp true fuel e cs = some x → ∃ b, cs = cells b ∧ good b) (h : DataW.trod enc P w 0 sp true fuel t [v] = some x) :
    ∃ l : List β, Arg w [] v l.length (l.flatMap cells) ∧ ∀ b ∈ l, good b := by
  rcases DataW.trod_slice ht h with ⟨hv, _⟩ | ⟨a, len, cap, elems, rest, n, _, hv, _, _, hlc, hcap, hel, helem, _, _⟩
  · simp at hv
    subst hv
    exact ⟨[], Arg.of (Rd.nil w) fun k hk => by simp [Value.ownBlock] at hk, fun b hb => (List.not_mem_nil hb).elim⟩
  · simp at hv
    subst hv
    have key : ∀ i, i < len → ∃ b : β, (∀ r, r < size → w.cell? ((a.add (i * size)).add r) = (cells b)[r]?) ∧ good b := by
      intro i hi
      have h1 := helem i hi
      rw [hce] at h1
      obtain ⟨y, hy⟩ : ∃ y, elems[i]? = some y := ⟨_, List.getElem?_eq_getElem (by omega)⟩
      rw [hy] at h1
      obtain ⟨cs, hcs, htr⟩ := Option.bind_eq_some_iff.1 h1
      obtain ⟨_, hl, hc⟩ := World.cells?_some hcs
      obtain ⟨b, rfl, hg⟩ := dec n cs y hl htr
      exact ⟨b, hc, hg⟩
    obtain ⟨l, hl, hP⟩ := list_of len _ key
    refine ⟨l, ?_, fun b hb => ?_⟩
    · by_cases h0 : len = 0
      · subst h0
        obtain rfl : l = [] := List.eq_nil_of_length_eq_zero hl
        exact .inr ⟨a, cap, rfl, hcap, rfl, rfl⟩
      · obtain ⟨g, off, spot⟩ := a
        obtain ⟨b0, hb0⟩ : ∃ b, l[0]? = some b := ⟨_, List.getElem?_eq_getElem (by omega)⟩
        obtain ⟨u0, hu0⟩ : ∃ u, (cells b0)[0]? = some u := ⟨_, List.getElem?_eq_getElem (by rw [hlen]; exact hsz)⟩
        have hc0 := (hP 0 b0 hb0).1 0 hsz
        rw [hu0] at hc0
        have hadd : ((⟨g, off, spot⟩ : Addr).add (0 * size)).add 0 = ⟨g, off, spot⟩ := by simp [Addr.add]
        rw [hadd] at hc0
        obtain rfl := spot_none hc0
        refine .inl ⟨.inr ⟨g, off, cap, by rw [hl], by rw [hl]; exact hlc, hcap, World.block_lt_of_cell? w _ hc0, fun j u hu => ?_⟩, fun k _ hk => by simp at hk⟩
        obtain ⟨b, h1, h2⟩ := flat_at hsz hlen l j u hu
        have := (hP _ b h1).1 (j % size) (Nat.mod_lt _ hsz)
        rw [h2, Addr.add_lit, Addr.add_lit, Nat.add_assoc, Nat.mul_comm, Nat.div_add_mod] at this
        exact this
    · obtain ⟨i, hi⟩ := List.mem_iff_getElem?.1 hb
      exact (hP i b hi).2

theorem struct_at {t : TypeId} {fs : Array Field} {fuel : Nat} {cs : List Value} {x : DataW H × List MemPlace} (ht : P.underlying t = some (.struct fs)) (h : DataW.trod enc P w 0 sp true fuel t cs = some x)
    (i : Nat) (f : Field) (hf : fs[i]? = some f) (ty : TypeId) (off sz : Nat) (h1 : f.type = ty) (h2 : f.offset = off) (h3 : P.cellsOf ty = sz) : ∃ n y, DataW.trod enc P w 0 sp true n ty ((cs.drop off).take sz) = some y := by
  obtain ⟨xs, n, _, _, _, hxl, hall⟩ := DataW.trod_struct ht h
  have hi := (Array.getElem?_eq_some_iff.1 hf).1
  have := hall i f hf
  rw [h1, h2, h3] at this
  exact ⟨n, xs[i]'(by omega), by rw [this]; exact List.getElem?_eq_getElem (by omega)⟩
theorem trod_float0 {t : TypeId} {k : FloatKind} {fuel : Nat} {cs : List Value} {x : DataW H × List MemPlace} (ht : P.underlying t = some (.float k)) (h : DataW.trod enc P w 0 sp true fuel t cs = some x) : ∃ b, cs = [.float k b] ∧ x = (.lit (.float k b), []) ∧ (Lit.float k b).wf = true := by
  cases fuel with
  | zero => simp [DataW.trod] at h
  | succ n =>
    unfold DataW.trod at h
    rw [ht] at h
    split at h <;> simp_all
theorem trod_float {t : TypeId} {fuel : Nat} {cs : List Value} {x : DataW H × List MemPlace} (ht : P.underlying t = some (.float .f64)) (h : DataW.trod enc P w 0 sp true fuel t cs = some x) : ∃ b, cs = [.float .f64 b] ∧ b < 18446744073709551616 := by
  obtain ⟨b, hb, _, hw⟩ := trod_float0 ht h
  exact ⟨b, hb, of_decide_eq_true hw⟩
end
end Go.HR
namespace Go.Proofs.YteddohgdegggnaaGreatDoor
open Go.ChangeShapes Go.WideShapes Go.RowKit Go.HR
open Go.Proofs

theorem Tryz.c4 : Tryz.prog.cellsOf 4 = 1 := by kernel_rfl
theorem Tryz.c27 : Tryz.prog.cellsOf 27 = 1 := by kernel_rfl
theorem Tryz.c59 : Tryz.prog.cellsOf 59 = 8 := by kernel_rfl
theorem Tryz.c9 : Tryz.prog.cellsOf 9 = 1 := by kernel_rfl
theorem Tryz.c54 : Tryz.prog.cellsOf 54 = 2 := by kernel_rfl
theorem Tryz.c57 : Tryz.prog.cellsOf 57 = 5 := by kernel_rfl
theorem Tryz.c2 : Tryz.prog.cellsOf 2 = 1 := by kernel_rfl
theorem Tryz.c55 : Tryz.prog.cellsOf 55 = 1 := by kernel_rfl
theorem Tryz.c61 : Tryz.prog.cellsOf 61 = 10 := by kernel_rfl
theorem Tryz.c41 : Tryz.prog.cellsOf 41 = 5 := by kernel_rfl
theorem Tryz.c5 : Tryz.prog.cellsOf 5 = 1 := by kernel_rfl
theorem Tryz.c29 : Tryz.prog.cellsOf 29 = 1 := by kernel_rfl
theorem Tryz.c33 : Tryz.prog.cellsOf 33 = 1 := by kernel_rfl
theorem Tryz.c39 : Tryz.prog.cellsOf 39 = 1 := by kernel_rfl
theorem Tryz.c3 : Tryz.prog.cellsOf 3 = 1 := by kernel_rfl

section
variable {H : Type} {enc : TypeId × Value → H} {w : World} {sp : Nat → Bool}

theorem chg_open {fuel : Nat} {cs : List Value} {x : DataW H × List MemPlace} (hl : cs.length = 10) (h : DataW.trod enc Tryz.prog w 0 sp true fuel 61 cs = some x) : ∃ c : ChgG, cs = c.cells ∧ c.WF := by
  obtain ⟨c0, c1, c2, c3, c4, c5, c6, c7, c8, c9, rfl⟩ : ∃ c0 c1 c2 c3 c4 c5 c6 c7 c8 c9, cs = [c0, c1, c2, c3, c4, c5, c6, c7, c8, c9] := by
    match cs, hl with
    | [c0, c1, c2, c3, c4, c5, c6, c7, c8, c9], _ => exact ⟨_, _, _, _, _, _, _, _, _, _, rfl⟩
  obtain ⟨_, _, e0⟩ := struct_at Tryz.underlying61 h 0 _ rfl 4 0 1 rfl rfl Tryz.c4
  change DataW.trod _ _ _ _ _ _ _ _ [c0] = _ at e0
  obtain ⟨_, _, e1⟩ := struct_at Tryz.underlying61 h 1 _ rfl 27 1 1 rfl rfl Tryz.c27
  change DataW.trod _ _ _ _ _ _ _ _ [c1] = _ at e1
  obtain ⟨_, _, e2⟩ := struct_at Tryz.underlying61 h 2 _ rfl 59 2 8 rfl rfl Tryz.c59
  change DataW.trod _ _ _ _ _ _ _ _ [c2, c3, c4, c5, c6, c7, c8, c9] = _ at e2
  obtain ⟨_, _, g0⟩ := struct_at Tryz.underlying59 e2 0 _ rfl 9 0 1 rfl rfl Tryz.c9
  change DataW.trod _ _ _ _ _ _ _ _ [c2] = _ at g0
  obtain ⟨_, _, g1⟩ := struct_at Tryz.underlying59 e2 1 _ rfl 54 1 2 rfl rfl Tryz.c54
  change DataW.trod _ _ _ _ _ _ _ _ [c3, c4] = _ at g1
  obtain ⟨_, _, g2⟩ := struct_at Tryz.underlying59 e2 2 _ rfl 57 3 5 rfl rfl Tryz.c57
  change DataW.trod _ _ _ _ _ _ _ _ [c5, c6, c7, c8, c9] = _ at g2
  obtain ⟨_, _, k0⟩ := struct_at Tryz.underlying54 g1 0 _ rfl 2 0 1 rfl rfl Tryz.c2
  change DataW.trod _ _ _ _ _ _ _ _ [c3] = _ at k0
  obtain ⟨_, _, k1⟩ := struct_at Tryz.underlying54 g1 1 _ rfl 2 1 1 rfl rfl Tryz.c2
  change DataW.trod _ _ _ _ _ _ _ _ [c4] = _ at k1
  obtain ⟨_, _, m0⟩ := struct_at Tryz.underlying57 g2 0 _ rfl 27 0 1 rfl rfl Tryz.c27
  change DataW.trod _ _ _ _ _ _ _ _ [c5] = _ at m0
  obtain ⟨_, _, m1⟩ := struct_at Tryz.underlying57 g2 1 _ rfl 55 1 1 rfl rfl Tryz.c55
  change DataW.trod _ _ _ _ _ _ _ _ [c6] = _ at m1
  obtain ⟨_, _, m2⟩ := struct_at Tryz.underlying57 g2 2 _ rfl 4 2 1 rfl rfl Tryz.c4
  change DataW.trod _ _ _ _ _ _ _ _ [c7] = _ at m2
  obtain ⟨_, _, m3⟩ := struct_at Tryz.underlying57 g2 3 _ rfl 55 3 1 rfl rfl Tryz.c55
  change DataW.trod _ _ _ _ _ _ _ _ [c8] = _ at m3
  obtain ⟨_, _, m4⟩ := struct_at Tryz.underlying57 g2 4 _ rfl 55 4 1 rfl rfl Tryz.c55
  change DataW.trod _ _ _ _ _ _ _ _ [c9] = _ at m4
  obtain ⟨p0, h0, _⟩ := DataW.trod_bool Tryz.underlying4 e0
  obtain ⟨p1, h1, _, w1⟩ := DataW.trod_int Tryz.underlying27 e1
  obtain ⟨p2, h2, _⟩ := DataW.trod_string Tryz.underlying9 g0
  obtain ⟨p3, h3, _, w3⟩ := DataW.trod_int Tryz.underlying2 k0
  obtain ⟨p4, h4, _, w4⟩ := DataW.trod_int Tryz.underlying2 k1
  obtain ⟨p5, h5, _, w5⟩ := DataW.trod_int Tryz.underlying27 m0
  obtain ⟨p6, h6, w6⟩ := trod_float Tryz.underlying55 m1
  obtain ⟨p7, h7, _⟩ := DataW.trod_bool Tryz.underlying4 m2
  obtain ⟨p8, h8, w8⟩ := trod_float Tryz.underlying55 m3
  obtain ⟨p9, h9, w9⟩ := trod_float Tryz.underlying55 m4
  simp only [List.cons.injEq, and_true] at h0 h1 h2 h3 h4 h5 h6 h7 h8 h9
  subst h0 h1 h2 h3 h4 h5 h6 h7 h8 h9
  have b1 := bounds_u64 w1
  have b3 := bounds_i64 w3
  have b4 := bounds_i64 w4
  have b5 := bounds_u64 w5
  refine ⟨⟨p0, p1.toNat, p2, p3, p4, ⟨p5.toNat, p6, p7, p8, p9⟩⟩, ?_, ?_⟩
  · have q1 : ((p1.toNat : Nat) : Int) = p1 := by omega
    have q5 : ((p5.toNat : Nat) : Int) = p5 := by omega
    simp only [ChgG.cells, AggG.cells, List.cons_append, List.nil_append, q1, q5]
  · exact ⟨by show p1.toNat < _; omega, by show _ ≤ p3; omega, by show p3 < _; omega, by show _ ≤ p4; omega, by show p4 < _; omega, ⟨by show p5.toNat < _; omega, w6, w8, w9⟩⟩

theorem byte_open {fuel : Nat} {cs : List Value} {x : DataW H × List MemPlace} (h : DataW.trod enc Tryz.prog w 0 sp true fuel 5 cs = some x) : ∃ b : UInt8, cs = [.int .u8 b.toNat] ∧ True := by
  obtain ⟨p, rfl, _, wf⟩ := DataW.trod_int Tryz.underlying5 h
  obtain ⟨h1, h2⟩ := bounds_u8 wf
  refine ⟨UInt8.ofNat p.toNat, ?_, trivial⟩
  rw [UInt8.toNat_ofNat']
  have : ((p.toNat % 256 : Nat) : Int) = p := by omega
  rw [show (2 : Nat) ^ 8 = 256 from rfl, this]

theorem by8_flat (l : List UInt8) : l.flatMap (fun b => [Value.int .u8 b.toNat]) = by8 l := by
  induction l with
  | nil => rfl
  | cons b l ih => simp only [List.flatMap_cons, ih]; rfl
theorem ints_flat (l : List Int) : l.flatMap (fun b => [Value.int .i64 b]) = ints l := by
  induction l with
  | nil => rfl
  | cons b l ih => simp only [List.flatMap_cons, ih]; rfl

theorem act_open {fuel : Nat} {cs : List Value} {x : DataW H × List MemPlace} (hl : cs.length = 5) (h : DataW.trod enc Tryz.prog w 0 sp true fuel 41 cs = some x) : ∃ a : ActV, cs = a.cells ∧ ActIn w a := by
  obtain ⟨c0, c1, c2, c3, c4, rfl⟩ : ∃ c0 c1 c2 c3 c4, cs = [c0, c1, c2, c3, c4] := by
    match cs, hl with
    | [c0, c1, c2, c3, c4], _ => exact ⟨_, _, _, _, _, rfl⟩
  obtain ⟨_, _, e0⟩ := struct_at Tryz.underlying41 h 0 _ rfl 5 0 1 rfl rfl Tryz.c5
  change DataW.trod _ _ _ _ _ _ _ _ [c0] = _ at e0
  obtain ⟨_, _, e1⟩ := struct_at Tryz.underlying41 h 1 _ rfl 29 1 1 rfl rfl Tryz.c29
  change DataW.trod _ _ _ _ _ _ _ _ [c1] = _ at e1
  obtain ⟨_, _, e2⟩ := struct_at Tryz.underlying41 h 2 _ rfl 33 2 1 rfl rfl Tryz.c33
  change DataW.trod _ _ _ _ _ _ _ _ [c2] = _ at e2
  obtain ⟨_, _, e3⟩ := struct_at Tryz.underlying41 h 3 _ rfl 5 3 1 rfl rfl Tryz.c5
  change DataW.trod _ _ _ _ _ _ _ _ [c3] = _ at e3
  obtain ⟨_, _, e4⟩ := struct_at Tryz.underlying41 h 4 _ rfl 39 4 1 rfl rfl Tryz.c39
  change DataW.trod _ _ _ _ _ _ _ _ [c4] = _ at e4
  obtain ⟨kind, h0, _⟩ := byte_open e0
  obtain ⟨nn, h3, _⟩ := byte_open e3
  obtain ⟨st, hst, _⟩ := slice_open Tryz.underlying29 Tryz.c5 (by decide) (fun b : UInt8 => [Value.int .u8 b.toNat]) (fun _ => rfl) (fun _ => True) (fun _ _ _ _ h => byte_open h) e1
  obtain ⟨l, hll, hwf⟩ := slice_open Tryz.underlying33 Tryz.c61 (by decide) ChgG.cells (fun _ => rfl) ChgG.WF (fun _ _ _ hl h => chg_open hl h) e2
  obtain ⟨kp, hkp, _⟩ := slice_open Tryz.underlying39 Tryz.c3 (by decide) (fun b : Int => [Value.int .i64 b]) (fun _ => rfl) (fun _ => True) (fun _ cs _ _ h => by
    obtain ⟨p, rfl, _, _⟩ := DataW.trod_int Tryz.underlying3 h
    exact ⟨p, rfl, trivial⟩) e4
  simp only [List.cons.injEq, and_true] at h0 h3
  subst h0 h3
  rw [by8_flat] at hst
  rw [ints_flat] at hkp
  exact ⟨⟨⟨kind, st, l, nn, kp⟩, c1, c2, c4⟩, rfl, ⟨hst, hll, hkp, hwf⟩⟩

theorem acts_open {fuel : Nat} {v : Value} {x : DataW H × List MemPlace} (h : DataW.trod enc Tryz.prog w 0 sp true fuel 37 [v] = some x) : ∃ acts : List ActV, Arg w [] v acts.length (acts.flatMap ActV.cells) ∧ ∀ a ∈ acts, ActIn w a :=
  slice_open Tryz.underlying37 Tryz.c41 (by decide) ActV.cells (fun _ => rfl) (ActIn w) (fun _ _ _ hl h => act_open hl h) h
end

end Go.Proofs.YteddohgdegggnaaGreatDoor
