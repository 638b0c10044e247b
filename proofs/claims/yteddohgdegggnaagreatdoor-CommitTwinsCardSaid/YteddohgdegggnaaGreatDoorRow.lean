/-
  Operations on a row of whatever element size: append within a row, append that must grow (from a row's beginning, zeros), copy into a row, clear. As equations on the run, as steps of the walk and of a region that draws. No program is named here.
-/
import Derived.Test.YteddohgdegggnaaGreatDoorMem
import Derived.Lib.AppendZeros
import Derived.Lib.SliceRun
namespace Go.HR
open Go.RowKit

/-- cs laid over L from place off on. -/
def spl (L : List Value) (off : Nat) (cs : List Value) : List Value := L.take off ++ (cs ++ L.drop (off + cs.length))
theorem spl_length (L : List Value) (off : Nat) (cs : List Value) (h : off + cs.length ≤ L.length) : (spl L off cs).length = L.length := by simp [spl]; omega

theorem only_setRow {w : World} (g : Nat) (cs : Array Value) : Only (fun k => k = g) w (w.setRow g cs) :=
  ⟨rfl, rfl, rfl, by simp, fun k _ hk => setRow_other w g k cs hk⟩

section
variable {P : Program} (w : World)

/-- append within the row. -/
theorem run_append_row (t tx ty e : TypeId) (i : TypeInfo) (size : Nat) (ht : P.underlying t = some (.slice e)) (hi : P.info? e = some i) (hsize : i.size = size)
    (g n cap : Nat) (cur : List Value) (e' : TypeId) (hg : w.heap[g]? = some (.cells cur.toArray e' (0, 0))) (x : Value) (m : Nat) (news : List Value) (hs : Src P size tx x m news w)
    (hroom : n + m ≤ cap) (hfit : n * size + news.length ≤ cur.length) :
    (Builtin.append_ #[t, tx] ty #[.slice (some ⟨g, 0, none⟩) n cap, x]).run P w = .ok (.slice (some ⟨g, 0, none⟩) (n + m) cap) (w.setRow g (spl cur (n * size) news).toArray) := by
  subst hsize
  have hst := run_storeCells_at P g (n * i.size) e' news 0 cur.toArray w hg (by simpa using hfit) hs.one
  simp only [Nat.add_zero] at hst
  rcases hs.kind with ⟨e'', hk⟩ | hk <;> simp [Builtin.append_, run_underlying ht, run_underlying hk, sizeOf, typeInfo, hi, hs.len, hroom, hs.cells, Addr.add_lit, hst, spl]

/-- copy into a row. -/
theorem run_copy_spl (dT sT ty e : TypeId) (i : TypeInfo) (size : Nat) (hu : P.underlying dT = some (.slice e)) (hi : P.info? e = some i) (hsize : i.size = size)
    (g o dLen dCap : Nat) (cur : List Value) (e' : TypeId) (hg : w.heap[g]? = some (.cells cur.toArray e' (0, 0))) (a : Option Addr) (sLen sCap : Nat) (cs : List Value) (hn : cs.length = Nat.min sLen dLen * size)
    (hsrc : ∀ ad, a = some ad → ∀ j v, cs[j]? = some v → w.cell? (ad.add j) = some v) (hnil : a = none → cs = []) (hfit : o + cs.length ≤ cur.length) (h1 : ∀ v ∈ cs, v.oneCell' = true) :
    (Builtin.copy_ #[dT, sT] ty #[.slice (some ⟨g, o, none⟩) dLen dCap, .slice a sLen sCap]).run P w = .ok (goInt (Nat.min sLen dLen : Nat)) (w.setRow g (spl cur o cs).toArray) := by
  subst hsize
  have hst := run_storeCells_at P g o e' cs 0 cur.toArray w hg (by simpa using hfit) h1
  simp only [Nat.add_zero] at hst
  cases a with
  | none =>
    have := hnil rfl
    subst this
    have hself := setRow_self w g cur.toArray e' (0, 0) hg
    simp [Builtin.copy_, run_underlying hu, Builtin.lenOf, Builtin.firstCells, sizeOf, typeInfo, hi, storeCells, spl, hself]
  | some ad =>
    have hl := run_loadCells_list (P := P) w ad cs (hsrc ad rfl)
    rw [hn] at hl
    simp [Builtin.copy_, run_underlying hu, Builtin.lenOf, Builtin.firstCells, sizeOf, typeInfo, hi, hl, hst, spl]

/-- clear of some of a row's elements. -/
theorem run_clear_row (t ty e : TypeId) (z : Value) (zs : List Value) (ht : P.underlying t = some (.slice e)) (hv : ∀ w, (zeroValue e).run P w = .ok z w) (hz : z.cells = zs.toArray) (h1 : ∀ v ∈ zs, v.oneCell' = true)
    (g o n cap : Nat) (hn1 : n = 1) (cur : List Value) (e' : TypeId) (hg : w.heap[g]? = some (.cells cur.toArray e' (0, 0))) (hfit : o + zs.length ≤ cur.length) :
    (Builtin.clear_ #[t] ty #[.slice (some ⟨g, o, none⟩) n cap]).run P w = .ok (.tuple #[]) (w.setRow g (spl cur o zs).toArray) := by
  subst hn1
  have hzc : (Builtin.zeroCells z.cells 1).toList = zs := by
    rw [hz]
    simp only [Builtin.zeroCells, Nat.one_mul, Array.toList_map, Array.toList_range]
    apply List.ext_getElem
    · simp
    · intro k hk1 hk2
      simp at hk1 hk2
      simp [Nat.mod_eq_of_lt hk2, hk2]
  have hst := run_storeCells_at P g o e' zs 0 cur.toArray w hg (by simpa using hfit) h1
  simp only [Nat.add_zero] at hst
  simp [Builtin.clear_, run_underlying ht, hv, hzc, hst, spl]

/-- append of zeros behind the beginning of a row, where it must grow. -/
theorem run_append_zeros_grow (t tn ty e : TypeId) (i : TypeInfo) (z : Value) (k kn : IntKind) (ht : P.underlying t = some (.slice e)) (htn : P.underlying tn = some (.int kn)) (hi : P.info? e = some i) (hz : i.zero = some z) (hsz : 0 < i.size)
    (b : Addr) (n cap m : Nat) (x : Int) (hxm : x = (m : Int)) (olds : List Value) (hlo : olds.length = n * i.size) (holds : ∀ j v, olds[j]? = some v → w.cell? (b.add j) = some v)
    (hm : 0 < m) (hg : cap < n + m) (h63 : n + m ≤ 9223372036854775807) (h48 : (n + m) * i.bytes ≤ 140737488355328) :
    (Builtin.append_ #[t, tn] ty #[.slice (some b) n cap, .int k x]).run P w =
      .ok (.slice (some ⟨w.heap.size, 0, none⟩) (n + m) (grownCap w (n + m) cap e))
        (w.drew.alloc (.cells (olds.toArray ++ Builtin.zeroCells z.cells m ++ Builtin.zeroCells z.cells (grownCap w (n + m) cap e - (n + m))) e)) := by
  subst hxm
  have hn : ¬ (n + m ≤ cap) := by omega
  have hw : IntKind.i64.wrap (m : Int) = m := by rw [IntKind.wrap_i64]; omega
  have h63' : ¬ (9223372036854775807 < ((n : Int) + (m : Int))) := by omega
  have hfit := growslice_fits (need := n + m) (old := cap) (bytes := i.bytes) hg h48
  have h48' : ¬ (281474976710656 < Builtin.nextslicecap (n + m) cap * i.bytes) := by omega
  have hmb : m * i.bytes ≤ 140737488355328 := Nat.le_trans (Nat.mul_le_mul_right _ (by omega)) h48
  have h48i : ¬ (281474976710656 < (m : Int) * (i.bytes : Int)) := by
    rw [← Int.natCast_mul]
    omega
  have hneg : ¬ ((m : Int) < 0) := by omega
  have hns : ¬ (m * i.size = 0) := Nat.mul_ne_zero (by omega) (by omega)
  have hfo := run_firstCells_some (P := P) w.drew i.size n b n cap olds hlo (by simpa using holds)
  simp [Builtin.append_, run_underlying ht, run_underlying htn, sizeOf, typeInfo, zeroValue, hi, hz, asInt, asIntOf, hw, hn, hneg, hns, h63', h48', h48i, Question.forced, hfo, newRow, grownCap]

/-- A call of a builtin of two arguments whose run is known. -/
theorem wp_builtin2 {o : Oper} {a : Act} {K : Act → World → Prop} {Q : Exit → Act → World → Prop} (b : Builtin) (s x : Operand) (t tx : TypeId)
    (ho : o.op = .call { callee := .builtin b, args := #[s, x], argTypes := #[t, tx] }) (vs vx : Value) (hs : a.eval s = vs) (hx : a.eval x = vx) (v' : Value) (w' : World)
    (hr : ∀ cs, (builtin b #[t, tx] o.type cs #[vs, vx]).run P w = .ok (.value v') w') (h : K (a.put o.dst v') w') : o.wp P a w K Q := by
  unfold Oper.wp execOp
  simp only [ho, resolve, invoke, Sem.run_bind, Sem.run_pure, Result.andThen_ok, List.map_toArray, List.map_cons, List.map_nil, hs, hx, hr]
  exact h
theorem wpList_builtin2 {ops : Array Oper} {rest : List Oper} {o : Oper} {a : Act} {Q : Exit → Act → World → Prop} (hgd : o.guard = none) (b : Builtin) (s x : Operand) (t tx : TypeId)
    (ho : o.op = .call { callee := .builtin b, args := #[s, x], argTypes := #[t, tx] }) (vs vx : Value) (hs : a.eval s = vs) (hx : a.eval x = vx) (v' : Value) (w' : World)
    (hr : ∀ cs, (builtin b #[t, tx] o.type cs #[vs, vx]).run P w = .ok (.value v') w') (h : wpList P ops Q rest (a.put o.dst v') w') : wpList P ops Q (o :: rest) a w :=
  wpList_plain hgd fun _ hK => wp_builtin2 w b s x t tx ho vs vx hs hx v' w' hr (hK _ _ h)
theorem step_builtin2 {ops : Array Oper} {o : Oper} {a : Act} {K : Act → World → Prop} {Q : Exit → Act → World → Prop} {E : Prop} (hgd : o.guard = none) (b : Builtin) (s x : Operand) (t tx : TypeId)
    (ho : o.op = .call { callee := .builtin b, args := #[s, x], argTypes := #[t, tx] }) (vs vx : Value) (hs : a.eval s = vs) (hx : a.eval x = vx) (v' : Value) (w' : World)
    (hr : ∀ cs, (builtin b #[t, tx] o.type cs #[vs, vx]).run P w = .ok (.value v') w') (h : K (a.put o.dst v') w') :
    if Region.wanted o (yielded ops a.tmps) = true then Oper.wp P o a w K Q else E := by
  rw [if_pos (by simp [Region.wanted, hgd])]
  exact wp_builtin2 w b s x t tx ho vs vx hs hx v' w' hr h
theorem wpList_builtin1 {ops : Array Oper} {rest : List Oper} {o : Oper} {a : Act} {Q : Exit → Act → World → Prop} (hgd : o.guard = none) (b : Builtin) (s : Operand) (t : TypeId)
    (ho : o.op = .call { callee := .builtin b, args := #[s], argTypes := #[t] }) (vs : Value) (hs : a.eval s = vs) (v' : Value) (w' : World)
    (hr : ∀ cs, (builtin b #[t] o.type cs #[vs]).run P w = .ok (.value v') w') (h : wpList P ops Q rest (a.put o.dst v') w') : wpList P ops Q (o :: rest) a w :=
  wpList_plain hgd fun K hK => by
    unfold Oper.wp execOp
    simp only [ho, resolve, invoke, Sem.run_bind, Sem.run_pure, Result.andThen_ok, List.map_toArray, List.map_cons, List.map_nil, hs, hr]
    exact hK _ _ h
theorem builtin_append {t tx ty : TypeId} {v x v' : Value} {w' : World} (h : (Builtin.append_ #[t, tx] ty #[v, x]).run P w = .ok v' w') : ∀ cs, (builtin .append #[t, tx] ty cs #[v, x]).run P w = .ok (.value v') w' := by
  intro cs; simp [builtin, h]
theorem wpList_append_zeros_grow {ops : Array Oper} {rest : List Oper} {o : Oper} {a : Act} {Q : Exit → Act → World → Prop} (hgd : o.guard = none) (s x : Operand) (t tn : TypeId)
    (ho : o.op = .call { callee := .builtin .append, args := #[s, x], argTypes := #[t, tn] }) (e : TypeId) (i : TypeInfo) (z : Value) (size : Nat) (k kn : IntKind) (ht : P.underlying t = some (.slice e)) (htn : P.underlying tn = some (.int kn)) (hi : P.info? e = some i) (hz : i.zero = some z)
    (hsize : i.size = size) (hzs : z.cells.size = size) (hsz : 0 < size) (b : Addr) (n cap m : Nat) (xv : Int) (hxm : xv = (m : Int)) (hs : a.eval s = .slice (some b) n cap) (hx : a.eval x = .int k xv)
    (olds : List Value) (hlo : olds.length = n * size) (holds : ∀ j v, olds[j]? = some v → w.cell? (b.add j) = some v)
    (hm : 0 < m) (hg : cap < n + m) (h63 : n + m ≤ 9223372036854775807) (h48 : (n + m) * i.bytes ≤ 140737488355328)
    (h : ∀ (C : Nat) (L : List Value) (w1 : World), Hid (L.take (n * size) = olds) → Hid (L.length = C * size) → n + m ≤ C → Hid (C ≤ maxLen) → Hid (w1.heap[w.heap.size]? = some (.cells L.toArray e (0, 0))) → Ext w w1 → w.heap.size < w1.heap.size →
      wpList P ops Q rest (a.put o.dst (.slice (some ⟨w.heap.size, 0, none⟩) (n + m) C)) w1) : wpList P ops Q (o :: rest) a w := by
  subst hsize
  have hr := run_append_zeros_grow (P := P) w t tn o.type e i z k kn ht htn hi hz hsz b n cap m xv hxm olds hlo holds hm hg h63 h48
  have hge := grownCap_ge w (n + m) cap e
  have hcm : grownCap w (n + m) cap e ≤ maxLen := grownCap_le_maxLen w (n + m) cap e (by simp only [maxLen]; omega)
  obtain ⟨L, hL⟩ : ∃ L : List Value, L.toArray = olds.toArray ++ Builtin.zeroCells z.cells m ++ Builtin.zeroCells z.cells (grownCap w (n + m) cap e - (n + m)) := ⟨(olds.toArray ++ Builtin.zeroCells z.cells m ++ Builtin.zeroCells z.cells (grownCap w (n + m) cap e - (n + m))).toList, by simp⟩
  have hLt := congrArg Array.toList hL
  simp only [Array.toList_append, List.append_assoc] at hLt
  refine wpList_builtin2 w hgd .append s x t tn ho _ _ hs hx _ _ (builtin_append w hr) (h _ L _ ?_ ?_ hge hcm ?_ ⟨rfl, rfl, rfl, by simp, fun k hk _ => Below.heap_alloc w.drew _ k hk⟩ (by simp))
  · show _ = _
    rw [hLt, ← hlo]
    exact List.take_left
  · show _ = _
    have : L.length = (olds.toArray ++ Builtin.zeroCells z.cells m ++ Builtin.zeroCells z.cells (grownCap w (n + m) cap e - (n + m))).size := by rw [← hL]; simp
    rw [this]
    simp only [Array.size_append, List.size_toArray, size_zeroCells, hzs, hlo]
    rw [← Nat.add_mul, ← Nat.add_mul]
    congr 1
    omega
  · show _ = _
    rw [hL]
    exact Go.heap_alloc_new w.drew _
theorem builtin_copy {t tx ty : TypeId} {v x v' : Value} {w' : World} (h : (Builtin.copy_ #[t, tx] ty #[v, x]).run P w = .ok v' w') : ∀ cs, (builtin .copy #[t, tx] ty cs #[v, x]).run P w = .ok (.value v') w' := by
  intro cs; simp [builtin, h]
theorem builtin_clear {t ty : TypeId} {v v' : Value} {w' : World} (h : (Builtin.clear_ #[t] ty #[v]).run P w = .ok v' w') : ∀ cs, (builtin .clear #[t] ty cs #[v]).run P w = .ok (.value v') w' := by
  intro cs; simp [builtin, h]
end
end Go.HR
