/- What is shown here, as far as 'append_is': contracts of the program's functions, and the plain laws that they lean on; conditions: each theorem's own hypotheses. -/
import Derived.Test.YteddohgdegggnaaGreatDoorOps
import Derived.BigQuiet
namespace Go.HR
/-- More bytes behind a file's. -/
def addTo (l : List FileG) (t x : List UInt8) : List FileG := match get? l t with
  | none => putFile l ⟨t, x, 0⟩
  | some f => putFile l { f with p := f.p ++ x }
/-- The store in which a file is laid, if it wasn't there. -/
def St.laid (S : St) (t : List UInt8) (u : Bool) : St := bif u then S else { S with l := putFile S.l ⟨t, [], 0⟩ }
theorem pos_ins {l : List FileG} {f : FileG} (h : has l f.name = false) : pos (putFile l f) f.name = pos l f.name := by
  rw [← ins_pos h]
  generalize hp : pos l f.name = p
  unfold pos
  rw [List.filter_append, List.filter_cons_of_neg (by simp [lt_irrefl']), ← List.filter_append, List.take_append_drop]
  exact hp
def St.full (S : St) (t x : List UInt8) : Bool := decide (S.room < used S.l + x.length) || (!has S.l t && decide (500 ≤ S.l.length))
def St.append (S : St) (t x : List UInt8) : Int × St :=
  if S.look t = 0 then (if S.full t x then (10, S) else (if S.begin.off then 9 else 0, { S.begin with l := addTo S.l t x })) else (S.look t, S)
open Go.RowKit
/-- A slice that came in: it reads as xs, and lies apart from the blocks F; or it is empty, wherever it points. -/
def Arg (w : World) (F : List Nat) (v : Value) (n : Nat) (xs : List Value) : Prop := (Rd w v n xs ∧ ∀ k, v.ownBlock = some k → k ∉ F) ∨ ∃ a cap, v = .slice (some a) 0 cap ∧ cap ≤ maxLen ∧ n = 0 ∧ xs = []
theorem Arg.of {w : World} {F : List Nat} {v : Value} {n : Nat} {xs : List Value} (h : Rd w v n xs) (hF : ∀ k, v.ownBlock = some k → k ∉ F) : Arg w F v n xs := .inl ⟨h, hF⟩
theorem Arg.shape {w : World} {F : List Nat} {v : Value} {n : Nat} {xs : List Value} (h : Arg w F v n xs) : ∃ a cap, v = .slice a n cap ∧ n ≤ cap ∧ cap ≤ maxLen := by
  rcases h with ⟨h, _⟩ | ⟨a, cap, rfl, hc, rfl, _⟩
  · exact h.shape
  · exact ⟨_, cap, rfl, Nat.zero_le _, hc⟩
theorem Arg.next {w w1 : World} {F F1 : List Nat} {v : Value} {n : Nat} {xs : List Value} (h : Arg w F v n xs) (ho : Only (fun k => k ∈ F) w w1) (hF : ∀ k ∈ F1, k ∈ F ∨ w.heap.size ≤ k) : Arg w1 F1 v n xs := by
  rcases h with ⟨h, ha⟩ | h
  · refine .inl ⟨h.keep ho fun k hk hm => ha k hk hm, fun k hk hm => ?_⟩
    rcases hF k hm with h1 | h1
    · exact ha k hk h1
    · have := h.lt hk; omega
  · exact .inr h
theorem Arg.ext {w w1 : World} {F : List Nat} {v : Value} {n : Nat} {xs : List Value} (h : Arg w F v n xs) (hx : Ext w w1) : Arg w1 F v n xs := h.next hx.to fun _ hk => .inl hk
theorem Arg.keep {w w1 : World} {F G : List Nat} {v : Value} {n : Nat} {xs : List Value} (h : Arg w F v n xs) (ho : Only (fun k => k ∈ G) w w1) (hG : ∀ k, v.ownBlock = some k → k ∉ G) : Arg w1 F v n xs := by
  rcases h with ⟨h, ha⟩ | h
  · exact .inl ⟨h.keep ho fun k hk hm => hG k hk hm, ha⟩
  · exact .inr h
theorem Arg.src {P : Program} {w W : World} {F : List Nat} {v : Value} {n : Nat} {xs : List Value} (h : Arg w F v n xs) (ho : Only (fun k => k ∈ F) w W) {size : Nat} {tx e' : TypeId} (hk : P.underlying tx = some (.slice e'))
    (hl : xs.length = n * size) (h1 : ∀ u ∈ xs, u.oneCell' = true) : Src P size tx v n xs W := by
  rcases h with ⟨h, ha⟩ | ⟨a, cap, rfl, hc, rfl, rfl⟩
  · exact (h.keep ho fun k hk hm => ha k hk hm).src hk hl h1
  · exact Src.ofSlice W hk a 0 cap [] hl (fun j u hu => by simp at hu) h1
theorem Arg.rd {w : World} {F : List Nat} {v : Value} {n : Nat} {xs : List Value} (h : Arg w F v n xs) (hn : n ≠ 0) : Rd w v n xs ∧ ∀ k, v.ownBlock = some k → k ∉ F := by
  rcases h with h | ⟨_, _, _, _, h0, _⟩
  · exact h
  · exact absurd h0 hn
theorem Arg.any {w : World} {F F1 : List Nat} {v : Value} {n : Nat} {xs : List Value} (h : Arg w F v n xs) (hF : ∀ k, v.ownBlock = some k → k ∉ F1) : Arg w F1 v n xs := h.elim (fun h => .inl ⟨h.1, hF⟩) .inr
end Go.HR
namespace Go.Proofs.YteddohgdegggnaaGreatDoor
open Go.RowKit Go.HR
open Go.Proofs

theorem app_tail {P : Program} {wc w' : World} {b g n cap r : Nat} {S1 : St} {fs1 : List FV} {f2 : FV} {x : List UInt8} {v' : Value} (h1 : StoreIs wc b S1 (.slice (some ⟨g, 0, none⟩) n cap) fs1) (hf2 : fs1[r]? = some f2)
    (hap : Appended P 5 1 f2.pv f2.g.p.length (by8 f2.g.p) wc x.length (by8 x) v' w') (hroom : used (S1.l.set r { f2.g with p := f2.g.p ++ x }) ≤ S1.room) :
    Did wc b (foot b (.slice (some ⟨g, 0, none⟩) n cap) fs1) { S1 with l := S1.l.set r { f2.g with p := f2.g.p ++ x } } (w'.setCell ⟨g, r * 3 + 1, none⟩ v') := by
  have hmem := List.mem_of_getElem? hf2
  have hn := row_len h1
  have hap1 := h1.apart
  have hgf : f2.pv.ownBlock ≠ some g := fun e => by
    simp only [foot, List.nodup_cons, List.nodup_append, List.mem_append, Option.mem_toList, Value.ownBlock, not_or, List.mem_filterMap] at hap1
    exact hap1.2.2.2 g rfl g ⟨f2, hmem, e⟩ rfl
  have hrow := owns_keep h1.row hap.only fun k hk e => by
    cases Option.some.inj hk
    exact hgf e
  rw [← hn] at hrow
  have s1 := (hrow.stored (r * 3 + 1) v').1
  rw [flat_set fs1 r 1 f2 ⟨{ f2.g with p := f2.g.p ++ x }, v'⟩ v' hf2 (by omega) rfl] at s1
  have hgw : g < wc.heap.size := h1.lt g foot_mem_g
  have hi' : S1.l[r]? = some f2.g := by rw [h1.files, List.getElem?_map, hf2]; rfl
  have hv'g : v'.ownBlock ≠ some g := fun e => (hap.fresh g e).elim hgf (by omega)
  have hoset : Only (fun k => k = g) w' (w'.setCell ⟨g, r * 3 + 1, none⟩ v') := only_set (Only.refl _ _) _ _
  have hown : (w'.setCell ⟨g, r * 3 + 1, none⟩ v').ownsRow 0 5 1 v' (f2.g.p ++ x).length (by8 (f2.g.p ++ x)) := by
    rw [List.length_append, by8_append]
    exact owns_keep hap.owns hoset fun k hk e => hv'g (e ▸ hk)
  have ho : Only (fun k => k = g ∨ f2.pv.ownBlock = some k) wc (w'.setCell ⟨g, r * 3 + 1, none⟩ v') := (hap.only.mono fun _ _ e => .inr e).trans (hoset.mono fun _ _ e => .inl e) fun _ _ h => h
  obtain ⟨a1, a2, a3⟩ := h1.setFile (f' := ⟨{ f2.g with p := f2.g.p ++ x }, v'⟩) hf2 s1 hown ho
    (fun k hk => (hap.fresh k hk).imp id fun hge hm => by have := h1.lt k hm; omega)
    (wf_set h1.wf r f2.g _ hi' rfl hroom (by show f2.g.sure ≤ (f2.g.p ++ x).length; rw [List.length_append]; have := h1.wf.sure f2.g (by rw [h1.files]; exact List.mem_map_of_mem hmem); omega))
  refine ⟨_, ⟨_, _, a1, rfl⟩, a2, fun k hk => ?_⟩
  rcases a3 k hk with h | h
  · exact .inl h
  · exact (hap.fresh k h).imp (fun e => foot_mem_f hmem e) id

/-- A new file was laid into the list. -/
theorem app_ins {w2 w5 : World} {b n5 : Nat} {S : St} {lv v5 : Value} {fs : List FV} {t : List UInt8} {o : Obj} (h2 : StoreIs w2 b S lv fs) (hh : has S.l t = false) (hn : n5 = fs.length + 1) (hcnt : S.l.length < 500) (ht : t.length ≤ 32)
    (hown : w5.ownsRow 0 69 3 v5 n5 ((fs.take (pos S.l t) ++ (⟨⟨t, [], 0⟩, .slice none 0 0⟩ : FV) :: fs.drop (pos S.l t)).flatMap FV.cells)) (hfr : Fresh (w2.alloc o) lv v5) (ho : Only (fun k => lv.ownBlock = some k) (w2.alloc o) w5) :
    Did w2 b (foot b lv fs) (S.laid t false) (w5.setCell ⟨b, 0, none⟩ v5) := by
  subst hn
  have hx : Ext w2 (w2.alloc o) := (Only.refl _ _).alloc _
  have hxs := hx.size
  have hu := used_putFile h2.wf.sorted ⟨t, [], 0⟩
  obtain ⟨fs', a1, a2, a3⟩ := h2.insert (f := ⟨⟨t, [], 0⟩, .slice none 0 0⟩) ⟨rfl, .inl ⟨rfl, rfl⟩⟩ (fun k hk => by simp [Value.ownBlock] at hk) hh hown
    (fun k hk => (hfr k hk).imp id fun h => by omega) (hx.thenOnly ho)
    (wf_put h2.wf _ (Nat.le_trans (Nat.le_trans (Nat.le_add_right _ _) (Nat.le_of_eq hu)) h2.wf.room) (fun _ => hcnt) (Nat.zero_le _) ht)
  refine ⟨_, ⟨_, _, a1, rfl⟩, a2, fun k hk => ?_⟩
  rcases a3 k hk with h | h | h
  · exact .inl h
  · simp [Value.ownBlock] at h
  · exact .inr h

theorem St.laid_false (S : St) (t : List UInt8) : S.laid t false = { S with l := putFile S.l ⟨t, [], 0⟩ } := rfl
theorem St.laid_true (S : St) (t : List UInt8) : S.laid t true = S := rfl

/-- The file to which is appended. -/
theorem app_mid {w wc : World} {b r : Nat} {S : St} {lv lv1 : Value} {fs fs1 : List FV} {t : List UInt8} {u : Bool} (H : StoreIs w b S lv fs) (hu : u = has (fs.map (·.g)) t) (hr : r = pos (fs.map (·.g)) t)
    (h1 : StoreIs wc b (S.begin.laid t u) lv1 fs1) : ∃ f2, fs1[r]? = some f2 ∧ f2.g.name = t ∧ ∀ x, (S.begin.laid t u).l.set r { f2.g with p := f2.g.p ++ x } = addTo S.l t x ∧
      used (addTo S.l t x) = used S.l + x.length := by
  have hs := H.wf.sorted
  have hl := H.files
  rw [← hl] at hu hr
  have h1f := h1.files
  cases u
  · have hput : (S.begin.laid t false).l = putFile S.l ⟨t, [], 0⟩ := by rw [St.laid_false, St.begin_l]
    have hnone := get_none hu.symm
    have hpos : pos (putFile S.l ⟨t, [], 0⟩) t = pos S.l t := pos_ins (f := ⟨t, [], 0⟩) hu.symm
    have hget := get_putFile hs ⟨t, [], 0⟩ t
    rw [if_pos rfl] at hget
    have hhas : has (fs1.map (·.g)) t = true := by rw [← h1f, hput, has_get, hget]; rfl
    obtain ⟨f2, e1, e2, e3, e4⟩ := h1.found hhas
    rw [← h1f, hput, hpos, ← hr] at e1
    rw [hput, hget] at e3
    have e5 : f2.g = ⟨t, [], 0⟩ := (Option.some.inj e3).symm
    refine ⟨f2, e1, e2, fun x => ?_⟩
    have hx : addTo S.l t x = putFile S.l ⟨t, x, 0⟩ := by unfold addTo; rw [hnone]
    have hux := used_putFile hs ⟨t, x, 0⟩
    simp only [hnone, Option.map_none, Option.getD_none, Nat.add_zero] at hux
    refine ⟨?_, by rw [hx]; exact hux⟩
    rw [hput, e5, hx, ← ins_pos (f := ⟨t, [], 0⟩) hu.symm, ← ins_pos (f := ⟨t, x, 0⟩) hu.symm]
    show List.set (S.l.take (pos S.l t) ++ _ :: S.l.drop (pos S.l t)) r _ = _
    have hlen : (S.l.take (pos S.l t)).length = r := by rw [List.length_take, hr]; have := pos_le S.l t; omega
    rw [List.set_append_right _ _ (by omega), hlen, Nat.sub_self]
    rfl
  · have hput : (S.begin.laid t true).l = S.l := by rw [St.laid_true, St.begin_l]
    have hhas : has (fs1.map (·.g)) t = true := by rw [← h1f, hput]; exact hu.symm
    obtain ⟨f2, e1, e2, e3, e4⟩ := h1.found hhas
    rw [← h1f, hput, ← hr] at e1
    rw [hput] at e3
    refine ⟨f2, e1, e2, fun x => ?_⟩
    have hx : addTo S.l t x = putFile S.l { f2.g with p := f2.g.p ++ x } := by unfold addTo; rw [e3]
    have hux := used_putFile hs { f2.g with p := f2.g.p ++ x }
    have e3' : get? S.l ({ f2.g with p := f2.g.p ++ x } : FileG).name = some f2.g := by show get? S.l f2.g.name = _; rw [e2]; exact e3
    rw [e3'] at hux
    simp only [Option.map_some, Option.getD_some, List.length_append] at hux
    refine ⟨?_, by rw [hx]; show used (putFile S.l ⟨f2.g.name, f2.g.p ++ x, f2.g.sure⟩) = _; omega⟩
    rw [hput, hx, hr]
    have := set_pos (l := S.l) (f := { f2.g with p := f2.g.p ++ x }) (by rw [e2]; exact hu.symm)
    rwa [e2] at this

theorem Did.compose {w wc w2 : World} {b : Nat} {S2 : St} {F F1 : List Nat} (ho1 : Only (fun k => k ∈ F) w wc) (hF1 : ∀ k ∈ F1, k ∈ F ∨ w.heap.size ≤ k) (h2 : Did wc b F1 S2 w2) : Did w b F S2 w2 := by
  obtain ⟨F', a1, a2, a3⟩ := h2
  have hs := ho1.size
  refine ⟨F', a1, ho1.trans a2 fun k hk e => (hF1 k e).resolve_right (by omega), fun k hk => ?_⟩
  rcases a3 k hk with h | h
  · exact hF1 k h
  · exact .inr (by omega)

theorem app_fin {P : Program} {w wc w' : World} {b g n cap r : Nat} {S : St} {F : List Nat} {fs1 : List FV} {f2 : FV} {t x : List UInt8} {v v' : Value} {u : Bool} (h1 : StoreIs wc b (S.begin.laid t u) (.slice (some ⟨g, 0, none⟩) n cap) fs1) (hf2 : fs1[r]? = some f2) (hv : f2.pv = v)
    (hap : Appended P 5 1 v f2.g.p.length (by8 f2.g.p) wc.drew x.length (by8 x) v' w') (hadd : ∀ x, (S.begin.laid t u).l.set r { f2.g with p := f2.g.p ++ x } = addTo S.l t x ∧ used (addTo S.l t x) = used S.l + x.length)
    (hroom : used S.l + x.length ≤ (S.begin.laid t u).room) (ho1 : Only (fun k => k ∈ F) w wc) (hF1 : ∀ k ∈ foot b (.slice (some ⟨g, 0, none⟩) n cap) fs1, k ∈ F ∨ w.heap.size ≤ k) :
    Did w b F { S.begin with l := addTo S.l t x } (w'.setCell ⟨g, r * 3 + 1, none⟩ v') := by
  subst hv
  have h2 := app_tail h1 hf2 (hap.ofExt ((Only.refl _ _).drew)) (by rw [(hadd x).1, (hadd x).2]; exact hroom)
  rw [(hadd x).1] at h2
  have h3 := Did.compose ho1 hF1 h2
  cases u
  · exact h3
  · exact h3

set_option linter.unusedSimpArgs false in
set_option maxRecDepth 100000 in
set_option maxHeartbeats 4000000 in
theorem append_is {b : Nat} {S : St} {lv : Value} {fs : List FV} (tg : ByteArray) (pv : Value) (x : List UInt8) (w : World) (h : StoreIs w b S lv fs) (ha : S.armed ≤ 4611686018427387904) (hs : tg.size ≤ 4611686018427387904)
    (hp : Arg w (foot b lv fs) pv x.length (by8 x)) :
    Calls Tryz.prog 59 #[.pointer (some ⟨b, 0, none⟩), .string tg, pv] w
      fun e w' => e = .returned (.int .i64 (S.append tg.toList x).1) ∧ Did w b (foot b lv fs) (S.append tg.toList x).2 w' := by
  obtain ⟨pa, pc, rfl, hpl, hpm⟩ := hp.shape
  obtain ⟨q, hq⟩ : ∃ q, q = S.look tg.toList := ⟨_, rfl⟩
  have HQ : Hid (q = S.look tg.toList) := hq
  have H : Hid (StoreIs w b S lv fs) := h
  go_enter Tryz.func59, Tryz.ntmps59
  go_wp2_with fail
  refine (look_is tg w hs H.out).mono ?_
  rintro e w' ⟨rfl, rfl⟩
  rw [← hq]
  by_cases h0 : q = 0
  · subst h0
    clear hq
    go_wp2_with fail
    refine (find_is tg w H.out).mono ?_
    rintro e w1 ⟨rfl, hx1⟩
    have HX1 : Hid (Ext w w1) := hx1
    obtain ⟨r, hr⟩ : ∃ r, r = pos (fs.map (·.g)) tg.toList := ⟨_, rfl⟩
    have HR : Hid (r = pos (fs.map (·.g)) tg.toList) := hr
    rw [← hr]
    obtain ⟨u, hu⟩ : ∃ u, u = has (fs.map (·.g)) tg.toList := ⟨_, rfl⟩
    have HU : Hid (u = has (fs.map (·.g)) tg.toList) := hu
    rw [← hu]
    clear hr hu hx1
    have h1 := H.out.keep HX1.out fun _ _ => id
    have H1 : Hid (StoreIs w1 b S lv fs) := h1
    obtain ⟨ops, _, c0, c1, c2, c3, c4⟩ := h1.cell
    obtain ⟨a0, cap0, hlv, hcap, hcm⟩ := owns_shape h1.row
    subst hlv
    have hcnt := h1.count
    clear h1
    have hmax := h.wf.room
    have hmax2 := h.wf.roomMax
    have hus : IntKind.i64.wrap ((S.room : Int) - (used S.l : Int)) = (S.room : Int) - used S.l := by rw [IntKind.wrap_i64]; omega
    have HCALL : ∀ wx, Ext w wx → Calls Tryz.prog 79 #[.pointer (some ⟨b, 0, none⟩)] wx fun e w' => e = .returned (.int .i64 (used S.l)) ∧ Ext wx w' := fun wx hx => used_is wx (H.out.keep hx fun _ _ => id)
    go_upto_region 5 with fail
    go_cut [44] (fun v wx => v = .bool (decide (S.room < used S.l + x.length) || (!u && decide (500 ≤ fs.length))) ∧ Ext w wx)
    case first =>
      have h1 : Ext w w1 := HX1.out
      by_cases hf1 : S.room < used S.l + x.length
      · have cb : decide ((S.room : Int) - (used S.l : Int) < (x.length : Int)) = true := decide_eq_true (by omega)
        refine wp_region_held_drew (S := fun w' => w'.cell? ⟨b, 0, none⟩ = some (.slice a0 fs.length cap0) ∧ w'.cell? ⟨b, 1, none⟩ = some (.int .i64 S.room) ∧ Ext w w') (by kernel_rfl) ⟨c0, c1, h1.drew⟩ (fun hHeld => ?_)
        refine wpAnyH_take (i := 0) (v := ?_) rfl (by kernel_rfl) (by kernel_rfl) (by kernel_rfl) (fun _ _ _ h => h) (Or.inl ⟨by rfl, ?_⟩) hHeld ?_
        rotate_left
        · intro w hSw; go_split_ands; go_simp; with_reducible rfl
        simp only [Act.put, List.setIfInBounds_toArray, List.set_cons_zero, List.set_cons_succ]
        refine wpAnyH_take (i := 1) (v := ?_) rfl (by kernel_rfl) (by kernel_rfl) (by kernel_rfl) (fun _ _ _ h => h) (Or.inl ⟨by rfl, ?_⟩) hHeld ?_
        rotate_left
        · intro w hSw; go_split_ands; go_simp; with_reducible rfl
        simp only [Act.put, List.setIfInBounds_toArray, List.set_cons_zero, List.set_cons_succ]
        refine wpAnyH_take (i := 2) (v := ?_) rfl (by kernel_rfl) (by kernel_rfl) (by kernel_rfl) (fun _ _ _ h => h) (Or.inl ⟨by rfl, ?_⟩) hHeld ?_
        rotate_left
        · intro w hSw; go_split_ands; go_simp; with_reducible rfl
        simp only [Act.put, List.setIfInBounds_toArray, List.set_cons_zero, List.set_cons_succ]
        refine wpAnyH_take (i := 3) (v := ?_) rfl (by kernel_rfl) (by kernel_rfl) (by kernel_rfl) (fun _ _ _ h => h) (Or.inl ⟨by rfl, ?_⟩) hHeld ?_
        rotate_left
        · intro w hSw; go_split_ands; go_simp; with_reducible rfl
        simp only [Act.put, List.setIfInBounds_toArray, List.set_cons_zero, List.set_cons_succ]
        refine wpAnyH_take (i := 4) (v := ?_) rfl (by kernel_rfl) (by kernel_rfl) (by kernel_rfl) (fun _ _ _ h => h) (Or.inl ⟨by rfl, ?_⟩) hHeld ?_
        rotate_left
        · intro w hSw; go_split_ands; go_simp; with_reducible rfl
        simp only [Act.put, List.setIfInBounds_toArray, List.set_cons_zero, List.set_cons_succ]
        refine wpAnyH_take (i := 5) (v := ?_) rfl (by kernel_rfl) (by kernel_rfl) (by kernel_rfl) (fun _ _ _ h => h) (Or.inl ⟨by rfl, ?_⟩) hHeld ?_
        rotate_left
        · intro w hSw; go_split_ands; go_simp; with_reducible rfl
        simp only [Act.put, List.setIfInBounds_toArray, List.set_cons_zero, List.set_cons_succ]
        refine wpAnyH_take (i := 6) (v := ?_) rfl (by kernel_rfl) (by kernel_rfl) (by kernel_rfl) (fun _ _ _ h => h) (Or.inl ⟨by rfl, ?_⟩) hHeld ?_
        rotate_left
        · intro w hSw; go_split_ands; go_simp; with_reducible rfl
        simp only [Act.put, List.setIfInBounds_toArray, List.set_cons_zero, List.set_cons_succ]
        refine wpAnyH_ready (rs := [7]) (by kernel_rfl) (by simp) ?_
        refine AllReadyH.cons rfl (fun K hK => ?_) AllReadyH.nil
        go_simp
        go_at_call 79
        refine (HCALL _ hHeld.2.2).mono ?_
        rintro e w2 ⟨rfl, hx2⟩
        go_wp2_with fail
        refine hK.out _ _ ⟨hx2.cell hHeld.1, hx2.cell hHeld.2.1, hHeld.2.2.thenExt hx2⟩ (fun hHeld => ?_)
        clear hK
        refine wpAnyH_take (i := 8) (v := ?_) rfl (by kernel_rfl) (by kernel_rfl) (by kernel_rfl) (fun _ _ _ h => h) (Or.inl ⟨by rfl, ?_⟩) hHeld ?_
        rotate_left
        · intro w hSw; go_split_ands; go_simp; with_reducible rfl
        simp only [Act.put, List.setIfInBounds_toArray, List.set_cons_zero, List.set_cons_succ]
        refine wpAnyH_take (i := 9) (v := ?_) rfl (by kernel_rfl) (by kernel_rfl) (by kernel_rfl) (fun _ _ _ h => h) (Or.inl ⟨by rfl, ?_⟩) hHeld ?_
        rotate_left
        · intro w hSw; go_split_ands; go_simp; with_reducible rfl
        simp only [Act.put, List.setIfInBounds_toArray, List.set_cons_zero, List.set_cons_succ]
        refine wpAnyH_take (i := 10) (v := ?_) rfl (by kernel_rfl) (by kernel_rfl) (by kernel_rfl) (fun _ _ _ h => h) (Or.inl ⟨by rfl, ?_⟩) hHeld ?_
        rotate_left
        · intro w hSw; go_split_ands; go_simp; with_reducible rfl
        simp only [Act.put, List.setIfInBounds_toArray, List.set_cons_zero, List.set_cons_succ]
        refine wpAnyH_ready (rs := [11]) (by kernel_rfl) (by simp) ?_
        refine AllReadyH.cons rfl (fun K hK => ?_) AllReadyH.nil
        go_split_ands
        go_simp
        refine hK.out _ _ ⟨by assumption, by assumption, by assumption⟩ (fun hHeld => ?_)
        clear hK
        refine wpAnyH_ready (rs := [12]) (by kernel_rfl) (by simp) ?_
        refine AllReadyH.cons rfl (fun K hK => ?_) AllReadyH.nil
        go_split_ands
        go_simp
        refine hK.out _ _ ⟨by assumption, by assumption, by assumption⟩ (fun hHeld => ?_)
        clear hK
        refine wpAnyH_ready (rs := [13]) (by kernel_rfl) (by simp) ?_
        refine AllReadyH.cons rfl (fun K hK => ?_) AllReadyH.nil
        go_split_ands
        go_simp
        refine hK.out _ _ ⟨by assumption, by assumption, by assumption⟩ (fun hHeld => ?_)
        clear hK
        refine wpAnyH_ready (rs := [14]) (by kernel_rfl) (by simp) ?_
        refine AllReadyH.cons rfl (fun K hK => ?_) AllReadyH.nil
        go_split_ands
        go_simp
        refine hK.out _ _ ⟨by assumption, by assumption, by assumption⟩ (fun hHeld => ?_)
        clear hK
        refine wpAnyH_ready (rs := [15]) (by kernel_rfl) (by simp) ?_
        refine AllReadyH.cons rfl (fun K hK => ?_) AllReadyH.nil
        go_split_ands
        go_simp
        refine hK.out _ _ ⟨by assumption, by assumption, by assumption⟩ (fun hHeld => ?_)
        clear hK
        refine wpAnyH_ready (rs := [16]) (by kernel_rfl) (by simp) ?_
        refine AllReadyH.cons rfl (fun K hK => ?_) AllReadyH.nil
        go_split_ands
        go_simp
        refine hK.out _ _ ⟨by assumption, by assumption, by assumption⟩ (fun hHeld => ?_)
        clear hK
        refine wpAnyH_ready (rs := [17]) (by kernel_rfl) (by simp) ?_
        refine AllReadyH.cons rfl (fun K hK => ?_) AllReadyH.nil
        go_split_ands
        go_simp
        refine hK.out _ _ ⟨by assumption, by assumption, by assumption⟩ (fun hHeld => ?_)
        clear hK
        refine wpAnyH_ready (rs := [18]) (by kernel_rfl) (by simp) ?_
        refine AllReadyH.cons rfl (fun K hK => ?_) AllReadyH.nil
        go_split_ands
        go_simp
        refine hK.out _ _ ⟨by assumption, by assumption, by assumption⟩ (fun hHeld => ?_)
        clear hK
        refine wpAnyH_ready (rs := [19]) (by kernel_rfl) (by simp) ?_
        refine AllReadyH.cons rfl (fun K hK => ?_) AllReadyH.nil
        go_split_ands
        go_simp
        refine hK.out _ _ ⟨by assumption, by assumption, by assumption⟩ (fun hHeld => ?_)
        clear hK
        refine wpAnyH_ready (rs := [20]) (by kernel_rfl) (by simp) ?_
        refine AllReadyH.cons rfl (fun K hK => ?_) AllReadyH.nil
        go_split_ands
        go_simp
        refine hK.out _ _ ⟨by assumption, by assumption, by assumption⟩ (fun hHeld => ?_)
        clear hK
        refine wpAnyH_ready (rs := [21]) (by kernel_rfl) (by simp) ?_
        refine AllReadyH.cons rfl (fun K hK => ?_) AllReadyH.nil
        go_split_ands
        go_simp
        refine hK.out _ _ ⟨by assumption, by assumption, by assumption⟩ (fun hHeld => ?_)
        clear hK
        refine wpAnyH_done (by kernel_rfl) ?_ _
        go_wp2_with fail
        go_meet
        exact ⟨by simp [hf1] <;> omega, hHeld.2.2⟩
      · have cb : decide ((S.room : Int) - (used S.l : Int) < (x.length : Int)) = false := decide_eq_false (by omega)
        cases u
        · --C
          refine wp_region_held_drew (S := fun w' => w'.cell? ⟨b, 0, none⟩ = some (.slice a0 fs.length cap0) ∧ w'.cell? ⟨b, 1, none⟩ = some (.int .i64 S.room) ∧ Ext w w') (by kernel_rfl) ⟨c0, c1, h1.drew⟩ (fun hHeld => ?_)
          refine wpAnyH_take (i := 0) (v := ?_) rfl (by kernel_rfl) (by kernel_rfl) (by kernel_rfl) (fun _ _ _ h => h) (Or.inl ⟨by rfl, ?_⟩) hHeld ?_
          rotate_left
          · intro w hSw; go_split_ands; go_simp; with_reducible rfl
          simp only [Act.put, List.setIfInBounds_toArray, List.set_cons_zero, List.set_cons_succ]
          refine wpAnyH_take (i := 1) (v := ?_) rfl (by kernel_rfl) (by kernel_rfl) (by kernel_rfl) (fun _ _ _ h => h) (Or.inl ⟨by rfl, ?_⟩) hHeld ?_
          rotate_left
          · intro w hSw; go_split_ands; go_simp; with_reducible rfl
          simp only [Act.put, List.setIfInBounds_toArray, List.set_cons_zero, List.set_cons_succ]
          refine wpAnyH_take (i := 2) (v := ?_) rfl (by kernel_rfl) (by kernel_rfl) (by kernel_rfl) (fun _ _ _ h => h) (Or.inl ⟨by rfl, ?_⟩) hHeld ?_
          rotate_left
          · intro w hSw; go_split_ands; go_simp; with_reducible rfl
          simp only [Act.put, List.setIfInBounds_toArray, List.set_cons_zero, List.set_cons_succ]
          refine wpAnyH_take (i := 3) (v := ?_) rfl (by kernel_rfl) (by kernel_rfl) (by kernel_rfl) (fun _ _ _ h => h) (Or.inl ⟨by rfl, ?_⟩) hHeld ?_
          rotate_left
          · intro w hSw; go_split_ands; go_simp; with_reducible rfl
          simp only [Act.put, List.setIfInBounds_toArray, List.set_cons_zero, List.set_cons_succ]
          refine wpAnyH_take (i := 4) (v := ?_) rfl (by kernel_rfl) (by kernel_rfl) (by kernel_rfl) (fun _ _ _ h => h) (Or.inl ⟨by rfl, ?_⟩) hHeld ?_
          rotate_left
          · intro w hSw; go_split_ands; go_simp; with_reducible rfl
          simp only [Act.put, List.setIfInBounds_toArray, List.set_cons_zero, List.set_cons_succ]
          refine wpAnyH_take (i := 5) (v := ?_) rfl (by kernel_rfl) (by kernel_rfl) (by kernel_rfl) (fun _ _ _ h => h) (Or.inl ⟨by rfl, ?_⟩) hHeld ?_
          rotate_left
          · intro w hSw; go_split_ands; go_simp; with_reducible rfl
          simp only [Act.put, List.setIfInBounds_toArray, List.set_cons_zero, List.set_cons_succ]
          refine wpAnyH_take (i := 6) (v := ?_) rfl (by kernel_rfl) (by kernel_rfl) (by kernel_rfl) (fun _ _ _ h => h) (Or.inl ⟨by rfl, ?_⟩) hHeld ?_
          rotate_left
          · intro w hSw; go_split_ands; go_simp; with_reducible rfl
          simp only [Act.put, List.setIfInBounds_toArray, List.set_cons_zero, List.set_cons_succ]
          refine wpAnyH_ready (rs := [7]) (by kernel_rfl) (by simp) ?_
          refine AllReadyH.cons rfl (fun K hK => ?_) AllReadyH.nil
          go_simp
          go_at_call 79
          refine (HCALL _ hHeld.2.2).mono ?_
          rintro e w2 ⟨rfl, hx2⟩
          go_wp2_with fail
          refine hK.out _ _ ⟨hx2.cell hHeld.1, hx2.cell hHeld.2.1, hHeld.2.2.thenExt hx2⟩ (fun hHeld => ?_)
          clear hK
          refine wpAnyH_take (i := 8) (v := ?_) rfl (by kernel_rfl) (by kernel_rfl) (by kernel_rfl) (fun _ _ _ h => h) (Or.inl ⟨by rfl, ?_⟩) hHeld ?_
          rotate_left
          · intro w hSw; go_split_ands; go_simp; with_reducible rfl
          simp only [Act.put, List.setIfInBounds_toArray, List.set_cons_zero, List.set_cons_succ]
          refine wpAnyH_take (i := 9) (v := ?_) rfl (by kernel_rfl) (by kernel_rfl) (by kernel_rfl) (fun _ _ _ h => h) (Or.inl ⟨by rfl, ?_⟩) hHeld ?_
          rotate_left
          · intro w hSw; go_split_ands; go_simp; with_reducible rfl
          simp only [Act.put, List.setIfInBounds_toArray, List.set_cons_zero, List.set_cons_succ]
          refine wpAnyH_take (i := 10) (v := ?_) rfl (by kernel_rfl) (by kernel_rfl) (by kernel_rfl) (fun _ _ _ h => h) (Or.inl ⟨by rfl, ?_⟩) hHeld ?_
          rotate_left
          · intro w hSw; go_split_ands; go_simp; with_reducible rfl
          simp only [Act.put, List.setIfInBounds_toArray, List.set_cons_zero, List.set_cons_succ]
          refine wpAnyH_ready (rs := [11]) (by kernel_rfl) (by simp) ?_
          refine AllReadyH.cons rfl (fun K hK => ?_) AllReadyH.nil
          go_split_ands
          go_simp
          refine hK.out _ _ ⟨by assumption, by assumption, by assumption⟩ (fun hHeld => ?_)
          clear hK
          refine wpAnyH_ready (rs := [12]) (by kernel_rfl) (by simp) ?_
          refine AllReadyH.cons rfl (fun K hK => ?_) AllReadyH.nil
          go_split_ands
          go_simp
          refine hK.out _ _ ⟨by assumption, by assumption, by assumption⟩ (fun hHeld => ?_)
          clear hK
          refine wpAnyH_ready (rs := [13]) (by kernel_rfl) (by simp) ?_
          refine AllReadyH.cons rfl (fun K hK => ?_) AllReadyH.nil
          go_split_ands
          go_simp
          refine hK.out _ _ ⟨by assumption, by assumption, by assumption⟩ (fun hHeld => ?_)
          clear hK
          refine wpAnyH_ready (rs := [14]) (by kernel_rfl) (by simp) ?_
          refine AllReadyH.cons rfl (fun K hK => ?_) AllReadyH.nil
          go_split_ands
          go_simp
          refine hK.out _ _ ⟨by assumption, by assumption, by assumption⟩ (fun hHeld => ?_)
          clear hK
          refine wpAnyH_ready (rs := [15]) (by kernel_rfl) (by simp) ?_
          refine AllReadyH.cons rfl (fun K hK => ?_) AllReadyH.nil
          go_split_ands
          go_simp
          refine hK.out _ _ ⟨by assumption, by assumption, by assumption⟩ (fun hHeld => ?_)
          clear hK
          refine wpAnyH_ready (rs := [16]) (by kernel_rfl) (by simp) ?_
          refine AllReadyH.cons rfl (fun K hK => ?_) AllReadyH.nil
          go_split_ands
          go_simp
          refine hK.out _ _ ⟨by assumption, by assumption, by assumption⟩ (fun hHeld => ?_)
          clear hK
          refine wpAnyH_ready (rs := [17]) (by kernel_rfl) (by simp) ?_
          refine AllReadyH.cons rfl (fun K hK => ?_) AllReadyH.nil
          go_split_ands
          go_simp
          refine hK.out _ _ ⟨by assumption, by assumption, by assumption⟩ (fun hHeld => ?_)
          clear hK
          refine wpAnyH_ready (rs := [18]) (by kernel_rfl) (by simp) ?_
          refine AllReadyH.cons rfl (fun K hK => ?_) AllReadyH.nil
          go_split_ands
          go_simp
          refine hK.out _ _ ⟨by assumption, by assumption, by assumption⟩ (fun hHeld => ?_)
          clear hK
          refine wpAnyH_ready (rs := [19]) (by kernel_rfl) (by simp) ?_
          refine AllReadyH.cons rfl (fun K hK => ?_) AllReadyH.nil
          go_split_ands
          go_simp
          refine hK.out _ _ ⟨by assumption, by assumption, by assumption⟩ (fun hHeld => ?_)
          clear hK
          refine wpAnyH_ready (rs := [20]) (by kernel_rfl) (by simp) ?_
          refine AllReadyH.cons rfl (fun K hK => ?_) AllReadyH.nil
          go_split_ands
          go_simp
          refine hK.out _ _ ⟨by assumption, by assumption, by assumption⟩ (fun hHeld => ?_)
          clear hK
          refine wpAnyH_ready (rs := [21]) (by kernel_rfl) (by simp) ?_
          refine AllReadyH.cons rfl (fun K hK => ?_) AllReadyH.nil
          go_split_ands
          go_simp
          refine hK.out _ _ ⟨by assumption, by assumption, by assumption⟩ (fun hHeld => ?_)
          clear hK
          refine wpAnyH_done (by kernel_rfl) ?_ _
          go_wp2_with fail
          go_meet
          exact ⟨by simp [hf1] <;> omega, hHeld.2.2⟩
        · --B
          refine wp_region_held_drew (S := fun w' => w'.cell? ⟨b, 0, none⟩ = some (.slice a0 fs.length cap0) ∧ w'.cell? ⟨b, 1, none⟩ = some (.int .i64 S.room) ∧ Ext w w') (by kernel_rfl) ⟨c0, c1, h1.drew⟩ (fun hHeld => ?_)
          refine wpAnyH_take (i := 0) (v := ?_) rfl (by kernel_rfl) (by kernel_rfl) (by kernel_rfl) (fun _ _ _ h => h) (Or.inl ⟨by rfl, ?_⟩) hHeld ?_
          rotate_left
          · intro w hSw; go_split_ands; go_simp; with_reducible rfl
          simp only [Act.put, List.setIfInBounds_toArray, List.set_cons_zero, List.set_cons_succ]
          refine wpAnyH_take (i := 1) (v := ?_) rfl (by kernel_rfl) (by kernel_rfl) (by kernel_rfl) (fun _ _ _ h => h) (Or.inl ⟨by rfl, ?_⟩) hHeld ?_
          rotate_left
          · intro w hSw; go_split_ands; go_simp; with_reducible rfl
          simp only [Act.put, List.setIfInBounds_toArray, List.set_cons_zero, List.set_cons_succ]
          refine wpAnyH_take (i := 2) (v := ?_) rfl (by kernel_rfl) (by kernel_rfl) (by kernel_rfl) (fun _ _ _ h => h) (Or.inl ⟨by rfl, ?_⟩) hHeld ?_
          rotate_left
          · intro w hSw; go_split_ands; go_simp; with_reducible rfl
          simp only [Act.put, List.setIfInBounds_toArray, List.set_cons_zero, List.set_cons_succ]
          refine wpAnyH_take (i := 3) (v := ?_) rfl (by kernel_rfl) (by kernel_rfl) (by kernel_rfl) (fun _ _ _ h => h) (Or.inl ⟨by rfl, ?_⟩) hHeld ?_
          rotate_left
          · intro w hSw; go_split_ands; go_simp; with_reducible rfl
          simp only [Act.put, List.setIfInBounds_toArray, List.set_cons_zero, List.set_cons_succ]
          refine wpAnyH_take (i := 4) (v := ?_) rfl (by kernel_rfl) (by kernel_rfl) (by kernel_rfl) (fun _ _ _ h => h) (Or.inl ⟨by rfl, ?_⟩) hHeld ?_
          rotate_left
          · intro w hSw; go_split_ands; go_simp; with_reducible rfl
          simp only [Act.put, List.setIfInBounds_toArray, List.set_cons_zero, List.set_cons_succ]
          refine wpAnyH_take (i := 5) (v := ?_) rfl (by kernel_rfl) (by kernel_rfl) (by kernel_rfl) (fun _ _ _ h => h) (Or.inl ⟨by rfl, ?_⟩) hHeld ?_
          rotate_left
          · intro w hSw; go_split_ands; go_simp; with_reducible rfl
          simp only [Act.put, List.setIfInBounds_toArray, List.set_cons_zero, List.set_cons_succ]
          refine wpAnyH_take (i := 6) (v := ?_) rfl (by kernel_rfl) (by kernel_rfl) (by kernel_rfl) (fun _ _ _ h => h) (Or.inl ⟨by rfl, ?_⟩) hHeld ?_
          rotate_left
          · intro w hSw; go_split_ands; go_simp; with_reducible rfl
          simp only [Act.put, List.setIfInBounds_toArray, List.set_cons_zero, List.set_cons_succ]
          refine wpAnyH_ready (rs := [7]) (by kernel_rfl) (by simp) ?_
          refine AllReadyH.cons rfl (fun K hK => ?_) AllReadyH.nil
          go_simp
          go_at_call 79
          refine (HCALL _ hHeld.2.2).mono ?_
          rintro e w2 ⟨rfl, hx2⟩
          go_wp2_with fail
          refine hK.out _ _ ⟨hx2.cell hHeld.1, hx2.cell hHeld.2.1, hHeld.2.2.thenExt hx2⟩ (fun hHeld => ?_)
          clear hK
          refine wpAnyH_take (i := 8) (v := ?_) rfl (by kernel_rfl) (by kernel_rfl) (by kernel_rfl) (fun _ _ _ h => h) (Or.inl ⟨by rfl, ?_⟩) hHeld ?_
          rotate_left
          · intro w hSw; go_split_ands; go_simp; with_reducible rfl
          simp only [Act.put, List.setIfInBounds_toArray, List.set_cons_zero, List.set_cons_succ]
          refine wpAnyH_take (i := 9) (v := ?_) rfl (by kernel_rfl) (by kernel_rfl) (by kernel_rfl) (fun _ _ _ h => h) (Or.inl ⟨by rfl, ?_⟩) hHeld ?_
          rotate_left
          · intro w hSw; go_split_ands; go_simp; with_reducible rfl
          simp only [Act.put, List.setIfInBounds_toArray, List.set_cons_zero, List.set_cons_succ]
          refine wpAnyH_take (i := 10) (v := ?_) rfl (by kernel_rfl) (by kernel_rfl) (by kernel_rfl) (fun _ _ _ h => h) (Or.inl ⟨by rfl, ?_⟩) hHeld ?_
          rotate_left
          · intro w hSw; go_split_ands; go_simp; with_reducible rfl
          simp only [Act.put, List.setIfInBounds_toArray, List.set_cons_zero, List.set_cons_succ]
          refine wpAnyH_ready (rs := [11]) (by kernel_rfl) (by simp) ?_
          refine AllReadyH.cons rfl (fun K hK => ?_) AllReadyH.nil
          go_split_ands
          go_simp
          refine hK.out _ _ ⟨by assumption, by assumption, by assumption⟩ (fun hHeld => ?_)
          clear hK
          refine wpAnyH_ready (rs := [12]) (by kernel_rfl) (by simp) ?_
          refine AllReadyH.cons rfl (fun K hK => ?_) AllReadyH.nil
          go_split_ands
          go_simp
          refine hK.out _ _ ⟨by assumption, by assumption, by assumption⟩ (fun hHeld => ?_)
          clear hK
          refine wpAnyH_ready (rs := [13]) (by kernel_rfl) (by simp) ?_
          refine AllReadyH.cons rfl (fun K hK => ?_) AllReadyH.nil
          go_split_ands
          go_simp
          refine hK.out _ _ ⟨by assumption, by assumption, by assumption⟩ (fun hHeld => ?_)
          clear hK
          refine wpAnyH_ready (rs := [14]) (by kernel_rfl) (by simp) ?_
          refine AllReadyH.cons rfl (fun K hK => ?_) AllReadyH.nil
          go_split_ands
          go_simp
          refine hK.out _ _ ⟨by assumption, by assumption, by assumption⟩ (fun hHeld => ?_)
          clear hK
          refine wpAnyH_ready (rs := [15]) (by kernel_rfl) (by simp) ?_
          refine AllReadyH.cons rfl (fun K hK => ?_) AllReadyH.nil
          go_split_ands
          go_simp
          refine hK.out _ _ ⟨by assumption, by assumption, by assumption⟩ (fun hHeld => ?_)
          clear hK
          refine wpAnyH_ready (rs := [16]) (by kernel_rfl) (by simp) ?_
          refine AllReadyH.cons rfl (fun K hK => ?_) AllReadyH.nil
          go_split_ands
          go_simp
          refine hK.out _ _ ⟨by assumption, by assumption, by assumption⟩ (fun hHeld => ?_)
          clear hK
          refine wpAnyH_ready (rs := [17]) (by kernel_rfl) (by simp) ?_
          refine AllReadyH.cons rfl (fun K hK => ?_) AllReadyH.nil
          go_split_ands
          go_simp
          refine hK.out _ _ ⟨by assumption, by assumption, by assumption⟩ (fun hHeld => ?_)
          clear hK
          refine wpAnyH_ready (rs := [18]) (by kernel_rfl) (by simp) ?_
          refine AllReadyH.cons rfl (fun K hK => ?_) AllReadyH.nil
          go_split_ands
          go_simp
          refine hK.out _ _ ⟨by assumption, by assumption, by assumption⟩ (fun hHeld => ?_)
          clear hK
          refine wpAnyH_ready (rs := [19]) (by kernel_rfl) (by simp) ?_
          refine AllReadyH.cons rfl (fun K hK => ?_) AllReadyH.nil
          go_split_ands
          go_simp
          refine hK.out _ _ ⟨by assumption, by assumption, by assumption⟩ (fun hHeld => ?_)
          clear hK
          refine wpAnyH_ready (rs := [20]) (by kernel_rfl) (by simp) ?_
          refine AllReadyH.cons rfl (fun K hK => ?_) AllReadyH.nil
          go_split_ands
          go_simp
          refine hK.out _ _ ⟨by assumption, by assumption, by assumption⟩ (fun hHeld => ?_)
          clear hK
          refine wpAnyH_ready (rs := [21]) (by kernel_rfl) (by simp) ?_
          refine AllReadyH.cons rfl (fun K hK => ?_) AllReadyH.nil
          go_split_ands
          go_simp
          refine hK.out _ _ ⟨by assumption, by assumption, by assumption⟩ (fun hHeld => ?_)
          clear hK
          refine wpAnyH_done (by kernel_rfl) ?_ _
          go_wp2_with fail
          go_meet
          exact ⟨by simp [hf1] <;> omega, hHeld.2.2⟩
    case rest =>
      obtain ⟨rfl, hxc⟩ := hcut
      obtain ⟨fl, hfl⟩ : ∃ fl, fl = (decide (S.room < used S.l + x.length) || (!u && decide (500 ≤ fs.length))) := ⟨_, rfl⟩
      have HFL : Hid (fl = S.full tg.toList x) := by
        show fl = _
        rw [hfl, St.full, H.out.files, List.length_map, ← HU.out]
      rw [← hfl]
      have HXC : Hid (Ext w wc) := hxc
      clear hfl hus hxc c0 c1 c2 c3 c4
      cases fl
      · have hc : S.append tg.toList x = (if S.begin.off then 9 else 0, { S.begin with l := addTo S.l tg.toList x }) := by simp only [St.append, ← HQ.out, ← HFL.out]; rfl
        have HC : Hid (S.append tg.toList x = (if S.begin.off then 9 else 0, { S.begin with l := addTo S.l tg.toList x })) := hc
        clear hc
        go_wp2_with fail
        refine (begin_is wc (H.out.keep HXC.out fun _ _ => id) ha).mono ?_
        rintro e w2 ⟨rfl, hb2, ho2⟩
        have HB2 : Hid (StoreIs w2 b S.begin (.slice a0 fs.length cap0) fs) := hb2
        have HO2 : Hid (Only (fun q => q = b) w w2) := (HXC.out.mono fun _ _ h => h.elim).trans ho2 fun _ _ h => h
        obtain ⟨o, ho⟩ : ∃ o, o = S.begin.off := ⟨_, rfl⟩
        have HOF : Hid (o = S.begin.off) := ho
        rw [← ho]
        clear ho hb2 ho2
        go_upto_if 48 with fail
        go_cut [] (fun wx => Did w b (foot b (.slice a0 fs.length cap0) fs) (S.begin.laid tg.toList u) wx)
        case first =>
          cases u
          · obtain ⟨ops2, _, c0, _⟩ := HB2.out.cell
            have f0 := HB2.out.free 0
            have hsd := H.out.wf.sorted
            have hle := pos_le (fs.map (·.g)) tg.toList
            rw [List.length_map, ← HR.out] at hle
            have hlt5 : S.l.length < 500 := by
              have h5 := HFL.out
              rw [St.full, H.out.files, ← HU.out] at h5
              rw [H.out.files]
              have h6 := (Bool.or_eq_false_iff.1 h5.symm).2
              simpa using h6
            have HLT : Hid (S.l.length < 500) := hlt5
            clear hlt5 hsd
            go_wp2_with fail
            refine (insert_any (f := ⟨⟨tg.toList, [], 0⟩, .slice none 0 0⟩) (fs := fs) _ rfl (owns_ext HB2.out.row ((Only.refl _ _).alloc _)) hcnt hle
              (by rw [Go.heap_alloc_new]; simp [FV.cells, mk_toList]) (fun k hk e => by have := HB2.out.lt k (by simp [foot, hk]); omega) ⟨_, _, _, rfl⟩ HB2.out.one).mono ?_
            rintro e w5 ⟨⟨v5, rfl, hown5, hfr5⟩, ho5⟩
            obtain ⟨a5, c5, rfl, _, _⟩ := owns_shape hown5
            have hbg : (Value.slice a0 fs.length cap0).ownBlock ≠ some b := fun e => by
              have hap := HB2.out.apart
              simp only [foot, List.nodup_cons, List.mem_append, Option.mem_toList, not_or] at hap
              exact hap.1.1 e
            have hbw := HB2.out.lt b (foot_mem_b _ _ _)
            have d0 := Only.cell ho5 (Ext.cell ((Only.refl (fun _ => False) w2).alloc _) c0) hbg
            have d1 := (World.frozen?_of_block (ho5.block b (Nat.lt_of_lt_of_le hbw ((Only.refl (fun _ => False) w2).alloc _).size) hbg)).trans ((World.frozen?_of_block (((Only.refl (fun _ => False) w2).alloc _).block b hbw id)).trans f0)
            go_wp2_with fail
            go_meet
            have hpr : pos S.begin.l tg.toList = r := by rw [St.begin_l, H.out.files, HR.out]
            refine (app_ins HB2.out (by rw [St.begin_l, H.out.files]; exact HU.out.symm) rfl (by rw [St.begin_l]; exact HLT.out) (form_len (look_zero HQ.out.symm).1) ?_ hfr5 ho5).after (HO2.out.mono fun q _ hq => hq ▸ foot_mem_b _ _ _)
            rw [hpr]
            exact hown5
          · go_wp2_with fail
            go_meet
            exact (HB2.out.did (Only.refl _ _)).after (HO2.out.mono fun q _ hq => hq ▸ foot_mem_b _ _ _)
        case rest =>
          obtain ⟨F1, ⟨lv1, fs1, h1, rfl⟩, ho1, hF1⟩ := hcut
          have hm := app_mid H.out HU.out HR.out h1
          have hwf1 := h1.wf.roomMax
          have hft := form_len (look_zero HQ.out.symm).1
          obtain ⟨f2, hf2, hnm2, hadd⟩ := hm
          rcases h1.lv with ⟨rfl, rfl⟩ | ⟨g, cap, rfl, hcap1, hcm1⟩
          · simp at hf2
          obtain ⟨ops3, _, c0, _⟩ := h1.cell
          obtain ⟨y0, y1, y2⟩ := h1.rowAt rfl r f2 hf2
          have hrlt : r < fs1.length := (List.getElem?_eq_some_iff.1 hf2).1
          have hrow1 := h1.row
          have z1 : wc.frozen? ⟨g, r * 3 + 1, none⟩ = false := hrow1.frozenAt _
          have hown2 := h1.bytes f2 (List.mem_of_getElem? hf2)
          obtain ⟨pa2, pc2, hpv2, _, _⟩ := owns_shape hown2
          rw [hpv2] at y1 hown2
          have hused : used S.l + x.length ≤ S.room := by
            have h5 := HFL.out
            rw [St.full] at h5
            have h6 := (Bool.or_eq_false_iff.1 h5.symm).1
            have h7 := of_decide_eq_false h6
            omega
          have hup : f2.g.p.length ≤ S.room := by
            have h5 := used_mem (l := (S.begin.laid tg.toList u).l) (f := f2.g) (by rw [h1.files]; exact List.mem_map_of_mem (List.mem_of_getElem? hf2))
            have h6 := h1.wf.room
            have h7 : (S.begin.laid tg.toList u).room = S.room := by cases u <;> exact S.begin_room
            omega
          have hbf : f2.pv.ownBlock ≠ some b := fun e => by
            have hap := h1.apart
            simp only [foot, List.nodup_cons, List.mem_append, List.mem_filterMap, not_or] at hap
            exact hap.1.2 ⟨f2, List.mem_of_getElem? hf2, e⟩
          have hgf : f2.pv.ownBlock ≠ some g := fun e => by
            have hap := h1.apart
            simp only [foot, List.nodup_cons, List.nodup_append, List.mem_append, Option.mem_toList, Value.ownBlock, not_or, List.mem_filterMap] at hap
            exact hap.2.2.2 g rfl g ⟨f2, List.mem_of_getElem? hf2, e⟩ rfl
          rw [hpv2] at hbf hgf
          have hgw : g < wc.heap.size := h1.lt g foot_mem_g
          have HSRC : Hid (Src Tryz.prog 1 29 (.slice pa x.length pc) x.length (by8 x) wc.drew) := hp.src ho1.drew Tryz.underlying29 (by simp [by8_length]) (by8_one x)
          have HOWN : Hid (wc.drew.ownsRow 0 5 1 (.slice pa2 f2.g.p.length pc2) f2.g.p.length (by8 f2.g.p)) := owns_ext hown2 (Only.refl _ _).drew
          have HPV : Hid (f2.pv = .slice pa2 f2.g.p.length pc2) := hpv2
          have H1' : Hid (StoreIs wc b (S.begin.laid tg.toList u) (.slice (some ⟨g, 0, none⟩) fs1.length cap) fs1) := h1
          have HF2 : Hid (fs1[r]? = some f2) := hf2
          have HUS : Hid (used S.l + x.length ≤ S.room) := hused
          have HO1 : Hid (Only (fun k => k ∈ foot b (.slice a0 fs.length cap0) fs) w wc) := ho1
          have HADD : Hid (∀ x, (S.begin.laid tg.toList u).l.set r { f2.g with p := f2.g.p ++ x } = addTo S.l tg.toList x ∧ used (addTo S.l tg.toList x) = used S.l + x.length) := hadd
          have HFF : Hid (∀ k ∈ foot b (.slice (some ⟨g, 0, none⟩) fs1.length cap) fs1, k ∈ foot b (.slice a0 fs.length cap0) fs ∨ w.heap.size ≤ k) := hF1
          obtain ⟨i0, hi0, hz0, hz1, hz2⟩ := info_parts Tryz.infoB
          have hrm : r < 4611686018427387904 := by have := h1.count; omega
          have h63 : f2.g.p.length + x.length ≤ maxLen := by simp only [maxLen]; omega
          have H63 : Hid (f2.g.p.length + x.length ≤ maxLen) := h63
          have hby : (f2.g.p.length + x.length) * 1 ≤ 140737488355328 := by omega
          have HBY : Hid ((f2.g.p.length + x.length) * 1 ≤ 140737488355328) := hby
          clear h63 hby hpv2 h1 hf2 ho1 hadd hF1 hown2 hrow1 hwf1 hft hused hup hnm2 y0 y2 HCALL hcnt hmax hmax2 hp hpl hpm hcap hcm h H1
          go_wp2_with fail
          go_region_law
            (first | (refine step_append_any wc.drew rfl _ _ 29 29 rfl 5 i0 (.int .u8 0) 1 1 Tryz.underlying29 hi0 hz0 hz1 hz2 rfl _ _ (by8 f2.g.p) rfl HOWN.out _ rfl x.length (by8 x) HSRC.out H63.out HBY.out ?_; intro v' w' hap hz; have d0 := Only.cell hap.only c0 hbf; have d2 := Only.cell hap.only y1 hgf; have d1 := (World.frozen?_of_block (hap.only.block g hgw hgf)).trans z1; obtain ⟨a5, c5, rfl, _, _⟩ := owns_shape hap.owns))
          all_goals cases o
          all_goals go_wp2
          all_goals go_ret
          all_goals
            rw [HC.out]
            refine ⟨by show Ending.returned _ = .returned (.int .i64 (if S.begin.off = true then 9 else 0)); rw [← HOF.out]; rfl, app_fin H1'.out HF2.out HPV.out hap HADD.out (by have := H.out.wf.room; have h7 : (S.begin.laid tg.toList u).room = S.room := by { cases u <;> exact S.begin_room }; rw [h7]; exact HUS.out) HO1.out HFF.out⟩
      · have hc : S.append tg.toList x = (10, S) := by simp only [St.append, ← HQ.out, ← HFL.out]; rfl
        have HC : Hid (S.append tg.toList x = (10, S)) := hc
        clear hc
        go_wp2
        go_ret
        rw [HC.out]
        exact ⟨rfl, H.out.did HXC.out⟩
  · have HN : Hid (¬ q = 0) := h0
    have hq3 : q = 1 ∨ q = 9 := by rcases look_cases S tg.toList with h | h | h <;> omega
    have hc : S.append tg.toList x = (q, S) := by rw [HQ.out]; simp only [St.append]; rw [if_neg (by rw [← HQ.out]; exact h0)]
    have HC : Hid (S.append tg.toList x = (q, S)) := hc
    clear hc h0
    rcases hq3 with rfl | rfl
    all_goals
      clear hq
      go_wp2
      go_ret
      rw [HC.out]
      exact ⟨rfl, H.out.did (Only.refl _ _)⟩

end Go.Proofs.YteddohgdegggnaaGreatDoor
