/- What is shown here, as far as 'recover_is': contracts of the program's functions, and the plain laws that they lean on; conditions: each theorem's own hypotheses. -/
import Derived.Test.YteddohgdegggnaaGreatDoorPut2
namespace Go.HR
/-- Is a file of the k-th commit missing? -/
def Lacks (S : St) (k : Nat) : Prop := get? S.l (Nm.state k).name = none ∨ ∃ i, i < k ∧ get? S.l (Nm.out (i + 1)).name = none
open Classical in
/-- The number that Recover tells. -/
noncomputable def St.recCode (S : St) (k : Nat) : Int := if S.off then 9 else if (S.sweep k).1 = 0 then (if k = 0 then 0 else if Lacks S k then 3 else 0) else (S.sweep k).1
noncomputable def St.recSt (S : St) (k : Nat) : St := if S.off then S else (S.sweep k).2
theorem recCode_on {S : St} (ho : S.off = false) {k : Nat} (h : (S.sweep k).1 = 0) : (k = 0 → S.recCode k = 0) ∧ (k ≠ 0 → Lacks S k → S.recCode k = 3) ∧ (¬ Lacks S k → S.recCode k = 0) := by
  unfold St.recCode
  rw [ho, if_neg (by simp), if_pos h]
  refine ⟨fun h => by rw [if_pos h], fun h1 h2 => by rw [if_neg h1, if_pos h2], fun h2 => ?_⟩
  rw [if_neg h2]
  split <;> rfl
def flatN {α : Type} (ls : List (List α)) (j : Nat) : Nat := (ls.take j).flatten.length
def flatC (ls : List (List ChgG)) (j : Nat) : List Value := ((ls.take j).flatten.map ChgG.canon).flatMap ChgG.cells
theorem take_flat_len {α : Type} {ls : List (List α)} {m : Nat} (h : ∀ l ∈ ls, l.length ≤ m) : ∀ j, (ls.take j).flatten.length ≤ m * j := by
  intro j
  induction j with
  | zero => simp
  | succ j ih =>
    by_cases hlt : j < ls.length
    · rw [List.take_succ_eq_append_getElem hlt, List.flatten_append, List.length_append]
      have := h _ (List.getElem_mem hlt)
      simp only [List.flatten_cons, List.flatten_nil, List.append_nil]
      rw [Nat.mul_succ]
      omega
    · rw [List.take_of_length_le (by omega)] at ih ⊢
      rw [Nat.mul_succ]
      omega
theorem take_flat_succ {α : Type} {ls : List (List α)} {l : List α} {j : Nat} (h : ls[j]? = some l) : (ls.take (j + 1)).flatten = (ls.take j).flatten ++ l := by
  obtain ⟨hlt, he⟩ := List.getElem?_eq_some_iff.1 h
  rw [List.take_succ_eq_append_getElem hlt, List.flatten_append, he]
  simp
end Go.HR
namespace Go.Proofs.YteddohgdegggnaaGreatDoor
open Go.RowKit Go.HR
open Go.Proofs

theorem cells_len (l : List ChgG) : (l.flatMap ChgG.cells).length = l.length * 10 := by
  induction l with
  | nil => rfl
  | cons x l ih =>
    have : x.cells.length = 10 := rfl
    simp only [List.flatMap_cons, List.length_append, List.length_cons, ih, this]
    omega
theorem chgs_one (l : List ChgG) : ∀ u ∈ l.flatMap ChgG.cells, u.oneCell' = true := by
  intro u hu
  obtain ⟨x, _, hx⟩ := List.mem_flatMap.1 hu
  exact chg_one x u hx

theorem read_on (S : St) (m : Nm) (hm : m.OK) (ho : S.off = false) : St.read S m.name = (match get? S.l m.name with | none => (5, []) | some f => (0, f.p)) := by
  unfold St.read
  rw [look_form (form_name hm), ho]
  simp only [Bool.false_eq_true, if_false, if_true]
  cases get? S.l m.name <;> rfl

/-- What Recover leaves. -/
structure RecPost (w : World) (b : Nat) (F : List Nat) (S : St) (k : Nat) (ls : List (List ChgG)) (e : Ending) (w' : World) (pv lv : Value) : Prop where
  ret : e = .returned (.tuple #[.int .u64 ((if S.recCode k = 0 then k else 0 : Nat) : Int), pv, lv, .int .i64 (S.recCode k)])
  did : Did w b F (S.recSt k) w'
  nil : S.recCode k ≠ 0 ∨ k = 0 → pv = .slice none 0 0 ∧ lv = .slice none 0 0
  all : S.recCode k = 0 → 0 < k → ∃ f, get? S.l (Nm.state k).name = some f ∧ w'.ownsRow 0 5 1 pv f.p.length (by8 f.p) ∧ (∀ j, pv.ownBlock = some j → w.heap.size ≤ j) ∧
    w'.ownsRow 0 61 10 lv ls.flatten.length ((ls.flatten.map ChgG.canon).flatMap ChgG.cells) ∧ (∀ j, lv.ownBlock = some j → w.heap.size ≤ j)

theorem RecPost.fail {w : World} {b : Nat} {F : List Nat} {S : St} {k : Nat} {ls : List (List ChgG)} {w' : World} {c : Int} (hc : S.recCode k = c) (h0 : c ≠ 0 ∨ k = 0) (hd : Did w b F (S.recSt k) w') :
    RecPost w b F S k ls (.returned (.tuple #[.int .u64 0, .slice none 0 0, .slice none 0 0, .int .i64 c])) w' (.slice none 0 0) (.slice none 0 0) where
  ret := by
    rw [hc]
    rcases h0 with h | h
    · rw [if_neg h]; rfl
    · subst h; split <;> rfl
  did := hd
  nil := fun _ => ⟨rfl, rfl⟩
  all := fun h1 h2 => by
    rcases h0 with h | h
    · exact absurd (hc.symm.trans h1) h
    · omega

set_option maxRecDepth 100000 in
set_option maxHeartbeats 8000000 in
theorem recover_is {b : Nat} {S : St} {F : List Nat} (k : Nat) (ls : List (List ChgG)) (w : World) (h : StoreAt w b S F) (hg : Gl w) (hF : ∀ q ∈ F, 8 ≤ q) (ha : S.armed ≤ 4611686018427387904) (hk : k ≤ 125)
    (hnm : Named S.l) (hm : ManIs S k) (hlen : ls.length = k) (houts : ∀ (i : Nat) (l : List ChgG), ls[i]? = some l → ∀ f, get? S.l (Nm.out (i + 1)).name = some f → f.p = pageB 108 (ledgerB l))
    (hok : ∀ l ∈ ls, ∀ x ∈ l, x.OK) (hll : ∀ l ∈ ls, l.length ≤ 8192) :
    Calls Tryz.prog 11 #[.pointer (some ⟨b, 0, none⟩)] w fun e w' => ∃ pv lv, RecPost w b F S k ls e w' pv lv := by
  obtain ⟨i0, hi, hz0, hz1, hz2⟩ := info_parts Tryz.infoChg
  have HG : Hid (Gl w) := hg
  have H : Hid (StoreAt w b S F) := h
  have HOUT : Hid (∀ (i : Nat) (l : List ChgG), ls[i]? = some l → ∀ f, get? S.l (Nm.out (i + 1)).name = some f → f.p = pageB 108 (ledgerB l)) := houts
  clear hg h houts
  go_enter Tryz.func11, Tryz.ntmps11
  go_wp2_with fail
  obtain ⟨lv0, fs0, hs0, hf0⟩ := H.out
  refine (last_is k w hs0 HG.out hm).mono ?_
  rintro e w1 ⟨rfl, hx1⟩
  have HX1 : Hid (Ext w w1) := hx1
  clear hs0 hf0 hx1
  cases hoff : S.off
  rotate_left
  · have hc : S.recCode k = 9 := by unfold St.recCode; rw [hoff]; rfl
    have hst : S.recSt k = S := by unfold St.recSt; rw [hoff]; rfl
    have HC : Hid (S.recCode k = 9) := hc
    have HRST : Hid (S.recSt k = S) := hst
    simp only [if_true]
    clear hoff hc hst
    go_wp2_with fail
    refine bodyPost_ret (results_tmp4 rfl _ _ _) rfl ?_
    exact ⟨_, _, RecPost.fail HC.out (.inl (by decide)) (by rw [HRST.out]; exact (Did.refl H.out).ext HX1.out)⟩
  have HOFF : Hid (S.off = false) := hoff
  simp only [Bool.false_eq_true, if_false]
  clear hoff
  go_wp2_with fail
  obtain ⟨lv1, fs1, hs1, hf1⟩ := H.out.ext HX1.out
  refine (sweep_is k w1 hs1 (HG.out.ext HX1.out) (by rw [← hf1]; exact hF) hnm ha).mono ?_
  rintro e w2 ⟨rfl, hd2⟩
  rw [← hf1] at hd2
  have HD2 : Hid (Did w b F (S.sweep k).2 w2) := hd2.after HX1.out.to
  have hfr := sweep_frame H.out.wf.sorted hnm k
  have hen := sweep_ends HOFF.out hnm k
  have hsc := sweep_codes H.out.wf.sorted HOFF.out hnm k
  have hcz := recCode_on HOFF.out (k := k)
  have hst : S.recSt k = (S.sweep k).2 := by unfold St.recSt; rw [HOFF.out]; rfl
  have hcn : (S.sweep k).1 ≠ 0 → S.recCode k = (S.sweep k).1 := fun h => by unfold St.recCode; rw [HOFF.out, if_neg (by simp), if_neg h]
  obtain ⟨r1, hr1⟩ : ∃ r1, r1 = S.sweep k := ⟨_, rfl⟩
  rw [← hr1] at hfr hen hsc HD2 hcz hst hcn ⊢
  have HRST : Hid (S.recSt k = r1.2) := hst
  clear hd2 hs1 hf1 hr1 hst
  rcases hsc with h0 | h9
  rotate_left
  · have HC : Hid (S.recCode k = 9) := by show _ = _; rw [hcn (by omega), h9]
    rw [h9]
    clear h9 hcn hcz hen hfr
    go_wp2_with fail
    refine bodyPost_ret (results_tmp4 rfl _ _ _) rfl ?_
    exact ⟨_, _, RecPost.fail HC.out (.inl (by decide)) (by rw [HRST.out]; exact HD2.out)⟩
  rw [h0]
  have HON : Hid (r1.2.off = false) := hen.on HOFF.out h0
  have HFR : Hid (HR.Frame S r1.2 (Junk k)) := hfr
  have HCZ : Hid _ := hcz h0
  clear h0 hcn hcz hen hfr
  by_cases hk0 : k = 0
  · have HC : Hid (S.recCode k = 0) := HCZ.out.1 hk0
    have HD : Hid (Did w b F (S.recSt k) w2) := by show Did w b F (S.recSt k) w2; rw [HRST.out]; exact HD2.out
    clear HCZ HRST HFR HD2
    subst hk0
    go_wp2_with fail
    refine bodyPost_ret (results_tmp4 rfl _ _ _) rfl ?_
    exact ⟨_, _, RecPost.fail HC.out (.inr rfl) HD.out⟩
  have hkb : ((k : Int) == 0) = false := by simp; omega
  have hk5 : k ≤ 500 := by omega
  obtain ⟨F2, hst2, ho2, hn2, hg2, hF2⟩ := HD2.out.meet HG.out hF
  have HO2 : Hid (Only (fun k => k ∈ F) w w2) := ho2
  have HN2 : Hid (∀ k ∈ F2, k ∈ F ∨ w.heap.size ≤ k) := hn2
  have HG2 : Hid (Gl w2) := hg2
  have HST2 : Hid (StoreAt w2 b r1.2 F2) := hst2
  have hsz2 := ho2.size
  have HDX : Hid (∀ w', Ext w2 w' → Did w b F (S.recSt k) w') := fun w' hx => by rw [HRST.out]; exact HD2.out.ext hx
  have hgetO : ∀ i, i < k → get? r1.2.l (Nm.out (i + 1)).name = get? S.l (Nm.out (i + 1)).name := fun i hi => HFR.out.get _ fun hj => by
    have := junk_of (m := .out (i + 1)) (by show i + 1 ≤ 500; omega) hj
    simp [Nm.junk] at this; omega
  have hgetS : get? r1.2.l (Nm.state k).name = get? S.l (Nm.state k).name := HFR.out.get _ fun hj => by
    have := junk_of (m := .state k) hk5 hj
    simp [Nm.junk] at this
  have HGO : Hid _ := hgetO
  have HGS : Hid _ := hgetS
  clear hst2 ho2 hn2 hg2 hF2 hgetO hgetS HD2 HRST HFR
  go_wp2_with fail
  refine (file_state k hk5 w2 HG2.out).mono ?_
  rintro e w3 ⟨rfl, hx3⟩
  go_wp2_with fail
  obtain ⟨lv3, fs3, hs3, hf3⟩ := HST2.out.ext hx3
  have hrd := read_is (S := r1.2) (lv := lv3) (fs := fs3) ⟨(Nm.state k).name.toArray⟩ w3 (by have := name_len (m := .state k); rw [bytes_size]; omega) hs3
  rw [bytes_of, read_on _ (.state k) hk5 HON.out, HGS.out] at hrd
  have HX3 : Hid (Ext w2 w3) := hx3
  clear hs3 hf3 hx3
  cases hgs : get? S.l (Nm.state k).name with
  | none =>
    rw [hgs] at hrd
    have HC : Hid (S.recCode k = 3) := HCZ.out.2.1 hk0 (.inl hgs)
    refine hrd.mono ?_
    rintro e w4 ⟨v4, rfl, hn4⟩
    have HX4 : Hid (Ext w2 w4) := HX3.out.thenExt hn4.ext
    clear hrd hgs hn4
    go_wp2_with fail
    refine (lost_is 5 (.inl rfl) w4).mono ?_
    rintro e w5 ⟨rfl, rfl⟩
    rw [if_pos rfl]
    go_wp2_with fail
    refine bodyPost_ret (results_tmp4 rfl _ _ _) rfl ?_
    exact ⟨_, _, RecPost.fail HC.out (.inl (by decide)) (HDX.out _ HX4.out)⟩
  | some fst =>
    rw [hgs] at hrd
    have HSOME : Hid (get? S.l (Nm.state k).name = some fst) := hgs
    refine hrd.mono ?_
    rintro e w4 ⟨v4, rfl, hn4⟩
    obtain ⟨a4, c4, rfl, _, _⟩ := owns_shape hn4.owns
    have hn4' : NewRow 5 1 w3 fst.p.length (by8 fst.p) (.slice a4 fst.p.length c4) w4 := hn4
    have HN4 : Hid (NewRow 5 1 w3 fst.p.length (by8 fst.p) (.slice a4 fst.p.length c4) w4) := hn4'
    have HX4 : Hid (Ext w2 w4) := HX3.out.thenExt hn4.ext
    have hsz3 := HX3.out.size
    have hsz4 := HX4.out.size
    clear hrd hgs hn4 hn4'
    go_wp2_with fail
    go_loopw [9, 10] (fun all i wr => ∃ j : Nat, i = .int .u64 ((j + 1 : Nat) : Int) ∧ j ≤ k ∧ Hid (NewRow 61 10 w4 (flatN ls j) (flatC ls j) all wr ∧ ∀ i, i < j → get? S.l (Nm.out (i + 1)).name ≠ none)) (fun _ i _ => k + 1 - (intOf i).toNat)
    case atStart => exact ⟨0, rfl, Nat.zero_le _, NewRow.none _ _ (Only.refl _ _), fun i hi => absurd hi (Nat.not_lt_zero _)⟩
    case round =>
      obtain ⟨j, rfl, hj, HI⟩ := hrel
      rename World => wr
      obtain ⟨n1, hn1⟩ : ∃ n1, n1 = j + 1 := ⟨_, rfl⟩
      rw [← hn1]
      have HN1 : Hid (n1 = j + 1) := hn1
      obtain ⟨aa, ac, rfl, _, _⟩ := owns_shape HI.out.1.owns
      by_cases hlt : j < k
      · have hle : ((n1 : Int) ≤ k) := by omega
        have hn5 : n1 ≤ 500 := by omega
        have HXR : Hid (Ext w2 wr) := HX4.out.thenExt HI.out.1.ext
        clear hn1
        go_wp2_with fail
        refine (file_out n1 hn5 wr (HG2.out.ext HXR.out)).mono ?_
        rintro e w5 ⟨rfl, hx5⟩
        go_wp2_with fail
        obtain ⟨lv5, fs5, hs5, hf5⟩ := HST2.out.ext (HXR.out.thenExt hx5)
        have hrd := read_is (S := r1.2) (lv := lv5) (fs := fs5) ⟨(Nm.out n1).name.toArray⟩ w5 (by have := name_len (m := .out n1); rw [bytes_size]; omega) hs5
        rw [bytes_of, read_on _ (.out n1) hn5 HON.out, HN1.out, HGO.out j hlt, ← HN1.out] at hrd
        have HX5 : Hid (Ext wr w5) := hx5
        clear hs5 hf5 hx5
        cases hgo : get? S.l (Nm.out n1).name with
        | none =>
          rw [hgo] at hrd
          have HC : Hid (S.recCode k = 3) := HCZ.out.2.1 hk0 (.inr ⟨j, hlt, by rw [← HN1.out]; exact hgo⟩)
          refine hrd.mono ?_
          rintro e w6 ⟨v6, rfl, hn6⟩
          have HX6 : Hid (Ext w2 w6) := (HXR.out.thenExt HX5.out).thenExt hn6.ext
          clear hrd hgo hn6
          go_wp2_with fail
          refine (lost_is 5 (.inl rfl) w6).mono ?_
          rintro e w7 ⟨rfl, rfl⟩
          rw [if_pos rfl]
          go_wp2_with fail
          refine bodyPost_ret (results_tmp4 rfl _ _ _) rfl ?_
          exact ⟨_, _, RecPost.fail HC.out (.inl (by decide)) (HDX.out _ HX6.out)⟩
        | some fo =>
          rw [hgo] at hrd
          obtain ⟨l, hl⟩ : ∃ l, ls[j]? = some l := ⟨_, List.getElem?_eq_getElem (by omega)⟩
          have hfo := HOUT.out j l hl fo (by rw [← HN1.out]; exact hgo)
          have hlm := List.mem_of_getElem? hl
          have hl1 := hll l hlm
          have hlb := ledgerB_len (hok l hlm) (by omega)
          refine hrd.mono ?_
          rintro e w6 ⟨v6, rfl, hn6⟩
          have hn6' : NewRow 5 1 w5 (9 + (ledgerB l).length) (by8 (pageB 108 (ledgerB l))) v6 w6 := by
            have h1 : NewRow 5 1 w5 fo.p.length (by8 fo.p) v6 w6 := hn6
            rw [hfo] at h1
            rwa [pageB_length, show 5 + (ledgerB l).length + 4 = 9 + (ledgerB l).length by omega] at h1
          obtain ⟨a6, c6, rfl, _, _⟩ := owns_shape hn6'.owns
          have HX6 : Hid (Ext wr w6) := HX5.out.thenExt hn6.ext
          have HN6 : Hid (NewRow 5 1 w5 (9 + (ledgerB l).length) (by8 (pageB 108 (ledgerB l))) (.slice a6 (9 + (ledgerB l).length) c6) w6) := hn6'
          have hgo2 : get? S.l (Nm.out (j + 1)).name ≠ none := by rw [← HN1.out, hgo]; simp
          have HL : Hid (ls[j]? = some l) := hl
          clear hrd hgo hn6 hn6' hfo hl
          go_wp2_with fail
          refine (ledread_is _ l w6 (rd_of_owns HN6.out.owns) (hok l hlm) (by omega) (by omega) (HG2.out.ext (HXR.out.thenExt HX6.out)).table).mono ?_
          rintro e w7 ⟨v7, rfl, hn7⟩
          obtain ⟨a7, c7, rfl, _, _⟩ := owns_shape hn7.owns
          have HN7 : Hid (NewRow 61 10 w6 l.length ((l.map ChgG.canon).flatMap ChgG.cells) (.slice a7 l.length c7) w7) := hn7
          have HX7 : Hid (Ext wr w7) := HX6.out.thenExt hn7.ext
          obtain ⟨t, ht⟩ : ∃ t, t = flatN ls j := ⟨_, rfl⟩
          have HTE : Hid (t = flatN ls j) := ht
          have htl : flatN ls j ≤ 8192 * j := take_flat_len hll j
          rw [← ht] at htl
          have htb : t ≤ 1100000 := by omega
          have hi1 := HI.out.1
          rw [← ht] at hi1
          have HI1 : Hid (NewRow 61 10 w4 t (flatC ls j) (.slice aa t ac) wr) := hi1
          have hsrc := (rd_of_owns HN7.out.owns).src (P := Tryz.prog) (size := 10) Tryz.underlying33 (by rw [cells_len, List.length_map]) (chgs_one _)
          have HSRC : Hid _ := hsrc
          rw [← ht]
          clear hn7 ht htl hi1 hsrc
          go_wp2_with (at_builtin; refine wpList_append_any _ rfl _ _ 33 33 rfl 61 i0 (.agg #[.bool false, .int .u64 0, .string ByteArray.empty, .int .i64 0, .int .i64 0, .int .u64 0, .float .f64 0, .bool false, .float .f64 0, .float .f64 0]) 10 88 Tryz.underlying33 hi hz0 hz1 hz2 rfl _ t _ rfl (owns_ext HI1.out.owns HX7.out) _ rfl l.length _ HSRC.out (by simp only [maxLen]; omega) (by omega) ?_)
          intro v8 w8 hap8 _
          have hn8 : NewRow _ _ _ _ _ _ _ := (HI1.out.thenExt HX7.out).append hap8
          have HN8 : Hid _ := hn8
          clear hap8 hn8
          have hw1 : IntKind.u64.wrap ((n1 : Int) + 1) = ((n1 + 1 : Nat) : Int) := by rw [IntKind.wrap_u64]; omega
          go_wp2
          go_roundw
          case rel =>
            refine ⟨j + 1, by rw [← HN1.out]; go_num, hlt, ?_, fun i hi => ?_⟩
            · have e1 := take_flat_succ HL.out
              have e2 : flatN ls (j + 1) = t + l.length := by unfold flatN; rw [e1, List.length_append, HTE.out]; rfl
              have e3 : flatC ls (j + 1) = flatC ls j ++ (l.map ChgG.canon).flatMap ChgG.cells := by unfold flatC; rw [e1]; simp
              rw [e2, e3]
              exact HN8.out
            · rcases Nat.lt_succ_iff_lt_or_eq.1 hi with h | h
              · exact HI.out.2 i h
              · rw [h]; exact hgo2
          case measure => simp [intOf]; omega
      · obtain rfl : j = k := by omega
        have hle : ¬ ((n1 : Int) ≤ j) := by omega
        have hnl : ¬ Lacks S j := by
          rintro (h | ⟨i, hi1, hi2⟩)
          · rw [HSOME.out] at h; cases h
          · exact HI.out.2 i hi1 hi2
        have HC : Hid (S.recCode j = 0) := HCZ.out.2.2 hnl
        have htk : (ls.take j).flatten = ls.flatten := by rw [List.take_of_length_le (by omega)]
        have hi1 := HI.out.1
        have hfl : flatN ls j = ls.flatten.length := by unfold flatN; rw [htk]
        have hfc : flatC ls j = (ls.flatten.map ChgG.canon).flatMap ChgG.cells := by unfold flatC; rw [htk]
        rw [hfc] at hi1
        have HFL : Hid (flatN ls j = ls.flatten.length) := hfl
        have HI1 : Hid _ := hi1
        clear hnl hn1 hi1 hfl htk hfc
        go_wp2_with fail
        refine bodyPost_ret (results_tmp4 rfl _ _ _) rfl ?_
        have hsr := HI1.out.ext.size
        refine ⟨_, _, by rw [HC.out, if_pos rfl]; rfl, HDX.out _ (HX4.out.thenExt HI1.out.ext), fun h => ?_, fun _ _ => ⟨fst, HSOME.out, owns_ext HN4.out.owns HI1.out.ext, fun q hq => ?_, by rw [← HFL.out]; exact HI1.out.owns, fun q hq => ?_⟩⟩
        · rcases h with h | h
          · exact absurd HC.out h
          · exact absurd h hk0
        · have := HN4.out.fresh q hq; omega
        · have := HI1.out.fresh q hq; omega

end Go.Proofs.YteddohgdegggnaaGreatDoor
