/- What is shown here, as far as 'sweep_is': contracts of the program's functions, and the plain laws that they lean on; conditions: each theorem's own hypotheses. -/
import Derived.Test.YteddohgdegggnaaGreatDoorGl
namespace Go.HR
theorem drop_junk {k j : Nat} {ms : List Nm} {m : Nm} {S' : St} {r : Int × St} (hm : ms[j]? = some m) (h : sweepL k (ms.drop j) S' = r) : (if m.junk k then andThen (S'.delete m.name) (sweepL k (ms.drop (j + 1))) else sweepL k (ms.drop (j + 1)) S') = r := by
  obtain ⟨hlt, he⟩ := List.getElem?_eq_some_iff.1 hm
  rw [List.drop_eq_getElem_cons hlt, he, sweepL] at h
  exact h
theorem delete_armed (S : St) (t : List UInt8) : (S.delete t).2.armed ≤ S.armed := by
  unfold St.delete St.change
  split
  · split
    · split
      · exact begin_armed S
      · exact begin_armed S
    · exact Nat.le_refl _
  · exact Nat.le_refl _
end Go.HR
namespace Go.Proofs.YteddohgdegggnaaGreatDoor
open Go.RowKit Go.HR
open Go.Proofs

theorem Did.gl {w w' : World} {b : Nat} {F : List Nat} {S : St} (h : Did w b F S w') (hg : Gl w) (hF : ∀ q ∈ F, 8 ≤ q) : Gl w' := by
  obtain ⟨F', _, ho, _⟩ := h
  exact hg.keep ho fun k hk hm => by have := hF k hm; omega
theorem Did.refl {w : World} {b : Nat} {F : List Nat} {S : St} (h : StoreAt w b S F) : Did w b F S w := ⟨F, h, Only.refl _ _, fun _ hk => .inl hk⟩
/-- One call behind another. -/
theorem Did.next {w w1 w2 : World} {b : Nat} {F F1 : List Nat} {S1 S2 : St} (_h : StoreAt w1 b S1 F1) (ho : Only (fun k => k ∈ F) w w1) (hF : ∀ k ∈ F1, k ∈ F ∨ w.heap.size ≤ k) (h2 : Did w1 b F1 S2 w2) : Did w b F S2 w2 := Did.compose ho hF h2

set_option maxRecDepth 100000 in
set_option maxHeartbeats 4000000 in
theorem sweep_is {b : Nat} {S : St} {lv : Value} {fs : List FV} (k : Nat) (w : World) (h : StoreIs w b S lv fs) (hg : Gl w) (hF : ∀ q ∈ foot b lv fs, 8 ≤ q) (hn : Named S.l) (ha : S.armed ≤ 4611686018427387904) :
    Calls Tryz.prog 19 #[.pointer (some ⟨b, 0, none⟩), .int .u64 k] w fun e w' => e = .returned (.int .i64 (S.sweep k).1) ∧ Did w b (foot b lv fs) (S.sweep k).2 w' := by
  obtain ⟨r, hr⟩ : ∃ r, r = S.sweep k := ⟨_, rfl⟩
  have HR : Hid (r = S.sweep k) := hr
  rw [← hr]
  obtain ⟨F, hFe⟩ : ∃ F, F = foot b lv fs := ⟨_, rfl⟩
  rw [← hFe] at hF ⊢
  have HST : Hid (StoreAt w b S F) := ⟨lv, fs, h, hFe⟩
  have hcnt : S.l.length ≤ 500 := h.wf.count
  go_enter Tryz.func19, Tryz.ntmps19
  go_wp2_with fail
  refine (list_is w h).mono ?_
  rintro e w1 ⟨v, rfl, hn1⟩
  obtain ⟨ns, hns⟩ : ∃ ns, ns = S.l.map (·.name) := ⟨_, rfl⟩
  rw [← hns] at hn1
  have HNS : Hid (ns = S.l.map (·.name)) := hns
  have hnl : ns.length ≤ 500 := by rw [hns, List.length_map]; exact hcnt
  obtain ⟨a1, c1, rfl, _, _⟩ := owns_shape hn1.owns
  have HN1 : Hid (NewRow 9 1 w ns.length (strs ns) (.slice a1 ns.length c1) w1) := hn1
  have HG1 : Hid (Gl w1) := hg.ext hn1.ext
  have HFlt : Hid (∀ q ∈ F, q < w.heap.size) := HST.out.lt
  clear hr hFe h hns hn1 hg hcnt
  go_wp2_with fail
  go_loopw [17] (fun i wr => ∃ j : Nat, i = .int .i64 j ∧ j ≤ ns.length ∧ Hid (∃ S', Did w1 b F S' wr ∧ sweepL k ((ns.map nmOf).drop j) S' = r ∧ S'.armed ≤ S.armed)) (fun i _ => ns.length - (intOf i).toNat)
  case atStart => exact ⟨0, rfl, Nat.zero_le _, S, Did.refl (HST.out.ext HN1.out.ext), by rw [List.drop_zero, HNS.out, HR.out]; unfold St.sweep; rw [List.map_map]; rfl, Nat.le_refl _⟩
  case round =>
    obtain ⟨j, rfl, hj, HI⟩ := hrel
    rename World => wr
    by_cases hlt : j < ns.length
    · obtain ⟨S', hd, hsw, har⟩ := HI.out
      obtain ⟨t, ht⟩ : ∃ t, ns[j]? = some t := ⟨_, List.getElem?_eq_getElem hlt⟩
      obtain ⟨m, hmo, rfl⟩ : ∃ m : Nm, m.OK ∧ t = m.name := by
        have := List.mem_of_getElem? ht
        rw [HNS.out] at this
        obtain ⟨f, hf, rfl⟩ := List.mem_map.1 this
        exact hn f hf
      have hms : (ns.map nmOf)[j]? = some m := by rw [List.getElem?_map, ht]; simp [nmOf_name hmo]
      have hsw2 := drop_junk hms hsw
      obtain ⟨F', hst, ho, hFn⟩ := hd
      obtain ⟨g, rfl⟩ : ∃ g, a1 = some ⟨g, 0, none⟩ := by
        rcases HN1.out.owns.2 with ⟨_, e2⟩ | ⟨g, cap, cur, e1, _⟩
        · omega
        · simp at e1; exact ⟨g, e1.1⟩
      have hrow : wr.ownsRow 0 9 1 (.slice (some ⟨g, 0, none⟩) ns.length c1) ns.length (strs ns) := owns_keep HN1.out.owns ho fun q hq hm => by have h1 := HFlt.out q hm; have h2 := HN1.out.fresh q hq; omega
      have d0 : wr.cell? ⟨g, j, none⟩ = some (.string ⟨m.name.toArray⟩) := by
        have := hrow.cells (g := g) rfl j (.string ⟨m.name.toArray⟩) (by simp only [strs, List.getElem?_map, ht]; rfl)
        rwa [Addr.add_lit, Nat.zero_add] at this
      have HGR : Hid (Gl wr) := HG1.out.keep ho fun q hq hm => by have := hF q hm; omega
      have HSW2 : Hid _ := hsw2
      have HO : Hid (Only (fun q => q ∈ F) w1 wr) := ho
      have HS : Hid (StoreAt wr b S' F') := hst
      have HFN : Hid (∀ q ∈ F', q ∈ F ∨ w1.heap.size ≤ q) := hFn
      clear hsw hsw2 hms ht ho hst hFn hrow HI
      go_upto_if 68 with (first
        | (go_at_call 35; refine (cut_is m hmo _ HGR.out).mono ?_; rintro e w2 ⟨rfl, hx2⟩))
      rcases m with _ | _ | i | i
      · refine (parse_bad .man (.inl rfl) w2 (HGR.out.ext hx2)).mono ?_
        rintro e w3 ⟨⟨N, rfl⟩, hx3⟩
        go_wp2_with fail
        go_roundw
        case rel => exact ⟨j + 1, by go_num, hlt, S', ⟨F', HS.out.ext (hx2.thenExt hx3), HO.out.thenExt (hx2.thenExt hx3), HFN.out⟩, by have := HSW2.out; rwa [if_neg (by simp [Nm.junk])] at this, har⟩
        case measure => simp [intOf]; omega
      · have hbt : (⟨#[109, 97, 110, 46, 116, 109, 112]⟩ : ByteArray).toList = Nm.tmp.name := bytes_of [109, 97, 110, 46, 116, 109, 112]
        refine (parse_bad .tmp (.inr rfl) w2 (HGR.out.ext hx2)).mono ?_
        rintro e w3 ⟨⟨N, rfl⟩, hx3⟩
        go_wp2_with fail
        obtain ⟨lv', fs', hs', hf'⟩ := HS.out.ext (hx2.thenExt hx3)
        have hne := name_len (m := Nm.tmp)
        refine (del_is ⟨#[109, 97, 110, 46, 116, 109, 112]⟩ w3 hs' (by omega) (by decide)).mono ?_
        rintro e w4 ⟨rfl, hd4⟩
        rw [hbt] at hd4 ⊢
        rw [← hf'] at hd4
        have har2 := delete_armed S' (Nm.tmp).name
        obtain ⟨q, hq⟩ : ∃ q, q = S'.delete (Nm.tmp).name := ⟨_, rfl⟩
        have hsw3 := HSW2.out
        rw [if_pos (by simp [Nm.junk]), ← hq] at hsw3
        rw [← hq] at hd4 har2 ⊢
        have HD4 : Hid (Did w1 b F q.2 w4) := Did.compose (HO.out.thenExt (hx2.thenExt hx3)) HFN.out hd4
        have HSW3 : Hid _ := hsw3
        clear hd4 hs' hf' hq hsw3 hne
        by_cases h0 : q.1 = 0
        · rw [h0]
          go_wp2_with fail
          go_roundw
          case rel => exact ⟨j + 1, by go_num, hlt, q.2, HD4.out, by have := HSW3.out; unfold andThen at this; rwa [if_pos h0] at this, by omega⟩
          case measure => simp [intOf]; omega
        · obtain ⟨q1, hq1⟩ : ∃ q1, q1 = q.1 := ⟨_, rfl⟩
          have HQ1 : Hid (q1 = q.1) := hq1
          rw [← hq1] at h0 ⊢
          have hqb : (q1 == 0) = false := by simpa using h0
          have hqb2 : (q1 != 0) = true := by simpa using h0
          have HN0 : Hid (¬ q1 = 0) := h0
          clear hq1 h0
          go_wp2_with fail
          go_ret
          have hf := HSW3.out
          unfold andThen at hf
          rw [if_neg (by rw [← HQ1.out]; exact HN0.out)] at hf
          rw [← hf]
          exact ⟨by rw [HQ1.out]; rfl, HD4.out.after (HN1.out.ext.to)⟩
      · have hi : i ≤ 500 := hmo
        have hw1 : ¬ (Nm.out i).what = [115, 116, 97, 116, 101] := by simp [Nm.what]
        have hw2 : (Nm.out i).what = [111, 117, 116] := rfl
        have hw3 : ¬ (Nm.out i).name = [109, 97, 110, 46, 116, 109, 112] := by simp [Nm.name]
        refine (parse_ok (.out i) i (.inl rfl) hi w2).mono ?_
        rintro e w3 ⟨rfl, hx3⟩
        by_cases hi0 : i = 0
        · subst hi0
          go_wp2_with fail
          obtain ⟨lv', fs', hs', hf'⟩ := HS.out.ext (hx2.thenExt hx3)
          have hne := name_len (m := Nm.out 0)
          refine (del_is ⟨(Nm.out 0).name.toArray⟩ w3 hs' (by omega) (by rw [bytes_size]; omega)).mono ?_
          rintro e w4 ⟨rfl, hd4⟩
          rw [bytes_of (Nm.out 0).name] at hd4 ⊢
          rw [← hf'] at hd4
          have har2 := delete_armed S' (Nm.out 0).name
          obtain ⟨q, hq⟩ : ∃ q, q = S'.delete (Nm.out 0).name := ⟨_, rfl⟩
          have hsw3 := HSW2.out
          rw [if_pos (by simp [Nm.junk]), ← hq] at hsw3
          rw [← hq] at hd4 har2 ⊢
          have HD4 : Hid (Did w1 b F q.2 w4) := Did.compose (HO.out.thenExt (hx2.thenExt hx3)) HFN.out hd4
          have HSW3 : Hid _ := hsw3
          clear hd4 hs' hf' hq hsw3 hne
          by_cases h0 : q.1 = 0
          · rw [h0]
            go_wp2_with fail
            go_roundw
            case rel => exact ⟨j + 1, by go_num, hlt, q.2, HD4.out, by have := HSW3.out; unfold andThen at this; rwa [if_pos h0] at this, by omega⟩
            case measure => simp [intOf]; omega
          · obtain ⟨q1, hq1⟩ : ∃ q1, q1 = q.1 := ⟨_, rfl⟩
            have HQ1 : Hid (q1 = q.1) := hq1
            rw [← hq1] at h0 ⊢
            have hqb : (q1 == 0) = false := by simpa using h0
            have hqb2 : (q1 != 0) = true := by simpa using h0
            have HN0 : Hid (¬ q1 = 0) := h0
            clear hq1 h0
            go_wp2_with fail
            go_ret
            have hf := HSW3.out
            unfold andThen at hf
            rw [if_neg (by rw [← HQ1.out]; exact HN0.out)] at hf
            rw [← hf]
            exact ⟨by rw [HQ1.out]; rfl, HD4.out.after (HN1.out.ext.to)⟩
        · have hi0b : ((i : Int) == 0) = false := by simp; omega
          by_cases hik : k < i
          · have hik2 : (k : Int) < i := by omega
            go_wp2_with fail
            obtain ⟨lv', fs', hs', hf'⟩ := HS.out.ext (hx2.thenExt hx3)
            have hne := name_len (m := Nm.out i)
            refine (del_is ⟨(Nm.out i).name.toArray⟩ w3 hs' (by omega) (by rw [bytes_size]; omega)).mono ?_
            rintro e w4 ⟨rfl, hd4⟩
            rw [bytes_of (Nm.out i).name] at hd4 ⊢
            rw [← hf'] at hd4
            have har2 := delete_armed S' (Nm.out i).name
            obtain ⟨q, hq⟩ : ∃ q, q = S'.delete (Nm.out i).name := ⟨_, rfl⟩
            have hsw3 := HSW2.out
            rw [if_pos (by simp [Nm.junk]; omega), ← hq] at hsw3
            rw [← hq] at hd4 har2 ⊢
            have HD4 : Hid (Did w1 b F q.2 w4) := Did.compose (HO.out.thenExt (hx2.thenExt hx3)) HFN.out hd4
            have HSW3 : Hid _ := hsw3
            clear hd4 hs' hf' hq hsw3 hne
            by_cases h0 : q.1 = 0
            · rw [h0]
              go_wp2_with fail
              go_roundw
              case rel => exact ⟨j + 1, by go_num, hlt, q.2, HD4.out, by have := HSW3.out; unfold andThen at this; rwa [if_pos h0] at this, by omega⟩
              case measure => simp [intOf]; omega
            · obtain ⟨q1, hq1⟩ : ∃ q1, q1 = q.1 := ⟨_, rfl⟩
              have HQ1 : Hid (q1 = q.1) := hq1
              rw [← hq1] at h0 ⊢
              have hqb : (q1 == 0) = false := by simpa using h0
              have hqb2 : (q1 != 0) = true := by simpa using h0
              have HN0 : Hid (¬ q1 = 0) := h0
              clear hq1 h0
              go_wp2_with fail
              go_ret
              have hf := HSW3.out
              unfold andThen at hf
              rw [if_neg (by rw [← HQ1.out]; exact HN0.out)] at hf
              rw [← hf]
              exact ⟨by rw [HQ1.out]; rfl, HD4.out.after (HN1.out.ext.to)⟩
          · have hik2 : ¬ (k : Int) < i := by omega
            go_wp2_with fail
            go_roundw
            case rel => exact ⟨j + 1, by go_num, hlt, S', ⟨F', HS.out.ext (hx2.thenExt hx3), HO.out.thenExt (hx2.thenExt hx3), HFN.out⟩, by have := HSW2.out; rwa [if_neg (by simp [Nm.junk]; omega)] at this, har⟩
            case measure => simp [intOf]; omega
      · have hi : i ≤ 500 := hmo
        have hw1 : (Nm.state i).what = [115, 116, 97, 116, 101] := rfl
        have hw3 : ¬ (Nm.state i).name = [109, 97, 110, 46, 116, 109, 112] := by simp [Nm.name]
        refine (parse_ok (.state i) i (.inr rfl) hi w2).mono ?_
        rintro e w3 ⟨rfl, hx3⟩
        by_cases hik : i = k
        · subst hik
          go_wp2_with fail
          go_roundw
          case rel => exact ⟨j + 1, by go_num, hlt, S', ⟨F', HS.out.ext (hx2.thenExt hx3), HO.out.thenExt (hx2.thenExt hx3), HFN.out⟩, by have := HSW2.out; rwa [if_neg (by simp [Nm.junk])] at this, har⟩
          case measure => simp [intOf]; omega
        · have hik2 : ((i : Int) != k) = true := by simp; omega
          go_wp2_with fail
          obtain ⟨lv', fs', hs', hf'⟩ := HS.out.ext (hx2.thenExt hx3)
          have hne := name_len (m := Nm.state i)
          refine (del_is ⟨(Nm.state i).name.toArray⟩ w3 hs' (by omega) (by rw [bytes_size]; omega)).mono ?_
          rintro e w4 ⟨rfl, hd4⟩
          rw [bytes_of (Nm.state i).name] at hd4 ⊢
          rw [← hf'] at hd4
          have har2 := delete_armed S' (Nm.state i).name
          obtain ⟨q, hq⟩ : ∃ q, q = S'.delete (Nm.state i).name := ⟨_, rfl⟩
          have hsw3 := HSW2.out
          rw [if_pos (by simp [Nm.junk]; omega), ← hq] at hsw3
          rw [← hq] at hd4 har2 ⊢
          have HD4 : Hid (Did w1 b F q.2 w4) := Did.compose (HO.out.thenExt (hx2.thenExt hx3)) HFN.out hd4
          have HSW3 : Hid _ := hsw3
          clear hd4 hs' hf' hq hsw3 hne
          by_cases h0 : q.1 = 0
          · rw [h0]
            go_wp2_with fail
            go_roundw
            case rel => exact ⟨j + 1, by go_num, hlt, q.2, HD4.out, by have := HSW3.out; unfold andThen at this; rwa [if_pos h0] at this, by omega⟩
            case measure => simp [intOf]; omega
          · obtain ⟨q1, hq1⟩ : ∃ q1, q1 = q.1 := ⟨_, rfl⟩
            have HQ1 : Hid (q1 = q.1) := hq1
            rw [← hq1] at h0 ⊢
            have hqb : (q1 == 0) = false := by simpa using h0
            have hqb2 : (q1 != 0) = true := by simpa using h0
            have HN0 : Hid (¬ q1 = 0) := h0
            clear hq1 h0
            go_wp2_with fail
            go_ret
            have hf := HSW3.out
            unfold andThen at hf
            rw [if_neg (by rw [← HQ1.out]; exact HN0.out)] at hf
            rw [← hf]
            exact ⟨by rw [HQ1.out]; rfl, HD4.out.after (HN1.out.ext.to)⟩
    · obtain rfl : j = ns.length := by omega
      obtain ⟨S', hd, hsw, _⟩ := HI.out
      have HD : Hid (Did w1 b F S' wr) := hd
      rw [List.drop_of_length_le (by simp), sweepL] at hsw
      have HSW : Hid ((0, S') = r) := hsw
      clear hd hsw HI
      go_wp2
      go_ret
      rw [← HSW.out]
      exact ⟨rfl, HD.out.after HN1.out.ext.to⟩

end Go.Proofs.YteddohgdegggnaaGreatDoor
