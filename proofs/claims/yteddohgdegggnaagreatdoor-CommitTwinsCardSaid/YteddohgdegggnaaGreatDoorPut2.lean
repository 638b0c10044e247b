/- What is shown here, as far as 'cput_is': contracts of the program's functions, and the plain laws that they lean on; conditions: each theorem's own hypotheses. -/
import Derived.Test.YteddohgdegggnaaGreatDoorPut
namespace Go.HR
theorem write_frame {S : St} (hs : Sorted S.l) (n : Nat) (o st : List UInt8) : Frame S (S.write n o st).2 (fun u => ((u = (Nm.out n).name ∨ u = (Nm.state n).name) ∨ u = Nm.tmp.name) ∨ u = Nm.man.name) := by
  unfold St.write
  refine ((file_frame hs _ o).mono fun u hu => .inl (.inl (.inl hu))).andThen fun _ h1 => ?_
  refine ((file_frame h1 _ st).mono fun u hu => .inl (.inl (.inr hu))).andThen fun _ h2 => ?_
  refine ((file_frame h2 _ _).mono fun u hu => .inl (.inr hu)).andThen fun _ h3 => ?_
  exact (rename_frame h3 _ _).mono fun u hu => hu.elim (fun h => .inl (.inr h)) .inr
theorem write_named {S : St} (hs : Sorted S.l) (hn : Named S.l) {n : Nat} (h : n ≤ 500) (o st : List UInt8) : Named (S.write n o st).2.l := by
  refine named_frame (write_frame hs n o st) hs hn fun u hu => ?_
  rcases hu with ((rfl | rfl) | rfl) | rfl
  · exact ⟨.out n, h, rfl⟩
  · exact ⟨.state n, h, rfl⟩
  · exact ⟨.tmp, trivial, rfl⟩
  · exact ⟨.man, trivial, rfl⟩
theorem sweep_named {S : St} (hs : Sorted S.l) (hn : Named S.l) (k : Nat) : Named (S.sweep k).2.l :=
  named_frame (sweep_frame hs hn k) hs hn fun _ ⟨m, h1, _, h3⟩ => ⟨m, h1, h3⟩
theorem commit_on {S : St} (ho : S.off = false) (k : Nat) (o st : List UInt8) : S.commit k o st = (let r := andThen (S.sweep k) fun S => S.write (k + 1) o st; if r.1 = 0 then r.2.sweep (k + 1) else if r.1 = 9 then r else (r.1, (r.2.sweep k).2)) := by
  unfold St.commit
  rw [ho]
  rfl
theorem commit_zero {S : St} (ho : S.off = false) {k : Nat} {o st : List UInt8} {r : Int × St} (hr : r = andThen (S.sweep k) fun S => S.write (k + 1) o st) (h : r.1 = 0) : S.commit k o st = r.2.sweep (k + 1) := by
  rw [commit_on ho, ← hr]; simp only [h, if_true]
theorem commit_nine {S : St} (ho : S.off = false) {k : Nat} {o st : List UInt8} {r : Int × St} (hr : r = andThen (S.sweep k) fun S => S.write (k + 1) o st) (h : r.1 = 9) : S.commit k o st = r := by
  rw [commit_on ho, ← hr]
  have : ¬ r.1 = 0 := by omega
  simp only [h, if_true]
  rw [if_neg (by decide)]
theorem commit_else {S : St} (ho : S.off = false) {k : Nat} {o st : List UInt8} {r : Int × St} (hr : r = andThen (S.sweep k) fun S => S.write (k + 1) o st) (h : r.1 ≠ 0) (h' : r.1 ≠ 9) : S.commit k o st = (r.1, (r.2.sweep k).2) := by
  rw [commit_on ho, ← hr]
  simp only []
  rw [if_neg h, if_neg h']
end Go.HR
namespace Go.Proofs.YteddohgdegggnaaGreatDoor
open Go.RowKit Go.HR
open Go.Proofs

set_option maxRecDepth 100000 in
set_option maxHeartbeats 4000000 in
theorem cput_is {b : Nat} {S : St} {F : List Nat} (k n : Nat) (sv lv : Value) (st : List UInt8) (l : List ChgG) (w : World) (h : StoreAt w b S F) (hg : Gl w) (hF : ∀ q ∈ F, 8 ≤ q) (ha : S.armed ≤ 4611686018427387904) (hnk : n = k + 1) (hk : k < 125)
    (hnm : Named S.l) (hm : ManIs S k)
    (hs : Arg w F sv st.length (by8 st)) (hl : w.ownsRow 0 61 10 lv l.length (l.flatMap ChgG.cells)) (hlf : ∀ k, lv.ownBlock = some k → k ∉ F) (hok : ∀ x ∈ l, x.OK) (hll : l.length ≤ 65536) :
    Calls Tryz.prog 8 #[.pointer (some ⟨b, 0, none⟩), .int .u64 n, sv, lv] w
      fun e w' => e = .returned (.int .i64 (S.commit k (pageB 108 (ledgerB l)) st).1) ∧ Did w b F (S.commit k (pageB 108 (ledgerB l)) st).2 w' := by
  obtain ⟨sa, sc, rfl, _, _⟩ := hs.shape
  obtain ⟨la, lc, rfl, _, _⟩ := owns_shape hl
  obtain ⟨bs, hbs⟩ : ∃ bs, bs = pageB 108 (ledgerB l) := ⟨_, rfl⟩
  have HBS : Hid (bs = pageB 108 (ledgerB l)) := hbs
  rw [← hbs]
  obtain ⟨r, hr⟩ : ∃ r, r = S.commit k bs st := ⟨_, rfl⟩
  have HR : Hid (r = S.commit k bs st) := hr
  rw [← hr]
  have g1 : ¬ ((n : Int) < 1) := by omega
  have g2 : ¬ ((125 : Int) < n) := by omega
  have g3 : IntKind.u64.wrap ((n : Int) - 1) = (k : Int) := by rw [IntKind.wrap_u64]; omega
  have HNK : Hid (n = k + 1) := hnk
  have hn5 : n ≤ 500 := by omega
  have HS : Hid (Arg w F (.slice sa st.length sc) st.length (by8 st)) := hs
  have HL : Hid (w.ownsRow 0 61 10 (.slice la l.length lc) l.length (l.flatMap ChgG.cells)) := hl
  have HLF : Hid (∀ k, (Value.slice la l.length lc).ownBlock = some k → k ∉ F) := hlf
  have HG : Hid (Gl w) := hg
  have H : Hid (StoreAt w b S F) := h
  clear hr hs hl hlf hg h hnk hbs
  go_enter Tryz.func8, Tryz.ntmps8
  go_wp2_with fail
  obtain ⟨lv0, fs0, hs0, hf0⟩ := H.out
  refine (last_is k w hs0 HG.out hm).mono ?_
  rintro e w1 ⟨rfl, hx1⟩
  have HX1 : Hid (Ext w w1) := hx1
  clear hs0 hf0 hx1
  cases hoff : S.off
  · have HOFF : Hid (S.off = false) := hoff
    simp only [Bool.false_eq_true, if_false]
    clear hoff
    go_wp2_with fail
    obtain ⟨lv1, fs1, hs1, hf1⟩ := H.out.ext HX1.out
    refine (sweep_is k w1 hs1 (HG.out.ext HX1.out) (by rw [← hf1]; exact hF) hnm ha).mono ?_
    rintro e w2 ⟨rfl, hd2⟩
    rw [← hf1] at hd2
    have HD2 : Hid (Did w b F (S.sweep k).2 w2) := hd2.after HX1.out.to
    have hsn := sweep_named H.out.wf.sorted hnm k
    have hsa := (sweep_frame H.out.wf.sorted hnm k).armed
    have hsc := sweep_codes H.out.wf.sorted HOFF.out hnm k
    obtain ⟨r1, hr1⟩ : ∃ r1, r1 = S.sweep k := ⟨_, rfl⟩
    rw [← hr1] at hsn hsa hsc HD2 ⊢
    have HR1 : Hid (r1 = S.sweep k) := hr1
    have HSN : Hid (Named r1.2.l) := hsn
    clear hd2 hs1 hf1 hr1 hsn
    rcases hsc with h0 | h9
    · rw [h0]
      have H0 : Hid (r1.1 = 0) := h0
      clear h0
      obtain ⟨F2, hst2, ho2, hn2, hg2, hF2⟩ := HD2.out.meet HG.out hF
      have HO2 : Hid (Only (fun k => k ∈ F) w w2) := ho2
      have HN2 : Hid (∀ k ∈ F2, k ∈ F ∨ w.heap.size ≤ k) := hn2
      have HG2 : Hid (Gl w2) := hg2
      have HST2 : Hid (StoreAt w2 b r1.2 F2) := hst2
      have HF2 : Hid (∀ q ∈ F2, 8 ≤ q) := hF2
      have HS2 : Hid (Arg w2 F2 (.slice sa st.length sc) st.length (by8 st)) := HS.out.next ho2 hn2
      have HL2 : Hid (w2.ownsRow 0 61 10 (.slice la l.length lc) l.length (l.flatMap ChgG.cells)) := owns_keep HL.out ho2 fun k hk hm => HLF.out k hk hm
      clear hst2 ho2 hn2 hg2 hF2 HS HL HLF
      go_wp2_with fail
      refine (cwrite_is n _ _ st l w2 HST2.out HG2.out HF2.out (by omega) hn5 HS2.out HL2.out hok hll).mono ?_
      rintro e w3 ⟨rfl, hd3⟩
      rw [← HBS.out] at hd3 ⊢
      have hwn := write_named HST2.out.wf.sorted HSN.out hn5 bs st
      have hwa := (write_frame HST2.out.wf.sorted n bs st).armed
      have hd3' : Did w b F _ w3 := Did.compose HO2.out HN2.out hd3
      obtain ⟨r2, hr2⟩ : ∃ r2, r2 = r1.2.write n bs st := ⟨_, rfl⟩
      have hr2' : r2 = andThen (S.sweep k) fun S => S.write (k + 1) bs st := by rw [hr2, ← HR1.out, andThen_zero H0.out, HNK.out]
      rw [← hr2] at hwn hwa hd3' ⊢
      have HWN : Hid (Named r2.2.l) := hwn
      have HD3 : Hid (Did w b F r2.2 w3) := hd3'
      have HR2 : Hid (r2 = andThen (S.sweep k) fun S => S.write (k + 1) bs st) := hr2'
      clear hwn hd3 hd3' hr2 hr2' HS2 HL2 HST2 HG2 HF2 HN2 HO2 HD2
      by_cases h20 : r2.1 = 0
      · rw [h20]
        have HR3 : Hid (r = r2.2.sweep (k + 1)) := by show _ = _; rw [HR.out]; exact commit_zero HOFF.out HR2.out h20
        clear h20
        obtain ⟨F3, ⟨lv3, fs3, hs3, hf3⟩, ho3, hn3, hg3, hF3⟩ := HD3.out.meet HG.out hF
        have HO3 : Hid (Only (fun k => k ∈ F) w w3) := ho3
        have HN3 : Hid (∀ k ∈ F3, k ∈ F ∨ w.heap.size ≤ k) := hn3
        have HG3 : Hid (Gl w3) := hg3
        have HS3 : Hid (StoreIs w3 b r2.2 lv3 fs3) := hs3
        have HF3 : Hid (∀ q ∈ foot b lv3 fs3, 8 ≤ q) := by show ∀ q ∈ foot b lv3 fs3, 8 ≤ q; rw [← hf3]; exact hF3
        have HE3 : Hid (F3 = foot b lv3 fs3) := hf3
        clear hs3 ho3 hn3 hg3 hF3 hf3
        go_wp2_with fail
        refine (sweep_is n w3 HS3.out HG3.out HF3.out HWN.out (by omega)).mono ?_
        rintro e w4 ⟨rfl, hd4⟩
        rw [← HE3.out] at hd4
        have HD4 : Hid (Did w b F _ w4) := Did.compose HO3.out HN3.out hd4
        clear hd4
        go_wp2
        go_ret
        rw [HR3.out, ← HNK.out]
        exact ⟨rfl, HD4.out⟩
      · by_cases h29 : r2.1 = 9
        · rw [h29]
          have HR3 : Hid (r = r2) := by show _ = _; rw [HR.out]; exact commit_nine HOFF.out HR2.out h29
          have H9 : Hid (r2.1 = 9) := h29
          clear h20 h29
          go_wp2
          go_ret
          rw [HR3.out, H9.out]
          exact ⟨rfl, HD3.out⟩
        · have HR3 : Hid (r = (r2.1, (r2.2.sweep k).2)) := by show _ = _; rw [HR.out]; exact commit_else HOFF.out HR2.out h20 h29
          obtain ⟨q, hq⟩ : ∃ q, q = r2.1 := ⟨_, rfl⟩
          have HQ : Hid (q = r2.1) := hq
          rw [← hq] at h20 h29 ⊢
          have hqb : (q == 0) = false := by simpa using h20
          have hqb2 : (q != 0) = true := by simpa using h20
          have hqc : (q == 9) = false := by simpa using h29
          have hqc2 : (q != 9) = true := by simpa using h29
          clear h20 h29 hq
          obtain ⟨F3, ⟨lv3, fs3, hs3, hf3⟩, ho3, hn3, hg3, hF3⟩ := HD3.out.meet HG.out hF
          have HO3 : Hid (Only (fun k => k ∈ F) w w3) := ho3
          have HN3 : Hid (∀ k ∈ F3, k ∈ F ∨ w.heap.size ≤ k) := hn3
          have HG3 : Hid (Gl w3) := hg3
          have HS3 : Hid (StoreIs w3 b r2.2 lv3 fs3) := hs3
          have HF3 : Hid (∀ q ∈ foot b lv3 fs3, 8 ≤ q) := by show ∀ q ∈ foot b lv3 fs3, 8 ≤ q; rw [← hf3]; exact hF3
          have HE3 : Hid (F3 = foot b lv3 fs3) := hf3
          clear hs3 ho3 hn3 hg3 hF3 hf3
          go_wp2_with fail
          refine (sweep_is k w3 HS3.out HG3.out HF3.out HWN.out (by omega)).mono ?_
          rintro e w4 ⟨rfl, hd4⟩
          rw [← HE3.out] at hd4
          have HD4 : Hid (Did w b F _ w4) := Did.compose HO3.out HN3.out hd4
          clear hd4
          go_wp2
          go_ret
          rw [HR3.out]
          exact ⟨by rw [HQ.out]; rfl, HD4.out⟩
    · rw [h9]
      have HR3 : Hid (r = r1) := by
        show _ = _
        have e1 : r1 = andThen (S.sweep k) fun S => S.write (k + 1) bs st := by rw [← HR1.out, andThen_ne (by omega)]
        rw [HR.out]
        exact commit_nine HOFF.out e1 h9
      have H9 : Hid (r1.1 = 9) := h9
      clear h9
      go_wp2
      go_ret
      rw [HR3.out, H9.out]
      exact ⟨rfl, HD2.out⟩
  · have HR3 : Hid (r = (9, S)) := by show _ = _; rw [HR.out]; unfold St.commit; rw [if_pos hoff]
    simp only [if_true]
    clear hoff
    go_wp2
    go_ret
    rw [HR3.out]
    exact ⟨rfl, (Did.refl H.out).ext HX1.out⟩

end Go.Proofs.YteddohgdegggnaaGreatDoor
