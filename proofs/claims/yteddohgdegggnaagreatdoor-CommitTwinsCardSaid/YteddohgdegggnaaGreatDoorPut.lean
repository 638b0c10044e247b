/- What is shown here, as far as 'cwrite_is': contracts of the program's functions, and the plain laws that they lean on; conditions: each theorem's own hypotheses. -/
import Derived.Test.YteddohgdegggnaaGreatDoorSwp
import Derived.Test.YteddohgdegggnaaGreatDoorLed3
namespace Go.HR
theorem andThen_zero {r : Int × St} {f : St → Int × St} (h : r.1 = 0) : andThen r f = f r.2 := by unfold andThen; rw [if_pos h]
theorem andThen_ne {r : Int × St} {f : St → Int × St} (h : ¬ r.1 = 0) : andThen r f = r := by unfold andThen; rw [if_neg h]
def St.write3 (S : St) (n : Nat) : Int × St := andThen (S.file Nm.tmp.name (pageB 109 (leb n))) fun S => S.rename Nm.tmp.name Nm.man.name
def St.write2 (S : St) (n : Nat) (st : List UInt8) : Int × St := andThen (S.file (Nm.state n).name st) fun S => S.write3 n
theorem write_eq (S : St) (n : Nat) (o st : List UInt8) : S.write n o st = andThen (S.file (Nm.out n).name o) fun S => S.write2 n st := rfl
end Go.HR
namespace Go.Proofs.YteddohgdegggnaaGreatDoor
open Go.RowKit Go.HR
open Go.Proofs

/-- What a call leaves, as the next one meets it. -/
theorem Did.meet {w w1 : World} {b : Nat} {F : List Nat} {S1 : St} (h : Did w b F S1 w1) (hg : Gl w) (hF : ∀ q ∈ F, 8 ≤ q) : ∃ F1, StoreAt w1 b S1 F1 ∧ Only (fun k => k ∈ F) w w1 ∧ (∀ k ∈ F1, k ∈ F ∨ w.heap.size ≤ k) ∧ Gl w1 ∧ (∀ q ∈ F1, 8 ≤ q) := by
  obtain ⟨F1, h1, h2, h3⟩ := h
  refine ⟨F1, h1, h2, h3, hg.keep h2 fun k hk hm => by have := hF k hm; omega, fun q hq => ?_⟩
  rcases h3 q hq with h | h
  · exact hF q h
  · have := hg.base; omega

set_option maxRecDepth 100000 in
set_option maxHeartbeats 1000000 in
theorem put_is {b : Nat} {S : St} {F : List Nat} (tg : ByteArray) (pv : Value) (x : List UInt8) (w : World) (h : StoreAt w b S F) (ha : S.armed ≤ 4611686018427387904) (hs : tg.size ≤ 4611686018427387904)
    (hp : Arg w F pv x.length (by8 x)) :
    Calls Tryz.prog 37 #[.pointer (some ⟨b, 0, none⟩), .string tg, pv] w fun e w' => e = .returned (.int .i64 (S.file tg.toList x).1) ∧ Did w b F (S.file tg.toList x).2 w' := by
  have hfr := append_frame h.wf.sorted tg.toList x
  obtain ⟨lv, fs, hst, rfl⟩ := h
  obtain ⟨pa, pc, rfl, _, _⟩ := hp.shape
  obtain ⟨r, hr⟩ : ∃ r, r = S.append tg.toList x := ⟨_, rfl⟩
  have HR : Hid (r = S.append tg.toList x) := hr
  rw [← hr] at hfr
  have hfile : S.file tg.toList x = andThen r fun S => S.sync tg.toList := by rw [hr]; rfl
  have HFILE : Hid (S.file tg.toList x = andThen r fun S => S.sync tg.toList) := hfile
  rw [hfile]
  have har := hfr.armed
  clear hr hfr hfile
  go_enter Tryz.func37, Tryz.ntmps37
  go_wp2_with fail
  refine (append_is tg _ x w hst ha hs hp).mono ?_
  rintro e w1 ⟨rfl, hd1⟩
  rw [← HR.out] at hd1 ⊢
  have HD1 : Hid (Did w b (foot b lv fs) r.2 w1) := hd1
  clear hd1
  by_cases h0 : r.1 = 0
  · rw [h0]
    have hE : andThen r (fun S => S.sync tg.toList) = r.2.sync tg.toList := by unfold andThen; rw [if_pos h0]
    have HE : Hid (andThen r (fun S => S.sync tg.toList) = r.2.sync tg.toList) := hE
    clear hE h0
    go_wp2_with fail
    obtain ⟨F1, ⟨lv1, fs1, hs1, hf1⟩, ho1, hn1⟩ := HD1.out
    refine (sync_is tg w1 hs1 (by omega) hs).mono ?_
    rintro e w2 ⟨rfl, hd2⟩
    rw [← hf1] at hd2
    go_wp2
    go_ret
    rw [HE.out]
    exact ⟨rfl, Did.compose ho1 hn1 hd2⟩
  · have hE : andThen r (fun S => S.sync tg.toList) = r := by unfold andThen; rw [if_neg h0]
    have HE : Hid (andThen r (fun S => S.sync tg.toList) = r) := hE
    obtain ⟨q, hq⟩ : ∃ q, q = r.1 := ⟨_, rfl⟩
    have HQ : Hid (q = r.1) := hq
    rw [← hq] at h0 ⊢
    have hqb : (q == 0) = false := by simpa using h0
    have hqb2 : (q != 0) = true := by simpa using h0
    clear hE h0 hq
    go_wp2_with fail
    go_ret
    rw [HE.out]
    exact ⟨by rw [HQ.out]; rfl, HD1.out⟩

set_option maxRecDepth 100000 in
set_option maxHeartbeats 4000000 in
theorem cwrite_is {b : Nat} {S : St} {F : List Nat} (n : Nat) (sv lv : Value) (st : List UInt8) (l : List ChgG) (w : World) (h : StoreAt w b S F) (hg : Gl w) (hF : ∀ q ∈ F, 8 ≤ q) (ha : S.armed ≤ 4611686018427387904) (hn : n ≤ 500)
    (hs : Arg w F sv st.length (by8 st)) (hl : w.ownsRow 0 61 10 lv l.length (l.flatMap ChgG.cells)) (hok : ∀ x ∈ l, x.OK) (hll : l.length ≤ 65536) :
    Calls Tryz.prog 20 #[.pointer (some ⟨b, 0, none⟩), .int .u64 n, sv, lv] w
      fun e w' => e = .returned (.int .i64 (S.write n (pageB 108 (ledgerB l)) st).1) ∧ Did w b F (S.write n (pageB 108 (ledgerB l)) st).2 w' := by
  obtain ⟨sa, sc, rfl, _, _⟩ := hs.shape
  obtain ⟨la, lc, rfl, _, _⟩ := owns_shape hl
  obtain ⟨r, hr⟩ : ∃ r, r = S.write n (pageB 108 (ledgerB l)) st := ⟨_, rfl⟩
  have HR : Hid (r = S.write n (pageB 108 (ledgerB l)) st) := hr
  rw [← hr]
  have hl1 : (⟨(Nm.out n).name.toArray⟩ : ByteArray).size ≤ 4611686018427387904 := by have := name_len (m := .out n); rw [bytes_size]; omega
  have hl2 : (⟨(Nm.state n).name.toArray⟩ : ByteArray).size ≤ 4611686018427387904 := by have := name_len (m := .state n); rw [bytes_size]; omega
  have hbt : (⟨#[109, 97, 110, 46, 116, 109, 112]⟩ : ByteArray).toList = Nm.tmp.name := bytes_of [109, 97, 110, 46, 116, 109, 112]
  have hbm : (⟨#[109, 97, 110]⟩ : ByteArray).toList = Nm.man.name := bytes_of [109, 97, 110]
  have HBT : Hid _ := hbt
  have HBM : Hid _ := hbm
  have HS : Hid (Arg w F (.slice sa st.length sc) st.length (by8 st)) := hs
  have HL : Hid (w.ownsRow 0 61 10 (.slice la l.length lc) l.length (l.flatMap ChgG.cells)) := hl
  have HG : Hid (Gl w) := hg
  have H : Hid (StoreAt w b S F) := h
  clear hr hbt hbm hs hl hg h
  go_enter Tryz.func20, Tryz.ntmps20
  go_wp2_with fail
  refine (file_out n hn w HG.out).mono ?_
  rintro e w1 ⟨rfl, hx1⟩
  go_wp2_with fail
  refine (ledlay_is _ l w1 (owns_ext HL.out hx1) hok hll (HG.out.ext hx1).table).mono ?_
  rintro e w2 ⟨v2, rfl, hn2⟩
  go_wp2_with fail
  have hx2 : Ext w w2 := hx1.thenExt hn2.ext
  have hsz1 := hx1.size
  refine (put_is ⟨(Nm.out n).name.toArray⟩ v2 (pageB 108 (ledgerB l)) w2 (H.out.ext hx2) ha hl1 (Arg.of (rd_of_owns hn2.owns) fun k hk hm => by have := hn2.fresh k hk; have := H.out.lt k hm; omega)).mono ?_
  rintro e w3 ⟨rfl, hd3⟩
  rw [bytes_of] at hd3 ⊢
  have hfr1 := file_frame H.out.wf.sorted (Nm.out n).name (pageB 108 (ledgerB l))
  have HD3' := hd3.after hx2.to
  obtain ⟨r1, hr1⟩ : ∃ r1, r1 = S.file (Nm.out n).name (pageB 108 (ledgerB l)) := ⟨_, rfl⟩
  have HR0 := HR.out
  rw [write_eq, ← hr1] at HR0
  clear HR
  have HR : Hid (r = andThen r1 fun S => S.write2 n st) := HR0
  rw [← hr1] at hfr1 HD3' ⊢
  have HD3 : Hid (Did w b F r1.2 w3) := HD3'
  have har1 := hfr1.armed
  clear hd3 HD3' hr1 HR0 hx2 hn2 hx1 hsz1 hfr1
  by_cases h0 : r1.1 = 0
  rotate_left
  · obtain ⟨q, hq⟩ : ∃ q, q = r1.1 := ⟨_, rfl⟩
    have HQ : Hid (q = r1.1) := hq
    have HE : Hid (r = r1) := by show _ = _; rw [HR.out]; exact andThen_ne h0
    rw [← hq] at h0 ⊢
    have hqb : (q == 0) = false := by simpa using h0
    have hqb2 : (q != 0) = true := by simpa using h0
    clear h0 hq
    go_wp2_with fail
    go_ret
    rw [HE.out]
    exact ⟨by rw [HQ.out]; rfl, HD3.out⟩
  rw [h0]
  have HR1 : Hid (r = r1.2.write2 n st) := by show _ = _; rw [HR.out]; exact andThen_zero h0
  clear HR h0
  obtain ⟨F3, hst3, ho3, hn3, hg3, hF3⟩ := HD3.out.meet HG.out hF
  have HO3 : Hid (Only (fun k => k ∈ F) w w3) := ho3
  have HN3 : Hid (∀ k ∈ F3, k ∈ F ∨ w.heap.size ≤ k) := hn3
  have HG3 : Hid (Gl w3) := hg3
  have HST3 : Hid (StoreAt w3 b r1.2 F3) := hst3
  have HF3 : Hid (∀ q ∈ F3, 8 ≤ q) := hF3
  have HS3 : Hid (Arg w3 F3 (.slice sa st.length sc) st.length (by8 st)) := HS.out.next ho3 hn3
  clear hst3 ho3 hn3 hg3 hF3 HS
  go_wp2_with fail
  refine (file_state n hn w3 HG3.out).mono ?_
  rintro e w4 ⟨rfl, hx4⟩
  go_wp2_with fail
  refine (put_is ⟨(Nm.state n).name.toArray⟩ _ st w4 (HST3.out.ext hx4) (by omega) hl2 (HS3.out.ext hx4)).mono ?_
  rintro e w5 ⟨rfl, hd5⟩
  rw [bytes_of] at hd5 ⊢
  have hfr2 := file_frame HST3.out.wf.sorted (Nm.state n).name st
  have hd5' : Did w b F _ w5 := Did.compose HO3.out HN3.out (hd5.after hx4.to)
  obtain ⟨r2, hr2⟩ : ∃ r2, r2 = r1.2.file (Nm.state n).name st := ⟨_, rfl⟩
  have HR0 : r = andThen (r1.2.file (Nm.state n).name st) fun S => S.write3 n := HR1.out
  rw [← hr2] at HR0 hfr2 hd5' ⊢
  have HR : Hid (r = andThen r2 fun S => S.write3 n) := HR0
  have HD5 : Hid (Did w b F r2.2 w5) := hd5'
  have har2 := hfr2.armed
  clear hd5 hd5' hr2 HR0 hx4 hfr2 HR1 HS3 HST3 HG3 HF3 HN3 HO3 HD3
  by_cases h0 : r2.1 = 0
  rotate_left
  · obtain ⟨q, hq⟩ : ∃ q, q = r2.1 := ⟨_, rfl⟩
    have HQ : Hid (q = r2.1) := hq
    have HE : Hid (r = r2) := by show _ = _; rw [HR.out]; exact andThen_ne h0
    rw [← hq] at h0 ⊢
    have hqb : (q == 0) = false := by simpa using h0
    have hqb2 : (q != 0) = true := by simpa using h0
    clear h0 hq
    go_wp2_with fail
    go_ret
    rw [HE.out]
    exact ⟨by rw [HQ.out]; rfl, HD5.out⟩
  rw [h0]
  have HR1 : Hid (r = r2.2.write3 n) := by show _ = _; rw [HR.out]; exact andThen_zero h0
  clear HR h0
  obtain ⟨F5, hst5, ho5, hn5, hg5, hF5⟩ := HD5.out.meet HG.out hF
  have HO5 : Hid (Only (fun k => k ∈ F) w w5) := ho5
  have HN5 : Hid (∀ k ∈ F5, k ∈ F ∨ w.heap.size ≤ k) := hn5
  have HG5 : Hid (Gl w5) := hg5
  have HST5 : Hid (StoreAt w5 b r2.2 F5) := hst5
  clear hst5 ho5 hn5 hg5 hF5
  go_wp2_with fail
  refine (uint_is _ 0 n [] w5 (World.ownsRow_nil _ _ _ _) (by omega) (by omega)).mono ?_
  rintro e w6 ⟨v6, rfl, hap6⟩
  have hn6 := NewRow.ofAppend hap6 (Only.refl _ _) fun k hk => by simp [Value.ownBlock] at hk
  have hn6l := leb_ten' n (by omega)
  go_wp2_with fail
  refine (pagelay_is 109 _ (leb n) w6 (rd_of_owns hn6.owns) (by omega) (HG5.out.ext hn6.ext).table).mono ?_
  rintro e w7 ⟨v7, rfl, hn7⟩
  go_wp2_with fail
  have hx7 : Ext w5 w7 := hn6.ext.thenExt hn7.ext
  have hsz6 := hn6.ext.size
  refine (put_is ⟨#[109, 97, 110, 46, 116, 109, 112]⟩ v7 (pageB 109 (leb n)) w7 (HST5.out.ext hx7) (by omega) (by decide) (Arg.of (rd_of_owns hn7.owns) fun k hk hm => by have := hn7.fresh k hk; have := HST5.out.lt k hm; omega)).mono ?_
  rintro e w8 ⟨rfl, hd8⟩
  rw [HBT.out] at hd8 ⊢
  have hfr3 := file_frame HST5.out.wf.sorted Nm.tmp.name (pageB 109 (leb n))
  have hd8' : Did w b F _ w8 := Did.compose HO5.out HN5.out (hd8.after hx7.to)
  obtain ⟨r3, hr3⟩ : ∃ r3, r3 = r2.2.file Nm.tmp.name (pageB 109 (leb n)) := ⟨_, rfl⟩
  have HR0 : r = andThen (r2.2.file Nm.tmp.name (pageB 109 (leb n))) fun S => S.rename Nm.tmp.name Nm.man.name := HR1.out
  rw [← hr3] at HR0 hfr3 hd8' ⊢
  have HR : Hid (r = andThen r3 fun S => S.rename Nm.tmp.name Nm.man.name) := HR0
  have HD8 : Hid (Did w b F r3.2 w8) := hd8'
  have har3 := hfr3.armed
  clear hd8 hd8' hr3 HR0 hx7 hfr3 HR1 HST5 HG5 HN5 HO5 HD5 hn7 hn6 hap6 hsz6 hn6l
  by_cases h0 : r3.1 = 0
  rotate_left
  · obtain ⟨q, hq⟩ : ∃ q, q = r3.1 := ⟨_, rfl⟩
    have HQ : Hid (q = r3.1) := hq
    have HE : Hid (r = r3) := by show _ = _; rw [HR.out]; exact andThen_ne h0
    rw [← hq] at h0 ⊢
    have hqb : (q == 0) = false := by simpa using h0
    have hqb2 : (q != 0) = true := by simpa using h0
    clear h0 hq
    go_wp2_with fail
    go_ret
    rw [HE.out]
    exact ⟨by rw [HQ.out]; rfl, HD8.out⟩
  rw [h0]
  have HR1 : Hid (r = r3.2.rename Nm.tmp.name Nm.man.name) := by show _ = _; rw [HR.out]; exact andThen_zero h0
  clear HR h0
  obtain ⟨F8, ⟨lv8, fs8, hs8, hf8⟩, ho8, hn8⟩ := HD8.out
  have HO8 : Hid (Only (fun k => k ∈ F) w w8) := ho8
  have HN8 : Hid (∀ k ∈ F8, k ∈ F ∨ w.heap.size ≤ k) := hn8
  have HS8 : Hid (StoreIs w8 b r3.2 lv8 fs8) := hs8
  have HF8 : Hid (F8 = foot b lv8 fs8) := hf8
  clear hs8 hf8 ho8 hn8
  go_wp2_with fail
  refine (rename_is ⟨#[109, 97, 110, 46, 116, 109, 112]⟩ ⟨#[109, 97, 110]⟩ w8 HS8.out (by omega) (by decide) (by decide)).mono ?_
  rintro e w9 ⟨rfl, hd9⟩
  rw [HBT.out, HBM.out, ← HF8.out] at hd9
  rw [HBT.out, HBM.out]
  have HD9 : Hid (Did w b F _ w9) := Did.compose HO8.out HN8.out hd9
  clear hd9
  go_wp2
  go_ret
  rw [HR1.out]
  exact ⟨rfl, HD9.out⟩

end Go.Proofs.YteddohgdegggnaaGreatDoor
