/- What is shown here, as far as 'missing_is': contracts of the program's functions, and the plain laws that they lean on; conditions: each theorem's own hypotheses. -/
import Derived.Test.YteddohgdegggnaaGreatDoorSys
namespace Go.HR
theorem delete_calm {S : St} (hs : Sorted S.l) (ho : S.off = false) (ha : S.armed = 0) {t : List UInt8} (hf : form t = true) (hh : has S.l t = true) : S.delete t = (0, { S with l := dropFile S.l t }) := by
  unfold St.delete St.change
  rw [if_pos ((look_off hf).2.2 ho), if_pos hh, begin_calm ha, if_neg (by rw [ho]; simp), kDel_of hs hh]

/-- The files of a store in which k commits are, and nothing else. -/
theorem good_name {S : St} {os : List (List UInt8)} {st : List UInt8} {u c : Nat} (h : Good S os st u c) {f : FileG} (hf : f ∈ S.l) : ∃ m : Nm, m.OK ∧ f.name = m.name ∧ m.junk os.length = false := by
  obtain ⟨m, h1, h2⟩ := h.inv.named f hf
  refine ⟨m, h1, h2, ?_⟩
  cases hj : m.junk os.length
  · rfl
  · have := h.clean m.name ⟨m, h1, hj, rfl⟩
    rw [(get_iff h.inv.sorted).2 ⟨hf, h2⟩] at this
    cases this

theorem drop_named {l : List FileG} (h : Named l) (t : List UInt8) : Named (dropFile l t) := fun f hf => h f (mem_dropFile.1 hf).1

theorem gone_man {S : St} {os : List (List UInt8)} {st : List UInt8} {u c : Nat} (h : Good S os st u c) (h0 : 0 < os.length) :
    let S' : St := { S with l := dropFile S.l Nm.man.name }
    ManIs S' 0 ∧ S'.recCode 0 = 0 ∧ (S'.recSt 0).l = [] := by
  intro S'
  have hs : Sorted S'.l := dropFile_sorted h.inv.sorted _
  have hn : Named S'.l := drop_named h.inv.named _
  have hm : get? S'.l Nm.man.name = none := by show get? (dropFile S.l _) _ = _; rw [get_dropFile h.inv.sorted, if_pos rfl]
  have ho : S'.off = false := h.on
  have hfr := sweep_frame hs hn 0
  have hz : (S'.sweep 0).1 = 0 := by
    rcases sweep_codes hs ho hn 0 with h0 | h9
    · exact h0
    · exact ff (hfr.calm h.armed ho) ((sweep_ends ho hn 0).off h9)
  have hcl := sweep_clean hs hn hz
  have hst : S'.recSt 0 = (S'.sweep 0).2 := by unfold St.recSt; rw [ho]; rfl
  refine ⟨.inl ⟨hm, rfl⟩, (recCode_on ho hz).1 rfl, ?_⟩
  rw [hst]
  refine List.eq_nil_iff_forall_not_mem.2 fun f hf => ?_
  obtain ⟨m, h1, h2⟩ := sweep_named hs hn 0 f hf
  have hg := (get_iff hfr.sorted).2 ⟨hf, h2⟩
  have hnm : get? (S'.sweep 0).2.l Nm.man.name = none := by
    rw [hfr.get _ fun hj => by have := junk_of (m := .man) trivial hj; simp [Nm.junk] at this]; exact hm
  have hn0 : get? (S'.sweep 0).2.l (Nm.state 0).name = none := by
    rw [hfr.get _ fun hj => by have := junk_of (m := .state 0) (Nat.zero_le _) hj; simp [Nm.junk] at this]
    show get? (dropFile S.l _) _ = _
    rw [get_dropFile h.inv.sorted, h.clean (Nm.state 0).name ⟨.state 0, Nat.zero_le _, by simp [Nm.junk]; omega, rfl⟩]
    split <;> rfl
  by_cases hmm : m = .man
  · subst hmm
    rw [hnm] at hg; cases hg
  · by_cases hm0 : m = .state 0
    · subst hm0
      rw [hn0] at hg; cases hg
    · have hjk : m.junk 0 = true := by
        cases m with
        | man => exact absurd rfl hmm
        | tmp => rfl
        | out i => simp [Nm.junk]; omega
        | state i => simp only [Nm.junk, bne_iff_ne, ne_eq]; exact fun e => hm0 (by rw [e])
      rw [hcl m.name ⟨m, h1, hjk, rfl⟩] at hg; cases hg

/-- A file other than the one that tells which commit is the last is gone. -/
theorem gone_other {S : St} {os : List (List UInt8)} {st : List UInt8} {u c : Nat} (h : Good S os st u c) (h0 : 0 < os.length) {m : Nm} (hm : m.OK) (hne : m ≠ .man) (hj : m.junk os.length = false) :
    let S' : St := { S with l := dropFile S.l m.name }
    ManIs S' os.length ∧ S'.recCode os.length = 3 ∧ ∀ t f, get? S'.l t = some f → get? S.l t = some f := by
  intro S'
  have hs : Sorted S'.l := dropFile_sorted h.inv.sorted _
  have hn : Named S'.l := drop_named h.inv.named _
  have hget : ∀ t, get? S'.l t = if t = m.name then none else get? S.l t := fun t => get_dropFile h.inv.sorted _ _
  have hsub : ∀ t f, get? S'.l t = some f → get? S.l t = some f := fun t f ht => by
    rw [hget] at ht
    split at ht
    · cases ht
    · exact ht
  have hcl : Clean S' os.length := fun t ht => by
    rw [hget, h.clean t ht]; split <;> rfl
  have hsw := sweep_clean_id hs hn hcl
  have hman : get? S'.l Nm.man.name = get? S.l Nm.man.name := by
    rw [hget, if_neg fun e => hne (name_inj (m := .man) trivial hm e).symm]
  refine ⟨?_, ?_, hsub⟩
  · rcases h.inv.manIs with ⟨h1, h2⟩ | ⟨f, h1, h2⟩
    · omega
    · exact .inr ⟨f, by rw [hman]; exact h1, h2⟩
  · refine (recCode_on (S := S') (k := os.length) h.on (by rw [hsw])).2.1 (by omega) ?_
    cases m with
    | man => exact absurd rfl hne
    | tmp => simp [Nm.junk] at hj
    | out i =>
      simp [Nm.junk] at hj
      refine .inr ⟨i - 1, by omega, ?_⟩
      rw [show i - 1 + 1 = i by omega, hget, if_pos rfl]
    | state i =>
      simp only [Nm.junk, bne_eq_false_iff_eq] at hj
      subst hj
      exact .inl (by rw [hget, if_pos rfl])

end Go.HR
namespace Go.Proofs.YteddohgdegggnaaGreatDoor
open Go.RowKit Go.HR
open Go.Proofs

theorem pick_is {wr w2 : World} {S : St} {st : List UInt8} {j u c : Nat} {v : Value} {ns : List (List UInt8)} (which : UInt8) (hgd : HR.Good S (List.map outB (List.replicate j [])) st u c) (hk1 : 1 ≤ j) (hcnt : S.l.length ≤ 500) (hns : ns = S.l.map (·.name))
    (hn2 : NewRow 9 1 wr ns.length (strs ns) v w2) : ∃ ix m g nc, v = .slice (some ⟨g, 0, none⟩) ns.length nc ∧ ns.length ≤ nc ∧ (wrap64 (which.toNat : Int)).tmod (ns.length : Int) = ((ix : Nat) : Int) ∧ (ix : Int) < (ns.length : Int) ∧ ¬ ((ns.length : Int) = 0) ∧ ¬ (ns.length = 0) ∧
      Nm.OK m ∧ m.junk j = false ∧ has S.l m.name = true ∧ w2.cell? ⟨g, ix, none⟩ = some (.string ⟨m.name.toArray⟩) := by
  have hjl : (List.map outB (List.replicate j ([] : List ChgG))).length = j := by simp
  have hL0 : 0 < ns.length := by
    have hm := hgd.inv.man
    rw [hjl, if_neg (by omega)] at hm
    have := ((get_iff hgd.inv.sorted).1 hm).1
    rw [hns, List.length_map]
    exact List.length_pos_of_mem this
  have hL5 : ns.length ≤ 500 := by rw [hns, List.length_map]; exact hcnt
  obtain ⟨ix, hix⟩ : ∃ ix, ix = which.toNat % ns.length := ⟨_, rfl⟩
  have hixl : ix < ns.length := by rw [hix]; exact Nat.mod_lt _ hL0
  have htm : (wrap64 (which.toNat : Int)).tmod (ns.length : Int) = (ix : Int) := by
    have hn := which.toNat_lt
    have e1 : wrap64 (which.toNat : Int) = (which.toNat : Int) := IntWalk.wrap64_in _ ⟨by omega, by omega⟩
    rw [e1, Int.tmod_eq_emod_of_nonneg (by omega), hix]
    exact (Int.natCast_emod _ _).symm
  obtain ⟨t, ht⟩ : ∃ t, ns[ix]? = some t := ⟨_, List.getElem?_eq_getElem hixl⟩
  obtain ⟨f, hfm, hft⟩ : ∃ f ∈ S.l, f.name = t := by
    have := List.mem_of_getElem? ht
    rw [hns] at this
    exact List.mem_map.1 this
  obtain ⟨m, hmo, hmn, hmj⟩ := good_name hgd hfm
  rw [hjl] at hmj
  obtain rfl : t = m.name := hft.symm.trans hmn
  obtain ⟨na, nc, rfl, hnc, _⟩ := owns_shape hn2.owns
  obtain ⟨g, rfl⟩ : ∃ g, na = some ⟨g, 0, none⟩ := by
    rcases hn2.owns.2 with ⟨_, e2⟩ | ⟨g, cap, cur, e1, _⟩
    · omega
    · simp at e1; exact ⟨g, e1.1⟩
  refine ⟨ix, m, g, nc, rfl, hnc, htm, by omega, by omega, by omega, hmo, hmj, (has_iff _ _).2 ⟨f, hfm, hmn⟩, ?_⟩
  have := hn2.owns.cells (g := g) rfl ix (.string ⟨m.name.toArray⟩) (by simp only [strs, List.getElem?_map, ht]; rfl)
  rwa [Addr.add_lit, Nat.zero_add] at this

theorem first_num (n : UInt8) : IntKind.u64.wrap (1 + (IntKind.u64.wrap (n.toNat : Int)).tmod 9) = ((1 + n.toNat % 9 : Nat) : Int) := by
  have hn := n.toNat_lt
  have e1 : IntKind.u64.wrap (n.toNat : Int) = (n.toNat : Int) := by rw [IntKind.wrap_u64]; omega
  rw [e1, Int.tmod_eq_emod_of_nonneg (by omega), IntKind.wrap_u64]
  omega

set_option maxRecDepth 100000 in
set_option maxHeartbeats 2000000 in
theorem missing_is (n which : UInt8) (w : World) (hg : Gl w) : Calls Tryz.prog 3 #[.int .u8 n.toNat, .int .u8 which.toNat] w fun e w' => e = .returned (.bool true) ∧ Ext w w' := by
  have HG : Hid (Gl w) := hg
  clear hg
  go_enter Tryz.func3, Tryz.ntmps3
  go_wp2_with fail
  refine (awake_is w HG.out).mono ?_
  rintro e w0 ⟨rfl, hx0⟩
  go_wp2_with fail
  refine (new_is 1048576 w0 (by omega) (by omega)).mono ?_
  rintro e w1 ⟨b, rfl, hst, hx1, hb1⟩
  have hs1 := new_sys hst hx1 hb1 (HG.out.ext hx0)
  have HS1 : Hid (Sys w1 b [b] ⟨[], 1048576, 0, false⟩ [] [] 0 0) := hs1
  have HX1 : Hid (Ext w w1) := hx0.thenExt hx1
  have hbl : b < w1.heap.size := hst.lt b (by simp)
  have hbw : w.heap.size ≤ b := Nat.le_trans hx0.size hb1
  obtain ⟨k, hk⟩ : ∃ k, k = 1 + n.toNat % 9 := ⟨_, rfl⟩
  have hk9 : k ≤ 9 := by omega
  have hk1 : 1 ≤ k := by omega
  clear hst hx1 hx0 hs1 hb1
  go_upto_region 5 with fail
  have hkk := first_num n
  rw [← hk] at hkk
  rw [hkk]
  have HK : Hid (k = 1 + n.toNat % 9) := hk
  clear hkk hk
  go_wp2_with fail
  go_loopw [8] (fun i wr => ∃ j : Nat, i = .int .u64 ((j + 1 : Nat) : Int) ∧ j ≤ k ∧ Hid (∃ F S st, Sys wr b F S (List.replicate j []) st (39 * j) (3 * j) ∧ Only (fun q => q ∈ [b]) w1 wr ∧ (∀ q ∈ F, q ∈ [b] ∨ w1.heap.size ≤ q) ∧ S.room = 1048576)) (fun i _ => k + 1 - (intOf i).toNat)
  case atStart => exact ⟨0, rfl, Nat.zero_le _, [b], _, _, HS1.out, Only.refl _ _, fun q hq => .inl hq, rfl⟩
  case round =>
    obtain ⟨j, rfl, hj, HI⟩ := hrel
    rename World => wr
    obtain ⟨n1, hn1⟩ : ∃ n1, n1 = j + 1 := ⟨_, rfl⟩
    rw [← hn1]
    have HN1 : Hid (n1 = j + 1) := hn1
    by_cases hlt : j < k
    · have hle : ((n1 : Int) ≤ k) := by omega
      obtain ⟨F, S, st, hs, ho, hf, hr⟩ := HI.out
      have HS : Hid (Sys wr b F S (List.replicate j []) st (39 * j) (3 * j)) := hs
      have HO : Hid (Only (fun q => q ∈ [b]) w1 wr) := ho
      have HF : Hid (∀ q ∈ F, q ∈ [b] ∨ w1.heap.size ≤ q) := hf
      have HR : Hid (S.room = 1048576) := hr
      clear hs ho hf hr hn1 HI
      go_wp2_with fail
      have hn126 : n1 = (List.replicate j ([] : List ChgG)).length + 1 := by rw [List.length_replicate]; exact HN1.out
      have hl125 : (List.replicate j ([] : List ChgG)).length < 125 := by rw [List.length_replicate]; omega
      have hx2 : Ext wr (wr.alloc (.cells #[.int .u8 n.toNat] 5)) := (Only.refl _ _).alloc _
      have hblk : ∀ q ∈ F, q < wr.heap.size := HS.out.at_.lt
      have hroom : 39 * j + (123 * ([] : List ChgG).length + 19) + [n].length + 19 ≤ S.room := by
        rw [HR.out]
        show 39 * j + (123 * 0 + 19) + 1 + 19 ≤ 1048576
        omega
      have hown : (wr.alloc (.cells #[.int .u8 n.toNat] 5)).ownsRow 0 61 10 (.slice none 0 0) ([] : List ChgG).length (([] : List ChgG).flatMap ChgG.cells) := World.ownsRow_nil _ _ _ _
      have hput := put_any (HS.out.ext hx2) n1 (.slice (some ⟨wr.heap.size, 0, none⟩) 1 1) (.slice none 0 0) [n] [] hn126 hl125 (Arg.of (one_byte wr n rfl) fun q hq hm => by simp [Value.ownBlock] at hq; have := hblk q hm; omega) hown (fun q hq => by simp [Value.ownBlock] at hq)
        (fun x hx => (List.not_mem_nil hx).elim) (Nat.zero_le _) hroom (by omega)
      clear hroom hown hblk
      refine hput.mono ?_
      rintro e w2 ⟨rfl, S2, F2, hs2, ho2, hf2, hr2⟩
      have hsz2 := hx2.size
      have hszr := HO.out.size
      have HS2 : Hid (Sys w2 b F2 S2 (List.replicate (j + 1) []) [n] (39 * (j + 1)) (3 * (j + 1))) := by
        rw [List.replicate_succ']
        exact ⟨hs2.at_, hs2.gl, hs2.up, hs2.good.mono (by simp; omega) (by omega), hs2.ok, hs2.short⟩
      have HO2 : Hid (Only (fun q => q ∈ [b]) w1 w2) := (HO.out.thenExt hx2).trans ho2 fun q hq hm => by
        rcases HF.out q hm with h | h
        · exact h
        · omega
      have HF2 : Hid (∀ q ∈ F2, q ∈ [b] ∨ w1.heap.size ≤ q) := fun q hq => by
        rcases hf2 q hq with h | h
        · exact HF.out q h
        · exact .inr (by omega)
      have HR2 : Hid (S2.room = 1048576) := hr2.trans HR.out
      have hw1 : IntKind.u64.wrap ((n1 : Int) + 1) = ((n1 + 1 : Nat) : Int) := by rw [IntKind.wrap_u64]; omega
      clear hs2 ho2 hf2 hr2 hx2 hput hn126 hl125
      go_wp2
      go_roundw
      case rel => exact ⟨j + 1, by rw [← HN1.out]; go_num, hlt, F2, S2, [n], HS2.out, HO2.out, HF2.out, HR2.out⟩
      case measure => simp [intOf]; omega
    · obtain rfl : j = k := by omega
      have hle : ¬ ((n1 : Int) ≤ j) := by omega
      obtain ⟨F, S, st, hs, ho, hf, hr⟩ := HI.out
      have HS : Hid (Sys wr b F S (List.replicate j []) st (39 * j) (3 * j)) := hs
      have HO : Hid (Only (fun q => q ∈ [b]) w1 wr) := ho
      have HF : Hid (∀ q ∈ F, q ∈ [b] ∨ w1.heap.size ≤ q) := hf
      clear hs ho hf hr hn1 HI
      go_wp2_with fail
      obtain ⟨lv0, fs0, hs0, hf0⟩ := HS.out.at_
      refine (list_is wr hs0).mono ?_
      rintro e w2 ⟨nv, rfl, hn2⟩
      obtain ⟨ns, hns⟩ : ∃ ns, ns = S.l.map (·.name) := ⟨_, rfl⟩
      rw [← hns] at hn2
      obtain ⟨ix, m, g, nc, rfl, hnc, htm, hix2, hLz, hLz2, hmo, hmj, hmh, d0⟩ := pick_is which HS.out.good hk1 HS.out.at_.wf.count hns hn2
      have HM : Hid (m.junk j = false) := hmj
      have HHAS : Hid (has S.l m.name = true) := hmh
      have HX2 : Hid (Ext wr w2) := hn2.ext
      clear hs0 hf0 hns hn2 hmj hmh
      go_wp2_with fail
      obtain ⟨lv2, fs2, hs2, hf2⟩ := HS.out.at_.ext HX2.out
      have hdc := delete_calm HS.out.at_.wf.sorted HS.out.good.on HS.out.good.armed (form_name hmo) HHAS.out
      refine (del_is ⟨m.name.toArray⟩ w2 hs2 (by rw [HS.out.good.armed]; omega) (by rw [bytes_size]; have := name_len (m := m); omega)).mono ?_
      rintro e w3 ⟨rfl, hd3⟩
      rw [bytes_of, hdc, ← hf2] at hd3
      rw [bytes_of, hdc]
      obtain ⟨S', hS'⟩ : ∃ S' : St, S' = { S with l := dropFile S.l m.name } := ⟨_, rfl⟩
      have HSE : Hid (S' = { S with l := dropFile S.l m.name }) := hS'
      have hd3' : Did w2 b F S' w3 := by rw [hS']; exact hd3
      obtain ⟨F3, hst3, ho3, hn3, hg3, hF3⟩ := hd3'.meet (HS.out.gl.ext HX2.out) HS.out.up
      have hz1 := HX1.out.size
      have hz2 := HO.out.size
      have hz3 := HX2.out.size
      have hFw : ∀ q ∈ F, w.heap.size ≤ q := fun q hq => by
        rcases HF.out q hq with h | h
        · rw [List.mem_singleton.1 h]; exact hbw
        · omega
      have HX3 : Hid (Ext w w3) := ((HX1.out.trans HO.out fun q hq hm => by rw [List.mem_singleton.1 hm] at hq; omega).thenExt HX2.out).trans ho3 fun q hq hm => by have := hFw q hm; omega
      have HFW : Hid (∀ q ∈ F3, w.heap.size ≤ q) := fun q hq => by
        rcases hn3 q hq with h | h
        · exact hFw q h
        · omega
      have HST3 : Hid (StoreAt w3 b S' F3) := hst3
      have HG3 : Hid (Gl w3) := hg3
      have HF3 : Hid (∀ q ∈ F3, 8 ≤ q) := hF3
      have HNM : Hid (Named S'.l) := by show Named S'.l; rw [hS']; exact drop_named HS.out.good.inv.named _
      have HARM : Hid (S'.armed ≤ 4611686018427387904) := by show S'.armed ≤ _; rw [hS']; show S.armed ≤ _; rw [HS.out.good.armed]; omega
      clear hs2 hf2 hdc hS' hd3 hd3' hst3 ho3 hn3 hg3 hF3 hz1 hz2 hz3 hFw htm hix2 hLz hLz2 d0 hnc
      go_wp2_with fail
      have hjl : (List.map outB (List.replicate j ([] : List ChgG))).length = j := by simp
      by_cases hmm : m = .man
      · subst hmm
        have hgone := gone_man HS.out.good (by rw [hjl]; omega)
        simp only [] at hgone
        rw [← HSE.out] at hgone
        obtain ⟨q1, q2, q3⟩ := hgone
        refine (recover_is 0 [] w3 HST3.out HG3.out HF3.out HARM.out (by omega) HNM.out q1 rfl (fun i l hl => by simp at hl) (fun l hl => (List.not_mem_nil hl).elim) (fun l hl => (List.not_mem_nil hl).elim)).mono ?_
        rintro e w4 ⟨pv, lv, hp⟩
        have hret := hp.ret
        obtain ⟨rfl, rfl⟩ := hp.nil (.inr rfl)
        rw [q2, if_pos rfl] at hret
        subst hret
        obtain ⟨F4, ⟨lv4, fs4, hs4, hf4⟩, ho4, hn4⟩ := hp.did
        have HX4 : Hid (Ext w w4) := HX3.out.trans ho4 fun q hq hm => by have := HFW.out q hm; omega
        have HS4 : Hid (StoreIs w4 b (S'.recSt 0) lv4 fs4) := hs4
        have HL4 : Hid ((S'.recSt 0).l = []) := q3
        clear q1 q2 q3 hp hs4 hf4 ho4 hn4 hjl
        go_wp2_with fail
        refine (list_is w4 HS4.out).mono ?_
        rintro e w5 ⟨v5, rfl, hn5⟩
        rw [HL4.out] at hn5
        obtain ⟨a5, c5, rfl, _, _⟩ := owns_shape hn5.owns
        have HX5 : Hid (Ext w w5) := HX4.out.thenExt hn5.ext
        clear hn5
        go_wp2_with fail
        go_ret
        exact ⟨rfl, HX5.out⟩
      · have hgone := gone_other HS.out.good (by rw [hjl]; omega) hmo hmm (by rw [hjl]; exact HM.out)
        simp only [] at hgone
        rw [← HSE.out, hjl] at hgone
        obtain ⟨q1, q2, q3⟩ := hgone
        refine (recover_is j (List.replicate j []) w3 HST3.out HG3.out HF3.out HARM.out (by omega) HNM.out q1 (by simp) (fun i l hl f hf => recover_outs HS.out.good.inv i l hl f (q3 _ _ (by rw [HSE.out] at hf; exact hf))) HS.out.ok HS.out.short).mono ?_
        rintro e w4 ⟨pv, lv, hp⟩
        have hret := hp.ret
        obtain ⟨rfl, rfl⟩ := hp.nil (.inl (by rw [q2]; decide))
        rw [q2, if_neg (by decide)] at hret
        subst hret
        obtain ⟨F4, _, ho4, _⟩ := hp.did
        have HX4 : Hid (Ext w w4) := HX3.out.trans ho4 fun q hq hm => by have := HFW.out q hm; omega
        have hnm : ¬ m.name = [109, 97, 110] := fun e => hmm (name_inj (m' := .man) hmo trivial e)
        have hnb : (m.name == [109, 97, 110]) = false := by simpa using hnm
        clear q1 q2 q3 hp ho4 hjl
        go_wp2_with fail
        go_ret
        exact ⟨rfl, HX4.out⟩

end Go.Proofs.YteddohgdegggnaaGreatDoor
