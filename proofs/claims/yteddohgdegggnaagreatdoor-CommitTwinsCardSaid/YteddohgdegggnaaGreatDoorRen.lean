/- What is shown here, as far as 'rename1_is': contracts of the program's functions, and the plain laws that they lean on; conditions: each theorem's own hypotheses. -/
import Derived.Test.YteddohgdegggnaaGreatDoorPlace
import Derived.Deep.DeepCutAuto
namespace Go.Proofs.YteddohgdegggnaaGreatDoor
open Go.RowKit Go.HR
open Go.Proofs

/-- Behind the first half of Rename's closure: the file is out of the list; a copy of it lies in a block of its own. -/
structure RenMid (w : World) (b c d V : Nat) (S : St) (lv : Value) (fs : List FV) (f : FV) (tn : ByteArray) (wx : World) : Prop where
  st : StoreIs wx b S lv fs
  own : wx.ownsRow 0 5 1 f.pv f.g.p.length (by8 f.g.p)
  var : wx.heap[V]? = some (.cells f.cells.toArray 69 (0, 0))
  cc : wx.cell? ⟨c, 0, none⟩ = some (.pointer (some ⟨b, 0, none⟩))
  cd : wx.cell? ⟨d, 0, none⟩ = some (.string tn)
  vn : V ∉ foot b lv fs ∧ V ≠ c ∧ V ≠ d ∧ (∀ k, f.pv.ownBlock = some k → k ≠ V) ∧ w.heap.size ≤ V

theorem ren_mid {w w1 : World} {b c d g n cap i n' : Nat} {S : St} {fs : List FV} {f : FV} {tn : ByteArray} {pa : Option Addr} {pc : Nat} (h : StoreIs w b S (.slice (some ⟨g, 0, none⟩) n cap) fs) (hi : fs[i]? = some f) (hpv : f.pv = .slice pa f.g.p.length pc)
    (hown : w1.ownsRow 0 69 3 (.slice (some ⟨g, 0, none⟩) n' cap) n' ((fs.eraseIdx i).flatMap FV.cells)) (hn' : n' = (fs.eraseIdx i).length)
    (ho : Only (fun k => k = g) (w.alloc (.cells #[.string ⟨f.g.name.toArray⟩, .slice pa f.g.p.length pc, .int .i64 f.g.sure] 69)).drew w1)
    (hc : w.cell? ⟨c, 0, none⟩ = some (.pointer (some ⟨b, 0, none⟩))) (hcf : c ∉ foot b (.slice (some ⟨g, 0, none⟩) n cap) fs) (hd : w.cell? ⟨d, 0, none⟩ = some (.string tn)) (hdf : d ∉ foot b (.slice (some ⟨g, 0, none⟩) n cap) fs) :
    RenMid w b c d w.heap.size { S with l := S.l.eraseIdx i } (.slice (some ⟨g, 0, none⟩) n' cap) (fs.eraseIdx i) f tn (w1.setCell ⟨b, 0, none⟩ (.slice (some ⟨g, 0, none⟩) n' cap)) ∧
    Only (fun k => k ∈ foot b (.slice (some ⟨g, 0, none⟩) n cap) fs) w (w1.setCell ⟨b, 0, none⟩ (.slice (some ⟨g, 0, none⟩) n' cap)) := by
  have hoo := ((Only.refl (fun k => k = g) w).alloc (.cells #[.string ⟨f.g.name.toArray⟩, .slice pa f.g.p.length pc, .int .i64 f.g.sure] 69)).trans ho.ofDrew (fun _ _ h => h)
  obtain ⟨hs, hon⟩ := h.erase (i := i) hown hn' hoo
  have hmem := List.mem_of_getElem? hi
  have hgb : Only (fun k => k = g ∨ k = b) w (w1.setCell ⟨b, 0, none⟩ (.slice (some ⟨g, 0, none⟩) n' cap)) :=
    (hoo.mono fun _ _ e => .inl e).trans ((only_set (Only.refl _ _) _ _ : Only (fun k => k = b) w1 (w1.setCell ⟨b, 0, none⟩ (.slice (some ⟨g, 0, none⟩) n' cap))).mono fun _ _ e => .inr e) fun _ _ h => h
  have hb0 : b < w.heap.size := h.lt b (foot_mem_b _ _ _)
  have hg0 : g < w.heap.size := h.lt g foot_mem_g
  have hcw : c < w.heap.size := World.block_lt_of_cell? w _ hc
  have hdw : d < w.heap.size := World.block_lt_of_cell? w _ hd
  refine ⟨⟨hs, owns_keep (h.bytes f hmem) hgb fun k hk e => ?_, ?_, hon.cell hc hcf, hon.cell hd hdf, fun hv => ?_, by omega, by omega, fun k hk => ?_, Nat.le_refl _⟩, hon⟩
  · have hap := h.apart
    simp only [foot, List.nodup_cons, List.nodup_append, List.mem_append, Option.mem_toList, Value.ownBlock, not_or, List.mem_filterMap] at hap
    rcases e with rfl | rfl
    · exact hap.2.2.2 k rfl k ⟨f, hmem, hk⟩ rfl
    · exact hap.1.2 ⟨f, hmem, hk⟩
  · have h1 : (w.alloc (.cells #[.string ⟨f.g.name.toArray⟩, .slice pa f.g.p.length pc, .int .i64 f.g.sure] 69)).drew.heap[w.heap.size]? = some (.cells f.cells.toArray 69 (0, 0)) := by
      show (w.alloc _).heap[w.heap.size]? = _
      rw [Go.heap_alloc_new]
      simp [FV.cells, hpv]
    have h2 := ho.heap h1 (by omega)
    rw [heap_setCell_other _ _ _ _ (by show w.heap.size ≠ b; omega)]
    exact h2
  · have := h.lt _ (foot_erase hv); omega
  · have := owns_lt (h.bytes f hmem) hk; omega

theorem mk_toList (s : ByteArray) : (⟨s.toList.toArray⟩ : ByteArray) = s := by
  rw [ByteArray.toList_eq]

/-- The file under its new name. -/
def FV.as (f : FV) (t : List UInt8) : FV := ⟨{ f.g with name := t }, f.pv⟩

theorem ren_mid2 {w wc w3 : World} {b c d V : Nat} {S : St} {lv : Value} {fs : List FV} {f : FV} {tn : ByteArray} (hm : RenMid w b c d V S lv fs f tn wc) (hx : Ext (wc.setCell ⟨V, 0, none⟩ (.string tn)) w3) :
    RenMid w b c d V S lv fs (f.as tn.toList) tn w3 := by
  have ho : Only (fun k => k = V) wc w3 := (only_set (Only.refl _ _) _ _).thenExt hx
  obtain ⟨v1, v2, v3, v4, v5⟩ := hm.vn
  refine ⟨hm.st.keep ho fun k hk e => v1 (e ▸ hk), owns_keep hm.own ho fun k hk e => v4 k hk e, ?_, ho.cell hm.cc fun e => v2 e.symm, ho.cell hm.cd fun e => v3 e.symm, hm.vn⟩
  have h1 := heap_setCell_same wc V 0 _ _ (.string tn) hm.var
  have h2 := hx.heap h1
  rw [h2]
  simp [FV.cells, FV.as, mk_toList]

theorem foot_apart {w : World} {b g n n' cap i k : Nat} {S : St} {fs : List FV} {f : FV} (h : StoreIs w b S (.slice (some ⟨g, 0, none⟩) n cap) fs) (hi : fs[i]? = some f) (hk : f.pv.ownBlock = some k) : k ∉ foot b (.slice (some ⟨g, 0, none⟩) n' cap) (fs.eraseIdx i) := by
  have h1 := List.nodup_append.1 ((foot_pull (b := b) (lv := .slice (some ⟨g, 0, none⟩) n cap) hi).nodup_iff.2 h.apart)
  intro hm
  exact h1.2.2 k (by simp [hk]) k hm rfl

/-- The file under its new name takes the place of the one that had it. -/
theorem ren_set {w w3 : World} {b c d V g n cap r : Nat} {S : St} {fs : List FV} {f : FV} {tn : ByteArray} {sv pv' su' : Value} (hm : RenMid w b c d V S (.slice (some ⟨g, 0, none⟩) n cap) fs f tn w3) (e0 : sv = .string ⟨f.g.name.toArray⟩) (e1 : pv' = f.pv) (e2 : su' = .int .i64 f.g.sure) (hr : r = pos (fs.map (·.g)) f.g.name) (hh : has (fs.map (·.g)) f.g.name = true)
    (hpn : ∀ k, f.pv.ownBlock = some k → k ∉ foot b (.slice (some ⟨g, 0, none⟩) n cap) fs) (hroom : used (putFile S.l f.g) ≤ S.room) (hsure : f.g.sure ≤ f.g.p.length) (hnm : f.g.name.length ≤ 32) :
    ∃ F', StoreAt (((w3.setCell ⟨g, r * 3, none⟩ sv).setCell ⟨g, r * 3 + 1, none⟩ pv').setCell ⟨g, r * 3 + 2, none⟩ su') b { S with l := putFile S.l f.g } F' ∧
      Only (fun k => k ∈ foot b (.slice (some ⟨g, 0, none⟩) n cap) fs) w3 (((w3.setCell ⟨g, r * 3, none⟩ sv).setCell ⟨g, r * 3 + 1, none⟩ pv').setCell ⟨g, r * 3 + 2, none⟩ su') ∧
      ∀ k ∈ F', k ∈ foot b (.slice (some ⟨g, 0, none⟩) n cap) fs ∨ f.pv.ownBlock = some k := by
  subst e0 e1 e2
  have hfs := hm.st.files
  obtain ⟨f2, hf2, hn2, _, _⟩ := hm.st.found hh
  rw [← hr] at hf2
  have hset : S.l.set r f.g = putFile S.l f.g := by rw [hr, ← hfs]; exact set_pos (by rw [hfs]; exact hh)
  have hog : Only (fun k => k = g) w3 (((w3.setCell ⟨g, r * 3, none⟩ (.string ⟨f.g.name.toArray⟩)).setCell ⟨g, r * 3 + 1, none⟩ f.pv).setCell ⟨g, r * 3 + 2, none⟩ (.int .i64 f.g.sure)) := only_set (only_set (only_set (Only.refl _ _) _ _) _ _) _ _
  have hn := row_len hm.st
  have hrow := hm.st.row
  rw [← hn] at hrow
  have s1 := (hrow.stored (r * 3) (.string ⟨f.g.name.toArray⟩)).1
  have s2 := (s1.stored (r * 3 + 1) f.pv).1
  have s3 := (s2.stored (r * 3 + 2) (.int .i64 f.g.sure)).1
  rw [flat_set3 fs r f2 f hf2] at s3
  have hown : (((w3.setCell ⟨g, r * 3, none⟩ (.string ⟨f.g.name.toArray⟩)).setCell ⟨g, r * 3 + 1, none⟩ f.pv).setCell ⟨g, r * 3 + 2, none⟩ (.int .i64 f.g.sure)).ownsRow 0 5 1 f.pv f.g.p.length (by8 f.g.p) :=
    owns_keep hm.own hog fun k hk e => hpn k hk (by rw [e]; exact foot_mem_g)
  have hwf : ({ S with l := S.l.set r f.g } : St).WF := by
    rw [hset]
    exact wf_put hm.st.wf f.g hroom (fun h0 => by rw [hfs, hh] at h0; cases h0) hsure hnm
  obtain ⟨a1, a2, a3⟩ := hm.st.setFile hf2 s3 hown (hog.mono fun _ _ e => .inl e) (fun k hk => .inr (hpn k hk)) hwf
  rw [hset] at a1
  exact ⟨_, ⟨_, _, a1, rfl⟩, a2, a3⟩

theorem ren_ins {w w3 w5 : World} {b c d g cap i k r n : Nat} {S : St} {fs : List FV} {f : FV} {tn : ByteArray} {pa a5 : Option Addr} {pc c5 : Nat} {T : TypeId} (H : StoreIs w b S (.slice (some ⟨g, 0, none⟩) n cap) fs) (HI : fs[i]? = some f)
    (hm : RenMid w b c d w.heap.size { S with l := S.l.eraseIdx i } (.slice (some ⟨g, 0, none⟩) (i + k) cap) (fs.eraseIdx i) (f.as tn.toList) tn w3) (HL : i + k = (fs.eraseIdx i).length) (HRP : r = pos ((fs.eraseIdx i).map (·.g)) tn.toList) (HQ : false = has ((fs.eraseIdx i).map (·.g)) tn.toList)
    (hown5 : w5.ownsRow 0 69 3 (.slice a5 (i + k + 1) c5) (i + k + 1) (((fs.eraseIdx i).take r ++ (f.as tn.toList) :: (fs.eraseIdx i).drop r).flatMap FV.cells))
    (hfr5 : Fresh (w3.alloc (.cells #[.string tn, .slice pa f.g.p.length pc, .int .i64 f.g.sure] T)).drew (.slice (some ⟨g, 0, none⟩) (i + k) cap) (.slice a5 (i + k + 1) c5))
    (ho5 : Only (fun q => (Value.slice (some ⟨g, 0, none⟩) (i + k) cap).ownBlock = some q) (w3.alloc (.cells #[.string tn, .slice pa f.g.p.length pc, .int .i64 f.g.sure] T)).drew w5)
    (HO3 : Only (fun q => q ∈ foot b (.slice (some ⟨g, 0, none⟩) n cap) fs) w w3) (_HPV : f.pv = .slice pa f.g.p.length pc) (hto : tn.toList.length ≤ 32) :
    Ending.returned (.tuple #[]) = .returned (.tuple #[]) ∧ Did w b (foot b (.slice (some ⟨g, 0, none⟩) n cap) fs) { S with l := putFile (S.l.eraseIdx i) { f.g with name := tn.toList } } (w5.setCell ⟨b, 0, none⟩ (.slice a5 (i + k + 1) c5)) := by
  have hfiles := hm.st.files
  have hl2 : S.l.eraseIdx i = (fs.eraseIdx i).map (·.g) := hfiles
  have hxW : Ext w3 (w3.alloc (.cells #[.string tn, .slice pa f.g.p.length pc, .int .i64 f.g.sure] T)).drew := ((Only.refl _ _).alloc _).drew
  have hxs := hxW.size
  have hmemf := List.mem_of_getElem? HI
  have hmg : f.g ∈ S.l := by rw [H.files]; exact List.mem_map_of_mem hmemf
  have hi' : S.l[i]? = some f.g := by rw [H.files, List.getElem?_map, HI]; rfl
  have hcnt := H.wf.count
  obtain ⟨fs', a1, a2, a3⟩ := hm.st.insert (f := f.as tn.toList) (w1 := w5) (lv' := .slice a5 (i + k + 1) c5) hm.own
    (fun q hq => ⟨foot_apart H HI hq, owns_lt hm.own hq⟩) (by show has (S.l.eraseIdx i) tn.toList = false; rw [hl2]; exact HQ.symm)
    (by show w5.ownsRow 0 _ 3 _ _ (List.flatMap FV.cells (List.take (pos (S.l.eraseIdx i) tn.toList) _ ++ _ :: List.drop (pos (S.l.eraseIdx i) tn.toList) _)); rw [hl2, ← HRP, ← HL]; exact hown5)
    (fun q hq => (hfr5 q hq).imp id fun h => by omega) ((hxW.mono fun _ _ h => h.elim).trans ho5 fun _ _ h => h)
    (wf_put hm.st.wf _ (Nat.le_trans (used_ren H.wf.sorted hi' _ rfl) H.wf.room) (fun _ => Nat.lt_of_lt_of_le (count_ren hi') hcnt) (H.wf.sure f.g hmg) hto)
  have hs0 := HO3.size
  refine ⟨rfl, _, ⟨_, _, a1, rfl⟩, HO3.trans a2 (fun q _ hq => foot_erase hq), fun q hq => ?_⟩
  rcases a3 q hq with h | h | h
  · exact .inl (foot_erase h)
  · exact .inl (foot_mem_f hmemf h)
  · exact .inr (by omega)

set_option maxRecDepth 100000 in
set_option maxHeartbeats 4000000 in
theorem rename1_is {b c d : Nat} {S : St} {lv : Value} {fs : List FV} (i : Nat) (f : FV) (tn : ByteArray) (w : World) (h : StoreIs w b S lv fs) (hi : fs[i]? = some f) (hto : tn.toList.length ≤ 32)
    (hc : w.cell? ⟨c, 0, none⟩ = some (.pointer (some ⟨b, 0, none⟩))) (hcf : c ∉ foot b lv fs) (hd : w.cell? ⟨d, 0, none⟩ = some (.string tn)) (hdf : d ∉ foot b lv fs) :
    Calls Tryz.prog 66 #[.int .i64 i, .pointer (some ⟨c, 0, none⟩), .pointer (some ⟨d, 0, none⟩)] w
      fun e w' => e = .returned (.tuple #[]) ∧ Did w b (foot b lv fs) { S with l := putFile (S.l.eraseIdx i) { f.g with name := tn.toList } } w' := by
  have hlt := (List.getElem?_eq_some_iff.1 hi).1
  rcases h.lv with ⟨rfl, rfl⟩ | ⟨g, cap, rfl, hcap, _⟩
  · simp at hlt
  obtain ⟨ops, _, c0, c1, c2, c3, c4⟩ := h.cell
  obtain ⟨r0, r1, r2⟩ := h.rowAt rfl i f hi
  obtain ⟨pa, pc, hpv, _, _⟩ := owns_shape (h.bytes f (List.mem_of_getElem? hi))
  have HPV : Hid (f.pv = .slice pa f.g.p.length pc) := hpv
  rw [hpv] at r1
  have f0 := h.free 0
  have hcb : ¬ c = b := fun e => hcf (by rw [e]; exact foot_mem_b _ _ _)
  have hbc : ¬ b = c := fun e => hcf (by rw [← e]; exact foot_mem_b _ _ _)
  have hcg : ¬ c = g := fun e => hcf (by rw [e]; exact foot_mem_g)
  have hdb : ¬ d = b := fun e => hdf (by rw [e]; exact foot_mem_b _ _ _)
  have hdg : ¬ d = g := fun e => hdf (by rw [e]; exact foot_mem_g)
  have hbg : ¬ b = g := by
    intro e; subst e
    have hap := h.apart
    simp only [foot, List.nodup_cons, List.mem_append, Option.mem_toList, Value.ownBlock, not_or] at hap
    exact hap.1.1 trivial
  have hgw : g < w.heap.size := (h.row.lt g rfl).2
  have hbw : b < w.heap.size := h.lt b (foot_mem_b _ _ _)
  have hcw : c < w.heap.size := World.block_lt_of_cell? w _ hc
  have hdw : d < w.heap.size := World.block_lt_of_cell? w _ hd
  obtain ⟨k, hk⟩ : ∃ k, i + 1 + k = fs.length := ⟨fs.length - (i + 1), by omega⟩
  have hrow := h.row
  rw [← hk] at hrow c0
  have HR : Hid (w.ownsRow 0 69 3 (.slice (some ⟨g, 0, none⟩) (i + 1 + k) cap) (i + 1 + k) (fs.flatMap FV.cells)) := hrow
  have HK : Hid (i + 1 + k = fs.length) := hk
  have hcnt := h.count
  have hik : i + 1 + k ≤ 500 := by omega
  have H : Hid (StoreIs w b S (.slice (some ⟨g, 0, none⟩) fs.length cap) fs) := h
  have HI : Hid (fs[i]? = some f) := hi
  have HC : Hid (w.cell? ⟨c, 0, none⟩ = some (.pointer (some ⟨b, 0, none⟩))) := hc
  have HD : Hid (w.cell? ⟨d, 0, none⟩ = some (.string tn)) := hd
  have HCF : Hid (c ∉ foot b (.slice (some ⟨g, 0, none⟩) fs.length cap) fs) := hcf
  have HDF : Hid (d ∉ foot b (.slice (some ⟨g, 0, none⟩) fs.length cap) fs) := hdf
  clear hrow hk h hcnt hlt hcap hi hpv hcf hdf
  have hlen' : i + k = (fs.eraseIdx i).length := by have := HK.out; rw [List.length_eraseIdx]; split <;> omega
  have HL : Hid (i + k = (fs.eraseIdx i).length) := hlen'
  clear hlen'
  have hw1 : IntKind.i64.wrap ((i : Int) + 1) = (i : Int) + 1 := by rw [IntKind.wrap_i64]; omega
  go_enter Tryz.func66, Tryz.ntmps66
  go_upto_region 1 with fail
  go_cut [] (fun wx => RenMid w b c d w.heap.size { S with l := S.l.eraseIdx i } (.slice (some ⟨g, 0, none⟩) (i + k) cap) (fs.eraseIdx i) f tn wx ∧ Only (fun k => k ∈ foot b (.slice (some ⟨g, 0, none⟩) fs.length cap) fs) w wx)
  case first =>
    have hc2 : (w.alloc (.cells #[.string ⟨f.g.name.toArray⟩, .slice pa f.g.p.length pc, .int .i64 f.g.sure] 69)).cell? ⟨c, 0, none⟩ = some (.pointer (some ⟨b, 0, none⟩)) := by rw [World.cell?_alloc_lt _ _ _ hcw]; exact hc
    have hb2 : (w.alloc (.cells #[.string ⟨f.g.name.toArray⟩, .slice pa f.g.p.length pc, .int .i64 f.g.sure] 69)).cell? ⟨b, 0, none⟩ = some (.slice (some ⟨g, 0, none⟩) (i + 1 + k) cap) := by rw [World.cell?_alloc_lt _ _ _ hbw]; exact c0
    go_region_law
      (first | (go_simp; go_at_call 23; refine (delete_row' g cap i k fs _ HK.out (owns_ext HR.out (((Only.refl _ _).alloc _).drew)) hik H.out.one).mono ?_; rintro e w1 ⟨rfl, hown1, ho1⟩; have hoo := ((Only.refl (fun k => k = g) w).alloc _).trans ho1.ofDrew (fun _ _ h => h); have d0 := Only.cell hoo hc hcg; have d1 := Only.cell hoo c0 hbg; have d2 := (World.frozen?_of_block (w := w) (hoo.block b (lt_of_block H.out.head.choose_spec) hbg)).trans f0))
    all_goals go_wp2_with fail
    all_goals go_meet
    all_goals exact ren_mid H.out HI.out HPV.out hown1 HL.out ho1 HC.out HCF.out HD.out HDF.out
  case rest =>
    obtain ⟨hm, hox⟩ := hcut
    have e0 : wc.cell? ⟨w.heap.size, 0, none⟩ = some (.string ⟨f.g.name.toArray⟩) := by have := hm.var; simp [World.cell?, this, FV.cells]
    have e1 : wc.frozen? ⟨w.heap.size, 0, none⟩ = false := by have := hm.var; simp [World.frozen?, this]
    have e2 := hm.cd
    have e3 := hm.cc
    have hdV : ¬ w.heap.size = d := by omega
    have hcV : ¬ w.heap.size = c := by omega
    have HM : Hid (RenMid w b c d w.heap.size { S with l := S.l.eraseIdx i } (.slice (some ⟨g, 0, none⟩) (i + k) cap) (fs.eraseIdx i) f tn wc) := hm
    clear hm
    go_wp2_with fail
    refine (find_is tn _ (HM.out.st.keep (only_set (b := w.heap.size) (Only.refl _ _) 0 (.string tn)) fun k hk e => HM.out.vn.1 (by rw [← e]; exact hk))).mono ?_
    rintro e w3 ⟨rfl, hx3⟩
    have hm3 := ren_mid2 HM.out hx3
    have HM3 : Hid (RenMid w b c d w.heap.size { S with l := S.l.eraseIdx i } (.slice (some ⟨g, 0, none⟩) (i + k) cap) (fs.eraseIdx i) (f.as tn.toList) tn w3) := hm3
    have g0 : w3.cell? ⟨w.heap.size, 0, none⟩ = some (.string tn) := by have := hm3.var; simp [World.cell?, this, FV.cells, FV.as, mk_toList]
    have g1 : w3.cell? ⟨w.heap.size, 1, none⟩ = some (.slice pa f.g.p.length pc) := by have := hm3.var; simp [World.cell?, this, FV.cells, FV.as, HPV.out]
    have g2 : w3.cell? ⟨w.heap.size, 2, none⟩ = some (.int .i64 f.g.sure) := by have := hm3.var; simp [World.cell?, this, FV.cells, FV.as]
    obtain ⟨ops3, hh3, k0, k1, k2, k3, k4⟩ := hm3.st.cell
    have j0 := hm3.cc
    have j1 := hm3.st.free 0
    have ho3 : Only (fun k => k ∈ foot b (.slice (some ⟨g, 0, none⟩) fs.length cap) fs) w w3 := (hox.trans (only_set (b := w.heap.size) (Only.refl _ _) 0 (.string tn)) fun k hk e => by omega).thenExt hx3
    have HO3 : Hid (Only (fun k => k ∈ foot b (.slice (some ⟨g, 0, none⟩) fs.length cap) fs) w w3) := ho3
    obtain ⟨r, hr⟩ : ∃ r, r = pos ((fs.eraseIdx i).map (·.g)) tn.toList := ⟨_, rfl⟩
    have HRP : Hid (r = pos ((fs.eraseIdx i).map (·.g)) tn.toList) := hr
    rw [← hr]
    obtain ⟨q, hq⟩ : ∃ q, q = has ((fs.eraseIdx i).map (·.g)) tn.toList := ⟨_, rfl⟩
    have HQ : Hid (q = has ((fs.eraseIdx i).map (·.g)) tn.toList) := hq
    rw [← hq]
    clear hr hq hm3 ho3 hx3 e0 e1 e2 e3 hox hh3 c0 c1 c2 c3 c4 r0 r1 r2 f0 hc hd
    cases q
    · obtain ⟨W, hW⟩ : ∃ W, W = (w3.alloc (.cells #[.string tn, .slice pa f.g.p.length pc, .int .i64 f.g.sure] 69)).drew := ⟨_, rfl⟩
      have hxW : Ext w3 W := hW ▸ ((Only.refl _ _).alloc _).drew
      have hvar : W.heap[w3.heap.size]? = some (.cells (f.as tn.toList).cells.toArray 69 (0, 0)) := by
        rw [hW]
        show (w3.alloc _).heap[w3.heap.size]? = _
        rw [Go.heap_alloc_new]
        simp [FV.cells, FV.as, mk_toList, HPV.out]
      have hrow := HM3.out.st.row
      have hgw3 : g < w3.heap.size := HM3.out.st.lt g foot_mem_g
      have hcw3 : c < w3.heap.size := World.block_lt_of_cell? w3 _ j0
      have hbw3 : b < w3.heap.size := HM3.out.st.lt b (foot_mem_b _ _ _)
      have hple := pos_le ((fs.eraseIdx i).map (·.g)) tn.toList
      rw [List.length_map, ← HL.out, ← HRP.out] at hple
      rw [← HL.out] at hrow
      have HINS : Hid (Calls Tryz.prog 67 #[.slice (some ⟨g, 0, none⟩) (i + k) cap, .int .i64 r, .slice (some ⟨w3.heap.size, 0, none⟩) 1 1] W (Inserted W (.slice (some ⟨g, 0, none⟩) (i + k) cap) (((fs.eraseIdx i).take r ++ (f.as tn.toList) :: (fs.eraseIdx i).drop r).flatMap FV.cells) (i + k + 1))) :=
        insert_any W HL.out (owns_ext hrow hxW) (by omega) hple hvar (fun q hq => by have h1 : g = q := Option.some.inj hq; omega) ⟨_, _, _, HPV.out⟩ HM3.out.st.one
      subst hW
      have hc2 : (w3.alloc (.cells #[.string tn, .slice pa f.g.p.length pc, .int .i64 f.g.sure] 69)).cell? ⟨c, 0, none⟩ = some (.pointer (some ⟨b, 0, none⟩)) := by rw [World.cell?_alloc_lt _ _ _ hcw3]; exact j0
      have hb2 : (w3.alloc (.cells #[.string tn, .slice pa f.g.p.length pc, .int .i64 f.g.sure] 69)).cell? ⟨b, 0, none⟩ = some (.slice (some ⟨g, 0, none⟩) (i + k) cap) := by rw [World.cell?_alloc_lt _ _ _ hbw3]; exact k0
      have hb3 : ((w3.alloc (.cells #[.string tn, .slice pa f.g.p.length pc, .int .i64 f.g.sure] 69)).drew).frozen? ⟨b, 0, none⟩ = false := (World.frozen?_of_block (hxW.block b hbw3 id)).trans j1
      have hbW : b < ((w3.alloc (.cells #[.string tn, .slice pa f.g.p.length pc, .int .i64 f.g.sure] 69)).drew).heap.size := Nat.lt_of_lt_of_le hbw3 hxW.size
      clear hvar hrow hxW
      go_wp2_with fail
      go_region_law
        (first | (go_simp; go_at_call 67; refine HINS.out.mono ?_; rintro e w5 ⟨⟨v5, rfl, hown5, hfr5⟩, ho5⟩; obtain ⟨a5, c5, rfl, _, _⟩ := owns_shape hown5; have d0 := Only.cell ho5 hc2 (fun e => hcg (Option.some.inj e).symm); have d1 := Only.cell ho5 hb2 (fun e => hbg (Option.some.inj e).symm); have d2 := (World.frozen?_of_block (ho5.block b hbW (fun e => hbg (Option.some.inj e).symm))).trans hb3))
      all_goals go_wp2
      all_goals go_end0
      all_goals exact ren_ins H.out HI.out HM3.out HL.out HRP.out HQ.out hown5 hfr5 ho5 HO3.out HPV.out hto
    · obtain ⟨f2, hf2, _, _, _⟩ := HM3.out.st.found HQ.out.symm
      rw [← HRP.out] at hf2
      obtain ⟨y0, y1, y2⟩ := HM3.out.st.rowAt rfl r f2 hf2
      have hrlt : r < i + k := by have := (List.getElem?_eq_some_iff.1 hf2).1; rw [HL.out]; exact this
      have hrow3 := HM3.out.st.row
      rw [← HL.out] at hrow3
      have z0 : w3.frozen? ⟨g, r * 3, none⟩ = false := hrow3.frozenAt _
      have z1 : w3.frozen? ⟨g, r * 3 + 1, none⟩ = false := hrow3.frozenAt _
      have z2 : w3.frozen? ⟨g, r * 3 + 2, none⟩ = false := hrow3.frozenAt _
      clear hrow3 hf2
      go_wp2_with fail
      go_region
      go_wp2
      go_end0
      obtain ⟨F', a1, a2, a3⟩ := ren_set HM3.out (by show _ = Value.string ⟨tn.toList.toArray⟩; rw [mk_toList]) HPV.out.symm rfl HRP.out HQ.out.symm (fun k hk => foot_apart H.out HI.out hk) (Nat.le_trans (used_ren H.out.wf.sorted (by rw [H.out.files, List.getElem?_map, HI.out]; rfl : S.l[i]? = some f.g) _ rfl) H.out.wf.room) (H.out.wf.sure f.g (by rw [H.out.files]; exact List.mem_map_of_mem (List.mem_of_getElem? HI.out))) hto
      exact ⟨rfl, F', a1.keep (G := fun _ => False) ((Only.refl _ _).drew) (fun _ _ => id), (HO3.out.trans a2 fun k _ hk => foot_erase hk).drew, fun k hk => .inl ((a3 k hk).elim foot_erase fun h1 => foot_mem_f (List.mem_of_getElem? HI.out) h1)⟩

end Go.Proofs.YteddohgdegggnaaGreatDoor
