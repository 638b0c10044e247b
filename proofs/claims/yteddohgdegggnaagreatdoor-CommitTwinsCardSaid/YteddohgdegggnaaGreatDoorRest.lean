/- What is shown here, as far as 'restart_is': contracts of the program's functions, and the plain laws that they lean on; conditions: each theorem's own hypotheses. -/
import Derived.Test.YteddohgdegggnaaGreatDoorNew
namespace Go.HR
def keepAt (keep : List Int) (i : Nat) : Int := keep.getD i 0
/-- How much of a file is there when the power goes on again. -/
def FileG.trim (f : FileG) (k : Int) : FileG := { f with p := if 0 ≤ k ∧ k < (f.p.length : Int) - f.sure then f.p.take (f.sure + k.toNat) else f.p }
def FileG.cut (f : FileG) (k : Int) : FileG := (f.trim k).sync
def cutTo (keep : List Int) (l : List FileG) (j : Nat) : List FileG := l.mapIdx fun i f => if i < j then f.cut (keepAt keep i) else f
def St.restart (S : St) (keep : List Int) : St := { S with l := cutTo keep S.l S.l.length, armed := 0, off := false }
theorem cutTo_zero (keep : List Int) (l : List FileG) : cutTo keep l 0 = l := by
  unfold cutTo
  apply List.ext_getElem?
  intro i
  simp
theorem cutTo_get (keep : List Int) (l : List FileG) (j i : Nat) : (cutTo keep l j)[i]? = l[i]?.map fun f => if i < j then f.cut (keepAt keep i) else f := by
  simp [cutTo]
theorem cutTo_length (keep : List Int) (l : List FileG) (j : Nat) : (cutTo keep l j).length = l.length := by simp [cutTo]
theorem cutTo_succ (keep : List Int) (l : List FileG) (j : Nat) (f : FileG) (h : l[j]? = some f) : (cutTo keep l j).set j (f.cut (keepAt keep j)) = cutTo keep l (j + 1) := by
  apply List.ext_getElem?
  intro i
  have hlt := (List.getElem?_eq_some_iff.1 h).1
  rw [List.getElem?_set, cutTo_get, cutTo_get, cutTo_length]
  by_cases hi : j = i
  · subst hi
    rw [if_pos rfl, if_pos hlt, h]
    simp
  · rw [if_neg hi]
    congr 1
    funext g
    by_cases h1 : i < j
    · rw [if_pos h1, if_pos (by omega)]
    · rw [if_neg h1, if_neg (by omega)]
theorem trim_sure {f : FileG} (k : Int) (h : f.sure ≤ f.p.length) : (f.trim k).sure ≤ (f.trim k).p.length := by
  unfold FileG.trim
  dsimp only
  split
  · rename_i h1
    rw [List.length_take]
    omega
  · exact h
theorem trim_le (f : FileG) (k : Int) : (f.trim k).p.length ≤ f.p.length := by
  unfold FileG.trim
  dsimp only
  split
  · rw [List.length_take]; omega
  · exact Nat.le_refl _
end Go.HR
namespace Go.Proofs.YteddohgdegggnaaGreatDoor
open Go.RowKit Go.HR
open Go.Proofs

theorem StoreIs.setNew {wc w' : World} {b g n cap r : Nat} {S1 : St} {fs1 : List FV} {f2 : FV} {p : List UInt8} {v' : Value} (h1 : StoreIs wc b S1 (.slice (some ⟨g, 0, none⟩) n cap) fs1) (hf2 : fs1[r]? = some f2)
    (hnew : NewRow 5 1 wc p.length (by8 p) v' w') (hle : p.length ≤ f2.g.p.length) (hsu : f2.g.sure ≤ p.length) :
    StoreIs (w'.setCell ⟨g, r * 3 + 1, none⟩ v') b { S1 with l := S1.l.set r { f2.g with p := p } } (.slice (some ⟨g, 0, none⟩) n cap) (fs1.set r ⟨{ f2.g with p := p }, v'⟩) ∧
      Only (fun k => k ∈ foot b (.slice (some ⟨g, 0, none⟩) n cap) fs1) wc (w'.setCell ⟨g, r * 3 + 1, none⟩ v') ∧
      ∀ k ∈ foot b (.slice (some ⟨g, 0, none⟩) n cap) (fs1.set r ⟨{ f2.g with p := p }, v'⟩), k ∈ foot b (.slice (some ⟨g, 0, none⟩) n cap) fs1 ∨ wc.heap.size ≤ k := by
  have hn := row_len h1
  have hrow := owns_ext h1.row hnew.ext
  rw [← hn] at hrow
  have s1 := (hrow.stored (r * 3 + 1) v').1
  rw [flat_set fs1 r 1 f2 ⟨{ f2.g with p := p }, v'⟩ v' hf2 (by omega) rfl] at s1
  have hgw : g < wc.heap.size := h1.lt g foot_mem_g
  have hi' : S1.l[r]? = some f2.g := by rw [h1.files, List.getElem?_map, hf2]; rfl
  have hoset : Only (fun k => k = g) w' (w'.setCell ⟨g, r * 3 + 1, none⟩ v') := only_set (Only.refl _ _) _ _
  have hown : (w'.setCell ⟨g, r * 3 + 1, none⟩ v').ownsRow 0 5 1 v' p.length (by8 p) := owns_keep hnew.owns hoset fun k hk e => by have := hnew.fresh k hk; omega
  have ho : Only (fun k => k = g ∨ f2.pv.ownBlock = some k) wc (w'.setCell ⟨g, r * 3 + 1, none⟩ v') := (hnew.ext.mono fun _ _ e => e.elim).trans (hoset.mono fun _ _ e => .inl e) fun _ _ h => h
  have hu := used_set S1.l r f2.g { f2.g with p := p } hi'
  have hroom := h1.wf.room
  obtain ⟨a1, a2, a3⟩ := h1.setFile (f' := ⟨{ f2.g with p := p }, v'⟩) hf2 s1 hown ho
    (fun k hk => .inr fun hm => by have := h1.lt k hm; have := hnew.fresh k hk; omega)
    (wf_set h1.wf r f2.g _ hi' rfl (by show used (S1.l.set r ⟨f2.g.name, p, f2.g.sure⟩) ≤ _; have : used (S1.l.set r ⟨f2.g.name, p, f2.g.sure⟩) + f2.g.p.length = used S1.l + p.length := hu; omega) hsu)
  exact ⟨a1, a2, fun k hk => (a3 k hk).imp id (hnew.fresh k)⟩

theorem rest_end {w wq : World} {b g n cap k : Nat} {S : St} {F : List Nat} {keep : List Int} {l1 : List FileG} {fs1 : List FV} {f1 : FV} (h : StoreIs wq b { S with l := l1 } (.slice (some ⟨g, 0, none⟩) n cap) fs1) (hf : fs1[k]? = some f1)
    (hl : l1.set k f1.g.sync = cutTo keep S.l (k + 1)) (ho : Only (fun q => q ∈ F) w wq) (hF : ∀ q ∈ foot b (.slice (some ⟨g, 0, none⟩) n cap) fs1, q ∈ F ∨ w.heap.size ≤ q) :
    ∃ fs', StoreIs (wq.setCell ⟨g, k * 3 + 2, none⟩ (.int .i64 f1.g.p.length)) b { S with l := cutTo keep S.l (k + 1) } (.slice (some ⟨g, 0, none⟩) n cap) fs' ∧ Only (fun q => q ∈ F) w (wq.setCell ⟨g, k * 3 + 2, none⟩ (.int .i64 f1.g.p.length)) ∧
      ∀ q ∈ foot b (.slice (some ⟨g, 0, none⟩) n cap) fs', q ∈ F ∨ w.heap.size ≤ q := by
  obtain ⟨a1, a2, a3⟩ := h.sync hf
  rw [← hl]
  exact ⟨_, a1, ho.trans a3 fun q hq e => (hF q e).resolve_right (by omega), fun q hq => hF q (by rw [a2] at hq; exact hq)⟩

theorem rest_set {k : Nat} {S : St} {keep : List Int} {K : Int} {fs' : List FV} {f : FV} (h1 : cutTo keep S.l k = fs'.map (·.g)) (hf : fs'[k]? = some f) (hK : K = keepAt keep k) (hT : f.g.trim K = f.g) :
    (cutTo keep S.l k).set k f.g.sync = cutTo keep S.l (k + 1) := by
  have e1 : S.l[k]? = some f.g := by
    have e2 : (cutTo keep S.l k)[k]? = some f.g := by rw [h1, List.getElem?_map, hf]; rfl
    rw [cutTo_get] at e2
    simpa using e2
  have e3 := cutTo_succ keep S.l k f.g e1
  rw [← hK, FileG.cut, hT] at e3
  exact e3

theorem _root_.Go.HR.Rd.take {w : World} {a : Option Addr} {n c m : Nat} {xs : List Value} (h : Rd w (.slice a n c) n xs) (hm : m ≤ n) : Rd w (.slice a m c) m (xs.take m) := by
  rcases h with ⟨h1, h2, h3⟩ | ⟨g, off, cap, h0, h1, h2, h3, h4⟩
  · cases h1
    obtain rfl : m = 0 := by omega
    exact .inl ⟨rfl, rfl, by simp⟩
  · cases h0
    exact .inr ⟨g, off, _, rfl, by omega, h2, h3, fun j u hu => h4 j u (by rw [List.getElem?_take] at hu; split at hu <;> simp_all)⟩

theorem rest_cut {w wr wq w5 : World} {b g n cap k m : Nat} {S : St} {F : List Nat} {keep : List Int} {fs' : List FV} {f : FV} {v5 : Value} {pt : List UInt8} (h : StoreIs wr b { S with l := cutTo keep S.l k } (.slice (some ⟨g, 0, none⟩) n cap) fs') (hf : fs'[k]? = some f)
    (hx : Ext wr wq) (hn : NewRow 5 1 wq.drew pt.length (by8 pt) v5 w5) (hK : (m : Int) = keepAt keep k) (hpt : pt = f.g.p.take (f.g.sure + m)) (hpl : pt.length = f.g.sure + m) (_hsm : f.g.sure + m ≤ f.g.p.length) (hk1 : (m : Int) < (f.g.p.length : Int) - f.g.sure)
    (ho : Only (fun q => q ∈ F) w wr) (hF : ∀ q ∈ foot b (.slice (some ⟨g, 0, none⟩) n cap) fs', q ∈ F ∨ w.heap.size ≤ q) :
    ∃ fs'', StoreIs ((w5.setCell ⟨g, k * 3 + 1, none⟩ v5).setCell ⟨g, k * 3 + 2, none⟩ (.int .i64 pt.length)) b { S with l := cutTo keep S.l (k + 1) } (.slice (some ⟨g, 0, none⟩) n cap) fs'' ∧
      Only (fun q => q ∈ F) w ((w5.setCell ⟨g, k * 3 + 1, none⟩ v5).setCell ⟨g, k * 3 + 2, none⟩ (.int .i64 pt.length)) ∧ ∀ q ∈ foot b (.slice (some ⟨g, 0, none⟩) n cap) fs'', q ∈ F ∨ w.heap.size ≤ q := by
  have h2 := h.keep hx fun _ _ => id
  have hn' : NewRow 5 1 wq pt.length (by8 pt) v5 w5 := ⟨hn.owns, hn.ext.ofDrew, hn.fresh⟩
  have hoq := ho.thenExt hx
  have hs := hoq.size
  obtain ⟨a1, a2, a3⟩ := h2.setNew hf hn' (by omega) (by omega)
  have hlt := (List.getElem?_eq_some_iff.1 hf).1
  have e2 : (cutTo keep S.l k)[k]? = some f.g := by rw [show cutTo keep S.l k = _ from h.files, List.getElem?_map, hf]; rfl
  have e1 : S.l[k]? = some f.g := by
    rw [cutTo_get] at e2
    simpa using e2
  refine rest_end (f1 := ⟨{ f.g with p := pt }, v5⟩) a1 (by rw [List.getElem?_set]; simp [hlt]) ?_ (hoq.trans a2 fun q hq e => (hF q e).resolve_right (by omega)) fun q hq => ?_
  · have e3 := cutTo_succ keep S.l k f.g e1
    rw [← hK] at e3
    rw [← e3]
    show ((cutTo keep S.l k).set k _).set k _ = _
    rw [List.set_set]
    congr 1
    unfold FileG.cut FileG.trim
    rw [if_pos ⟨by omega, hk1⟩, hpt]
    rfl
  · rcases a3 q hq with h | h
    · exact hF q h
    · exact .inr (by omega)

def ints (l : List Int) : List Value := l.map (.int .i64 ·)

set_option maxRecDepth 100000 in
set_option maxHeartbeats 4000000 in
theorem restart_is {b : Nat} {S : St} {lv : Value} {fs : List FV} (kv : Value) (keep : List Int) (w : World) (h : StoreIs w b S lv fs) (hk : Arg w (foot b lv fs) kv keep.length (ints keep)) :
    Calls Tryz.prog 13 #[.pointer (some ⟨b, 0, none⟩), kv] w fun e w' => e = .returned (.int .i64 0) ∧ Did w b (foot b lv fs) (S.restart keep) w' := by
  obtain ⟨ka, kc, rfl, hkl, hkm⟩ := hk.shape
  obtain ⟨ops, _, c0, c1, c2, c3, c4⟩ := h.cell
  obtain ⟨a0, cap0, hlv, hcap, hcm⟩ := owns_shape h.row
  subst hlv
  have hcnt := h.count
  have H : Hid (StoreIs w b S (.slice a0 fs.length cap0) fs) := h
  go_enter Tryz.func13, Tryz.ntmps13
  go_wp2_with fail
  go_loopw [15] (fun i wr => ∃ k : Nat, i = .int .i64 k ∧ k ≤ fs.length ∧ Hid (∃ fs', StoreIs wr b { S with l := cutTo keep S.l k } (.slice a0 fs.length cap0) fs' ∧ Only (fun q => q ∈ foot b (.slice a0 fs.length cap0) fs) w wr ∧
    ∀ q ∈ foot b (.slice a0 fs.length cap0) fs', q ∈ foot b (.slice a0 fs.length cap0) fs ∨ w.heap.size ≤ q)) (fun i _ => fs.length - (intOf i).toNat)
  case atStart => exact ⟨0, rfl, Nat.zero_le _, fs, by rw [cutTo_zero]; exact H.out, Only.refl _ _, fun q hq => .inl hq⟩
  case round =>
    obtain ⟨k, rfl, hkle, HI⟩ := hrel
    by_cases hlt : k < fs.length
    · obtain ⟨fs', h1, ho1, hF1⟩ := HI.out
      rename World => wr
      have hl := row_len h1
      rcases h1.lv with ⟨e, _⟩ | ⟨g, cap1, e, _, _⟩
      · simp at e; omega
      obtain rfl : a0 = some ⟨g, 0, none⟩ := by simp at e; exact e.1
      obtain ⟨f, hf⟩ : ∃ f, fs'[k]? = some f := ⟨_, List.getElem?_eq_getElem (by omega)⟩
      obtain ⟨y0, y1, y2⟩ := h1.rowAt rfl k f hf
      obtain ⟨ops1, _, e0, _⟩ := h1.cell
      have hrow := h1.row
      rw [← hl] at hrow
      have z1 : wr.frozen? ⟨g, k * 3 + 1, none⟩ = false := hrow.frozenAt _
      have z2 : wr.frozen? ⟨g, k * 3 + 2, none⟩ = false := hrow.frozenAt _
      clear hrow
      have hown2 := h1.bytes f (List.mem_of_getElem? hf)
      obtain ⟨pa2, pc2, hpv2, hpl2, hpm2⟩ := owns_shape hown2
      rw [hpv2] at y1 hown2
      have HPV : Hid (f.pv = .slice pa2 f.g.p.length pc2) := hpv2
      have hsure := h1.wf.sure f.g (by rw [h1.files]; exact List.mem_map_of_mem (List.mem_of_getElem? hf))
      have hup := used_mem (l := cutTo keep S.l k) (f := f.g) (by rw [show cutTo keep S.l k = _ from h1.files]; exact List.mem_map_of_mem (List.mem_of_getElem? hf))
      have hroom := h1.wf.room
      have hrm := h1.wf.roomMax
      have hpmax : f.g.p.length ≤ 16777216 := by
        have a1 : f.g.p.length ≤ used (cutTo keep S.l k) := hup
        have a2 : used (cutTo keep S.l k) ≤ S.room := hroom
        have a3 : S.room ≤ 16777216 := hrm
        omega
      have hkr : keep.length ≠ 0 → Rd wr (.slice ka keep.length kc) keep.length (ints keep) := fun hn => (hk.rd hn).1.keep ho1 fun q hq => (hk.rd hn).2 q hq
      have HKR : Hid (keep.length ≠ 0 → Rd wr (.slice ka keep.length kc) keep.length (ints keep)) := hkr
      have H1 : Hid (StoreIs wr b { S with l := cutTo keep S.l k } (.slice (some ⟨g, 0, none⟩) fs.length cap0) fs') := h1
      have HO1 : Hid (Only (fun q => q ∈ foot b (.slice (some ⟨g, 0, none⟩) fs.length cap0) fs) w wr) := ho1
      have HF1 : Hid (∀ q ∈ foot b (.slice (some ⟨g, 0, none⟩) fs.length cap0) fs', q ∈ foot b (.slice (some ⟨g, 0, none⟩) fs.length cap0) fs ∨ w.heap.size ≤ q) := hF1
      have HF : Hid (fs'[k]? = some f) := hf
      have HL : Hid (fs.length = fs'.length) := hl
      have HOWN : Hid (wr.ownsRow 0 5 1 (.slice pa2 f.g.p.length pc2) f.g.p.length (by8 f.g.p)) := hown2
      clear h1 ho1 hF1 HI hf hpv2 hown2 hup hroom hrm hkr y0 e hl hk h
      have hcell : k < keep.length → ∃ g3 o3, ka = some ⟨g3, o3, none⟩ ∧ wr.cell? ⟨g3, o3 + k, none⟩ = some (.int .i64 (keepAt keep k)) := by
        intro hkk
        rcases HKR.out (by omega) with ⟨_, h0, _⟩ | ⟨g3, o3, c3, e3, _, _, _, h4⟩
        · omega
        · refine ⟨g3, o3, by simp at e3; exact e3.1, h4 k _ ?_⟩
          simp [ints, keepAt, List.getD_eq_getElem?_getD, hkk]
      have HCELL : Hid (k < keep.length → ∃ g3 o3, ka = some ⟨g3, o3, none⟩ ∧ wr.cell? ⟨g3, o3 + k, none⟩ = some (.int .i64 (keepAt keep k))) := hcell
      clear hcell
      go_upto_if 27 with fail
      go_cut [7] from 17 to 71 (fun v wx => v = .int .i64 (keepAt keep k) ∧ wr = wx)
      case first =>
        by_cases hkk : k < keep.length
        · obtain ⟨g3, o3, rfl, hce⟩ := HCELL.out hkk
          go_wp2_with fail
          go_meet
          case rel => exact ⟨rfl, rfl⟩
        · have hka : keepAt keep k = 0 := by simp [keepAt, List.getD_eq_getElem?_getD, hkk]
          go_wp2_with fail
          go_meet
          case rel => exact ⟨by rw [hka], rfl⟩
      case rest =>
        obtain ⟨rfl, rfl⟩ := hcut
        obtain ⟨K, hKK⟩ : ∃ K, K = keepAt keep k := ⟨_, rfl⟩
        have HKK : Hid (K = keepAt keep k) := hKK
        rw [← hKK]
        clear hKK
        have hw1 : IntKind.i64.wrap ((f.g.p.length : Int) - (f.g.sure : Int)) = (f.g.p.length : Int) - f.g.sure := by rw [IntKind.wrap_i64]; omega
        by_cases hk0 : 0 ≤ K
        · obtain ⟨m, rfl⟩ := Int.eq_ofNat_of_zero_le hk0
          by_cases hk1 : (m : Int) < (f.g.p.length : Int) - f.g.sure
          · have hd1 : decide ((m : Int) < (f.g.p.length : Int) - f.g.sure) = true := decide_eq_true hk1
            go_wp2_with fail
            go_quiet (fail)
            obtain ⟨wq, hwq⟩ : ∃ wq, wq = wr.drewN nq := ⟨_, rfl⟩
            rw [← hwq]
            have hxq : Ext wr wq := hwq ▸ (Only.refl _ _).drewN nq
            have e0q : wq.cell? ⟨b, 0, none⟩ = _ := hxq.cell e0
            have y1q := hxq.cell y1
            have y2q := hxq.cell y2
            have z1q : wq.frozen? ⟨g, k * 3 + 1, none⟩ = false := by rw [hwq]; exact z1
            have z2q : wq.frozen? ⟨g, k * 3 + 2, none⟩ = false := by rw [hwq]; exact z2
            have hsm : f.g.sure + m ≤ f.g.p.length := by omega
            obtain ⟨pt, hpt⟩ : ∃ pt, pt = f.g.p.take (f.g.sure + m) := ⟨_, rfl⟩
            have HPT : Hid (pt = f.g.p.take (f.g.sure + m)) := hpt
            have hptl : pt.length = f.g.sure + m := by rw [hpt, List.length_take, Nat.min_eq_left hsm]
            have HPL : Hid (pt.length = f.g.sure + m) := hptl
            have hrd : Rd wq.drew (.slice pa2 (f.g.sure + m) pc2) pt.length (by8 pt) := by
              have r1 := (rd_of_owns (owns_ext HOWN.out (hxq.drew))).take hsm
              rw [hptl, hpt, show by8 (f.g.p.take (f.g.sure + m)) = (by8 f.g.p).take (f.g.sure + m) from List.map_take.symm ▸ rfl]
              exact r1
            have HCL : Hid (Calls Tryz.prog 27 #[.slice pa2 (f.g.sure + m) pc2] wq.drew (NewBytes wq.drew pt)) := clone_any _ _ _ hrd (by omega)
            have HXQ : Hid (Ext wr wq) := hxq
            have HSM : Hid (f.g.sure + m ≤ f.g.p.length) := hsm
            have HK1 : Hid ((m : Int) < (f.g.p.length : Int) - f.g.sure) := hk1
            have hgw := H1.out.lt g foot_mem_g
            have hgq : g < wq.heap.size := Nat.lt_of_lt_of_le hgw hxq.size
            have b1 : (0 : Int) ≤ (f.g.sure : Int) + m := by omega
            have b2 : (f.g.sure : Int) + m ≤ pc2 := by omega
            have b3 : IntKind.i64.wrap ((f.g.sure : Int) + m) = (f.g.sure : Int) + m := by rw [IntKind.wrap_i64]; omega
            have b4 : ((f.g.sure : Int) + m).toNat = f.g.sure + m := by omega
            have b5 : f.g.sure + m ≤ pc2 := by omega
            clear hwq hxq hrd hsm hpt hptl e0 y1 y2 z1 z2 hd1 hk1 hw1
            go_wp2_with fail
            go_region_law
              (first | (go_simp; go_at_call 27; refine HCL.out.mono ?_; rintro e w5 ⟨v5, rfl, hn5⟩; have d0 := hn5.ext.cell y1q; have d1 := (World.frozen?_of_block (hn5.ext.block g hgq id)).trans z1q; have d2 := hn5.ext.cell y2q; have d3 := (World.frozen?_of_block (hn5.ext.block g hgq id)).trans z2q; obtain ⟨a5, c5, rfl, _, _⟩ := owns_shape hn5.owns))
            all_goals go_wp2
            all_goals exact ⟨⟨k + 1, by go_num, hlt, rest_cut H1.out HF.out HXQ.out hn5 HKK.out HPT.out HPL.out HSM.out HK1.out HO1.out HF1.out⟩, by simp [intOf]; omega⟩
          · have hd1 : decide ((m : Int) < (f.g.p.length : Int) - f.g.sure) = false := decide_eq_false hk1
            go_wp2_with fail
            go_quiet (fail)
            go_wp2
            have hx : Only (fun q => q ∈ foot b (.slice (some ⟨g, 0, none⟩) fs.length cap0) fs) w (wr.drewN nq) := HO1.out.drewN nq
            have hT : f.g.trim (m : Int) = f.g := by unfold FileG.trim; rw [if_neg (fun h => absurd h.2 (by omega))]
            exact ⟨⟨k + 1, by go_num, hlt, rest_end (H1.out.keep (F := fun _ => False) ((Only.refl _ _).drewN nq) fun _ _ => id) HF.out (rest_set H1.out.files HF.out HKK.out hT) hx HF1.out⟩, by simp [intOf]; omega⟩
        · have hd0 : decide ((0 : Int) ≤ K) = false := decide_eq_false hk0
          go_wp2_with fail
          go_quiet (fail)
          go_wp2
          have hx : Only (fun q => q ∈ foot b (.slice (some ⟨g, 0, none⟩) fs.length cap0) fs) w (wr.drewN nq) := HO1.out.drewN nq
          have hT : f.g.trim K = f.g := by unfold FileG.trim; rw [if_neg (fun h => absurd h.1 (by omega))]
          exact ⟨⟨k + 1, by go_num, hlt, rest_end (H1.out.keep (F := fun _ => False) ((Only.refl _ _).drewN nq) fun _ _ => id) HF.out (rest_set H1.out.files HF.out HKK.out hT) hx HF1.out⟩, by simp [intOf]; omega⟩
    · obtain rfl : k = fs.length := by omega
      obtain ⟨fs', h1, ho1, hF1⟩ := HI.out
      rename World => wr
      obtain ⟨ops1, hh, e0, e1, e2, e3, e4⟩ := h1.cell
      have f2 := h1.free 2
      have f3 := h1.free 3
      have HH : Hid (wr.heap[b]? = some (.cells #[.slice a0 fs.length cap0, .int .i64 S.room, .int .i64 S.armed, .bool S.off, .int .i64 ops1] 64 (0, 0))) := hh
      have H1 : Hid (StoreIs wr b { S with l := cutTo keep S.l fs.length } (.slice a0 fs.length cap0) fs') := h1
      have HO1 : Hid (Only (fun q => q ∈ foot b (.slice a0 fs.length cap0) fs) w wr) := ho1
      have HF1 : Hid (∀ q ∈ foot b (.slice a0 fs.length cap0) fs', q ∈ foot b (.slice a0 fs.length cap0) fs ∨ w.heap.size ≤ q) := hF1
      clear hh h1 ho1 hF1 HI
      go_wp2
      go_ret
      have hset : ∀ u v, Only (fun k => k = b) wr ((wr.setCell ⟨b, 3, none⟩ u).setCell ⟨b, 2, none⟩ v) := fun u v => only_set (only_set (Only.refl _ _) _ _) _ _
      have hS : S.restart keep = { S with l := cutTo keep S.l fs.length, armed := 0, off := false } := by rw [St.restart, H.out.files, List.length_map]
      rw [hS]
      have hw1 := H1.out.wf
      refine ⟨rfl, foot b (.slice a0 fs.length cap0) fs', ⟨_, _, H1.out.head2 (S' := { S with l := cutTo keep S.l fs.length, armed := 0, off := false }) (hset _ _) ⟨ops1, ?_⟩ rfl rfl ⟨hw1.sorted, hw1.room, hw1.roomMax, hw1.count, hw1.sure, hw1.names⟩, rfl⟩,
        HO1.out.trans (hset _ _) (fun q _ hq => hq ▸ foot_mem_b _ _ _), HF1.out⟩
      exact head_set (head_set HH.out 3 (.bool false)) 2 (.int .i64 0)

end Go.Proofs.YteddohgdegggnaaGreatDoor
