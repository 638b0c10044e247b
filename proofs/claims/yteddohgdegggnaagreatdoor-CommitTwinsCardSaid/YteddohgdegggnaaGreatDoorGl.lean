/- What is shown here, as far as 'last1_is': contracts of the program's functions, and the plain laws that they lean on; conditions: each theorem's own hypotheses. -/
import Derived.Test.YteddohgdegggnaaGreatDoorFmt
import Derived.Test.YteddohgdegggnaaGreatDoorLed
import Derived.Lib.UnsafeStr
namespace Go.Proofs.YteddohgdegggnaaGreatDoor
open Go.RowKit Go.HR
open Go.Proofs

/-- What package variables hold. -/
structure Gl (w : World) : Prop where
  table : TableAt w 0
  maxlen : ∃ m : Int, w.cell? ⟨1, 0, none⟩ = some (.int .i64 m)
  syn : ∃ tp p, w.cell? ⟨2, 0, none⟩ = some (.iface tp p)
  tab : Lib.TabIs Tryz.prog w "internal/strconv.uint64pow10" .u64 Lib.pow10Tab
  base : 8 ≤ w.heap.size

theorem Tryz.pow10_at : Tryz.prog.globalNamed "internal/strconv.uint64pow10" = some 4 := by kernel_rfl

theorem Gl.keep {F : Nat → Prop} {w w' : World} (h : Gl w) (ho : Only F w w') (hF : ∀ k, k < 8 → ¬ F k) : Gl w' where
  table := TableAt.keep h.table ho (hF 0 (by omega))
  maxlen := h.maxlen.imp fun _ hm => ho.cell hm (hF 1 (by omega))
  syn := h.syn.imp fun _ h => h.imp fun _ hm => ho.cell hm (hF 2 (by omega))
  tab := by
    have h1 := h.tab
    unfold Lib.TabIs World.var? at *
    rw [Tryz.pow10_at] at h1 ⊢
    simp only [Option.bind_some] at h1 ⊢
    have hlt : 4 < w.heap.size := by
      rcases Nat.lt_or_ge 4 w.heap.size with h' | h'
      · exact h'
      · rw [Array.getElem?_eq_none h'] at h1; simp at h1
    rw [ho.block 4 hlt (hF 4 (by omega))]
    exact h1
  base := Nat.le_trans h.base ho.size
theorem Gl.ext {w w' : World} (h : Gl w) (ho : Ext w w') : Gl w' := h.keep ho fun _ _ => id
theorem Gl.lt {w : World} (h : Gl w) : 2 < w.heap.size := by
  obtain ⟨tp, p, h1⟩ := h.syn
  exact World.block_lt_of_cell? w _ h1

theorem bytes_of (l : List UInt8) : (⟨l.toArray⟩ : ByteArray).toList = l := by rw [ByteArray.toList_eq]
theorem bytes_size (l : List UInt8) : (⟨l.toArray⟩ : ByteArray).size = l.length := rfl

theorem dec_len (n : Nat) : (dec n).length ≤ 3 := dec_len' n
theorem cat_bytes (x y : List UInt8) : (⟨x.toArray⟩ : ByteArray) ++ ⟨y.toArray⟩ = ⟨(x ++ y).toArray⟩ := by
  apply ByteArray.ext
  simp

set_option maxRecDepth 100000 in
set_option maxHeartbeats 1000000 in
theorem file_out (n : Nat) (hn : n ≤ 500) (w : World) (hg : Gl w) :
    Calls Tryz.prog 24 #[.string ⟨#[111, 117, 116]⟩, .int .u64 n] w fun e w' => e = .returned (.string ⟨(Nm.out n).name.toArray⟩) ∧ Ext w w' := by
  have hl := dec_len n
  have hlen : ¬ 9223372036854775807 < 4 + (dec n).length := by omega
  have HE : Hid ((⟨#[111, 117, 116]⟩ : ByteArray) ++ ⟨#[46]⟩ ++ ⟨(dec n).toArray⟩ = ⟨(Nm.out n).name.toArray⟩) := by
    show _ = _
    rw [cat_bytes [111, 117, 116] [46], cat_bytes]
    rfl
  clear hl
  go_enter Tryz.func24, Tryz.ntmps24
  go_wp2_with (first
    | (go_at_call 43; go_in)
    | (go_at_call 68; refine (fmt_is n hn _ hg.tab).mono ?_; rintro e w' ⟨rfl, hx⟩))
  go_ret
  exact ⟨by rw [← HE.out]; rfl, hx⟩

set_option maxRecDepth 100000 in
set_option maxHeartbeats 1000000 in
theorem file_state (n : Nat) (hn : n ≤ 500) (w : World) (hg : Gl w) :
    Calls Tryz.prog 24 #[.string ⟨#[115, 116, 97, 116, 101]⟩, .int .u64 n] w fun e w' => e = .returned (.string ⟨(Nm.state n).name.toArray⟩) ∧ Ext w w' := by
  have hl := dec_len n
  have hlen : ¬ 9223372036854775807 < 6 + (dec n).length := by omega
  have HE : Hid ((⟨#[115, 116, 97, 116, 101]⟩ : ByteArray) ++ ⟨#[46]⟩ ++ ⟨(dec n).toArray⟩ = ⟨(Nm.state n).name.toArray⟩) := by
    show _ = _
    rw [cat_bytes [115, 116, 97, 116, 101] [46], cat_bytes]
    rfl
  clear hl
  go_enter Tryz.func24, Tryz.ntmps24
  go_wp2_with (first
    | (go_at_call 43; go_in)
    | (go_at_call 68; refine (fmt_is n hn _ hg.tab).mono ?_; rintro e w' ⟨rfl, hx⟩))
  go_ret
  exact ⟨by rw [← HE.out]; rfl, hx⟩

set_option maxRecDepth 100000 in
set_option maxHeartbeats 1000000 in
theorem lost_is (e : Int) (he : e = 5 ∨ e = 9) (w : World) : Calls Tryz.prog 25 #[.int .i64 e] w fun r w' => r = .returned (.int .i64 (if e = 5 then 3 else e)) ∧ w' = w := by
  rcases he with rfl | rfl
  all_goals
    go_enter Tryz.func25, Tryz.ntmps25
    go_wp2
    go_ret
    exact ⟨rfl, rfl⟩

set_option maxRecDepth 100000 in
set_option maxHeartbeats 1000000 in
theorem last1_is (rb gb c k : Nat) (w : World) (h : RdrAt w rb gb (leb k)) (hk : k ≤ 500) (hc : w.heap[c]? = some (.cells #[.int .u64 0] 27 (0, 0))) (hcr : c ≠ rb) (hcg : c ≠ gb) :
    Calls Tryz.prog 33 #[.pointer (some ⟨rb, 0, none⟩), .pointer (some ⟨c, 0, none⟩)] w fun e w' => e = .returned (.tuple #[]) ∧ RdrAt w' rb gb [] ∧ w'.heap[c]? = some (.cells #[.int .u64 k] 27 (0, 0)) ∧ Only (fun j => j = c ∨ j = rb) w w' := by
  have h' : RdrAt w rb gb (leb k ++ []) := by rw [List.append_nil]; exact h
  have HC : Hid (w.heap[c]? = some (.cells #[.int .u64 0] 27 (0, 0))) := hc
  clear h hc
  go_enter Tryz.func33, Tryz.ntmps33
  go_wp2_with fail
  refine (ruint_is rb gb k 500 [] w h' (by omega) hk (by omega)).mono ?_
  rintro e w1 ⟨rfl, hr1, ho1⟩
  have hc1 := ho1.heap HC.out hcr
  have t1 : w1.cell? ⟨c, 0, none⟩ = some (.int .u64 0) := by simp [World.cell?, hc1]
  have t2 : w1.frozen? ⟨c, 0, none⟩ = false := by simp [World.frozen?, hc1]
  have hc2 := heap_setCell_same w1 c 0 _ _ (.int .u64 k) hc1
  have hset : Only (fun j => j = c) w1 (w1.setCell ⟨c, 0, none⟩ (.int .u64 k)) := only_set (Only.refl _ _) _ _
  have HR : Hid (RdrAt w1 rb gb []) := hr1
  have HO1 : Hid (Only (fun j => j = rb) w w1) := ho1
  have HC2 : Hid _ := hc2
  have HSET : Hid _ := hset
  clear hc1 hr1 ho1 hc2 hset
  go_wp2_with fail
  go_end0
  exact ⟨rfl, HR.out.keep HSET.out (fun e => hcr e.symm) (fun e => hcg e.symm), HC2.out, (HO1.out.mono fun _ _ e => .inr e).trans (HSET.out.mono fun _ _ e => .inl e) fun _ _ h => h⟩

end Go.Proofs.YteddohgdegggnaaGreatDoor
namespace Go.HR
/-- Which commit the store says is the last. -/
def ManIs (S : St) (k : Nat) : Prop := (get? S.l Nm.man.name = none ∧ k = 0) ∨ ∃ f, get? S.l Nm.man.name = some f ∧ f.p = pageB 109 (leb k) ∧ 1 ≤ k ∧ k ≤ 500
theorem ManIs.le {S : St} {k : Nat} (h : ManIs S k) : k ≤ 500 := by
  rcases h with ⟨_, rfl⟩ | ⟨_, _, _, _, h⟩
  · omega
  · exact h
end Go.HR
namespace Go.Proofs.YteddohgdegggnaaGreatDoor
open Go.RowKit Go.HR
open Go.Proofs

theorem read_man (S : St) : St.read S Nm.man.name = if S.off then ((9, []) : Int × List UInt8) else (match get? S.l Nm.man.name with | none => (5, []) | some f => (0, f.p)) := by
  unfold St.read
  rw [look_form (form_name (m := .man) trivial)]
  cases S.off
  · simp only [Bool.false_eq_true, if_false, if_true]
    cases get? S.l Nm.man.name <;> rfl
  · simp

set_option maxRecDepth 100000 in
set_option maxHeartbeats 2000000 in
theorem last_is {b : Nat} {S : St} {lv : Value} {fs : List FV} (k : Nat) (w : World) (h : StoreIs w b S lv fs) (hg : Gl w) (hm : ManIs S k) :
    Calls Tryz.prog 18 #[.pointer (some ⟨b, 0, none⟩)] w fun e w' => e = .returned (.tuple #[.int .u64 (if S.off then 0 else k : Nat), .int .i64 (if S.off then 9 else 0)]) ∧ Ext w w' := by
  have HRM : Hid (St.read S Nm.man.name = _) := read_man S
  have hbt : (⟨#[109, 97, 110]⟩ : ByteArray).toList = Nm.man.name := bytes_of [109, 97, 110]
  obtain ⟨o, ho⟩ : ∃ o, o = S.off := ⟨_, rfl⟩
  rw [← ho] at HRM ⊢
  clear ho
  have HT : Hid (Gl w) := hg
  have hlt := Gl.lt hg
  have hko := hm.le
  go_enter Tryz.func18, Tryz.ntmps18
  go_wp2_with fail
  have hrd := read_is (S := S) (lv := lv) (fs := fs) ⟨#[109, 97, 110]⟩ w (by decide) h
  rw [hbt] at hrd
  cases o
  · simp only [Bool.false_eq_true, if_false] at HRM ⊢
    rcases hm with ⟨hn, rfl⟩ | ⟨f, hf, hfp, hk1, hk2⟩
    · have e1 : St.read S Nm.man.name = (5, []) := by rw [HRM.out, hn]
      rw [e1] at hrd
      clear e1 HRM
      refine hrd.mono ?_
      rintro e w1 ⟨v, rfl, hn1⟩
      clear hrd
      go_wp2
      go_ret2
      exact ⟨rfl, hn1.ext⟩
    · have e1 : St.read S Nm.man.name = (0, f.p) := by rw [HRM.out, hf]
      rw [e1] at hrd
      clear e1 HRM
      refine hrd.mono ?_
      rintro e w1 ⟨v, rfl, hn1⟩
      have hlen : f.p.length = 9 + (leb k).length := by rw [hfp, pageB_length]; omega
      have hn1' : NewRow 5 1 w (9 + (leb k).length) (by8 (pageB 109 (leb k))) v w1 := by
        rw [← hlen, ← hfp]; exact hn1
      obtain ⟨a1, c1, rfl, _, _⟩ := owns_shape hn1'.owns
      have HN1 : Hid (NewRow 5 1 w (9 + (leb k).length) (by8 (pageB 109 (leb k))) (.slice a1 (9 + (leb k).length) c1) w1) := hn1'
      have hll := leb_ten (n := k) (by omega)
      clear hrd hn1 hn1' hlen hf hfp
      go_wp2_with fail
      refine (pageone_is 109 (leb k) _ w1 (rd_of_owns HN1.out.owns) (by omega) (TableAt.keep HT.out.table HN1.out.ext id)).mono ?_
      rintro e w2 ⟨v2, rfl, hn2⟩
      obtain ⟨a2, c2, rfl, _, _⟩ := owns_shape hn2.owns
      have HN2 : Hid (NewRow 5 1 w1 (leb k).length (by8 (leb k)) (.slice a2 (leb k).length c2) w2) := hn2
      have hs1 := HN1.out.ext.size
      have hs2 := hn2.ext.size
      clear hn2
      go_wp2_with fail
      obtain ⟨w3, hw3⟩ : ∃ w3, w3 = w2.alloc (.cells #[.int .u64 0] 27) := ⟨_, rfl⟩
      have hx3 : Ext w2 w3 := hw3 ▸ (Only.refl _ _).alloc _
      have hs3 : w3.heap.size = w2.heap.size + 1 := by rw [hw3]; simp
      obtain ⟨c, hc⟩ : ∃ c, c = w2.heap.size := ⟨_, rfl⟩
      have hbox : w3.heap[c]? = some (.cells #[.int .u64 0] 27 (0, 0)) := by rw [hw3, hc]; exact Go.heap_alloc_new w2 _
      obtain ⟨gb, hgb⟩ : ∃ gb, gb = (Value.slice a2 (leb k).length c2).ownBlock.getD 0 := ⟨_, rfl⟩
      have hgb1 : ∀ j, (Value.slice a2 (leb k).length c2).ownBlock = some j → j = gb := fun j hj => by rw [hgb, hj]; rfl
      have hgbc : gb < c := by
        rw [hgb, hc]
        cases ho : (Value.slice a2 (leb k).length c2).ownBlock with
        | none => show 0 < _; omega
        | some j => exact owns_lt HN2.out.owns ho
      rw [← hw3, ← hc]
      have HBOX : Hid (w3.heap[c]? = some (.cells #[.int .u64 0] 27 (0, 0))) := hbox
      have HX3 : Hid (Ext w w3) := (HN1.out.ext.thenExt HN2.out.ext).thenExt hx3
      have HRD3 : Hid (Rd w3 (.slice a2 (leb k).length c2) (leb k).length (by8 (leb k))) := (rd_of_owns HN2.out.owns).ext hx3
      have HGB1 : Hid _ := hgb1
      have hcs : c < w3.heap.size := by omega
      have hcw : w.heap.size ≤ c := by omega
      clear hw3 hbox hgb hx3 hgb1 hs3 hc
      refine (try_is _ gb (leb k) 33 #[.pointer (some ⟨c, 0, none⟩)] w3 (fun j => j = c) (fun w4 => w4.heap[c]? = some (.cells #[.int .u64 k] 27 (0, 0)))
        HRD3.out HGB1.out (by omega) (.inr ⟨rfl, _, rfl⟩) (fun w4 hx4 hs4 hr4 => ?_) (fun j hj => by omega)).mono ?_
      · exact last1_is (w3.heap.size + 1) gb c k w4 hr4 hk2 (hx4.heap HBOX.out) (by omega) (by omega)
      · rintro e w5 ⟨rfl, ho5, w4, q2, ho45⟩
        have b5 := ho45.heap q2 (by omega)
        have t5 : w5.cell? ⟨c, 0, none⟩ = some (.int .u64 k) := by simp [World.cell?, b5]
        have hk0 : ((k : Int) == 0) = false := by simp; omega
        have HO5 : Hid _ := ho5
        clear b5 ho45 q2 ho5
        go_wp2_with fail
        go_ret2
        exact ⟨rfl, HX3.out.trans HO5.out fun j hj e => by have e' : j = c := e; omega⟩
  · simp only [if_true] at HRM ⊢
    have e1 : St.read S Nm.man.name = (9, []) := HRM.out
    rw [e1] at hrd
    clear e1 HRM
    refine hrd.mono ?_
    rintro e w1 ⟨v, rfl, hn1⟩
    clear hrd
    go_wp2
    go_ret2
    exact ⟨rfl, hn1.ext⟩

end Go.Proofs.YteddohgdegggnaaGreatDoor
namespace Go.HR
open Go.Lib
def Nm.what : Nm → List UInt8
  | .man => [109, 97, 110]
  | .tmp => [109, 97, 110]
  | .out _ => [111, 117, 116]
  | .state _ => [115, 116, 97, 116, 101]
def Nm.num : Nm → List UInt8
  | .man => []
  | .tmp => [116, 109, 112]
  | .out i => dec i
  | .state i => dec i
def Nm.dot : Nm → Bool
  | .man => false
  | _ => true
theorem cut_out : ∀ i, i < 501 → cut (Nm.out i).name [46] = ([111, 117, 116], dec i, true) := by decide +kernel
theorem cut_state : ∀ i, i < 501 → cut (Nm.state i).name [46] = ([115, 116, 97, 116, 101], dec i, true) := by decide +kernel
theorem cut_name {m : Nm} (h : m.OK) : cut m.name [46] = (m.what, m.num, m.dot) := by
  cases m with
  | man => decide +kernel
  | tmp => decide +kernel
  | out i => exact cut_out i (Nat.lt_succ_of_le h)
  | state i => exact cut_state i (Nat.lt_succ_of_le h)
def okAs (r : NumEnd Nat) (i : Nat) : Bool := match r with
  | .ok u => u == i
  | _ => false
theorem okAs_eq {r : NumEnd Nat} {i : Nat} (h : okAs r i = true) : r = .ok i := by
  unfold okAs at h
  split at h
  · simp at h; rw [h]
  · cases h
theorem parse_dec : ∀ i, i < 501 → okAs (parseUintB 32 (dec i)) i = true := by decide +kernel
theorem name_len {m : Nm} : m.name.length ≤ 9 := by
  cases m with
  | man => decide
  | tmp => decide
  | out i => have := dec_len' i; simp only [Nm.name, List.length_append, List.length_cons, List.length_nil]; omega
  | state i => have := dec_len' i; simp only [Nm.name, List.length_append, List.length_cons, List.length_nil]; omega
theorem num_len {m : Nm} : m.num.length ≤ 3 := by
  cases m with
  | man => decide
  | tmp => decide
  | out i => exact dec_len' i
  | state i => exact dec_len' i
end Go.HR
namespace Go.Proofs.YteddohgdegggnaaGreatDoor
open Go.RowKit Go.HR
open Go.Proofs

theorem ext_of_below {w w' : World} (h : Below w.heap.size w w') : Ext w w' := ⟨h.1, h.2, h.3, h.4, fun k hk _ => h.5 k hk⟩
theorem bytesWorld_ext (w : World) (e : TypeId) (s : ByteArray) : Ext w (Lib.bytesWorld w e s) :=
  ext_of_below (Go.Lib.below_freeze (Only.below (F := fun _ => False) (((Only.refl _ _).drew).alloc _) (Nat.le_refl _) fun _ h => h.elim) (Nat.le_refl _) 1)

theorem cut_is (m : Nm) (hm : m.OK) (w : World) (hg : Gl w) :
    Calls Tryz.prog 35 #[.string ⟨m.name.toArray⟩, .string ⟨#[46]⟩] w fun e w' => e = .returned (.tuple #[.string ⟨m.what.toArray⟩, .string ⟨m.num.toArray⟩, .bool m.dot]) ∧ Ext w w' := by
  obtain ⟨mx, hmx⟩ := hg.maxlen
  have hl := name_len (m := m)
  refine (Tryz.strings_Cut ⟨m.name.toArray⟩ ⟨#[46]⟩ mx w (by rw [bytes_size]; omega) hmx).mono ?_
  rintro e w' ⟨rfl, n, rfl⟩
  rw [show (⟨m.name.toArray⟩ : ByteArray).data.toList = m.name from rfl, show (⟨#[46]⟩ : ByteArray).data.toList = [46] from rfl, cut_name hm]
  exact ⟨rfl, (Only.refl _ _).drewN n⟩

theorem parse_ok (m : Nm) (i : Nat) (hm : m = .out i ∨ m = .state i) (hi : i ≤ 500) (w : World) :
    Calls Tryz.prog 36 #[.string ⟨m.num.toArray⟩, .int .i64 10, .int .i64 32] w fun e w' => e = .returned (.tuple #[.int .u64 i, .nilIface]) ∧ Ext w w' := by
  have hn : m.num = dec i := by rcases hm with rfl | rfl <;> rfl
  have hl := num_len (m := m)
  refine (Tryz.strconv_ParseUint_10_at32_ok ⟨m.num.toArray⟩ (by rw [bytes_size]; omega) i (by show Lib.parseUintB 32 m.num = _; rw [hn]; exact okAs_eq (parse_dec i (by omega))) w).mono ?_
  rintro e w' ⟨rfl, rfl | rfl⟩
  · exact ⟨rfl, Only.refl _ _⟩
  · exact ⟨rfl, bytesWorld_ext _ _ _⟩

theorem parse_bad (m : Nm) (hm : m = .man ∨ m = .tmp) (w : World) (hg : Gl w) :
    Calls Tryz.prog 36 #[.string ⟨m.num.toArray⟩, .int .i64 10, .int .i64 32] w fun e w' => (∃ N, e = .returned (.tuple #[.int .u64 0, .iface 129 (.pointer (some ⟨N, 0, none⟩))])) ∧ Ext w w' := by
  obtain ⟨tp, p, hs⟩ := hg.syn
  rcases hm with rfl | rfl
  · refine (Any.strconv_ParseUint_10_at32_syntax Tryz.laysPu14 ⟨#[]⟩ (by decide) (by kernel_rfl) _ w hs (.inr ⟨tp, p, rfl⟩)).mono ?_
    rintro e w' ⟨N, rfl, _, _, hb⟩
    exact ⟨⟨N, rfl⟩, ext_of_below hb⟩
  · refine (Any.strconv_ParseUint_10_at32_syntax Tryz.laysPu14 ⟨#[116, 109, 112]⟩ (by decide) (by kernel_rfl) _ w hs (.inr ⟨tp, p, rfl⟩)).mono ?_
    rintro e w' ⟨N, rfl, _, _, hb⟩
    exact ⟨⟨N, rfl⟩, ext_of_below hb⟩

end Go.Proofs.YteddohgdegggnaaGreatDoor
