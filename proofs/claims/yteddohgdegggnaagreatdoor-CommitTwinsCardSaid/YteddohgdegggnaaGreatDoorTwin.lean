/- CommitTwins' walk: two stores to which the same commits are put are the same; conditions: each theorem's own hypotheses. -/
import Derived.Test.YteddohgdegggnaaGreatDoorTwo
import Derived.BigQuiet
namespace Go.Proofs.YteddohgdegggnaaGreatDoor
open Go.RowKit Go.HR
open Go.Proofs

theorem two_put1 {w0 w : World} {b c : Nat} {F G : List Nat} {S : St} {ls : List (List ChgG)} {st : List UInt8} {u n : Nat} (h : Two w0 w b c F G S ls st u n) (k : Nat) (sv lv : Value) (st' : List UInt8) (l : List ChgG) (hn : k = ls.length + 1) (hk : ls.length < 125)
    (hs : Arg w F sv st'.length (by8 st')) (hl : w.ownsRow 0 61 10 lv l.length (l.flatMap ChgG.cells)) (hlf : ∀ k, lv.ownBlock = some k → k ∉ F) (hok : ∀ x ∈ l, x.OK) (hll : l.length ≤ 8192)
    (hu : u + (123 * l.length + 19) + st'.length + 19 ≤ S.room) (hc : n + 3 ≤ 500) :
    Calls Tryz.prog 8 #[.pointer (some ⟨b, 0, none⟩), .int .u64 k, sv, lv] w
      fun e w' => e = .returned (.int .i64 0) ∧ ∃ F', Sys w' b F' (S.commit ls.length (outB l) st').2 (ls ++ [l]) st' (u + (123 * l.length + 19) + st'.length + 19) (n + 3) ∧ Sys w' c G S ls st u n ∧ (∀ q ∈ F', q ∉ G) ∧ (∀ q ∈ F', w0.heap.size ≤ q) ∧
        Only (fun k => k ∈ F) w w' ∧ (S.commit ls.length (outB l) st').2.room = S.room := by
  refine (put_good h.s k sv lv st' l hn hk hs hl hlf hok hll hu hc).mono ?_
  rintro e w' ⟨rfl, F', h1, h2, h3, h4⟩
  have hsz := h.ext.size
  exact ⟨rfl, F', h1, h.t.apart h2 h.dis h.s.up, fresh_apart h3 h.dis h.t.at_.lt, fun q hq => by
    rcases h3 q hq with h' | h'
    · exact h.hF q h'
    · omega, h2, h4⟩

theorem two_put2 {w0 w : World} {b c : Nat} {F G : List Nat} {S S' : St} {ls ls' : List (List ChgG)} {st st0 : List UInt8} {u n u' n' : Nat} (hb : Sys w b F S' ls' st0 u' n') (ht : Sys w c G S ls st u n) (hd : ∀ q ∈ F, q ∉ G) (hG : ∀ q ∈ G, w0.heap.size ≤ q) (hx : w0.heap.size ≤ w.heap.size) (k : Nat) (sv lv : Value) (st' : List UInt8) (l : List ChgG) (hn : k = ls.length + 1) (hk : ls.length < 125)
    (hs : Arg w G sv st'.length (by8 st')) (hl : w.ownsRow 0 61 10 lv l.length (l.flatMap ChgG.cells)) (hlf : ∀ k, lv.ownBlock = some k → k ∉ G) (hok : ∀ x ∈ l, x.OK) (hll : l.length ≤ 8192)
    (hu : u + (123 * l.length + 19) + st'.length + 19 ≤ S.room) (hc : n + 3 ≤ 500) :
    Calls Tryz.prog 8 #[.pointer (some ⟨c, 0, none⟩), .int .u64 k, sv, lv] w
      fun e w' => e = .returned (.int .i64 0) ∧ ∃ G', Sys w' c G' (S.commit ls.length (outB l) st').2 (ls ++ [l]) st' (u + (123 * l.length + 19) + st'.length + 19) (n + 3) ∧ Sys w' b F S' ls' st0 u' n' ∧ (∀ q ∈ F, q ∉ G') ∧ (∀ q ∈ G', w0.heap.size ≤ q) ∧
        Only (fun k => k ∈ G) w w' := by
  refine (put_good ht k sv lv st' l hn hk hs hl hlf hok hll hu hc).mono ?_
  rintro e w' ⟨rfl, G', h1, h2, h3, _⟩
  have hd' : ∀ q ∈ G, q ∉ F := fun q hq hm => hd q hm hq
  have hd2 := fresh_apart h3 hd' hb.at_.lt
  exact ⟨rfl, G', h1, hb.apart h2 hd' ht.up, fun q hq hm => hd2 q hm hq, fun q hq => by
    rcases h3 q hq with h' | h'
    · exact hG q h'
    · omega, h2⟩

theorem two_again {w0 w : World} {b c : Nat} {F G : List Nat} {S : St} {ls : List (List ChgG)} {st : List UInt8} {u n : Nat} (h : Two w0 w b c F G S ls st u n) (h0 : 0 < ls.length) :
    Calls Tryz.prog 11 #[.pointer (some ⟨c, 0, none⟩)] w fun e w' => ∃ pv lv x, e = .returned (.tuple #[.int .u64 ls.length, pv, lv, x]) ∧ ∃ G', Two w0 w' b c F G' S ls st u n := by
  refine (rec_good h.t h0).mono ?_
  rintro e w' ⟨pv, lv, rfl, ⟨G', h1, h3⟩, h2, _⟩
  have hd' : ∀ q ∈ G, q ∉ F := fun q hq hm => h.dis q hm hq
  have hd2 := fresh_apart h3 hd' h.s.at_.lt
  have hsz := h.ext.size
  refine ⟨pv, lv, _, rfl, G', h.s.apart h2 hd' h.t.up, h1, fun q hq hm => hd2 q hm hq, h.hF, fun q hq => ?_, h.ext.trans h2 fun k hk hm => by have := h.hG k hm; omega⟩
  rcases h3 q hq with h' | h'
  · exact h.hG q h'
  · omega

theorem two_rest {w0 w : World} {b c : Nat} {F G : List Nat} {S : St} {ls : List (List ChgG)} {st : List UInt8} {u n : Nat} (h : Two w0 w b c F G S ls st u n) (h0 : 0 < ls.length) :
    Calls Tryz.prog 13 #[.pointer (some ⟨c, 0, none⟩), .slice none 0 0] w fun e w' => e = .returned (.int .i64 0) ∧ ∃ G', Two w0 w' b c F G' S ls st u n := by
  obtain ⟨lv, fs, hs, hf⟩ := h.t.at_
  refine (restart_is (.slice none 0 0) [] w hs (Arg.of (Rd.nil w) fun k hk => by simp [Value.ownBlock] at hk)).mono ?_
  rintro e w' ⟨rfl, hd⟩
  rw [← hf, restart_same h.t.good.on h.t.good.armed (HR.Good.sure h.t.good (by rw [List.length_map]; exact h0))] at hd
  obtain ⟨G', q1, q2, q3, q4, q5⟩ := hd.meet h.t.gl h.t.up
  have hd' : ∀ q ∈ G, q ∉ F := fun q hq hm => h.dis q hm hq
  have hd2 := fresh_apart q3 hd' h.s.at_.lt
  have hsz := h.ext.size
  refine ⟨rfl, G', h.s.apart q2 hd' h.t.up, ⟨q1, q4, q5, h.t.good, h.t.ok, h.t.short⟩, fun q hq hm => hd2 q hm hq, h.hF, fun q hq => ?_, h.ext.trans q2 fun k hk hm => by have := h.hG k hm; omega⟩
  rcases q3 q hq with h' | h'
  · exact h.hG q h'
  · omega

theorem Sys.mono {w : World} {b : Nat} {F : List Nat} {S : St} {ls : List (List ChgG)} {st : List UInt8} {u c u' c' : Nat} (h : Sys w b F S ls st u c) (hu : u ≤ u') (hc : c ≤ c') : Sys w b F S ls st u' c' := ⟨h.at_, h.gl, h.up, h.good.mono hu hc, h.ok, h.short⟩

set_option maxRecDepth 100000 in
set_option maxHeartbeats 4000000 in
theorem twins_is (sv : Value) (acts : List ActV) (mask : Nat) (w : World) (hg : Gl w) (hs : Arg w [] sv acts.length (acts.flatMap ActV.cells)) (hin : ∀ a ∈ acts, ActIn w a) (_hm : mask < 4294967296) :
    Calls Tryz.prog 4 #[sv, .int .u32 mask] w fun e w' => e = .returned (.bool true) ∧ Ext w w' := by
  obtain ⟨va, vc, rfl, hvl, hvm⟩ := hs.shape
  have HG : Hid (Gl w) := hg
  have HA : Hid (Arg w [] (.slice va acts.length vc) acts.length (acts.flatMap ActV.cells)) := hs
  have HIN : Hid (∀ a ∈ acts, ActIn w a) := hin
  clear hg hs hin
  go_enter Tryz.func4, Tryz.ntmps4
  go_wp2_with fail
  refine (awake_is w HG.out).mono ?_
  rintro e w0 ⟨rfl, hx0⟩
  go_wp2_with fail
  refine (new_is 1048576 w0 (by omega) (by omega)).mono ?_
  rintro e w1 ⟨b, rfl, hst1, hx1, hb1⟩
  have hs1 := new_sys hst1 hx1 hb1 (HG.out.ext hx0)
  have hbl : b < w1.heap.size := hst1.lt b (by simp)
  go_wp2_with fail
  refine (new_is 1048576 w1 (by omega) (by omega)).mono ?_
  rintro e w2 ⟨c, rfl, hst2, hx2, hb2⟩
  have hs2 := new_sys hst2 hx2 hb2 ((HG.out.ext hx0).ext hx1)
  have hz0 := hx0.size
  have hz1 := hx1.size
  have HTWO : Hid (Two w w2 b c [b] [c] ⟨[], 1048576, 0, false⟩ [] [] 0 0) :=
    ⟨hs1.ext hx2, hs2, fun q hq hm => by have := List.mem_singleton.1 hq; have := List.mem_singleton.1 hm; omega, fun q hq => by have := List.mem_singleton.1 hq; omega, fun q hq => by have := List.mem_singleton.1 hq; omega, (hx0.thenExt hx1).thenExt hx2⟩
  clear hst1 hx1 hb1 hs1 hst2 hx2 hb2 hs2 hz0 hz1 hx0 hbl
  go_wp2_with fail
  go_loopw [9, 10] (fun nn i wr => ∃ j : Nat, i = .int .i64 j ∧ nn = .int .u64 j ∧ j ≤ acts.length ∧ j ≤ 20 ∧ Hid (∃ F G S st, Two w wr b c F G S (lsOf acts j) st (1768 * j) (3 * j) ∧ S.room = 1048576)) (fun _ i _ => acts.length - (intOf i).toNat)
  case atStart => exact ⟨0, rfl, rfl, Nat.zero_le _, Nat.zero_le _, [b], [c], _, _, HTWO.out, rfl⟩
  case round =>
    obtain ⟨j, rfl, rfl, hj, hj20, HI⟩ := hrel
    rename World => wr
    by_cases hlt : j < acts.length
    · by_cases hlt20 : j < 20
      · obtain ⟨a, ha⟩ : ∃ a, acts[j]? = some a := ⟨_, List.getElem?_eq_getElem hlt⟩
        have hai := HIN.out a (List.mem_of_getElem? ha)
        obtain ⟨F, G, S, st, htwo, hroom⟩ := HI.out
        obtain ⟨g, off, cap, hv, _, _, _, hc⟩ : ∃ g off cap, Value.slice va acts.length vc = .slice (some ⟨g, off, none⟩) acts.length cap ∧ acts.length ≤ cap ∧ cap ≤ maxLen ∧ g < w.heap.size ∧ ∀ (j : Nat) (u : Value), (acts.flatMap ActV.cells)[j]? = some u → w.cell? ⟨g, off + j, none⟩ = some u := by
          rcases (HA.out.rd (by omega)).1 with ⟨_, h0, _⟩ | h
          · omega
          · exact h
        obtain ⟨rfl, rfl⟩ : va = some ⟨g, off, none⟩ ∧ vc = cap := by simp at hv; exact hv
        obtain ⟨sa, sc, hsv, _, _⟩ := hai.state.shape
        obtain ⟨la, lc, hlv, _, _⟩ := hai.l.shape
        have d1w : w.cell? ⟨g, off + j * 5 + 1, none⟩ = some (.slice sa a.g.state.length sc) := by
          have := hc (j * 5 + 1) a.sv (by rw [acts_get acts j 1 a ha (by omega)]; rfl)
          rw [← hsv]; rwa [← Nat.add_assoc] at this
        have d2w : w.cell? ⟨g, off + j * 5 + 2, none⟩ = some (.slice la a.g.l.length lc) := by
          have := hc (j * 5 + 2) a.lv (by rw [acts_get acts j 2 a ha (by omega)]; rfl)
          rw [← hlv]; rwa [← Nat.add_assoc] at this
        have d1 := htwo.ext.cell d1w
        have d2 := htwo.ext.cell d2w
        have HD1 : Hid _ := d1w
        clear d1w d2w
        have hst := hai.state
        have hll := hai.l
        rw [hsv] at hst
        rw [hlv] at hll
        have HST : Hid (Arg w [] (.slice sa a.g.state.length sc) a.g.state.length (by8 a.g.state)) := hst
        have HL : Hid (Arg w [] (.slice la a.g.l.length lc) a.g.l.length (a.g.l.flatMap ChgG.cells)) := hll
        have HWF : Hid (∀ c ∈ a.g.l, c.WF) := hai.wf
        have HAJ : Hid (acts[j]? = some a) := ha
        have HTW : Hid (Two w wr b c F G S (lsOf acts j) st (1768 * j) (3 * j)) := htwo
        have HROOM : Hid (S.room = 1048576) := hroom
        have hkl : (j : Int) < acts.length := by omega
        have hk2 : (j : Int) < 20 := by omega
        clear ha hai htwo hroom hv hc hsv hlv hst hll HI
        by_cases h5 : 500 < a.g.state.length
        · have h5' : (500 : Int) < a.g.state.length := by omega
          go_wp2
          go_ret
          exact ⟨rfl, HTW.out.ext⟩
        · have h5' : ¬ ((500 : Int) < a.g.state.length) := by omega
          have hw1 : IntKind.u64.wrap ((j : Int) + 1) = ((j + 1 : Nat) : Int) := by rw [IntKind.wrap_u64]; omega
          obtain ⟨n1, hn1⟩ : ∃ n1, n1 = j + 1 := ⟨_, rfl⟩
          rw [← hn1] at hw1
          have HN1 : Hid (n1 = j + 1) := hn1
          clear hn1
          have hll1 : (lsOf acts j).length = j := lsOf_len hj
          have hfl := fineL_len a.g.l
          obtain ⟨fl, hfle⟩ : ∃ fl, fl = fineL a.g.l := ⟨_, rfl⟩
          have HFL : Hid (fl = fineL a.g.l) := hfle
          have hokf := fineL_ok HWF.out
          rw [← hfle] at hfl hokf
          have HOK : Hid (∀ c ∈ fl, c.OK) := hokf
          have hul : 1768 * j + (123 * fl.length + 19) + a.g.state.length + 19 ≤ S.room := by rw [HROOM.out]; omega
          have HUL : Hid _ := hul
          have HLL1 : Hid ((lsOf acts j).length = j) := hll1
          have HN : Hid (n1 = (lsOf acts j).length + 1) := by show _ = _; rw [hll1]; exact HN1.out
          have hfl2 : fl.length ≤ 8192 := by omega
          clear hfle hokf hul hll1
          go_wp2_with fail
          refine (fine_is _ a.g.l wr (HL.out.ext HTW.out.ext)).mono ?_
          rintro e w3 ⟨fv, rfl, hn3⟩
          rw [← HFL.out] at hn3
          obtain ⟨fa, fc, rfl, _, _⟩ := owns_shape hn3.owns
          have HN3 : Hid (NewRow 61 10 wr fl.length (fl.flatMap ChgG.cells) (.slice fa fl.length fc) w3) := hn3
          have HT3 : Hid (Two w w3 b c F G S (lsOf acts j) st (1768 * j) (3 * j)) := HTW.out.keep hn3.ext
          have e1 := HT3.out.ext.cell HD1.out
          clear hn3 d1 d2
          go_wp2_with fail
          refine (two_put1 HT3.out n1 _ _ a.g.state fl HN.out (by rw [HLL1.out]; omega) (HST.out.up HT3.out.ext HT3.out.hF) HN3.out.owns (fun k hk hm => by have := HN3.out.fresh k hk; have := HTW.out.s.at_.lt k hm; omega) HOK.out hfl2 HUL.out (by omega)).mono ?_
          rintro e w4 ⟨rfl, F', p1, p2, p3, p4, p5, p6⟩
          have hx4 : Ext w w4 := HT3.out.ext.trans p5 fun k hk hm => by have := HT3.out.hF k hm; omega
          have hrow4 := owns_keep HN3.out.owns p5 fun k hk hm => by have := HN3.out.fresh k hk; have := HTW.out.s.at_.lt k hm; omega
          generalize hS' : (St.commit S (lsOf acts j).length (outB fl) a.g.state).2 = S' at p1 p6
          have HP1 : Hid (Sys w4 b F' S' (lsOf acts j ++ [fl]) a.g.state (1768 * j + (123 * fl.length + 19) + a.g.state.length + 19) (3 * j + 3)) := p1
          have HP2 : Hid (Sys w4 c G S (lsOf acts j) st (1768 * j) (3 * j)) := p2
          have HP3 : Hid (∀ q ∈ F', q ∉ G) := p3
          have HP4 : Hid (∀ q ∈ F', w.heap.size ≤ q) := p4
          have HP6 : Hid (S'.room = 1048576) := p6.trans HROOM.out
          have HX4 : Hid (Ext w w4) := hx4
          have HROW4 : Hid _ := hrow4
          have HSE : Hid ((St.commit S (lsOf acts j).length (outB fl) a.g.state).2 = S') := hS'
          have e4 := hx4.cell HD1.out
          clear p1 p2 p3 p4 p5 p6 hx4 hrow4 hS' e1
          go_wp2_with fail
          refine (two_put2 (w0 := w) HP1.out HP2.out HP3.out HT3.out.hG HX4.out.size n1 _ _ a.g.state fl HN.out (by rw [HLL1.out]; omega) (HST.out.up HX4.out HT3.out.hG) HROW4.out (fun k hk hm => by have := HN3.out.fresh k hk; have := HTW.out.t.at_.lt k hm; omega) HOK.out hfl2 HUL.out (by omega)).mono ?_
          rintro e w5 ⟨rfl, G', q1, q2, q3, q4, q5⟩
          rw [HSE.out] at q1
          have hls : lsOf acts j ++ [fl] = lsOf acts (j + 1) := by rw [lsOf_succ HAJ.out, HFL.out]
          rw [hls] at q1 q2
          have HT5 : Hid (Two w w5 b c F' G' S' (lsOf acts (j + 1)) a.g.state (1768 * (j + 1)) (3 * (j + 1))) :=
            ⟨q2.mono (by omega) (by omega), q1.mono (by omega) (by omega), q3, HP4.out, q4, HX4.out.trans q5 fun k hk hm => by have := HT3.out.hG k hm; omega⟩
          have HPOS : Hid (0 < (lsOf acts (j + 1)).length) := by show 0 < _; rw [lsOf_len (by omega)]; omega
          clear q1 q2 q3 q4 q5 hls e4
          go_upto_if 80 with fail
          go_cut [10] from 29 to 133 (fun i wx => i = .int .i64 j ∧ Hid (∃ G6, Two w wx b c F' G6 S' (lsOf acts (j + 1)) a.g.state (1768 * (j + 1)) (3 * (j + 1))))
          case first =>
            go_wp2_with (first
              | (go_at_call 11; refine (two_again HT5.out HPOS.out).mono ?_; rintro e w6 ⟨pv, lv, x, rfl, G6, ht6⟩)
              | (go_at_call 13; refine (two_rest ht6 HPOS.out).mono ?_; rintro e w7 ⟨rfl, G7, ht7⟩))
            all_goals go_meet
            case rel => exact ⟨rfl, _, ht7⟩
            case rel => exact ⟨rfl, _, HT5.out⟩
          case rest =>
            obtain ⟨rfl, HC⟩ := hcut
            obtain ⟨G6, ht6⟩ := HC.out
            have HT6 : Hid (Two w wc b c F' G6 S' (lsOf acts (j + 1)) a.g.state (1768 * (j + 1)) (3 * (j + 1))) := ht6
            clear HC ht6
            go_wp2_with fail
            obtain ⟨lb, fb, hsb, _⟩ := HT6.out.s.at_
            refine (list_is wc hsb).mono ?_
            rintro e w7 ⟨xv, rfl, hx7⟩
            obtain ⟨ns, hns⟩ : ∃ ns, ns = S'.l.map (·.name) := ⟨_, rfl⟩
            have HNS : Hid (ns = S'.l.map (·.name)) := hns
            rw [← hns] at hx7
            obtain ⟨xa, xc, rfl, _, _⟩ := owns_shape hx7.owns
            have HX7 : Hid (NewRow 9 1 wc ns.length (strs ns) (.slice xa ns.length xc) w7) := hx7
            clear hsb hns hx7
            go_wp2_with fail
            obtain ⟨lt, ft, hst, _⟩ := (HT6.out.keep HX7.out.ext).t.at_
            refine (list_is w7 hst).mono ?_
            rintro e w8 ⟨yv, rfl, hy8⟩
            rw [← HNS.out] at hy8
            obtain ⟨ya, yc, rfl, _, _⟩ := owns_shape hy8.owns
            have HX8 : Hid (w8.ownsRow 0 9 1 (.slice xa ns.length xc) ns.length (strs ns)) := owns_ext HX7.out.owns hy8.ext
            have HY8 : Hid (w8.ownsRow 0 9 1 (.slice ya ns.length yc) ns.length (strs ns)) := hy8.owns
            have HT8 : Hid (Two w w8 b c F' G6 S' (lsOf acts (j + 1)) a.g.state (1768 * (j + 1)) (3 * (j + 1))) := (HT6.out.keep HX7.out.ext).keep hy8.ext
            have hnl : ns.length ≤ 500 := by have := HT6.out.s.at_.wf.count; rw [HNS.out, List.length_map]; exact this
            clear hst hy8
            go_wp2_with fail
            go_loopw [14] (fun q wq => ∃ k : Nat, q = .int .i64 k ∧ k ≤ ns.length ∧ Hid (Ext w8 wq)) (fun q _ => ns.length - (intOf q).toNat)
            case atStart => exact ⟨0, rfl, Nat.zero_le _, Only.refl _ _⟩
            case round =>
              obtain ⟨k, rfl, hk, HE⟩ := hrel
              rename World => wq
              by_cases hkn : k < ns.length
              · obtain ⟨t, ht⟩ : ∃ t, ns[k]? = some t := ⟨_, List.getElem?_eq_getElem hkn⟩
                obtain ⟨gx, rfl⟩ : ∃ gx, xa = some ⟨gx, 0, none⟩ := by
                  rcases HX8.out.2 with ⟨_, e2⟩ | ⟨g, cap, cur, e1, _⟩
                  · omega
                  · simp at e1; exact ⟨g, e1.1⟩
                obtain ⟨gy, rfl⟩ : ∃ gy, ya = some ⟨gy, 0, none⟩ := by
                  rcases HY8.out.2 with ⟨_, e2⟩ | ⟨g, cap, cur, e1, _⟩
                  · omega
                  · simp at e1; exact ⟨g, e1.1⟩
                have dx8 : w8.cell? ⟨gx, k, none⟩ = some (.string ⟨t.toArray⟩) := by
                  have := HX8.out.cells (g := gx) rfl k (.string ⟨t.toArray⟩) (by simp only [strs, List.getElem?_map, ht]; rfl)
                  rwa [Addr.add_lit, Nat.zero_add] at this
                have dy8 : w8.cell? ⟨gy, k, none⟩ = some (.string ⟨t.toArray⟩) := by
                  have := HY8.out.cells (g := gy) rfl k (.string ⟨t.toArray⟩) (by simp only [strs, List.getElem?_map, ht]; rfl)
                  rwa [Addr.add_lit, Nat.zero_add] at this
                have DX8 : Hid _ := dx8
                have DY8 : Hid _ := dy8
                have htl : t.length ≤ 32 := by
                  have hm := List.mem_of_getElem? ht
                  rw [HNS.out] at hm
                  obtain ⟨f, hf, rfl⟩ := List.mem_map.1 hm
                  exact HT8.out.s.at_.wf.names f hf
                have hkn2 : (k : Int) < ns.length := by omega
                have dxq := HE.out.cell dx8
                obtain ⟨rc, hrc⟩ : ∃ rc, rc = St.read S' t := ⟨_, rfl⟩
                have HRC : Hid (rc = St.read S' t) := hrc
                clear ht dx8 dy8 hrc
                go_wp2_with fail
                obtain ⟨lb, fb, hsb, _⟩ := (HT8.out.keep HE.out).s.at_
                refine (read_is (S := S') ⟨t.toArray⟩ wq (by rw [bytes_size]; omega) hsb).mono ?_
                rintro e w9 ⟨v9, rfl, hn9⟩
                rw [bytes_of, ← HRC.out] at hn9 ⊢
                obtain ⟨a9, c9, rfl, _, _⟩ := owns_shape hn9.owns
                have HN9 : Hid (NewRow 5 1 wq rc.2.length (by8 rc.2) (.slice a9 rc.2.length c9) w9) := hn9
                have HX9 : Hid (Ext w8 w9) := HE.out.thenExt hn9.ext
                have dyq := HX9.out.cell DY8.out
                clear hsb hn9
                go_wp2_with fail
                obtain ⟨lt, ft, hst, _⟩ := (HT8.out.keep HX9.out).t.at_
                refine (read_is (S := S') ⟨t.toArray⟩ w9 (by rw [bytes_size]; omega) hst).mono ?_
                rintro e w10 ⟨v10, rfl, hn10⟩
                rw [bytes_of, ← HRC.out] at hn10 ⊢
                obtain ⟨a10, c10, rfl, _, _⟩ := owns_shape hn10.owns
                have HX10 : Hid (Ext w8 w10) := HX9.out.thenExt hn10.ext
                have dxr := HX10.out.cell DX8.out
                have dyr := HX10.out.cell DY8.out
                have cv1 : ∀ q, (convert 29 9 (.slice a9 rc.2.length c9)).run Tryz.prog (w10.drewN q) = .ok (.string ⟨rc.2.toArray⟩) (w10.drewN q) := fun q => conv_rd (rd_of_owns (owns_ext (owns_ext HN9.out.owns hn10.ext) ((Only.refl _ _).drewN q)))
                have cv2 : ∀ q, (convert 29 9 (.slice a10 rc.2.length c10)).run Tryz.prog (w10.drewN q) = .ok (.string ⟨rc.2.toArray⟩) (w10.drewN q) := fun q => conv_rd (rd_of_owns (owns_ext hn10.owns ((Only.refl _ _).drewN q)))
                clear hst hn10 dxq dyq
                go_wp2_with fail
                go_quiet (fail)
                go_wp2_with fail
                go_roundw
                case rel => exact ⟨k + 1, by go_num, by omega, HX10.out.thenExt ((Only.refl _ _).drewN _)⟩
                case measure => simp [intOf]; omega
              · obtain rfl : k = ns.length := by omega
                have hkn2 : ¬ ((ns.length : Int) < ns.length) := by omega
                have HT9 : Hid (Two w wq b c F' G6 S' (lsOf acts (j + 1)) a.g.state (1768 * (j + 1)) (3 * (j + 1))) := HT8.out.keep HE.out
                go_wp2
                go_roundw
                case rel => exact ⟨j + 1, by go_num, by rw [HN1.out], by omega, by omega, F', G6, S', a.g.state, HT9.out, HP6.out⟩
                case measure => simp [intOf]; omega
      · have hkl : (j : Int) < acts.length := by omega
        have hk2 : ¬ ((j : Int) < 20) := by omega
        obtain ⟨F, G, S, st, htwo, _⟩ := HI.out
        have HX : Hid (Ext w wr) := htwo.ext
        clear htwo HI
        go_wp2
        go_ret
        exact ⟨rfl, HX.out⟩
    · have hkl : ¬ ((j : Int) < acts.length) := by omega
      obtain ⟨F, G, S, st, htwo, _⟩ := HI.out
      have HX : Hid (Ext w wr) := htwo.ext
      clear htwo HI
      go_wp2
      go_ret
      exact ⟨rfl, HX.out⟩

end Go.Proofs.YteddohgdegggnaaGreatDoor
