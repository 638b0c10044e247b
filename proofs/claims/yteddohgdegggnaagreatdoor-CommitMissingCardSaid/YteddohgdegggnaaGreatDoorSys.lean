/- What is shown here, as far as 'new_sys': contracts of the program's functions, and the plain laws that they lean on; conditions: each theorem's own hypotheses. -/
import Derived.Test.YteddohgdegggnaaGreatDoorCalm
namespace Go.HR
def outB (l : List ChgG) : List UInt8 := pageB 108 (ledgerB l)
theorem Good.mono {S : St} {os : List (List UInt8)} {st : List UInt8} {u c u' c' : Nat} (h : Good S os st u c) (hu : u ≤ u') (hc : c ≤ c') : Good S os st u' c' := ⟨h.inv, h.clean, h.on, h.armed, Nat.le_trans h.used hu, Nat.le_trans h.count hc⟩
theorem outB_len {l : List ChgG} (h : ∀ x ∈ l, x.OK) (hn : l.length ≤ 65536) : (outB l).length ≤ 123 * l.length + 19 := by
  have := ledgerB_len h hn
  unfold outB; rw [pageB_length]; omega
end Go.HR
namespace Go.Proofs.YteddohgdegggnaaGreatDoor
open Go.RowKit Go.HR
open Go.Proofs

/-- A store in which these lists of changes are committed, and nothing else is. -/
structure Sys (w : World) (b : Nat) (F : List Nat) (S : St) (ls : List (List ChgG)) (st : List UInt8) (u c : Nat) : Prop where
  at_ : StoreAt w b S F
  gl : Gl w
  up : ∀ q ∈ F, 8 ≤ q
  good : HR.Good S (ls.map outB) st u c
  ok : ∀ l ∈ ls, ∀ x ∈ l, x.OK
  short : ∀ l ∈ ls, l.length ≤ 8192

theorem Sys.keep {w w' : World} {b : Nat} {F : List Nat} {S : St} {ls : List (List ChgG)} {st : List UInt8} {u c : Nat} (h : Sys w b F S ls st u c) {G : Nat → Prop} (ho : Only G w w') (hG : ∀ q ∈ F, ¬ G q) (h8 : ∀ k, k < 8 → ¬ G k) : Sys w' b F S ls st u c :=
  ⟨h.at_.keep ho hG, h.gl.keep ho h8, h.up, h.good, h.ok, h.short⟩
theorem Sys.ext {w w' : World} {b : Nat} {F : List Nat} {S : St} {ls : List (List ChgG)} {st : List UInt8} {u c : Nat} (h : Sys w b F S ls st u c) (hx : Ext w w') : Sys w' b F S ls st u c := h.keep hx (fun _ _ => id) fun _ _ => id

theorem put_good {w : World} {b : Nat} {F : List Nat} {S : St} {ls : List (List ChgG)} {st : List UInt8} {u c : Nat} (h : Sys w b F S ls st u c) (n : Nat) (sv lv : Value) (st' : List UInt8) (l : List ChgG) (hn : n = ls.length + 1) (hk : ls.length < 125)
    (hs : Rd w sv st'.length (by8 st')) (hsf : ∀ k, sv.ownBlock = some k → k ∉ F) (hl : w.ownsRow 0 61 10 lv l.length (l.flatMap ChgG.cells)) (hlf : ∀ k, lv.ownBlock = some k → k ∉ F) (hok : ∀ x ∈ l, x.OK) (hll : l.length ≤ 8192)
    (hu : u + (123 * l.length + 19) + st'.length + 19 ≤ S.room) (hc : c + 3 ≤ 500) :
    Calls Tryz.prog 8 #[.pointer (some ⟨b, 0, none⟩), .int .u64 n, sv, lv] w
      fun e w' => e = .returned (.int .i64 0) ∧ ∃ F', Sys w' b F' (S.commit ls.length (outB l) st').2 (ls ++ [l]) st' (u + (123 * l.length + 19) + st'.length + 19) (c + 3) ∧ Only (fun k => k ∈ F) w w' ∧ (∀ k ∈ F', k ∈ F ∨ w.heap.size ≤ k) ∧ (S.commit ls.length (outB l) st').2.room = S.room := by
  have hob := outB_len hok (by omega)
  have hgood := commit_good h.good (by rw [List.length_map]; exact hk) (outB l) st' (by omega) hc
  have hlen : (ls.map outB).length = ls.length := List.length_map _
  rw [hlen] at hgood
  obtain ⟨h0, hg', hr'⟩ := hgood
  have hm := h.good.inv.manIs
  rw [hlen] at hm
  refine (cput_is ls.length n sv lv st' l w h.at_ h.gl h.up (by rw [h.good.armed]; omega) hn hk h.good.inv.named hm hs hsf hl hlf hok (by omega)).mono ?_
  rintro e w' ⟨rfl, hd⟩
  obtain ⟨F', q1, q2, q3, q4, q5⟩ := hd.meet h.gl h.up
  refine ⟨?_, F', ⟨q1, q4, q5, ?_, fun l' hl' => ?_, fun l' hl' => ?_⟩, q2, q3, hr'⟩
  · show Ending.returned (.int .i64 (S.commit ls.length (outB l) st').1) = _
    rw [h0]
  · rw [List.map_append]
    exact hg'.mono (by omega) (Nat.le_refl _)
  · rcases List.mem_append.1 hl' with h1 | h1
    · exact h.ok l' h1
    · rw [List.mem_singleton.1 h1]; exact hok
  · rcases List.mem_append.1 hl' with h1 | h1
    · exact h.short l' h1
    · rw [List.mem_singleton.1 h1]; exact hll

theorem put_any {w : World} {b : Nat} {F : List Nat} {S : St} {ls : List (List ChgG)} {st : List UInt8} {u c : Nat} (h : Sys w b F S ls st u c) (n : Nat) (sv lv : Value) (st' : List UInt8) (l : List ChgG) (hn : n = ls.length + 1) (hk : ls.length < 125)
    (hs : Rd w sv st'.length (by8 st')) (hsf : ∀ k, sv.ownBlock = some k → k ∉ F) (hl : w.ownsRow 0 61 10 lv l.length (l.flatMap ChgG.cells)) (hlf : ∀ k, lv.ownBlock = some k → k ∉ F) (hok : ∀ x ∈ l, x.OK) (hll : l.length ≤ 8192)
    (hu : u + (123 * l.length + 19) + st'.length + 19 ≤ S.room) (hc : c + 3 ≤ 500) :
    Calls Tryz.prog 8 #[.pointer (some ⟨b, 0, none⟩), .int .u64 n, sv, lv] w
      fun e w' => e = .returned (.int .i64 0) ∧ ∃ S' F', Sys w' b F' S' (ls ++ [l]) st' (u + (123 * l.length + 19) + st'.length + 19) (c + 3) ∧ Only (fun k => k ∈ F) w w' ∧ (∀ k ∈ F', k ∈ F ∨ w.heap.size ≤ k) ∧ S'.room = S.room :=
  (put_good h n sv lv st' l hn hk hs hsf hl hlf hok hll hu hc).mono fun _ _ ⟨h1, F', h2⟩ => ⟨h1, _, F', h2⟩

theorem recover_outs {S : St} {ls : List (List ChgG)} {st : List UInt8} (h : Inv S (ls.map outB) st) : ∀ (i : Nat) (l : List ChgG), ls[i]? = some l → ∀ f, get? S.l (Nm.out (i + 1)).name = some f → f.p = pageB 108 (ledgerB l) := by
  intro i l hl f hf
  have := h.outs i (outB l) (by rw [List.getElem?_map, hl]; rfl)
  rw [this] at hf
  cases hf
  rfl

theorem rec_good {w : World} {b : Nat} {F : List Nat} {S : St} {ls : List (List ChgG)} {st : List UInt8} {u c : Nat} (h : Sys w b F S ls st u c) (h0 : 0 < ls.length) :
    Calls Tryz.prog 11 #[.pointer (some ⟨b, 0, none⟩)] w
      fun e w' => ∃ pv lv, e = .returned (.tuple #[.int .u64 ls.length, pv, lv, .int .i64 0]) ∧ (∃ F', Sys w' b F' S ls st u c ∧ (∀ k ∈ F', k ∈ F ∨ w.heap.size ≤ k)) ∧ Only (fun k => k ∈ F) w w' ∧
        w'.ownsRow 0 5 1 pv st.length (by8 st) ∧ (∀ j, pv.ownBlock = some j → w.heap.size ≤ j) ∧
        w'.ownsRow 0 61 10 lv ls.flatten.length ((ls.flatten.map ChgG.canon).flatMap ChgG.cells) ∧ (∀ j, lv.ownBlock = some j → w.heap.size ≤ j) := by
  have hlen : (ls.map outB).length = ls.length := List.length_map _
  have hm := h.good.inv.manIs
  rw [hlen] at hm
  have hfew := h.good.inv.few
  rw [hlen] at hfew
  have hcl := h.good.clean
  rw [hlen] at hcl
  have hsw := sweep_clean_id h.good.inv.sorted h.good.inv.named hcl
  have hwhole := h.good.inv.whole (by rw [hlen]; exact h0)
  rw [hlen] at hwhole
  have hcode : S.recCode ls.length = 0 := (recCode_on h.good.on (by rw [hsw])).2.2 hwhole
  have hst : S.recSt ls.length = S := by unfold St.recSt; rw [h.good.on, hsw]; rfl
  refine (recover_is ls.length ls w h.at_ h.gl h.up (by rw [h.good.armed]; omega) hfew h.good.inv.named hm rfl (recover_outs h.good.inv) h.ok h.short).mono ?_
  rintro e w' ⟨pv, lv, hp⟩
  have hd := hp.did
  rw [hst] at hd
  obtain ⟨F', q1, q2, q3, q4, q5⟩ := hd.meet h.gl h.up
  obtain ⟨f, r1, r2, r3, r4, r5⟩ := hp.all hcode h0
  have hs := h.good.inv.state (by rw [hlen]; exact h0)
  rw [hlen, r1] at hs
  cases hs
  refine ⟨pv, lv, ?_, ⟨F', ⟨q1, q4, q5, h.good, h.ok, h.short⟩, q3⟩, q2, r2, r3, r4, r5⟩
  rw [hp.ret, hcode, if_pos rfl]

theorem new_sys {w w1 : World} {b room : Nat} (h : StoreAt w1 b ⟨[], room, 0, false⟩ [b]) (hx : Ext w w1) (hb : w.heap.size ≤ b) (hg : Gl w) : Sys w1 b [b] ⟨[], room, 0, false⟩ [] [] 0 0 :=
  ⟨h, hg.ext hx, fun q hq => by rw [List.mem_singleton.1 hq]; have := hg.base; omega, good_new room, fun l hl => (List.not_mem_nil hl).elim, fun l hl => (List.not_mem_nil hl).elim⟩

end Go.Proofs.YteddohgdegggnaaGreatDoor
