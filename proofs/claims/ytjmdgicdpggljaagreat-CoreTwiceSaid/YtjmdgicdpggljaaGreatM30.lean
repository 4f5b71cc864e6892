/- Proved: what core's broke leaves. -/
import Derived.Test.YtjmdgicdpggljaaGreatM29
set_option linter.all false
namespace Go.Proofs.YtjmdgicdpggljaaGreat.GH
open Go.RowKit Go.Shelf Go.Proofs.YtjmdgicdpggljaaGreat.Histo Go.Proofs.YtjmdgicdpggljaaGreat.Event Go.Proofs.YtjmdgicdpggljaaGreat.Ring
set_option linter.unusedVariables false
open Go.Proofs.YtjmdgicdpggljaaGreat.MapI (W64)
attribute [local go_sem] Oper.semAt_some

theorem St.look {w : World} {g : G} {s : Core} {id : Int} (st : St w g s) (hi : W64 id) {bm : Nat} (hbm : g.ad .boxes = bm) :
    (Instr.lookup 52 (.map (some bm)) (.int .i64 id) false).run Tryz.prog w = .ok (((FM.get s.boxes id).map (fun _ => vptr (g.ad (.box id)))).getD (.pointer none)) w := by
  obtain ⟨ov, m⟩ := st.mem
  have := boxes_look m.boxes hi (W := w) rfl
  rw [hbm] at this
  exact this
set_option maxRecDepth 100000 in
set_option maxHeartbeats 4000000 in
theorem broke_any {w : World} {g : G} {s s' : Core} {p : Nat} {id r : Int} (st : St w g s) (hp : g.ad .core = p) (hi : W64 id) (hs : s.broke id = some (r, s')) : Calls Tryz.prog 30 #[vptr p, .int .i64 id] w (Post (.int .i64 r) w g s s') := by
  obtain ⟨bm, hbm⟩ : ∃ t, g.ad .boxes = t := ⟨_, rfl⟩
  have c7 := st.boxes hp hbm
  have hl := st.look hi hbm
  have hln : ∀ n, (Instr.lookup 52 (.map (some bm)) (.int .i64 id) false).run Tryz.prog (w.drewN n) = .ok (((FM.get s.boxes id).map (fun _ => vptr (g.ad (.box id)))).getD (.pointer none)) (w.drewN n) := fun n => (st.drewN n).look hi hbm
  unfold Core.broke at hs
  have HST := Lib.hid st
  cases hb : FM.get s.boxes id with
  | none =>
    rw [hb] at hl hln hs
    simp only [Option.map_none, Option.getD_none] at hl hln
    cases hs
    clear st hb hp hbm hi
    go_enter Tryz.func30, Tryz.ntmps30
    go_wp2
    go_ret
    exact ⟨rfl, g, by first | exact To.refl HST.out | exact (To.refl HST.out).drew | exact (To.refl HST.out).drewN _⟩
  | some b =>
    obtain ⟨bq, hbq⟩ : ∃ t, g.ad (.box id) = t := ⟨_, rfl⟩
    rw [hb] at hl hln hs
    simp only [Option.map_some, Option.getD_some, hbq] at hl hln
    simp only at hs
    cases hg : s.gone b with
    | none => rw [hg] at hs; cases hs
    | some t =>
      rw [hg] at hs
      simp only at hs
      obtain ⟨u, hu, h2⟩ := Option.map_eq_some_iff.1 hs
      cases h2
      have hid := (st.good.boxes _ _ hb).1
      have hbid : FM.get s.boxes b.id = some b := by rw [hid]; exact hb
      have HG : Hid (∀ n, Calls Tryz.prog 58 #[vptr p, vptr bq] (w.drewN n) fun e w1 => e = .returned (.tuple #[]) ∧ w1.cell? ⟨bq, 1, none⟩ = some (.int .i64 b.fn) ∧ ∀ m, Calls Tryz.prog 50 #[vptr p, .int .i64 b.fn] (w1.drewN m) (Post (.tuple #[]) w g s s')) := Lib.hid fun n => by
        refine (gone_any (st.drewN n) hp hbid (by rw [hid]; exact hbq) hg).mono ?_
        rintro e w1 ⟨rfl, g1, h1, hk⟩
        refine ⟨rfl, (hk.cell 1).trans (by unfold Box.dead; split <;> rfl), fun m => ?_⟩
        refine (keep_any (h1.st.drewN m) ((h1.head (t := .core) trivial).trans hp) hu).mono ?_
        rintro e w2 ⟨he, g2, h2⟩
        exact ⟨he, g2, (((To.refl st).drewN n).trans (h1.drewN m)).trans h2⟩
      have HG0 := Lib.hid (HG.out 0)
      clear hg hu hs hid hbid st hb hp hbm hbq hi
      go_enter Tryz.func30, Tryz.ntmps30
      go_wp2_with (first
        | (go_at_call 58; refine (HG.out _).mono ?_; rintro e w1 ⟨rfl, d1, hk⟩; have HK := Lib.hid hk; have HK0 := Lib.hid (hk 0); clear hk)
        | (go_at_call 58; refine HG0.out.mono ?_; rintro e w1 ⟨rfl, d1, hk⟩; have HK := Lib.hid hk; have HK0 := Lib.hid (hk 0); clear hk)
        | (go_at_call 50; refine (HK.out _).mono ?_; rintro e w2 ⟨rfl, hq⟩; have HQ := Lib.hid hq; clear hq)
        | (go_at_call 50; refine HK0.out.mono ?_; rintro e w2 ⟨rfl, hq⟩; have HQ := Lib.hid hq; clear hq))
      go_ret
      exact ⟨rfl, HQ.out⟩
end Go.Proofs.YtjmdgicdpggljaaGreat.GH

/- Proved: what core's keepAll leaves. -/
namespace Go.Proofs.YtjmdgicdpggljaaGreat.GH
open Go.RowKit Go.Maps Go.Sort Go.Shelf Go.Proofs.YtjmdgicdpggljaaGreat.Histo Go.Proofs.YtjmdgicdpggljaaGreat.Event Go.Proofs.YtjmdgicdpggljaaGreat.Ring
set_option linter.unusedVariables false
open Go.Proofs.YtjmdgicdpggljaaGreat.MapI (W64)
attribute [local go_sem] Oper.semAt_some

set_option maxRecDepth 100000 in
set_option maxHeartbeats 4000000 in
theorem keysf_any (w : World) (mb nn : Nat) (l : MapI.AL) (hm : MapI.At Tryz.prog 3 w mb nn l) (hmax : l.length ≤ 1099511627776) :
    Calls Tryz.prog 35 #[.func (.func 92) #[] #[.pointer (some ⟨w.heap.size, 0, none⟩)]] (w.alloc (.cells #[.map (some mb)] 48)) (NumsOut (l.map (·.1)) w) := by
  refine (callsIn_wide (n := 5)).1 ?_
  have hbl := hm.lt
  have hsz : Maps.size (.map (MapI.enc l)) = l.length := by unfold MapI.enc; simp [Maps.size]
  have hseq : SeqGives Fence.wide 2 Tryz.prog 92 #[.pointer (some ⟨w.heap.size, 0, none⟩)] encZ (fun ss => ss.Perm (intKeys (.map (MapI.enc l)))) (Maps.size (.map (MapI.enc l))) (w.alloc (.cells #[.map (some mb)] 48)) :=
    AnyZI.keys_gives (ρ := Tryz.keysF_ren) { Tryz.keysF with } Fence.wide _ trivial rfl (by omega) w.heap.size mb nn (.map (MapI.enc l)) _ (by simp) (by simp) (MapI.At.alloc hm _)
  have cS := AnyZI.sorted_in Tryz.sortedI Fence.wide 5 trivial trivial trivial trivial rfl (by omega) (Tryz.sortsI _) (enters_of Tryz.func78 (by kernel_rfl) rfl) 92 #[.pointer (some ⟨w.heap.size, 0, none⟩)] trivial (enters_of Tryz.func92 (by kernel_rfl) rfl) _ _ (by rw [hsz]; unfold maxLen; omega) (by rw [hsz]; omega) _ hseq
  change CallsIn _ _ Tryz.prog 35 _ _ _ at cS
  refine cS.mono ?_
  rintro e w' ⟨v, ss, rfl, hS, hrow, hnil, hb⟩
  have hl : ss.length = (ss.mergeSort fun x y => decide (x ≤ y)).length := (List.length_mergeSort ..).symm
  rw [hl, sort_keys (l := l) (MapI.At.sorted hm Tryz.underlying3) hS] at hrow
  exact ⟨v, rfl, (Nums.of_row hrow).base (by simp), ((Below.refl _ w).alloc (Nat.le_refl _) _).trans (hb.mono (by simp))⟩
theorem keysf_new (m : Option Nat) (W : World) : Calls Tryz.prog 51 #[.map m] W fun e w' => e = .returned (.func (.func 92) #[] #[.pointer (some ⟨W.heap.size, 0, none⟩)]) ∧ w' = W.alloc (.cells #[.map m] 48) :=
  (callsIn_wide (n := 5)).1 (AnyZI.keys_in Tryz.keysF Fence.wide 5 trivial rfl m W)
theorem keeps_drop {xs : List Int} {k : Nat} {s t : Core} (hk : k < xs.length) (h : Core.keeps (xs.drop k) s = some t) : ∃ u, s.keep (xs.getD k 0) = some u ∧ Core.keeps (xs.drop (k + 1)) u = some t := by
  rw [List.drop_eq_getElem_cons hk] at h
  unfold Core.keeps at h
  have e : xs.getD k 0 = xs[k] := by rw [List.getD_eq_getElem?_getD, List.getElem?_eq_getElem hk]; rfl
  rw [e]
  split at h
  · cases h
  · next u hu => exact ⟨u, hu, h⟩
theorem keeps_end {xs : List Int} {k : Nat} {s t : Core} (hk : xs.length ≤ k) (h : Core.keeps (xs.drop k) s = some t) : s = t := by
  rw [List.drop_eq_nil_of_le hk] at h
  unfold Core.keeps at h
  cases h
  rfl
set_option maxRecDepth 100000 in
set_option maxHeartbeats 4000000 in
theorem keepAll_fresh {w : World} {g : G} {s s' : Core} {p : Nat} (hfr : ∀ k, w.heap.size ≤ k → g.own k = .none) (st : St w g s) (hp : g.ad .core = p) (hs : s.keepAll = some s') : Calls Tryz.prog 25 #[vptr p] w (Post (.tuple #[]) w g s s') := by
  unfold Core.keepAll at hs
  obtain ⟨fm, hfm⟩ : ∃ t, g.ad .fns = t := ⟨_, rfl⟩
  have c4 := st.fns hp hfm
  obtain ⟨xs, hxs⟩ : ∃ xs, xs = FM.keys s.fns := ⟨_, rfl⟩
  have HSORT : Hid (Calls Tryz.prog 35 #[.func (.func 92) #[] #[.pointer (some ⟨w.heap.size, 0, none⟩)]] (w.alloc (.cells #[.map (some fm)] 48)) (NumsOut xs w)) := Lib.hid (by
    obtain ⟨ov, m⟩ := st.mem
    have hlen := FM.length_le (n := 64) m.fns.sorted (fun q hq => by obtain ⟨h1, h2, _⟩ := st.good.fns q.1 q.2 (FM.get_of_mem m.fns.sorted hq); exact ⟨h1, by omega⟩)
    have hm := m.fns.map
    rw [hfm] at hm
    have := keysf_any w fm _ _ hm (by rw [FM.length_vals]; omega)
    rw [show (FM.vals (fun f (_ : Fn) => ptr (g.ad (.fn f))) s.fns).map (·.1) = FM.keys s.fns from by unfold FM.vals FM.keys; rw [List.map_map]; rfl, ← hxs] at this
    exact this)
  obtain ⟨n, hn⟩ : ∃ n, n = xs.length := ⟨_, rfl⟩
  have hnb : n ≤ 64 := by
    obtain ⟨ov, m⟩ := st.mem
    have hlen := FM.length_le (n := 64) m.fns.sorted (fun q hq => by obtain ⟨h1, h2, _⟩ := st.good.fns q.1 q.2 (FM.get_of_mem m.fns.sorted hq); exact ⟨h1, by omega⟩)
    rw [hn, hxs]
    unfold FM.keys
    rw [List.length_map]
    exact hlen
  rw [← hxs] at hs
  have HST := Lib.hid st
  have HS := Lib.hid hs
  have HP := Lib.hid hp
  have HN := Lib.hid hn
  have HOWN := Lib.hid hfr
  clear st hs hp hfm hxs hn hfr
  go_enter Tryz.func25, Tryz.ntmps25
  go_wp2_with (first
    | (go_at_call 51; refine (keysf_new _ _).mono ?_; rintro e w' ⟨rfl, rfl⟩)
    | (go_at_call 35; refine HSORT.out.mono ?_; rintro e w1 ⟨v, rfl, hv, hb⟩; have HB := Lib.hid hb; rcases hv with ⟨rfl, hx0⟩ | ⟨q, cap, cs, rfl, h1, h2, h3, h4, h5⟩))
  · have hs0 := HS.out
    rw [hx0] at hs0
    unfold Core.keeps at hs0
    cases hs0
    clear hx0 hb
    go_wp2
    refine wp_loop_rounds 1 ?_
    rw [rounds_succ]
    go_wp2
    go_end0
    exact ⟨rfl, g, To.below HST.out HB.out⟩
  · have H5 := Lib.hid h5
    have H4 := Lib.hid h4
    have hoq : g.own q = .none := HOWN.out q h1
    have HOQ := Lib.hid hoq
    rw [← HN.out] at h2 ⊢
    clear hb h5 h4 hoq h1
    go_wp2
    go_loopw [11] (fun i wr => ∃ k : Nat, k ≤ n ∧ i = .int .i64 k ∧ ∃ g2 s2, To w1 g s wr g2 s2 ∧ Core.keeps (xs.drop k) s2 = some s') (fun i _ => n - (intOf i).toNat)
    case atStart => exact ⟨0, by omega, rfl, g, s, To.refl (HST.out.below HB.out), HS.out⟩
    case round =>
      obtain ⟨k, hk, rfl, g2, s2, h2', hkp⟩ := hrel
      have H2 := Lib.hid h2'
      by_cases hlt : k < n
      · have ck : wr.cell? ⟨q, k, none⟩ = some (.int .i64 (xs.getD k 0)) := ((h2'.blk H4.out HOQ.out).cell k).trans (H5.out k (by rw [← HN.out]; exact hlt))
        obtain ⟨u, hu, hku⟩ := keeps_drop (by rw [← HN.out]; exact hlt) hkp
        obtain ⟨f, hf⟩ : ∃ f, f = xs.getD k 0 := ⟨_, rfl⟩
        rw [← hf] at ck hu
        have HK : Hid (∀ m, Calls Tryz.prog 50 #[vptr p, .int .i64 f] (wr.drewN m) fun e w4 => e = .returned (.tuple #[]) ∧ ∃ g2 s2, To w1 g s w4 g2 s2 ∧ Core.keeps (xs.drop (k + 1)) s2 = some s') := Lib.hid fun m => by
          refine (keep_any (h2'.st.drewN m) ((h2'.head (t := .core) trivial).trans HP.out) hu).mono ?_
          rintro e w4 ⟨rfl, g4, h4⟩
          exact ⟨rfl, g4, u, (h2'.drewN m).trans h4, hku⟩
        have HK0 := Lib.hid (HK.out 0)
        have hz : (k : Int) < (n : Int) := by omega
        clear h2' hkp hu hku hf
        go_wp2_with (first
          | (go_at_call 50; refine (HK.out _).mono ?_; rintro e w4 ⟨rfl, hr⟩; have HR := Lib.hid hr; clear hr)
          | (go_at_call 50; refine HK0.out.mono ?_; rintro e w4 ⟨rfl, hr⟩; have HR := Lib.hid hr; clear hr))
        go_roundw
        case rel => exact ⟨k + 1, by omega, by go_num, HR.out⟩
        case measure => simp [intOf]; omega
      · have hz : ¬ ((k : Int) < (n : Int)) := by omega
        have he := keeps_end (by rw [← HN.out]; omega) hkp
        subst he
        clear h2' hkp hlt
        go_wp2
        go_end0
        exact ⟨rfl, g2, (To.below HST.out HB.out).trans H2.out⟩
theorem keepAll_any {w : World} {g : G} {s s' : Core} {p : Nat} (st : St w g s) (hp : g.ad .core = p) (hs : s.keepAll = some s') : Calls Tryz.prog 25 #[vptr p] w (Post (.tuple #[]) w g s s') :=
  (keepAll_fresh (fun _ hk => fresh_own hk) (To.fresh st).st hp hs).mono fun _ _ h => h.fresh st
end Go.Proofs.YtjmdgicdpggljaaGreat.GH

/- Proved: what core's fail leaves. -/
namespace Go.Proofs.YtjmdgicdpggljaaGreat.GH
open Go.RowKit Go.Maps Go.Sort Go.Shelf Go.Proofs.YtjmdgicdpggljaaGreat.Histo Go.Proofs.YtjmdgicdpggljaaGreat.Event Go.Proofs.YtjmdgicdpggljaaGreat.Ring
set_option linter.unusedVariables false
open Go.Proofs.YtjmdgicdpggljaaGreat.MapI (W64)
attribute [local go_sem] Oper.semAt_some

theorem fails_drop {xs : List Int} {k : Nat} {s t : Core} (hk : k < xs.length) (h : Core.fails (xs.drop k) s = some t) : ∃ b u, FM.get s.boxes (xs.getD k 0) = some b ∧ s.gone b = some u ∧ Core.fails (xs.drop (k + 1)) u = some t := by
  rw [List.drop_eq_getElem_cons hk] at h
  unfold Core.fails at h
  have e : xs.getD k 0 = xs[k] := by rw [List.getD_eq_getElem?_getD, List.getElem?_eq_getElem hk]; rfl
  rw [e]
  split at h
  · cases h
  · next b hb =>
    split at h
    · cases h
    · next u hu => exact ⟨b, u, hb, hu, h⟩
theorem fails_end {xs : List Int} {k : Nat} {s t : Core} (hk : xs.length ≤ k) (h : Core.fails (xs.drop k) s = some t) : s = t := by
  rw [List.drop_eq_nil_of_le hk] at h
  unfold Core.fails at h
  cases h
  rfl
set_option maxRecDepth 100000 in
set_option maxHeartbeats 4000000 in
theorem fail_fresh {w : World} {g : G} {s s' : Core} {p : Nat} {h r : Int} (hfr : ∀ k, w.heap.size ≤ k → g.own k = .none) (st : St w g s) (hp : g.ad .core = p) (hs : s.fail h = some (r, s')) : Calls Tryz.prog 27 #[vptr p, .int .i64 h] w (Post (.int .i64 r) w g s s') := by
  unfold Core.fail at hs
  obtain ⟨hm, hhm⟩ : ∃ t, g.ad .hosts = t := ⟨_, rfl⟩
  have hb1 := (Below.refl w.heap.size w).alloc (Nat.le_refl _) (.cells #[.int .i64 h] 3)
  have hbk := Blk.new w 3 #[.int .i64 h]
  have HW : Hid (∀ n, Calls Tryz.prog 53 #[vptr p, .func (.func 57) #[] #[vptr w.heap.size]] ((w.alloc (.cells #[.int .i64 h] 3)).drewN n) (NumsOut (s.on h) ((w.alloc (.cells #[.int .i64 h] 3)).drewN n))) := Lib.hid fun n => by
    have := where_any 57 #[vptr w.heap.size] (fun b => b.host == h) _ g s ((st.below hb1).drewN n) (fun W pb b hW hbx => p_fail pb w.heap.size b h W hbx ((old_cell hW (hbk.drewN n)).cell 0)) (enters_of Tryz.func57 (by kernel_rfl) rfl)
    rw [hp] at this
    exact this
  obtain ⟨th, hth⟩ : ∃ b, b = s.hosts.there h := ⟨_, rfl⟩
  have HTH : Hid (∀ n, Calls Tryz.prog 56 #[vptr hm, .int .i64 h] ((w.alloc (.cells #[.int .i64 h] 3)).drewN n) (RetV (.bool th) ((w.alloc (.cells #[.int .i64 h] 3)).drewN n))) := Lib.hid fun n => by
    rw [hth]; exact hThere_use ((st.below hb1).drewN n) hhm h
  have c5 := (st.below hb1).hosts hp hhm
  rw [← hth] at hs
  obtain ⟨xs, hxs⟩ : ∃ xs, xs = s.on h := ⟨_, rfl⟩
  rw [← hxs] at hs HW
  have hxl : xs.length ≤ 2199023255552 := by
    have h1 : (s.on h).length ≤ s.boxes.length := by unfold Core.on Core.where_; rw [List.length_map]; exact List.length_filter_le _ _
    have := st.good.outs; have := st.good.next
    rw [hxs]; omega
  obtain ⟨n, hn⟩ : ∃ n, n = xs.length := ⟨_, rfl⟩
  rw [← hn] at hxl
  have HST := Lib.hid st
  have HS := Lib.hid hs
  have HM := Lib.hid (And.intro hp hhm)
  have HN := Lib.hid hn
  have HOWN := Lib.hid (hfr _ (Nat.le_refl _))
  have HFR := Lib.hid hfr
  clear st hs hp hhm hth hxs hn hfr
  go_enter Tryz.func27, Tryz.ntmps27
  go_upto_region 1 with (fail)
  have HTH0 := Lib.hid (HTH.out 0)
  generalize w.alloc (.cells #[.int .i64 h] 3) = w1 at hb1 hbk HW HTH HTH0 c5 ⊢
  have HST1 := Lib.hid (HST.out.below hb1)
  have c0 : w1.cell? ⟨w.heap.size, 0, none⟩ = some (.int .i64 h) := hbk.cell 0
  have HB1 := Lib.hid hb1
  have HBK1 := Lib.hid hbk
  clear hb1 hbk
  obtain ⟨B, hB⟩ : ∃ B, B = w.heap.size := ⟨_, rfl⟩
  rw [← hB] at c0 HW HBK1 HOWN ⊢
  have HBE := Lib.hid hB
  clear hB
  go_quiet ((go_at_call 56; first | exact Calls.quiet_of HTH0.out | exact Calls.quiet_of (HTH.out _)))
  cases th with
  | false =>
    have hs := HS.out
    rw [if_pos rfl] at hs
    cases hs
    go_wp2
    go_ret
    exact ⟨rfl, g, (To.below HST.out HB1.out).drewN _⟩
  | true =>
    have hs := HS.out
    rw [if_neg (by simp)] at hs
    cases hf : Core.fails xs s with
    | none => rw [hf] at hs; cases hs
    | some t =>
      rw [hf] at hs
      simp only at hs
      obtain ⟨u, hu, h2⟩ := Option.map_eq_some_iff.1 hs
      cases h2
      have HU := Lib.hid hu
      have HF := Lib.hid hf
      clear hs hu hf c5 c0
      have HWQ := Lib.hid (HW.out nq)
      have HBQ := Lib.hid ((HB1.out).trans (below_drewN (Below.refl _ w1) nq))
      go_wp2_with (first
        | (go_at_call 53; refine HWQ.out.mono ?_; rintro e w2 ⟨v, rfl, hv, hb⟩; obtain ⟨va, cap, hv2⟩ := hv.slice; subst hv2; have HV := Lib.hid hv; have HB2 := Lib.hid hb; clear hv hb))
      go_loopw [18] (fun i wr => ∃ k : Nat, k ≤ n ∧ i = .int .i64 k ∧ ∃ g2 s2, To w2 g s wr g2 s2 ∧ Core.fails (xs.drop k) s2 = some t) (fun i _ => n - (intOf i).toNat)
      case atStart => exact ⟨0, by omega, rfl, g, s, To.refl (HST.out.below (below_step HBQ.out HB2.out)), HF.out⟩
      case round =>
        obtain ⟨k, hk, rfl, g2, s2, h2', hfp⟩ := hrel
        have H2 := Lib.hid h2'
        by_cases hlt : k < n
        · obtain ⟨b, u2, hb, hu2, hfu⟩ := fails_drop (by rw [← HN.out]; exact hlt) hfp
          have hqk : ∃ q, va = some ⟨q, 0, none⟩ ∧ wr.cell? ⟨q, k, none⟩ = some (.int .i64 (xs.getD k 0)) ∧ n ≤ cap := by
            rcases HV.out with ⟨h1, h2⟩ | ⟨q, cap', cs, h1, h0, h3, _, h4, h5⟩
            · rw [HN.out, h2] at hlt; exact absurd hlt (Nat.not_lt_zero _)
            · cases h1
              have hoq : g.own q = .none := HFR.out _ (Nat.le_trans HB1.out.size h0)
              exact ⟨q, rfl, ((h2'.blk h4 hoq).cell k).trans (h5 k (by rw [← HN.out]; exact hlt)), by rw [HN.out]; exact h3⟩
          obtain ⟨q, rfl, ck, hcap⟩ := hqk
          have hp2 : g2.ad .core = p := (h2'.head (t := .core) trivial).trans HM.out.1
          obtain ⟨bm, hbm⟩ : ∃ x, g2.ad .boxes = x := ⟨_, rfl⟩
          obtain ⟨f, hf⟩ : ∃ f, f = xs.getD k 0 := ⟨_, rfl⟩
          rw [← hf] at ck hb
          obtain ⟨bq, hbq⟩ : ∃ x, g2.ad (.box f) = x := ⟨_, rfl⟩
          have c7 := h2'.st.boxes hp2 hbm
          have hlk := h2'.st.look (w64_box h2'.st.good hb).1 hbm
          rw [hb] at hlk
          simp only [Option.map_some, Option.getD_some, hbq] at hlk
          have hid := (h2'.st.good.boxes _ _ hb).1
          have HG : Hid (Calls Tryz.prog 58 #[vptr p, vptr bq] wr fun e w4 => e = .returned (.tuple #[]) ∧ ∃ g2 s2, To w2 g s w4 g2 s2 ∧ Core.fails (xs.drop (k + 1)) s2 = some t) := Lib.hid (by
            refine (gone_any h2'.st hp2 (b := b) (by rw [hid]; exact hb) (by rw [hid]; exact hbq) hu2).mono ?_
            rintro e w4 ⟨rfl, g4, h4, _⟩
            exact ⟨rfl, g4, u2, h2'.trans h4, hfu⟩)
          have hz : (k : Int) < (n : Int) := by omega
          clear h2' hfp hb hu2 hfu hf hid hp2 hbm hbq
          rw [← HN.out]
          go_wp2_with (first
            | (go_at_call 58; refine HG.out.mono ?_; rintro e w4 ⟨rfl, hr⟩; have HR := Lib.hid hr; clear hr))
          go_roundw
          case rel => exact ⟨k + 1, by omega, by go_num, HR.out⟩
          case measure => simp [intOf]; omega
        · have hz : ¬ ((k : Int) < (n : Int)) := by omega
          have he := fails_end (by rw [← HN.out]; omega) hfp
          subst he
          have hp2 : g2.ad .core = p := (h2'.head (t := .core) trivial).trans HM.out.1
          have hh2 : g2.ad .hosts = hm := (h2'.head (t := .hosts) trivial).trans HM.out.2
          have c5 := h2'.st.hosts hp2 hh2
          have c0 : wr.cell? ⟨B, 0, none⟩ = some (.int .i64 h) := (h2'.blk ((HBK1.out.drewN nq).below HB2.out (HBK1.out.drewN nq).lt) HOWN.out).cell 0
          have HFL : Hid (Calls Tryz.prog 59 #[vptr hm, .int .i64 h] wr.drew fun e w4 => (∃ b, e = .returned b) ∧ Calls Tryz.prog 25 #[vptr p] w4 fun e w5 => e = .returned (.tuple #[]) ∧ ∃ g', To w g s w5 g' s') := Lib.hid (by
            refine (hfail_use h2'.st.drew hh2 h).mono ?_
            rintro e w4 ⟨hbb, h4⟩
            refine ⟨hbb, ?_⟩
            refine (keepAll_any h4.use hp2 HU.out).mono ?_
            rintro e w5 ⟨rfl, g5, h5⟩
            exact ⟨rfl, g5, (To.below HST.out (below_step HBQ.out HB2.out)).trans ((h2'.drew.trans h4.all).trans h5)⟩)
          clear h2' hfp hlt hp2 hh2
          rw [← HN.out]
          go_wp2
          go_still_tail 5, (by kernel_rfl)
          change wpList _ _ _ _ _ wr.drew
          go_wp2_with (first
            | (go_at_call 59; refine HFL.out.mono ?_; rintro e w4 ⟨⟨v4, rfl⟩, hk4⟩; have HK4 := Lib.hid hk4; clear hk4)
            | (go_at_call 25; refine HK4.out.mono ?_; rintro e w5 ⟨rfl, hr⟩; have HR := Lib.hid hr; clear hr))
          go_ret
          exact ⟨rfl, HR.out⟩
theorem fail_any {w : World} {g : G} {s s' : Core} {p : Nat} {h r : Int} (st : St w g s) (hp : g.ad .core = p) (hs : s.fail h = some (r, s')) : Calls Tryz.prog 27 #[vptr p, .int .i64 h] w (Post (.int .i64 r) w g s s') :=
  (fail_fresh (fun _ hk => fresh_own hk) (To.fresh st).st hp hs).mono fun _ _ h => h.fresh st
end Go.Proofs.YtjmdgicdpggljaaGreat.GH

/- Proved: what core's drain leaves. -/
namespace Go.Proofs.YtjmdgicdpggljaaGreat.GH
open Go.RowKit Go.Maps Go.Sort Go.Shelf Go.Proofs.YtjmdgicdpggljaaGreat.Histo Go.Proofs.YtjmdgicdpggljaaGreat.Event Go.Proofs.YtjmdgicdpggljaaGreat.Ring
set_option linter.unusedVariables false
open Go.Proofs.YtjmdgicdpggljaaGreat.MapI (W64)
attribute [local go_sem] Oper.semAt_some

theorem drains_drop {xs : List Int} {k : Nat} {s t : Core} (hk : k < xs.length) (h : Core.drains (xs.drop k) s = some t) : ∃ b, FM.get s.boxes (xs.getD k 0) = some b ∧ ((b.runs = true ∧ Core.drains (xs.drop (k + 1)) (s.setBox { b with pinned := false }) = some t) ∨ (b.runs = false ∧ ∃ u, s.kill b = some u ∧ Core.drains (xs.drop (k + 1)) u = some t)) := by
  rw [List.drop_eq_getElem_cons hk] at h
  unfold Core.drains at h
  have e : xs.getD k 0 = xs[k] := by rw [List.getD_eq_getElem?_getD, List.getElem?_eq_getElem hk]; rfl
  rw [e]
  split at h
  · cases h
  · next b hb =>
    refine ⟨b, hb, ?_⟩
    split at h
    · next hr => exact .inl ⟨hr, h⟩
    · next hr =>
      refine .inr ⟨by simpa using hr, ?_⟩
      split at h
      · cases h
      · next u hu => exact ⟨u, hu, h⟩
theorem drains_end {xs : List Int} {k : Nat} {s t : Core} (hk : xs.length ≤ k) (h : Core.drains (xs.drop k) s = some t) : s = t := by
  rw [List.drop_eq_nil_of_le hk] at h
  unfold Core.drains at h
  cases h
  rfl
theorem drain_no {s : Hosts} {h : Int} (e : (s.drain h).1 ≠ 0) : (s.drain h).2 = s := by
  unfold Hosts.drain at e ⊢
  split
  · rfl
  · next h1 =>
    rw [if_neg h1] at e
    split
    · rfl
    · next h2 => rw [if_neg h2] at e; exact absurd rfl e
set_option maxRecDepth 100000 in
set_option maxHeartbeats 4000000 in
theorem drain_fresh {w : World} {g : G} {s s' : Core} {p : Nat} {h r : Int} (hfr : ∀ k, w.heap.size ≤ k → g.own k = .none) (st : St w g s) (hp : g.ad .core = p) (hs : s.drain h = some (r, s')) : Calls Tryz.prog 26 #[vptr p, .int .i64 h] w (Post (.int .i64 r) w g s s') := by
  unfold Core.drain at hs
  obtain ⟨hm, hhm⟩ : ∃ t, g.ad .hosts = t := ⟨_, rfl⟩
  have hb1 := (Below.refl w.heap.size w).alloc (Nat.le_refl _) (.cells #[.int .i64 h] 3)
  have hbk := Blk.new w 3 #[.int .i64 h]
  obtain ⟨dr, hdr⟩ : ∃ b, b = s.hosts.drain h := ⟨_, rfl⟩
  rw [← hdr] at hs
  have HDR : Hid (∀ n, Calls Tryz.prog 52 #[vptr hm, .int .i64 h] ((w.alloc (.cells #[.int .i64 h] 3)).drewN n) fun e w' => e = .returned (.int .i64 dr.1) ∧ To w g s w' g { s with hosts := dr.2 } ∧ Blk w' w.heap.size 3 #[.int .i64 h] ∧ (∀ m, Calls Tryz.prog 53 #[vptr p, .func (.func 54) #[] #[vptr w.heap.size]] (w'.drewN m) (NumsOut (s.on h) (w'.drewN m)))) := Lib.hid fun n => by
    have hd := hdrain_use ((st.below hb1).drewN n) hhm h
    rw [← hdr] at hd
    refine hd.mono ?_
    rintro e w' ⟨he, h2⟩
    have hk : Blk w' w.heap.size 3 #[.int .i64 h] := h2.all.blk (hbk.drewN n) (hfr _ (Nat.le_refl _))
    refine ⟨he, ((To.below st hb1).drewN n).trans h2.all, hk, fun m => ?_⟩
    have := where_any 54 #[vptr w.heap.size] (fun b => b.host == h) _ g _ (h2.use.drewN m) (fun W pb b hW hbx => p_drain pb w.heap.size b h W hbx ((old_cell hW (hk.drewN m)).cell 0)) (enters_of Tryz.func54 (by kernel_rfl) rfl)
    rw [hp] at this
    exact this
  have HNO : Hid (dr.1 ≠ 0 → dr.2 = s.hosts) := Lib.hid (by rw [hdr]; exact drain_no)
  have c5 := (st.below hb1).hosts hp hhm
  obtain ⟨xs, hxs⟩ : ∃ xs, xs = s.on h := ⟨_, rfl⟩
  rw [← hxs] at hs HDR
  have hxl : xs.length ≤ 2199023255552 := by
    have h1 : (s.on h).length ≤ s.boxes.length := by unfold Core.on Core.where_; rw [List.length_map]; exact List.length_filter_le _ _
    have := st.good.outs; have := st.good.next
    rw [hxs]; omega
  obtain ⟨n, hn⟩ : ∃ n, n = xs.length := ⟨_, rfl⟩
  rw [← hn] at hxl
  have HST := Lib.hid st
  have HS := Lib.hid hs
  have HM := Lib.hid (And.intro hp hhm)
  have HN := Lib.hid hn
  have HFR := Lib.hid hfr
  clear st hs hp hhm hdr hxs hn hfr
  obtain ⟨d1, d2⟩ := dr
  simp only at HDR HNO HS
  go_enter Tryz.func26, Tryz.ntmps26
  go_upto_region 1 with (fail)
  generalize w.alloc (.cells #[.int .i64 h] 3) = w1 at hb1 hbk HDR c5 ⊢
  have c0 : w1.cell? ⟨w.heap.size, 0, none⟩ = some (.int .i64 h) := hbk.cell 0
  have HB1 := Lib.hid hb1
  clear hb1 hbk
  obtain ⟨B, hB⟩ : ∃ B, B = w.heap.size := ⟨_, rfl⟩
  rw [← hB] at c0 HDR ⊢
  clear hB
  go_still_tail 5, (by kernel_rfl)
  change wpList _ _ _ _ _ w1.drew
  have HD1 := Lib.hid (HDR.out 1)
  clear c5 c0
  by_cases hd : d1 = 0
  · subst hd
    have hs := HS.out
    rw [if_neg (by simp)] at hs
    cases hf : Core.drains xs { s with hosts := d2 } with
    | none => rw [hf] at hs; cases hs
    | some t =>
      rw [hf] at hs
      simp only at hs
      obtain ⟨u, hu, h2⟩ := Option.map_eq_some_iff.1 hs
      cases h2
      have HU := Lib.hid hu
      have HF := Lib.hid hf
      clear hs hu hf
      go_wp2_with (first
        | (go_at_call 52; refine HD1.out.mono ?_; rintro e wa ⟨rfl, hta, hba, hwa⟩; have HTA := Lib.hid hta; have HWA := Lib.hid (hwa 0); have hsa := hta.step.size; have HSA := Lib.hid hsa; clear hta hba hwa hsa)
        | (go_at_call 53; refine HWA.out.mono ?_; rintro e w2 ⟨v, rfl, hv, hb⟩; obtain ⟨va, cap, hv2⟩ := hv.slice; subst hv2; have HV := Lib.hid hv; have HB2 := Lib.hid hb; clear hv hb))
      have HT2 : Hid (To w g s w2 g { s with hosts := d2 }) := Lib.hid (HTA.out.then HB2.out)
      go_loopw [22] (fun i wr => ∃ k : Nat, k ≤ n ∧ i = .int .i64 k ∧ ∃ g2 s2, To w2 g { s with hosts := d2 } wr g2 s2 ∧ Core.drains (xs.drop k) s2 = some t) (fun i _ => n - (intOf i).toNat)
      case atStart => exact ⟨0, by omega, rfl, g, _, To.refl HT2.out.st, HF.out⟩
      case round =>
        obtain ⟨k, hk, rfl, g2, s2, h2', hfp⟩ := hrel
        have H2 := Lib.hid h2'
        by_cases hlt : k < n
        · obtain ⟨b, hb, hcs⟩ := drains_drop (by rw [← HN.out]; exact hlt) hfp
          have hqk : ∃ q, va = some ⟨q, 0, none⟩ ∧ wr.cell? ⟨q, k, none⟩ = some (.int .i64 (xs.getD k 0)) ∧ n ≤ cap := by
            rcases HV.out with ⟨h1, h2⟩ | ⟨q, cap', cs, h1, h0, h3, _, h4, h5⟩
            · rw [HN.out, h2] at hlt; exact absurd hlt (Nat.not_lt_zero _)
            · cases h1
              have hoq : g.own q = .none := HFR.out _ (Nat.le_trans HSA.out h0)
              exact ⟨q, rfl, ((h2'.blk h4 hoq).cell k).trans (h5 k (by rw [← HN.out]; exact hlt)), by rw [HN.out]; exact h3⟩
          obtain ⟨q, rfl, ck, hcap⟩ := hqk
          have hp2 : g2.ad .core = p := (h2'.head (t := .core) trivial).trans HM.out.1
          obtain ⟨bm, hbm⟩ : ∃ x, g2.ad .boxes = x := ⟨_, rfl⟩
          obtain ⟨f, hf⟩ : ∃ f, f = xs.getD k 0 := ⟨_, rfl⟩
          rw [← hf] at ck hb
          obtain ⟨bq, hbq⟩ : ∃ x, g2.ad (.box f) = x := ⟨_, rfl⟩
          have c7 := h2'.st.boxes hp2 hbm
          have hlk := h2'.st.look (w64_box h2'.st.good hb).1 hbm
          rw [hb] at hlk
          simp only [Option.map_some, Option.getD_some, hbq] at hlk
          have hid := (h2'.st.good.boxes _ _ hb).1
          have hb' : FM.get s2.boxes b.id = some b := by rw [hid]; exact hb
          have hbq' : g2.ad (.box b.id) = bq := by rw [hid]; exact hbq
          have HRN := Lib.hid (runs_use h2'.st hb' hbq')
          have hz : (k : Int) < (n : Int) := by omega
          rcases hcs with ⟨hr, hfu⟩ | ⟨hr, u2, hu2, hfu⟩
          · rw [hr] at HRN
            have hbk := h2'.st.box hb' hbq'
            have hgb := (h2'.st.good.boxes _ _ hb).2.2.2
            have hset := fun m : Nat => To.boxField (q := bq) (b := b) (h2'.st.drewN m) hb' hbq' 6 (.bool false) (b' := { b with pinned := false }) rfl rfl ⟨hgb.fn, hgb.host, hgb.mem, hgb.st, hgb.since⟩
            have b6 : wr.cell? ⟨bq, 6, none⟩ = some (.bool b.pinned) := hbk.cell 6
            have f6 := hbk.frozen 6
            have HR : Hid (∀ m, ∃ g2 s2, To w2 g { s with hosts := d2 } ((wr.drewN m).setCell ⟨bq, 6, none⟩ (.bool false)) g2 s2 ∧ Core.drains (xs.drop (k + 1)) s2 = some t) := Lib.hid fun m => ⟨g2, _, (h2'.drewN m).trans (hset m).all, hfu⟩
            clear h2' hfp hb hfu hf hid hp2 hbm hbq hb' hbq' hr hbk hgb hset
            rw [← HN.out]
            go_wp2_with (first
              | (go_at_call 55; refine HRN.out.mono ?_; rintro e w4 ⟨rfl, n8, rfl⟩))
            go_roundw
            case rel => exact ⟨k + 1, by omega, by go_num, HR.out _⟩
            case measure => simp [intOf]; omega
          · rw [hr] at HRN
            have HG : Hid (∀ m, Calls Tryz.prog 42 #[vptr p, vptr bq] (wr.drewN m) fun e w4 => e = .returned (.tuple #[]) ∧ ∃ g2 s2, To w2 g { s with hosts := d2 } w4 g2 s2 ∧ Core.drains (xs.drop (k + 1)) s2 = some t) := Lib.hid fun m => by
              refine (kill_use (h2'.st.drewN m) hp2 hb' hbq' hu2).mono ?_
              rintro e w4 ⟨rfl, g4, h4⟩
              exact ⟨rfl, g4, u2, (h2'.drewN m).trans h4, hfu⟩
            clear h2' hfp hb hu2 hfu hf hid hp2 hbm hbq hb' hbq' hr
            rw [← HN.out]
            go_wp2_with (first
              | (go_at_call 55; refine HRN.out.mono ?_; rintro e w4 ⟨rfl, n8, rfl⟩)
              | (go_at_call 42; refine (HG.out _).mono ?_; rintro e w4 ⟨rfl, hr⟩; have HR := Lib.hid hr; clear hr))
            go_roundw
            case rel => exact ⟨k + 1, by omega, by go_num, HR.out⟩
            case measure => simp [intOf]; omega
        · have hz : ¬ ((k : Int) < (n : Int)) := by omega
          have he := drains_end (by rw [← HN.out]; omega) hfp
          subst he
          have hp2 : g2.ad .core = p := (h2'.head (t := .core) trivial).trans HM.out.1
          have HKA : Hid (Calls Tryz.prog 25 #[vptr p] wr fun e w5 => e = .returned (.tuple #[]) ∧ ∃ g', To w g s w5 g' s') := Lib.hid (by
            refine (keepAll_any h2'.st hp2 HU.out).mono ?_
            rintro e w5 ⟨rfl, g5, h5⟩
            exact ⟨rfl, g5, HT2.out.trans (h2'.trans h5)⟩)
          clear h2' hfp hlt hp2
          rw [← HN.out]
          go_wp2_with (first
            | (go_at_call 25; refine HKA.out.mono ?_; rintro e w5 ⟨rfl, hr⟩; have HR := Lib.hid hr; clear hr))
          go_ret
          exact ⟨rfl, HR.out⟩
  · have hs := HS.out
    rw [if_pos hd] at hs
    have d9 : decide (d1 = 0) = false := by simpa using hd
    cases hs
    go_wp2_with (first
      | (go_at_call 52; refine HD1.out.mono ?_; rintro e wa ⟨rfl, hta, _, _⟩; have HTA := Lib.hid hta; clear hta))
    go_ret
    refine ⟨rfl, g, ?_⟩
    have := HTA.out
    rw [HNO.out hd] at this
    exact this
theorem drain_any {w : World} {g : G} {s s' : Core} {p : Nat} {h r : Int} (st : St w g s) (hp : g.ad .core = p) (hs : s.drain h = some (r, s')) : Calls Tryz.prog 26 #[vptr p, .int .i64 h] w (Post (.int .i64 r) w g s s') :=
  (drain_fresh (fun _ hk => fresh_own hk) (To.fresh st).st hp hs).mono fun _ _ h => h.fresh st
end Go.Proofs.YtjmdgicdpggljaaGreat.GH

/- Proved: what box's Booted and Done leave of the core. -/
namespace Go.Proofs.YtjmdgicdpggljaaGreat.GH
open Go.RowKit Go.Proofs.YtjmdgicdpggljaaGreat.Histo Go.Proofs.YtjmdgicdpggljaaGreat.Event Go.Proofs.YtjmdgicdpggljaaGreat.Ring
set_option linter.unusedVariables false
open Go.Proofs.YtjmdgicdpggljaaGreat.MapI (W64)
section
variable {w : World} {g : G} {s : Core} {q : Nat}

theorem setBox_same {b : Box} (st : St w g s) (hb : FM.get s.boxes b.id = some b) : s.setBox b = s := by
  unfold Core.setBox
  rw [FM.put_same st.sorted.2.2.2.1 hb]
theorem bbooted_use (st : St w g s) {b : Box} (hb : FM.get s.boxes b.id = some b) (hq : g.ad (.box b.id) = q) :
    Calls Tryz.prog 67 #[vptr q, .int .i64 s.now] w fun e w' => e = .returned (.bool (b.st == 0)) ∧ ToS (fun t => t = .box b.id) w g s w' (s.setBox (if b.st = 0 then b.booted s.now else b)) := by
  refine (booted_any q b s.now w (st.box hb hq)).mono ?_
  rintro e w' ⟨rfl, h1, h2⟩
  have hid : (if b.st = 0 then b.booted s.now else b).id = b.id := by split; exact booted_id b s.now; rfl
  have hg := (st.good.boxes _ _ hb).2.2.2
  have := To.box (b := if b.st = 0 then b.booted s.now else b) st (by rw [hid]; exact hb) (by rw [hid]; exact hq) (by split; exact hg.booted st.good.now.1 st.good.now.2; exact hg) h1 h2
  rw [hid] at this
  exact ⟨rfl, this⟩
theorem bdone_use (st : St w g s) {b : Box} (hb : FM.get s.boxes b.id = some b) (hq : g.ad (.box b.id) = q) :
    Calls Tryz.prog 71 #[vptr q, .int .i64 s.now] w fun e w' => e = .returned (.bool (b.st == 2)) ∧ ToS (fun t => t = .box b.id) w g s w' (s.setBox (if b.st = 2 then { b with st := 1, since := s.now } else b)) := by
  refine (bdone_any q b s.now w (st.box hb hq)).mono ?_
  rintro e w' ⟨rfl, h1, h2⟩
  have hid : (if b.st = 2 then { b with st := 1, since := s.now } else b).id = b.id := by split <;> rfl
  have hg := (st.good.boxes _ _ hb).2.2.2
  have hn := st.good.now
  have := To.box (b := if b.st = 2 then { b with st := 1, since := s.now } else b) st (by rw [hid]; exact hb) (by rw [hid]; exact hq) (by split; exact ⟨hg.fn, hg.host, hg.mem, by simp, hn⟩; exact hg) h1 h2
  rw [hid] at this
  exact ⟨rfl, this⟩
end
end Go.Proofs.YtjmdgicdpggljaaGreat.GH
