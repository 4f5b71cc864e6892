/- Proved: what core's account leaves. -/
import Derived.Test.YtjmdgicdpggljaaGreatM31
set_option linter.all false
namespace Go.Proofs.YtjmdgicdpggljaaGreat.GH
open Go.RowKit Go.Maps Go.Sort Go.Shelf Go.Proofs.YtjmdgicdpggljaaGreat.Histo Go.Proofs.YtjmdgicdpggljaaGreat.Event Go.Proofs.YtjmdgicdpggljaaGreat.Ring
set_option linter.unusedVariables false
open Go.Proofs.YtjmdgicdpggljaaGreat.MapI (W64)
attribute [local go_sem] Oper.semAt_some

theorem setAccount_no {q : Quota} {x l : Int} (e : (q.setAccount x l).1 ≠ 0) : (q.setAccount x l).2 = q := by
  unfold Quota.setAccount at e ⊢
  split
  · rfl
  · next h1 =>
    rw [if_neg h1] at e
    split
    · rfl
    · next h2 => rw [if_neg h2] at e; exact absurd rfl e
theorem setAccount_ok0 {q : Quota} {x l : Int} (e : (q.setAccount x l).1 = 0) : 0 ≤ x ∧ x < 16 := by
  unfold Quota.setAccount at e
  split at e
  · cases e
  · next h => omega
set_option maxRecDepth 100000 in
set_option maxHeartbeats 8000000 in
theorem account_fresh {w : World} {g : G} {s : Core} {p : Nat} {e : Ev} (hfr : ∀ k, w.heap.size ≤ k → g.own k = .none) (st : St w g s) (hp : g.ad .core = p) : Calls Tryz.prog 22 #[vptr p, e.val] w (Post (.int .i64 (s.account e).1) w g s (s.account e).2) := by
  obtain ⟨k, n, lim, sz, rf, ac, me, co, re, ke⟩ := e
  obtain ⟨R, hR⟩ : ∃ R, R = s.account ⟨k, n, lim, sz, rf, ac, me, co, re, ke⟩ := ⟨_, rfl⟩
  rw [← hR]
  unfold Core.account at hR
  simp only at hR
  obtain ⟨r, s'⟩ := R
  unfold Ev.val
  simp only
  obtain ⟨qm, hqm⟩ : ∃ t, g.ad .quota = t := ⟨_, rfl⟩
  obtain ⟨tm, htm⟩ : ∃ t, g.ad .toks = t := ⟨_, rfl⟩
  have hb1 := (Below.refl w.heap.size w).alloc (Nat.le_refl _) (.cells #[.int .i64 k, .int .i64 n, .int .i64 lim, .int .i64 sz, .int .i64 rf, .int .i64 ac, .int .i64 me, .int .i64 co, .int .i64 re, .int .i64 ke] 28)
  have hbk := Blk.new w 28 #[.int .i64 k, .int .i64 n, .int .i64 lim, .int .i64 sz, .int .i64 rf, .int .i64 ac, .int .i64 me, .int .i64 co, .int .i64 re, .int .i64 ke]
  obtain ⟨dr, hdr⟩ : ∃ b, b = s.quota.setAccount n lim := ⟨_, rfl⟩
  rw [← hdr] at hR
  have HOK : Hid (dr.1 = 0 → 0 ≤ n ∧ n < 16) := Lib.hid (by rw [hdr]; exact setAccount_ok0)
  have HNO : Hid (dr.1 ≠ 0 → dr.2 = s.quota) := Lib.hid (by rw [hdr]; exact setAccount_no)
  have HSA : Hid (∀ W, Below w.heap.size w W → Blk W w.heap.size 28 #[.int .i64 k, .int .i64 n, .int .i64 lim, .int .i64 sz, .int .i64 rf, .int .i64 ac, .int .i64 me, .int .i64 co, .int .i64 re, .int .i64 ke] → Calls Tryz.prog 44 #[vptr qm, .int .i64 n, .int .i64 lim] W fun e wa => e = .returned (.int .i64 dr.1) ∧ To w g s wa g { s with quota := dr.2 } ∧ Blk wa w.heap.size 28 #[.int .i64 k, .int .i64 n, .int .i64 lim, .int .i64 sz, .int .i64 rf, .int .i64 ac, .int .i64 me, .int .i64 co, .int .i64 re, .int .i64 ke]) := Lib.hid fun W hW hB => by
    have hd := setAccount_use (st.below hW) hqm n lim
    rw [← hdr] at hd
    refine hd.mono ?_
    rintro e w' ⟨he, h2⟩
    exact ⟨he, (To.below st hW).trans h2.all, h2.all.blk hB (hfr _ (Nat.le_refl _))⟩
  have HTK : Hid (∀ wa, To w g s wa g { s with quota := dr.2 } → wa.cell? ⟨p, 3, none⟩ = some (.map (some tm)) ∧ (W64 n → ∀ m, (Instr.lookup 47 (.map (some tm)) (.int .i64 n) false).run Tryz.prog (wa.drewN m) = .ok (((FM.get s.toks n).map fun _ => vptr (g.ad (.tok n))).getD (.pointer none)) (wa.drewN m)) ∧
      (∀ k0, FM.get s.toks n = some k0 → ∀ m, Calls Tryz.prog 45 #[vptr (g.ad (.tok n)), .int .i64 sz, .int .i64 rf] (wa.drewN m) fun e wb => e = .returned (.tuple #[]) ∧ To w g s wb g { s with quota := dr.2, toks := FM.put s.toks n (k0.set_ sz rf) }) ∧
      (FM.get s.toks n = none → 0 ≤ n ∧ n < 16 → ∀ W1, Below wa.heap.size wa W1 → W1.heap.size = wa.heap.size + 1 → Blk W1 wa.heap.size 161 (Bkt.new sz rf).cells → ∃ w2, (Instr.mapUpdate 47 (.map (some tm)) (.int .i64 n) (vptr wa.heap.size)).run Tryz.prog W1 = .ok () w2 ∧ ∃ g', To w g s w2 g' { s with quota := dr.2, toks := FM.put s.toks n (Bkt.new sz rf) })) := Lib.hid fun wa h1 => by
    refine ⟨h1.st.toks hp htm, fun hn m => (h1.st.drewN m).tokLook hn htm, fun k0 hk0 m => ?_, fun hno hn W1 b1 b2 b3 => ?_⟩
    · refine (kset_use (s := { s with quota := dr.2 }) (h1.st.drewN m) hk0 rfl sz rf).mono ?_
      rintro e wb ⟨he, h2⟩
      exact ⟨he, (h1.drewN m).trans h2.all⟩
    · obtain ⟨w2, r2, h2⟩ := To.newtok (s := { s with quota := dr.2 }) h1.st hn (Bkt.Ok.new' sz rf) hno htm b1 b2 b3
      exact ⟨w2, r2, _, h1.trans h2⟩
  have c2 := (st.below hb1).quota hp hqm
  have HPL := Lib.hid (st.lt hp)
  have HST := Lib.hid st
  have HS := Lib.hid hR
  clear st hR hp hqm htm hdr hfr
  obtain ⟨d1, d2⟩ := dr
  simp only at HSA HNO HS HOK HTK
  go_enter Tryz.func22, Tryz.ntmps22
  go_upto_region 1 with (fail)
  generalize w.alloc (.cells #[.int .i64 k, .int .i64 n, .int .i64 lim, .int .i64 sz, .int .i64 rf, .int .i64 ac, .int .i64 me, .int .i64 co, .int .i64 re, .int .i64 ke] 28) = w1 at hb1 hbk c2 ⊢
  have HB1 := Lib.hid hb1
  have HBK := Lib.hid hbk
  have e1 := hbk.cell 1
  have e2 := hbk.cell 2
  have e3 := hbk.cell 3
  have e4 := hbk.cell 4
  simp at e1 e2 e3 e4
  obtain ⟨B, hB⟩ : ∃ B, B = w.heap.size := ⟨_, rfl⟩
  rw [← hB] at e1 e2 e3 e4 ⊢
  have HBE := Lib.hid hB
  clear hb1 hbk hB
  by_cases t1 : 1000 < sz
  · have d9 : decide (1000 < sz) = true := by simpa using t1
    have hs := HS.out
    rw [if_pos (.inl t1)] at hs
    cases hs
    go_wp2
    go_ret
    exact ⟨rfl, g, To.below HST.out HB1.out⟩
  have d9 : decide (1000 < sz) = false := by simpa using t1
  by_cases t2 : 1000 < rf
  · have d8 : decide (1000 < rf) = true := by simpa using t2
    have hs := HS.out
    rw [if_pos (.inr t2)] at hs
    cases hs
    go_wp2
    go_ret
    exact ⟨rfl, g, To.below HST.out HB1.out⟩
  have d8 : decide (1000 < rf) = false := by simpa using t2
  have hs := HS.out
  rw [if_neg (by rintro (h | h); exact t1 h; exact t2 h)] at hs
  have HS := Lib.hid hs
  clear hs t1 t2
  go_wp2
  have HSA1 := Lib.hid (HSA.out w1.drew (below_drewN HB1.out 1) (HBK.out.drewN 1))
  go_still_tail 8, (by kernel_rfl)
  change wpList _ _ _ _ _ w1.drew
  clear c2 e1 e2 e3 e4
  by_cases hd : d1 = 0
  · subst hd
    have hs := HS.out
    rw [if_neg (by simp)] at hs
    obtain ⟨rfl, hs'⟩ := Prod.mk.inj hs
    have HS' := Lib.hid hs'
    have hn := HOK.out rfl
    have wn : W64 n := MapI.w64 (by omega) (by omega)
    have HNN := Lib.hid hn
    have HWN := Lib.hid wn
    clear hs hs' hn wn HS
    go_wp2_with (go_at_call 44; refine HSA1.out.mono ?_; rintro e wa ⟨rfl, hta, hba⟩; have HTA := Lib.hid hta; have HBA := Lib.hid hba; clear hta hba)
    obtain ⟨c3, hlk, hset, hnew⟩ := HTK.out wa HTA.out
    have hlk := hlk HWN.out
    have HSET := Lib.hid hset
    have HNEW := Lib.hid hnew
    have e1 : wa.cell? ⟨B, 1, none⟩ = some (.int .i64 n) := by rw [HBE.out]; exact HBA.out.cell 1
    have e3 : wa.cell? ⟨B, 3, none⟩ = some (.int .i64 sz) := by rw [HBE.out]; exact HBA.out.cell 3
    have e4 : wa.cell? ⟨B, 4, none⟩ = some (.int .i64 rf) := by rw [HBE.out]; exact HBA.out.cell 4
    clear hset hnew
    cases hk : FM.get s.toks n with
    | some k0 =>
      rw [hk] at hlk
      simp only [Option.map_some, Option.getD_some] at hlk
      have hs' := HS'.out
      rw [hk] at hs'
      simp only at hs'
      have HS2 := Lib.hid hs'
      have HSETN := Lib.hid (HSET.out k0 hk)
      obtain ⟨tq, htq⟩ : ∃ q, q = g.ad (.tok n) := ⟨_, rfl⟩
      rw [← htq] at hlk HSETN
      clear hs' hk htq
      go_quiet (fail)
      go_wp2_with (go_at_call 45; refine (HSETN.out _).mono ?_; rintro e wb ⟨rfl, htb⟩; have HTB := Lib.hid htb; clear htb)
      go_ret
      refine ⟨rfl, g, ?_⟩
      rw [HS2.out]; exact HTB.out
    | none =>
      rw [hk] at hlk
      simp only [Option.map_none, Option.getD_none] at hlk
      have hs' := HS'.out
      rw [hk] at hs'
      simp only at hs'
      have HS2 := Lib.hid hs'
      have hnw := HNEW.out hk HNN.out
      clear hs' hk
      have hcl : p < wa.heap.size := by exact Nat.lt_of_lt_of_le HPL.out HTA.out.step.size
      have hbl : B < wa.heap.size := by have := HBA.out.lt; rw [← HBE.out] at this; exact this
      have HNW := Lib.hid hnw
      clear hnw
      go_quiet (fail)
      have HB := Lib.hid (below_drewN (Below.refl wa.heap.size wa) nq)
      have hsz : (wa.drewN nq).heap.size = wa.heap.size := rfl
      have f3 : (wa.drewN nq).cell? ⟨p, 3, none⟩ = some (.map (some tm)) := c3
      have f1 : (wa.drewN nq).cell? ⟨B, 1, none⟩ = some (.int .i64 n) := e1
      have f2 : (wa.drewN nq).cell? ⟨B, 3, none⟩ = some (.int .i64 sz) := e3
      have f4 : (wa.drewN nq).cell? ⟨B, 4, none⟩ = some (.int .i64 rf) := e4
      clear c3 hlk e1 e3 e4
      rw [← hsz] at hcl hbl
      have HSZ := Lib.hid hsz
      clear hsz
      generalize wa.drewN nq = wz at HB f3 f1 f2 f4 hcl hbl HSZ ⊢
      have HCL := Lib.hid (And.intro hcl hbl)
      clear hcl hbl
      go_wp2
      go_region_with (go_at_call 46; refine (knew_any _ _ _).mono ?_; rintro e w1 ⟨W, m, hw1, hW, rfl⟩; have hb' : Below wz.heap.size wz w1 := (by rw [hw1, hW]; exact (below_drewN (below_drewN (Below.refl wz.heap.size wz) 1) m).alloc (Nat.le_refl _) _); have k3 := (hb'.cell (p := ⟨p, 3, none⟩) HCL.out.1).trans f3; have k1 := (hb'.cell (p := ⟨B, 1, none⟩) HCL.out.2).trans f1; obtain ⟨w2, hrun, hw2⟩ := HNW.out w1 (by rw [HSZ.out] at hb'; exact below_step HB.out (by rw [HSZ.out]; exact hb')) (by rw [hw1, hW, World.size_alloc]; show wz.heap.size + 1 = _; rw [HSZ.out]) (by rw [hw1, hW, ← HSZ.out]; exact Blk.new _ _ _); rw [← HSZ.out] at hrun; have HW2 := Lib.hid hw2; clear hw1 hW hb' hw2)
      all_goals
        go_wp2
        go_ret
        obtain ⟨g', h2⟩ := HW2.out
        refine ⟨rfl, g', ?_⟩
        rw [HS2.out]; exact h2
  · have d7 : (d1 == 0) = false := by simpa using hd
    have d6 : (d1 != 0) = true := by simpa using hd
    have hs := HS.out
    rw [if_pos hd] at hs
    obtain ⟨rfl, hs'⟩ := Prod.mk.inj hs
    have HS' := Lib.hid hs'
    have HD := Lib.hid hd
    clear hs hs' HS hd
    go_wp2_with (go_at_call 44; refine HSA1.out.mono ?_; rintro e wa ⟨rfl, hta, hba⟩; have HTA := Lib.hid hta; have HBA := Lib.hid hba; clear hta hba)
    go_ret
    refine ⟨rfl, g, ?_⟩
    have := HTA.out
    rw [HNO.out HD.out] at this
    rw [HS'.out]; exact this
theorem account_any {w : World} {g : G} {s : Core} {p : Nat} {e : Ev} (st : St w g s) (hp : g.ad .core = p) : Calls Tryz.prog 22 #[vptr p, e.val] w (Post (.int .i64 (s.account e).1) w g s (s.account e).2) :=
  (account_fresh (fun _ hk => fresh_own hk) (To.fresh st).st hp).mono fun _ _ h => h.fresh st
end Go.Proofs.YtjmdgicdpggljaaGreat.GH
