/- Proved: what the auditor's ahead leaves when a host is gone; and ahead of whatever event. -/
import Derived.Test.YtopbhdpfakjkjaaAudAhead
namespace Go.Proofs.Ytopbhdpfakjkjaa.Aud
open Go.RowKit Go.Proofs.Ytopbhdpfakjkjaa.Histo Go.Proofs.Ytopbhdpfakjkjaa.Event Go.Proofs.Ytopbhdpfakjkjaa.Ring
set_option linter.unusedVariables false
open Go.Proofs.Ytopbhdpfakjkjaa.MapI (AL At Rng W64 At.alloc At.drew)

def rem (l : List Th) (h : Int) (left : Int → Bool) : List Th := l.filter fun t => t.host != h || left t.id
theorem rem_all (l : List Th) (h : Int) (left : Int → Bool) (hl : ∀ t ∈ l, left t.id = true) : rem l h left = l :=
  List.filter_eq_self.2 fun t ht => by simp [hl t ht]
theorem rem_end (l : List Th) (h : Int) (left : Int → Bool) (hl : ∀ t ∈ rem l h left, left t.id = false) : rem l h left = l.filter fun t => t.host != h := by
  unfold rem
  refine List.filter_congr fun t ht => ?_
  by_cases hh : (t.host != h) = true
  · rw [hh]; rfl
  · have hh' : (t.host != h) = false := by simpa using hh
    rw [hh', Bool.false_or]
    cases hlt : left t.id with
    | false => rfl
    | true =>
      have := hl t (List.mem_filter.2 ⟨ht, by simp [hlt]⟩)
      rw [hlt] at this; cases this
theorem rem_stay {l : List Th} {h : Int} {left : Int → Bool} (hs : l.Pairwise fun a b => a.id < b.id) {t : Th} (ht : t ∈ l) (hh : t.host ≠ h) : rem l h (fun z => left z && z != t.id) = rem l h left := by
  unfold rem
  refine List.filter_congr fun u hu => ?_
  by_cases he : u.id = t.id
  · have : u = t := by
      rcases List.mem_iff_getElem.1 hu with ⟨i, hi, rfl⟩
      rcases List.mem_iff_getElem.1 ht with ⟨j, hj, rfl⟩
      rcases Nat.lt_trichotomy i j with h1 | h1 | h1
      · have := List.pairwise_iff_getElem.1 hs i j hi hj h1; omega
      · subst h1; rfl
      · have := List.pairwise_iff_getElem.1 hs j i hj hi h1; omega
    subst this
    have : (u.host != h) = true := by simpa using hh
    rw [this]; rfl
  · have : (u.id != t.id) = true := by simpa using he
    simp only
    rw [this, Bool.and_true]
theorem rem_strike {l : List Th} {h : Int} {left : Int → Bool} (hs : l.Pairwise fun a b => a.id < b.id) {t : Th} (ht : t ∈ l) (hh : t.host = h) : (rem l h left).filter (fun u => u.id != t.id) = rem l h (fun z => (left z && z != t.id) && z != t.id) := by
  unfold rem
  rw [List.filter_filter]
  refine List.filter_congr fun u hu => ?_
  by_cases he : u.id = t.id
  · have : u = t := by
      rcases List.mem_iff_getElem.1 hu with ⟨i, hi, rfl⟩
      rcases List.mem_iff_getElem.1 ht with ⟨j, hj, rfl⟩
      rcases Nat.lt_trichotomy i j with h1 | h1 | h1
      · have := List.pairwise_iff_getElem.1 hs i j hi hj h1; omega
      · subst h1; rfl
      · have := List.pairwise_iff_getElem.1 hs j i hj hi h1; omega
    subst this
    have : (u.host != h) = false := by simp [hh]
    rw [this]
    simp
  · have : (u.id != t.id) = true := by simpa using he
    simp only
    rw [this]
    simp
/-- All blocks lie ahead of one. -/
def Ahead (r a b1 b2 b3 : Nat) (blk : Int → Nat) (l : List Th) : Prop := a < r ∧ b1 < r ∧ b2 < r ∧ b3 < r ∧ ∀ t ∈ l, blk t.id < r
theorem AWb.ahead_ {F : Nat → Prop} {w0 w : World} {a b1 b2 b3 N : Nat} {blk : Int → Nat} {s : AS} (h : AWb F w0 a b1 b2 b3 N blk s w) : Ahead w.heap.size a b1 b2 b3 blk s.boxes := ⟨h.aud.lt, h.m1.lt, h.m2.lt, h.m3.lt, fun t ht => (h.th t ht).lt⟩
theorem AWb.other {F : Nat → Prop} {w0 w w' : World} {a b1 b2 b3 N r : Nat} {blk : Int → Nat} {s : AS} (h : AWb F w0 a b1 b2 b3 N blk s w) (hg : w.grownBy w' (some r)) (hr : Ahead r a b1 b2 b3 blk s.boxes) (hFr : F r) : AWb F w0 a b1 b2 b3 N blk s w' := by
  obtain ⟨r1, r2, r3, r4, r5⟩ := hr
  have k : ∀ i, i < w.heap.size → i < r → w'.heap[i]? = w.heap[i]? := fun i hi hlt => hg.block i hi (fun e => by injection e with e; omega)
  exact ⟨(k _ h.aud.lt r1).trans h.aud, h.m1.same (k _ h.m1.lt r2), h.m2.same (k _ h.m2.lt r3), h.m3.same (k _ h.m3.lt r4), fun t ht => (k _ (h.th t ht).lt (r5 t ht)).trans (h.th t ht), h.inj, h.d12, h.d13, h.d23,
    h.below.grown hg (fun k e => by injection e with e; subst e; exact hFr), h.hF, h.na, h.nt, h.wf, h.sz, h.me⟩
/-- The loop that strikes a host's sandboxes. -/
structure FL (F : Nat → Prop) (w0 : World) (a b1 b2 b3 N : Nat) (blk : Int → Nat) (s : AS) (h : Int) (r g : Nat) (cs : Array Value) (left : Int → Bool) (cnt : Nat) (w : World) : Prop where
  aw : AWb F w0 a b1 b2 b3 N blk { s with boxes := rem s.boxes h left } w
  rng : Rng Try.prog 3 w b1 r N (ents blk (rem s.boxes h left)) left cnt
  st : Blk w g 55 cs
  ah : Ahead r a b1 b2 b3 blk s.boxes
  gr : g < r
  hB : F r

set_option maxHeartbeats 4000000 in
set_option maxRecDepth 100000 in
theorem ahead_fail (F : Nat → Prop) (w0 : World) (a b1 b2 b3 N : Nat) (blk : Int → Nat) (s : AS) (en e2 es e4 e5 em e7 e8 e9 r0 r1 r2 r3 : Int) (v : Value) (w : World) (hA : AWb F w0 a b1 b2 b3 N blk s w) (hN : N ≤ 100000) (hn : W64 en) : CALLA a ⟨5, en, e2, es, e4, e5, em, e7, e8, e9⟩ ⟨r0, r1, r2, r3⟩ v w (Out F w0 a b1 b2 b3 (N + 1) (s.ahead ⟨5, en, e2, es, e4, e5, em, e7, e8, e9⟩)) := by
  have hcm : s.ahead ⟨5, en, e2, es, e4, e5, em, e7, e8, e9⟩ = some (s.fail en) := by unfold AS.ahead; simp
  rw [hcm]
  clear hcm
  unfold CALLA scells
  simp only
  have hA1 := hA.next ((Below.refl _ _).alloc (Nat.le_refl _) (.cells (scells ⟨5, en, e2, es, e4, e5, em, e7, e8, e9⟩ ⟨r0, r1, r2, r3⟩ v) 55))
  have hC1 := Blk.new w 55 (scells ⟨5, en, e2, es, e4, e5, em, e7, e8, e9⟩ ⟨r0, r1, r2, r3⟩ v)
  obtain ⟨g, hg⟩ : ∃ g, g = w.heap.size := ⟨_, rfl⟩
  rw [← hg] at hC1
  go_enter Try.func46, Try.ntmps46
  go_wp2_with fail
  rw [← hg]
  generalize w.alloc _ = W at hA1 hC1 ⊢
  have HA1 := Lib.hid hA1
  have HC1 := Lib.hid hC1
  clear hA hA1 hC1 hg
  have ca0 := HA1.out.aud.cell 0
  have cc0 := HC1.out.cell 0
  have cc1 := HC1.out.cell 1
  have hlk := HA1.out.look hn (v := (s.find en).elim (.pointer none) (fun t => .pointer (some ⟨blk t.id, 0, none⟩))) rfl
  obtain ⟨bv, hbv⟩ : ∃ v : Value, v = (s.find en).elim (.pointer none) (fun t => .pointer (some ⟨blk t.id, 0, none⟩)) := ⟨_, rfl⟩
  rw [← hbv] at hlk
  clear hbv
  go_quiet (fail)
  clear hlk ca0 cc0 cc1
  generalize hgen : W.drewN _ = W2
  have hA1 : AWb F w0 a b1 b2 b3 N blk s W2 := by rw [← hgen]; exact HA1.out.next (below_drewN (Below.refl _ _) _)
  have hC1 : Blk W2 g 55 (scells ⟨5, en, e2, es, e4, e5, em, e7, e8, e9⟩ ⟨r0, r1, r2, r3⟩ v) := by rw [← hgen]; exact HC1.out.drewN _
  clear hgen HA1 HC1
  have HA1 := Lib.hid hA1
  have HC1 := Lib.hid hC1
  clear hA1 hC1
  have ca0 := HA1.out.aud.cell 0
  have cc0 := HC1.out.cell 0
  have cc1 := HC1.out.cell 1
  go_wp2_with (at_range; refine MapI.wp_range _ rfl _ 74 rfl 3 101 Try.underlying3 Try.underlying74 b1 N _ rfl HA1.out.m1 ?_; intro w1 hrg hg1 _)
  go_frame
  obtain ⟨r, hr⟩ : ∃ r, r = W2.heap.size := ⟨_, rfl⟩
  rw [← hr] at hrg ⊢
  have hb1 : Below W2.heap.size W2 w1 := (Below.refl _ _).grown hg1 (Nat.le_refl _) (fun _ e => by cases e)
  have st : ∃ left cnt, FL F w0 a b1 b2 b3 N blk s en r g (scells ⟨5, en, e2, es, e4, e5, em, e7, e8, e9⟩ ⟨r0, r1, r2, r3⟩ v) left cnt w1 := by
    have hall : ∀ t ∈ s.boxes, (fun x => (MapI.get (ents blk s.boxes) x).isSome) t.id = true := fun t ht => by
      show (MapI.get (ents blk s.boxes) t.id).isSome = true
      rw [ents_get, Option.isSome_map]
      exact List.find?_isSome.2 ⟨t, ht, by simp⟩
    refine ⟨fun x => (MapI.get (ents blk s.boxes) x).isSome, (ents blk s.boxes).length, ⟨?_, ?_, HC1.out.below hb1 HC1.out.lt, by rw [hr]; exact HA1.out.ahead_, by rw [hr]; exact HC1.out.lt, by rw [hr]; exact HA1.out.hF _ HA1.out.below.size⟩⟩
    · rw [rem_all _ _ _ hall]; exact HA1.out.next hb1
    · rw [rem_all _ _ _ hall]; exact hrg
  have HSRT := Lib.hid (ents_sorted (HA1.out.m1.sorted Try.underlying3))
  have HWF := Lib.hid HA1.out.wf
  have ST := Lib.hid st
  clear st hrg hg1 hb1 hr ca0 cc0 cc1 HA1 HC1
  go_loopw [6, 7] (fun _ _ wr => ∃ left cnt, FL F w0 a b1 b2 b3 N blk s en r g (scells ⟨5, en, e2, es, e4, e5, em, e7, e8, e9⟩ ⟨r0, r1, r2, r3⟩ v) left cnt wr) (fun _ _ wr => wr.rangeLeft b1 r)
  case atStart => exact ST.out
  case round =>
    obtain ⟨left, cnt, hF⟩ := hrel
    have HF := Lib.hid hF
    clear hF
    go_wp2_with (at_next; refine next_th wr rfl _ rfl 3 Try.underlying3 b1 r N blk (rem s.boxes en left) left cnt rfl HF.out.rng (fun t ht => (HWF.out t (List.mem_filter.1 ht).1).1) ?_ ?_)
    · intro hd
      have hend := rem_end s.boxes en left hd
      have hA := HF.out.aw
      rw [hend] at hA
      have hC := HF.out.st
      have HC := Lib.hid hC
      have HA := Lib.hid hA
      have ca1 := HA.out.aud.cell 1
      have cc1 := HC.out.cell 1
      obtain ⟨w7, hrun, hm7, hg7, _⟩ := (At.drew HA.out.m2).store (t := 75) Try.underlying3 Try.underlying75 (by unfold maxLen; omega) hn (.int .i64 0)
      have hfin := HA.out.drew.setSize hm7 hg7 (HA.out.sz.put en 0 (by omega) (by omega))
      have HFIN := Lib.hid hfin
      clear hd hend hA hC hm7 hg7 hfin HF ST
      go_wp2
      go_region
      go_wp2
      go_ret
      exact Out.yes rfl rfl HFIN.out
    · intro t w2 cnt2 ht hl hrg2 hlt hg2 hen
      have hA2 := HF.out.aw.other hg2 ⟨HF.out.ah.1, HF.out.ah.2.1, HF.out.ah.2.2.1, HF.out.ah.2.2.2.1, fun u hu => HF.out.ah.2.2.2.2 u (List.mem_filter.1 hu).1⟩ HF.out.hB
      have hC2 : Blk w2 g _ _ := (hg2.block g HF.out.st.lt (fun e => by have := HF.out.gr; injection e with e; omega)).trans HF.out.st
      have hbt := hA2.th t ht
      have ca0 := hA2.aud.cell 0
      have cc1 := hC2.cell 1
      have ct1 : w2.cell? ⟨blk t.id, 1, none⟩ = some (.int .i64 t.host) := hbt.cell 1
      have hts := (List.mem_filter.1 ht).1
      have LEFT := Lib.hid (And.intro HF.out.rng.left_eq (And.intro hrg2.left_eq hlt))
      have HA2 := Lib.hid hA2
      have HC2 := Lib.hid hC2
      have HR2 := Lib.hid hrg2
      have HTS := Lib.hid hts
      have HWT := Lib.hid (HWF.out t hts).1
      clear hA2 hC2 hbt hrg2 hts ht hl hlt hg2
      by_cases hh : t.host = en
      · have e1 : (t.host == en) = true := by rw [hh]; simp
        have hstr := rem_strike (left := left) HSRT.out HTS.out hh
        have HSTR := Lib.hid hstr
        have HH := Lib.hid hh
        clear hh hstr
        go_wp2
        go_quiet (fail)
        generalize hgen : w2.drewN _ = W3
        have hA3 : AWb F w0 a b1 b2 b3 N blk { s with boxes := rem s.boxes en left } W3 := by rw [← hgen]; exact HA2.out.next (below_drewN (Below.refl _ _) _)
        have hC3 : Blk W3 g 55 (scells ⟨5, en, e2, es, e4, e5, em, e7, e8, e9⟩ ⟨r0, r1, r2, r3⟩ v) := by rw [← hgen]; exact HC2.out.drewN _
        have hR3 : Rng Try.prog 3 W3 b1 r N (ents blk (rem s.boxes en left)) (fun z => left z && z != t.id) cnt2 := by rw [← hgen]; exact HR2.out.drewN _
        have ca0' := hA3.aud.cell 0
        have HA3 := Lib.hid hA3
        have HC3 := Lib.hid hC3
        have HR3 := Lib.hid hR3
        clear hgen hA3 hC3 hR3
        go_wp2_with (at_delete; refine MapI.wp_del_range _ rfl _ _ 74 3 rfl 101 Try.underlying3 Try.underlying74 b1 r N _ _ cnt2 rfl HR3.out t.id rfl HWT.out ?_; intro w4 cnt4 hR4 hle hg4 _; go_frame)
        have hA4 := HA3.out.del t.id hR4.owns hg4
        have hC4 := HC3.out.grown hg4 (fun e => map_blk_ne HA3.out.m1 HC3.out (by injection e))
        have HA4 := Lib.hid hA4
        have HC4 := Lib.hid hC4
        have HR4 := Lib.hid hR4
        have HLE := Lib.hid hle
        clear hA4 hC4 hR4 hle hg4
        go_wp2
        go_roundw
        case rel =>
          refine ⟨fun z => (left z && z != t.id) && z != t.id, cnt4, ⟨?_, ?_, HC4.out, HF.out.ah, HF.out.gr, HF.out.hB⟩⟩
          · rw [← HSTR.out]; exact HA4.out
          · have := HR4.out; rw [ents_del, HSTR.out] at this; exact this
        case measure => rw [HR4.out.left_eq, LEFT.out.1]; have := LEFT.out.2.2; have := HLE.out; omega
      · have e1 : (t.host == en) = false := by simpa using hh
        have hstay := rem_stay (left := left) HSRT.out HTS.out hh
        have HST := Lib.hid hstay
        have HH := Lib.hid hh
        clear hh hstay
        go_wp2
        go_quiet (fail)
        generalize hgen : w2.drewN _ = W3
        have hA3 : AWb F w0 a b1 b2 b3 N blk { s with boxes := rem s.boxes en left } W3 := by rw [← hgen]; exact HA2.out.next (below_drewN (Below.refl _ _) _)
        have hC3 : Blk W3 g 55 (scells ⟨5, en, e2, es, e4, e5, em, e7, e8, e9⟩ ⟨r0, r1, r2, r3⟩ v) := by rw [← hgen]; exact HC2.out.drewN _
        have hR3 : Rng Try.prog 3 W3 b1 r N (ents blk (rem s.boxes en left)) (fun z => left z && z != t.id) cnt2 := by rw [← hgen]; exact HR2.out.drewN _
        have HA3 := Lib.hid hA3
        have HC3 := Lib.hid hC3
        have HR3 := Lib.hid hR3
        clear hgen hA3 hC3 hR3
        go_wp2
        go_roundw
        case rel =>
          refine ⟨fun z => left z && z != t.id, cnt2, ⟨?_, ?_, HC3.out, HF.out.ah, HF.out.gr, HF.out.hB⟩⟩
          · rw [HST.out]; exact HA3.out
          · rw [HST.out]; exact HR3.out
        case measure => rw [HR3.out.left_eq, LEFT.out.1]; exact LEFT.out.2.2
end Go.Proofs.Ytopbhdpfakjkjaa.Aud
