/- Proved: what a boot's test in the document's world (greenhouselaw19) answers and leaves. -/
import Derived.Test.YtopbhdpfakjkjaaLawCmd
namespace Go.Proofs.Ytopbhdpfakjkjaa.Aud
open Go.RowKit Go.Proofs.Ytopbhdpfakjkjaa.Histo Go.Proofs.Ytopbhdpfakjkjaa.Event Go.Proofs.Ytopbhdpfakjkjaa.Ring
set_option linter.unusedVariables false
open Go.Proofs.Ytopbhdpfakjkjaa.MapI (AL At Rng W64 At.alloc At.drew)
theorem sumMem_snoc (mem : AL) (h : Int) (t : Th) : ∀ l : List Th, sumMem mem h (l ++ [t]) = sumMem mem h l + if t.host = h then num mem t.fn else 0
  | [] => by simp [sumMem]
  | u :: r => by simp only [List.cons_append, sumMem, sumMem_snoc mem h t r]; omega
theorem own_neq {w : World} {base size n : Nat} {e t : TypeId} {v : Value} {xs : List Value} (h : w.ownsRow base e size v n xs) {b : Nat} {cs : Array Value} (hb : Blk w b t cs) (hne : t ≠ e) : some b ≠ v.ownBlock := by
  intro e
  rcases h.2 with ⟨rfl, _⟩ | ⟨g, cap, cur, rfl, _, hg, _⟩
  · cases e
  · injection e with e
    subst e
    unfold Blk at hb
    rw [hg] at hb
    injection hb with hb
    injection hb with _ hb
    exact hne hb.symm
theorem box_one (x y z : Int) : ∀ u ∈ ([.int .i64 x, .int .i64 y, .int .i64 z, .bool true, .bool false] : List Value), u.oneCell' = true := by
  intro u hu
  simp only [List.mem_cons, List.not_mem_nil, or_false] at hu
  rcases hu with rfl | rfl | rfl | rfl | rfl <;> rfl
theorem undrew {w w' : World} {r : Option Nat} (h : w.drew.grownBy w' r) : w.grownBy w' r := ⟨h.os, h.tape, h.output, h.size, h.block⟩
theorem LWb.booted {F : Nat → Prop} {w0 w w4 : World} {a b2 b3 N n : Nat} {s : AS} {cx cf ch : Int} {v v' : Value} {o : Obj} (h : LWb F w0 a b2 b3 N s w) (ha : Blk w a 82 #[v, .map (some b2), .map (some b3), .int .i64 s.next]) (hrow : w.ownsRow 0 92 5 v n (rowL s.boxes)) (hn : n = s.boxes.length) (hvF : ∀ k, v.ownBlock = some k → F k) (hI : ∀ t ∈ s.boxes, t.id < s.next) (hx : cx = s.next) (hw : CW ⟨true, cx, cf, ch⟩)
    (hg : (w.alloc o).grownBy w4 v.ownBlock) (hat : v'.ownBlock = v.ownBlock ∨ v'.ownBlock = some (w.alloc o).heap.size) (hown : w4.ownsRow 0 92 5 v' (n + 1) (rowL s.boxes ++ [.int .i64 cx, .int .i64 cf, .int .i64 ch, .bool true, .bool false])) :
    LWb F w0 a b2 b3 (N + 1) { s with boxes := s.boxes ++ [⟨cx, cf, ch, false, true⟩], next := s.next + 1 } ((w4.setCell ⟨a, 0, none⟩ v').setCell ⟨a, 3, none⟩ (.int .i64 (s.next + 1))) := by
  subst hn
  have hne : ∀ k, v.ownBlock = some k → k ≠ a := by
    intro k hk e
    subst e
    rcases hrow.2 with ⟨rfl, _⟩ | ⟨g, cap, cur, rfl, _, hgg, _⟩
    · cases hk
    · injection hk with hk; subst hk
      unfold Blk at ha
      rw [show w.heap[g]? = some (.cells cur 92 (0, 0)) from hgg] at ha
      injection ha with ha; injection ha with _ ha
      exact absurd ha (by decide)
  have hnm : ∀ {b n : Nat} {l : AL}, At Try.prog 3 w b n l → ∀ k, v.ownBlock = some k → k ≠ b := by
    intro b n l hm k hk e
    subst e
    rcases hrow.2 with ⟨rfl, _⟩ | ⟨g, cap, cur, rfl, _, hgg, _⟩
    · cases hk
    · injection hk with hk; subst hk
      exact map_blk_ne hm hgg rfl
  have hal : ∀ k, k < w.heap.size → (∀ j, v.ownBlock = some j → j ≠ k) → w4.heap[k]? = w.heap[k]? := fun k hk hj => (hg.block k (by rw [show (w.alloc o).heap.size = w.heap.size + 1 from Array.size_push ..]; omega) (fun e => hj k e.symm rfl)).trans (Below.heap_alloc w o k hk)
  have hset : ∀ k, k ≠ a → ((w4.setCell ⟨a, 0, none⟩ v').setCell ⟨a, 3, none⟩ (.int .i64 (s.next + 1))).heap[k]? = w4.heap[k]? := fun k hk => (Below.heap_setCell _ ⟨a, 3, none⟩ _ k hk).trans (Below.heap_setCell w4 ⟨a, 0, none⟩ v' k hk)
  have hm2 := (hset b2 (fun e => map_blk_ne h.m2 ha e.symm)).trans (hal b2 h.m2.lt (hnm h.m2))
  have hm3 := (hset b3 (fun e => map_blk_ne h.m3 ha e.symm)).trans (hal b3 h.m3.lt (hnm h.m3))
  have ha4 : Blk w4 a 82 #[v, .map (some b2), .map (some b3), .int .i64 s.next] := (hal a ha.lt hne).trans ha
  have hva : ∀ k, v'.ownBlock = some k → k ≠ a := by
    intro k hk
    rcases hat with e | e
    · exact hne k (by rw [← e]; exact hk)
    · rw [e] at hk; injection hk with hk
      have := ha.lt
      rw [show (w.alloc o).heap.size = w.heap.size + 1 from Array.size_push ..] at hk
      omega
  refine ⟨⟨v', (ha4.set_ 0 v').set_ 3 (.int .i64 (s.next + 1)), ?_, ?_⟩, (h.m2.same hm2).mono (by omega), (h.m3.same hm3).mono (by omega), h.d23, ((((h.below.alloc o).grown hg hvF).setCell h.na.1 v').setCell h.na.1 _), h.hF, h.na, ?_, ?_, ?_, h.sz, h.me⟩
  · have := own_same (w' := (w4.setCell ⟨a, 0, none⟩ v').setCell ⟨a, 3, none⟩ (.int .i64 (s.next + 1))) hown (fun k hk => hset k (hva k hk))
    show World.ownsRow _ 0 92 5 v' (s.boxes ++ [(⟨cx, cf, ch, false, true⟩ : Th)]).length (rowL (s.boxes ++ [(⟨cx, cf, ch, false, true⟩ : Th)]))
    rw [List.length_append]
    unfold rowL at this ⊢
    rw [List.flatMap_append]
    exact this
  · intro k hk
    rcases hat with e | e
    · exact hvF k (by rw [← e]; exact hk)
    · rw [e] at hk; injection hk with hk; subst hk
      exact h.hF _ (by rw [show (w.alloc o).heap.size = w.heap.size + 1 from Array.size_push ..]; have := h.below.size; omega)
  · show (s.boxes ++ [_]).length ≤ N + 1
    rw [List.length_append]; have := h.len; simp; exact this
  · show (s.boxes ++ [_]).Pairwise _
    refine List.pairwise_append.2 ⟨h.srt, List.pairwise_singleton _ _, fun x hx' y hy => ?_⟩
    rw [List.mem_singleton] at hy; subst hy
    have := hI x hx'
    show x.id < cx
    omega
  · intro t ht
    rcases List.mem_append.1 ht with ht | ht
    · exact h.wf t ht
    · rw [List.mem_singleton] at ht; subst ht; exact ⟨hw.x, hw.f, hw.h⟩
set_option maxHeartbeats 4000000 in
set_option maxRecDepth 100000 in
theorem lboot_all (F : Nat → Prop) (w0 : World) (a b2 b3 N : Nat) (s : AS) (cx cf ch : Int) (w : World) (hA : LWb F w0 a b2 b3 N s w) (hN : N ≤ 100000) (hI : Inv s N) (hw : CW ⟨true, cx, cf, ch⟩) : CALLW a ⟨true, cx, cf, ch⟩ w (LOut F w0 a b2 b3 (N + 1) (s.command ⟨true, cx, cf, ch⟩)) := by
  unfold CALLW
  simp only
  have hA1 := hA.next ((Below.refl _ _).alloc (Nat.le_refl _) (.cells #[.bool true, .int .i64 cx, .int .i64 cf, .int .i64 ch] 59))
  have hC1 := Blk.new w 59 #[.bool true, .int .i64 cx, .int .i64 cf, .int .i64 ch]
  obtain ⟨g, hg⟩ : ∃ g, g = w.heap.size := ⟨_, rfl⟩
  rw [← hg] at hC1
  have HI := Lib.hid hI
  have HW := Lib.hid hw
  clear hI hw
  go_enter Try.func52, Try.ntmps52
  go_wp2_with fail
  rw [← hg]
  generalize w.alloc _ = W at hA1 hC1 ⊢
  clear hA hg
  have cc1 := hC1.cell 1
  have HA1 := Lib.hid hA1
  have HC1 := Lib.hid hC1
  clear hA1 hC1
  go_wp2_with fail
  refine (lfind_any F w0 a b2 b3 N s cx W HA1.out hN).mono ?_
  rintro e1 w1 ⟨rfl, hb1⟩
  have HA := Lib.hid (HA1.out.next hb1)
  have HC := Lib.hid (HC1.out.below hb1 HC1.out.lt)
  clear hb1 HA1 HC1 cc1
  generalize idx cx s.boxes 0 = fi
  obtain ⟨kb, hkb⟩ : ∃ b, b = (MapI.get s.mem cf).isSome := ⟨_, rfl⟩
  obtain ⟨mv, hmv⟩ : ∃ v, v = num s.mem cf := ⟨_, rfl⟩
  have hmb := num_small HA.out.me cf
  rw [← hmv] at hmb
  have hlk : ∀ n, (Instr.lookup 75 (.map (some b3)) (.int .i64 cf) true).run Try.prog (w1.drewN n) = .ok (.tuple #[.int .i64 mv, .bool kb]) (w1.drewN n) := fun n => by
    rw [hmv, hkb]; exact looki_ok (HA.out.m3.drewN n) HA.out.me HW.out.f
  have ca2 : w1.cell? ⟨a, 2, none⟩ = some (.map (some b3)) := by obtain ⟨v, ha, _⟩ := HA.out.row; exact ha.cell 2
  have cc0 := HC.out.cell 0
  have cc2 := HC.out.cell 2
  have HKB := Lib.hid (And.intro hkb hmv)
  clear hkb hmv
  go_wp2
  go_quiet (fail)
  clear hlk ca2 cc0 cc2
  generalize hgen : w1.drewN _ = W2
  have HA2 := Lib.hid (show LWb F w0 a b2 b3 N s W2 by rw [← hgen]; exact HA.out.drewN _)
  have HC2 := Lib.hid (show Blk W2 g 59 #[.bool true, .int .i64 cx, .int .i64 cf, .int .i64 ch] by rw [← hgen]; exact HC.out.drewN _)
  clear hgen HA HC
  obtain ⟨v, ha, hrow, hvF⟩ := HA2.out.row
  obtain ⟨ad, cap, rfl, hcap, hcell⟩ := row_open hrow
  have ca0 := ha.cell 0
  obtain ⟨n, hn⟩ : ∃ n, n = s.boxes.length := ⟨_, rfl⟩
  rw [← hn] at ca0 hcap
  have hn2 : n ≤ 100000 := by rw [hn]; have := HA2.out.len; omega
  have HCELL := Lib.hid hcell
  have HNN := Lib.hid hn
  have HROW := Lib.hid hrow
  have HVF := Lib.hid hvF
  have HBA := Lib.hid ha
  clear hcell hn hrow hvF ha
  go_wp2_with fail
  clear ca0
  go_loopw [8, 75] (fun sv iv wr => ∃ i : Nat, i ≤ n ∧ iv = .int .i64 i ∧ sv = .int .i64 (mv + sumMem s.mem ch (s.boxes.take i)) ∧ Below W2.heap.size W2 wr) (fun _ iv _ => n - (intOf iv).toNat)
  case atStart => exact ⟨0, by omega, rfl, by simp [sumMem], Below.refl _ _⟩
  case round =>
    obtain ⟨i, hi, rfl, rfl, hbl⟩ := hrel
    have hsb := sumMem_bd HA2.out.me ch (s.boxes.take i)
    have hsl : (s.boxes.take i).length ≤ 100000 := by rw [List.length_take]; omega
    have HBL := Lib.hid hbl
    by_cases hlt : i < n
    · have hil : i < s.boxes.length := by have := HNN.out; omega
      obtain ⟨t, ht⟩ : ∃ t, s.boxes[i]? = some t := ⟨_, List.getElem?_eq_getElem hil⟩
      have hstep : sumMem s.mem ch (s.boxes.take (i + 1)) = sumMem s.mem ch (s.boxes.take i) + if t.host = ch then num s.mem t.fn else 0 := by
        rw [List.take_succ_eq_append_getElem hil, sumMem_snoc]
        rw [List.getElem?_eq_getElem hil] at ht
        injection ht with ht
        rw [ht]
      obtain ⟨u, hu⟩ : ∃ u, u = sumMem s.mem ch (s.boxes.take i) := ⟨_, rfl⟩
      rw [← hu] at hsb hstep ⊢
      obtain ⟨ga, cap', ha', _, hgl, d0, d1, d2, d3, d4⟩ := (HA2.out.next hbl).at ht
      have hcc := HC2.out.below hbl HC2.out.lt
      have had : ad = some ⟨ga, 0, none⟩ := by
        have h1 := ha'.cell 0
        have h2 := (HBA.out.below hbl HBA.out.lt).cell 0
        rw [h1] at h2
        simp at h2
        exact h2.1.symm
      subst had
      have ca2 : wr.cell? ⟨a, 2, none⟩ = some (.map (some b3)) := ha'.cell 2
      have cc3 : wr.cell? ⟨g, 3, none⟩ = some (.int .i64 ch) := hcc.cell 3
      have hm3 := (HA2.out.next hbl).m3
      have hnb := num_small HA2.out.me t.fn
      have hwf := (HA2.out.wf t (List.mem_of_getElem? ht)).2.1
      have hb2 := hbl.alloc hbl.size (.cells #[.int .i64 t.id, .int .i64 t.fn, .int .i64 t.host, .bool t.boots, .bool t.busy] 92)
      have HB2 := Lib.hid hb2
      have bo := (Below.refl wr.heap.size wr).alloc (Nat.le_refl _) (.cells #[.int .i64 t.id, .int .i64 t.fn, .int .i64 t.host, .bool t.boots, .bool t.busy] 92)
      have ca2' : (wr.alloc (.cells #[.int .i64 t.id, .int .i64 t.fn, .int .i64 t.host, .bool t.boots, .bool t.busy] 92)).cell? ⟨a, 2, none⟩ = some (.map (some b3)) := (bo.cell (p := ⟨a, 2, none⟩) ha'.lt).trans ca2
      have cc3' : (wr.alloc (.cells #[.int .i64 t.id, .int .i64 t.fn, .int .i64 t.host, .bool t.boots, .bool t.busy] 92)).cell? ⟨g, 3, none⟩ = some (.int .i64 ch) := (bo.cell (p := ⟨g, 3, none⟩) hcc.lt).trans cc3
      have hlk : ∀ n, (Instr.lookup 75 (.map (some b3)) (.int .i64 t.fn) false).run Try.prog ((wr.alloc (.cells #[.int .i64 t.id, .int .i64 t.fn, .int .i64 t.host, .bool t.boots, .bool t.busy] 92)).drewN n) = .ok (.int .i64 (num s.mem t.fn)) ((wr.alloc (.cells #[.int .i64 t.id, .int .i64 t.fn, .int .i64 t.host, .bool t.boots, .bool t.busy] 92)).drewN n) := fun n => looki ((hm3.alloc _).drewN n) HA2.out.me hwf
      obtain ⟨y, hy⟩ : ∃ y, y = num s.mem t.fn := ⟨_, rfl⟩
      rw [← hy] at hlk hnb hstep
      obtain ⟨y0, y1⟩ := hnb
      have hu0 := hsb.1
      have hu1 : u ≤ 214748364700000 := by omega
      have HSTEP := Lib.hid hstep
      have HU := Lib.hid hu
      clear hu hy hstep hbl ht ha' hcc hm3 hwf hb2 hsb hgl hsl bo
      by_cases hh : t.host = ch
      · have e1 : (t.host == ch) = true := by rw [hh]; simp
        have HH := Lib.hid hh
        clear hh
        go_wp2
        go_quiet (fail)
        go_wp2
        go_roundw
        case rel => exact ⟨i + 1, by omega, by go_num, vi (by have := HSTEP.out; rw [if_pos HH.out] at this; omega), below_drewN HB2.out _⟩
        case measure => simp [intOf]; omega
      · have e1 : (t.host == ch) = false := by simpa using hh
        have HH := Lib.hid hh
        clear hh
        go_wp2
        go_roundw
        case rel => exact ⟨i + 1, by omega, by go_num, vi (by have := HSTEP.out; rw [if_neg HH.out] at this; omega), HB2.out⟩
        case measure => simp [intOf]; omega
    · have hall : s.boxes.take i = s.boxes := List.take_of_length_le (by have := HNN.out; omega)
      rw [hall] at hsb ⊢
      clear hall hsl
      obtain ⟨u, hu⟩ : ∃ u, u = sumMem s.mem ch s.boxes := ⟨_, rfl⟩
      rw [← hu] at hsb ⊢
      have hu0 := hsb.1
      have hu1 : u ≤ 214748364700000 := by have := HNN.out; omega
      obtain ⟨sz, hsz⟩ : ∃ z, z = num s.size ch := ⟨_, rfl⟩
      have hsb2 := num_small HA2.out.sz ch
      rw [← hsz] at hsb2
      have hA3 := HA2.out.next hbl
      have hC3 := HC2.out.below hbl HC2.out.lt
      have hB3 := HBA.out.below hbl HBA.out.lt
      have hR3 := own_same (w' := wr) HROW.out (fun k hk => hbl.block k (HROW.out.lt k hk).2)
      have hlk : ∀ n, (Instr.lookup 75 (.map (some b2)) (.int .i64 ch) false).run Try.prog (wr.drewN n) = .ok (.int .i64 sz) (wr.drewN n) := fun n => by
        rw [hsz]; exact looki (hA3.m2.drewN n) hA3.sz HW.out.h
      have cc1 := hC3.cell 1
      have cc2 := hC3.cell 2
      have cc3 := hC3.cell 3
      have ca1 : wr.cell? ⟨a, 1, none⟩ = some (.map (some b2)) := hB3.cell 1
      have ca3 : wr.cell? ⟨a, 3, none⟩ = some (.int .i64 s.next) := hB3.cell 3
      have hcm : s.command ⟨true, cx, cf, ch⟩ = if cx ≠ s.next ∨ kb = false ∨ sz < u + mv then none else some { s with boxes := s.boxes ++ [⟨cx, cf, ch, false, true⟩], next := s.next + 1 } := by
        unfold AS.command
        rw [if_neg (by simp)]
        rw [hsz, hu, HKB.out.1, HKB.out.2]
      have HA3 := Lib.hid hA3
      have HC3 := Lib.hid hC3
      have HB3 := Lib.hid hB3
      have HR3 := Lib.hid hR3
      clear hsz hu hA3 hC3 hB3 hR3 hbl hsb HA2 HC2 HBA HROW HBL
      cases hkb : kb with
      | false =>
        rw [hkb] at hcm
        have HCM := Lib.hid (hcm.trans (if_pos (.inr (.inl rfl))))
        clear hcm
        go_wp2
        go_quiet (fail)
        go_wp2
        go_ret
        exact LOut.no HCM.out rfl (HA3.out.below.drewN _)
      | true =>
        rw [hkb] at hcm
        by_cases h1 : cx = s.next
        rotate_left
        · have HCM := Lib.hid (hcm.trans (if_pos (.inl h1)))
          clear hcm
          have q : (cx == s.next) = false := beq_eq_false_iff_ne.2 h1
          have q' : (cx != s.next) = true := by simp [bne, q]
          clear h1
          go_wp2
          go_quiet (fail)
          go_wp2
          go_ret
          exact LOut.no HCM.out rfl (HA3.out.below.drewN _)
        have q : (cx == s.next) = true := by simp [h1]
        have q' : (cx != s.next) = false := by simp [bne, q]
        have HX := Lib.hid h1
        by_cases h2 : sz < u + mv
        · have HCM := Lib.hid (hcm.trans (if_pos (.inr (.inr h2))))
          clear hcm
          have p : decide (sz < mv + u) = true := decide_eq_true (by omega)
          clear h1 h2
          go_wp2
          go_quiet (fail)
          go_wp2
          go_ret
          exact LOut.no HCM.out rfl (HA3.out.below.drewN _)
        have HCM := Lib.hid (hcm.trans (if_neg (by rintro (h | h | h); exact h h1; cases h; exact h2 h)))
        clear hcm
        have p : decide (sz < mv + u) = false := decide_eq_false (by omega)
        clear h1 h2
        go_wp2
        go_quiet (fail)
        clear hlk ca1 p q q' hsb2 hu0 hu1
        generalize hgen : wr.drewN _ = W4
        have HA4 := Lib.hid (show LWb F w0 a b2 b3 N s W4 by rw [← hgen]; exact HA3.out.drewN _)
        have hC4 : Blk W4 g 59 #[.bool true, .int .i64 cx, .int .i64 cf, .int .i64 ch] := by rw [← hgen]; exact HC3.out.drewN _
        have hB4 : Blk W4 a 82 #[.slice ad n cap, .map (some b2), .map (some b3), .int .i64 s.next] := by rw [← hgen, HNN.out]; exact HB3.out.drewN _
        have HR4 := Lib.hid (show W4.ownsRow 0 92 5 (.slice ad s.boxes.length cap) s.boxes.length (rowL s.boxes) by rw [← hgen]; exact HR3.out)
        clear hgen HA3 HC3 HB3 HR3 cc1 cc2 cc3 ca3
        have cc1 := hC4.cell 1
        have cc2 := hC4.cell 2
        have cc3 := hC4.cell 3
        have ca0 : W4.cell? ⟨a, 0, none⟩ = some (.slice ad n cap) := hB4.cell 0
        have fa0 := hB4.frozen 0
        have HBA := Lib.hid hB4
        have HC4 := Lib.hid hC4
        clear hC4 hB4
        obtain ⟨i0, hi0, hz0, hz1, hz2⟩ := info_parts infoBox
        have HI0 := Lib.hid hi0
        have HZ0 := Lib.hid hz0
        have HZ1 := Lib.hid hz1
        have HZ2 := Lib.hid hz2
        have hown : W4.ownsRow 0 92 5 (.slice ad n cap) n (rowL s.boxes) := by rw [HNN.out]; exact HR4.out
        have HOWN := Lib.hid hown
        have hm1 : n + 1 ≤ maxLen := by unfold maxLen; omega
        have hm2 : (n + 1) * 32 ≤ 140737488355328 := by omega
        have HM := Lib.hid (And.intro hm1 hm2)
        clear hi0 hz0 hz1 hz2 hown hm1 hm2
        go_wp2
        have hga : g ≠ a := blk_neq HC4.out HBA.out (by decide)
        have hgl := HC4.out.lt
        have AL := Lib.hid (fun (w5 : World) (o : Obj) (hg' : (W4.alloc o).drew.grownBy w5 (Value.slice ad n cap).ownBlock) (b : Nat) (hb : b < W4.heap.size) (hne : some b ≠ (Value.slice ad n cap).ownBlock) => (((undrew hg').block b (by rw [show (W4.alloc o).heap.size = W4.heap.size + 1 from Array.size_push ..]; omega) hne).trans (Below.heap_alloc W4 o b hb) : w5.heap[b]? = W4.heap[b]?))
        have KG := Lib.hid (fun (w' : World) (h : w'.heap[g]? = W4.heap[g]?) => (⟨(World.cell?_of_block (w := W4) h).trans cc1, (World.cell?_of_block (w := W4) h).trans cc2, (World.cell?_of_block (w := W4) h).trans cc3⟩ : w'.cell? ⟨g, 1, none⟩ = some (.int .i64 cx) ∧ w'.cell? ⟨g, 2, none⟩ = some (.int .i64 cf) ∧ w'.cell? ⟨g, 3, none⟩ = some (.int .i64 ch)))
        have ca3 := HBA.out.cell 3
        have fa3 := HBA.out.frozen 3
        have KA := Lib.hid (fun (w' : World) (h : w'.heap[a]? = W4.heap[a]?) => (⟨(World.cell?_of_block (w := W4) h).trans ca0, (World.frozen?_of_block (w := W4) h).trans fa0, (World.cell?_of_block (w := W4) h).trans ca3, (World.frozen?_of_block (w := W4) h).trans fa3⟩ : w'.cell? ⟨a, 0, none⟩ = some (.slice ad n cap) ∧ w'.frozen? ⟨a, 0, none⟩ = false ∧ w'.cell? ⟨a, 3, none⟩ = some (.int .i64 s.next) ∧ w'.frozen? ⟨a, 3, none⟩ = false))
        have hN1 := HI.out.n1
        have hN2 := HI.out.n2
        have e5 : wrap64 (s.next + 1) = s.next + 1 := IntWalk.wrap64_in _ (by omega)
        have ca0' : (W4.alloc (.cells #[.int .i64 cx, .int .i64 cf, .int .i64 ch, .bool true, .bool false] 92)).drew.cell? ⟨a, 0, none⟩ = some (.slice ad n cap) := (World.cell?_of_block (w := W4) (Below.heap_alloc W4 _ a HBA.out.lt)).trans ca0
        have ca0'' : (W4.alloc (.cells #[.int .i64 cx, .int .i64 cf, .int .i64 ch, .bool true, .bool false] 92)).cell? ⟨a, 0, none⟩ = some (.slice ad n cap) := ca0'
        clear ca3 fa3 hN1 hN2
        go_region_law
          (first
            | ((refine step_append_at _ (by rfl) _ _ _ (by rfl) 0 92 i0 zeroBox 5 32 Try.underlying80 HI0.out HZ0.out HZ1.out HZ2.out rfl (by decide) (.slice ad n cap) n (rowL s.boxes) (by rfl) (HOWN.out.alloc _) ⟨W4.heap.size, 0, none⟩ 1 1 [.int .i64 cx, .int .i64 cf, .int .i64 ch, .bool true, .bool false] (by rfl) rfl (fun j u hj => World.news_of_block (heap_alloc_new W4 _) j u hj) (box_one cx cf ch) HM.out.1 HM.out.2 (Nat.zero_le _) ?_); intro ad' cap' w5 hown5 hgrow5 hat5; obtain ⟨ca5, fa5, cb5, fb5⟩ := KA.out w5 (AL.out w5 _ hgrow5 a HBA.out.lt (own_neq HOWN.out HBA.out (by decide)))))
        all_goals
          have HD := Lib.hid (HA4.out.booted (v := .slice ad n cap) HBA.out HOWN.out HNN.out (by rw [HNN.out]; exact HVF.out) HI.out.ids HX.out HW.out (undrew hgrow5) hat5 hown5)
          clear hown5 hgrow5 hat5
          go_wp2
          go_ret
          exact LOut.yes HCM.out rfl HD.out
end Go.Proofs.Ytopbhdpfakjkjaa.Aud
