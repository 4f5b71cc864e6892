/- Proved: what the auditor's step answers, whatever the step; and which step audit.First tells. -/
import Derived.Test.YtopbhdpfakjkjaaAudStep
namespace Go.Proofs.Ytopbhdpfakjkjaa.Aud
open Go.RowKit Go.Proofs.Ytopbhdpfakjkjaa.Histo Go.Proofs.Ytopbhdpfakjkjaa.Event Go.Proofs.Ytopbhdpfakjkjaa.Ring
set_option linter.unusedVariables false
open Go.Proofs.Ytopbhdpfakjkjaa.MapI (AL At Rng W64 At.alloc At.drew)

theorem step_all (F : Nat → Prop) (w0 : World) (a b1 b2 b3 N : Nat) (blk : Int → Nat) (s : AS) (x : Stp) (ad : Option Addr) (n cap : Nat) (w : World) (hA : AWb F w0 a b1 b2 b3 N blk s w) (hI : Inv s N) (hM : N + 1 + n ≤ 100000) (hcs : Cmds F w0 ad x.cmds) (hcn : x.cmds.length = n) : CALLS a x.ev x.ans (.slice ad n cap) w (Out F w0 a b1 b2 b3 (N + 1 + n) (s.step x)) := by
  obtain ⟨⟨ek, en, e2, es, e4, e5, em, e7, e8, e9⟩, ⟨rk, bx, r2, r3⟩, cs⟩ := x
  simp only at hcs hcn
  have up : ∀ {M : Nat} {r : Option AS} {e : Ending} {w' : World}, M ≤ N + 1 + n → Out F w0 a b1 b2 b3 M r e w' → Out F w0 a b1 b2 b3 (N + 1 + n) r e w' := fun hm h => h.mono hm
  unfold AS.step
  simp only
  cases hr : Ev.right ⟨ek, en, e2, es, e4, e5, em, e7, e8, e9⟩ with
  | false => rw [if_pos rfl]; exact (step_ev F w0 a b1 b2 b3 N blk s _ _ _ _ _ _ _ _ _ _ rk bx r2 r3 ad n cap w hA hr).mono fun _ _ h => up (M := N) (by omega) h
  | true =>
  rw [if_neg (by decide)]
  cases har : Ans.right ⟨rk, bx, r2, r3⟩ with
  | false => rw [if_pos rfl]; exact (step_ans F w0 a b1 b2 b3 N blk s _ _ _ _ _ _ _ _ _ _ rk bx r2 r3 ad n cap w hA hr har).mono fun _ _ h => up (M := N) (by omega) h
  | true =>
  rw [if_neg (by decide)]
  by_cases hk : rk = 1
  · rw [if_pos hk]
    by_cases h0 : n = 0
    · rw [if_pos (by omega)]
      exact (step_refused F w0 a b1 b2 b3 N blk s _ _ _ _ _ _ _ _ _ _ rk bx r2 r3 ad n cap w hA hr har hk h0).mono fun _ _ h => up (M := N) (by omega) h
    · rw [if_neg (by omega)]
      exact (step_refused_no F w0 a b1 b2 b3 N blk s _ _ _ _ _ _ _ _ _ _ rk bx r2 r3 ad n cap w hA hr har hk h0).mono fun _ _ h => up (M := N) (by omega) h
  rw [if_neg hk]
  by_cases h6 : ek = 6
  · rw [if_pos h6]
    have h := step_call F w0 a b1 b2 b3 N blk s _ _ _ _ _ _ _ _ _ _ rk bx r2 r3 ad n cap w hA hr har (by omega) hk h6 hI (by omega) cs hcs hcn
    refine h.mono fun _ _ h => up (M := N + n) (by omega) ?_
    unfold AS.tell at h
    simp only [if_pos h6, hcn]
    exact h
  rw [if_neg h6]
  by_cases h0 : rk = 0
  · rw [if_neg (by omega)]
    cases hs : s.ahead ⟨ek, en, e2, es, e4, e5, em, e7, e8, e9⟩ with
    | none => exact (step_ahead_no F w0 a b1 b2 b3 N blk s _ _ _ _ _ _ _ _ _ _ rk bx r2 r3 ad n cap w hA hr har (by omega) hk h6 h0 hs).mono fun _ _ h => up (M := N) (by omega) h
    | some s1 =>
      refine (step_ahead_yes F w0 a b1 b2 b3 N blk s _ _ _ _ _ _ _ _ _ _ rk bx r2 r3 ad n cap w hA hr har (by omega) hk h6 h0 s1 hs hI (by omega) cs hcs hcn).mono fun _ _ h => up (M := N + 1 + n) (by omega) ?_
      simp only [if_neg h6]
      cases hc : s1.cmds cs with
      | none => rw [hc] at h; exact h
      | some s2 => rw [hc] at h; exact h
  · rw [if_pos h0]
    exact (step_kind F w0 a b1 b2 b3 N blk s _ _ _ _ _ _ _ _ _ _ rk bx r2 r3 ad n cap w hA hr har hk h6 h0).mono fun _ _ h => up (M := N) (by omega) h
theorem Inv.cmds {l : List Cmd} : ∀ {s s' : AS} {N : Nat}, Inv s N → s.cmds l = some s' → Inv s' (N + l.length) := by
  induction l with
  | nil => intro s s' N h hc; injection hc with hc; subst hc; exact h
  | cons c r ih =>
    intro s s' N h hc
    simp only [AS.cmds] at hc
    cases hd : s.command c with
    | none => rw [hd] at hc; cases hc
    | some s1 => rw [hd] at hc; have := ih (h.command hd) hc; rw [List.length_cons]; exact this.mono (by omega)
theorem Inv.step {s s' : AS} {N : Nat} {x : Stp} (h : Inv s N) (hc : s.step x = some s') : Inv s' (N + 1 + x.cmds.length) := by
  unfold AS.step at hc
  split at hc
  · cases hc
  split at hc
  · cases hc
  split at hc
  · split at hc
    · injection hc with hc; subst hc; exact h.mono (by omega)
    · cases hc
  split at hc
  · cases hc
  next s1 h1 =>
    have hI1 : Inv s1 N := by
      split at h1
      · injection h1 with h1; subst h1; exact h
      · split at h1
        · cases h1
        · exact h.ahead h1
    split at hc
    · cases hc
    next s2 h2 =>
      have hI2 := hI1.cmds h2
      split at hc
      · exact (hI2.call hc).mono (by omega)
      · injection hc with hc; subst hc; exact hI2.mono (by omega)

/-- Which step is the first that may not be. -/
def AS.first (s : AS) : List Stp → Int → Int | [], _ => -1 | x :: r, i => match s.step x with | none => i | some s' => s'.first r (i + 1)
def AS.steps (s : AS) : List Stp → Option AS | [] => some s | x :: r => match s.step x with | none => none | some s' => s'.steps r
def AS.new : AS := ⟨[], [], [], 1⟩
def firstP (l : List Stp) : Int := AS.new.first l 0
theorem AS.steps_snoc (l : List Stp) (c : Stp) : ∀ s : AS, s.steps (l ++ [c]) = match s.steps l with | none => none | some s' => s'.step c := by
  induction l with
  | nil => intro s; simp only [List.nil_append, AS.steps]; cases s.step c <;> rfl
  | cons d r ih =>
    intro s
    simp only [List.cons_append, AS.steps]
    cases s.step d with
    | none => rfl
    | some s' => exact ih s'
theorem AS.first_all (l : List Stp) : ∀ (s s' : AS) (i : Int), s.steps l = some s' → s.first l i = -1 := by
  induction l with
  | nil => intros; rfl
  | cons d r ih =>
    intro s s' i h
    simp only [AS.steps] at h
    simp only [AS.first]
    cases hd : s.step d with
    | none => rw [hd] at h; cases h
    | some s1 => rw [hd] at h; exact ih s1 s' _ h
theorem AS.first_at (l : List Stp) (c : Stp) (r : List Stp) : ∀ (s s' : AS) (i : Int), s.steps l = some s' → s'.step c = none → s.first (l ++ c :: r) i = i + l.length := by
  induction l with
  | nil =>
    intro s s' i h hc
    injection h with h; subst h
    simp only [List.nil_append, AS.first, hc]
    simp
  | cons d q ih =>
    intro s s' i h hc
    simp only [AS.steps] at h
    simp only [List.cons_append, AS.first]
    cases hd : s.step d with
    | none => rw [hd] at h; cases h
    | some s1 => rw [hd] at h; simp only; rw [ih s1 s' _ h hc, List.length_cons]; omega
/-- Steps that lie one behind the other. -/
def At15 (w : World) (b o : Nat) (x : Stp) (v : Value) : Prop := w.cell? ⟨b, o, none⟩ = some (.int .i64 x.ev.k) ∧ w.cell? ⟨b, o + 1, none⟩ = some (.int .i64 x.ev.n) ∧ w.cell? ⟨b, o + 2, none⟩ = some (.int .i64 x.ev.limit) ∧ w.cell? ⟨b, o + 3, none⟩ = some (.int .i64 x.ev.size) ∧ w.cell? ⟨b, o + 4, none⟩ = some (.int .i64 x.ev.refill) ∧ w.cell? ⟨b, o + 5, none⟩ = some (.int .i64 x.ev.acct) ∧ w.cell? ⟨b, o + 6, none⟩ = some (.int .i64 x.ev.mem) ∧ w.cell? ⟨b, o + 7, none⟩ = some (.int .i64 x.ev.cost) ∧ w.cell? ⟨b, o + 8, none⟩ = some (.int .i64 x.ev.res) ∧ w.cell? ⟨b, o + 9, none⟩ = some (.int .i64 x.ev.keep) ∧ w.cell? ⟨b, o + 10, none⟩ = some (.int .i64 x.ans.kind) ∧ w.cell? ⟨b, o + 11, none⟩ = some (.int .i64 x.ans.box) ∧ w.cell? ⟨b, o + 12, none⟩ = some (.int .i64 x.ans.why) ∧ w.cell? ⟨b, o + 13, none⟩ = some (.int .i64 x.ans.err) ∧ w.cell? ⟨b, o + 14, none⟩ = some v
theorem At15.below {w w' : World} {b o : Nat} {x : Stp} {v : Value} (h : At15 w b o x v) (hb : w'.heap[b]? = w.heap[b]?) : At15 w' b o x v := by
  have hc : ∀ k, w'.cell? ⟨b, k, none⟩ = w.cell? ⟨b, k, none⟩ := fun k => World.cell?_of_block hb
  unfold At15 at h ⊢
  simp only [hc]
  exact h
def Stps (F : Nat → Prop) (w : World) (ad : Option Addr) (xs : List Stp) : Prop := ∀ i x, xs[i]? = some x → ∃ b off ad' cap, ad = some ⟨b, off, none⟩ ∧ b < w.heap.size ∧ ¬ F b ∧ x.cmds.length ≤ 40 ∧ Cmds F w ad' x.cmds ∧ At15 w b (off + i * 15) x (.slice ad' x.cmds.length cap)

theorem nN {i c : Nat} (h : c ≤ 40) (hi : i < 2000) : i * 41 + 1 + c ≤ 100000 := by omega
theorem nM {i c : Nat} (h : c ≤ 40) : i * 41 + 1 + c ≤ (i + 1) * 41 := by omega
theorem nD {i n : Nat} (h : i < n) : n - Int.toNat ((i + 1 : Nat) : Int) < n - Int.toNat (i : Int) := by omega
/-- The first i steps are done. -/
def Done (xs : List Stp) (w : World) (a b1 b2 b3 i : Nat) (wr : World) : Prop := ∃ s' blk', AS.new.steps (xs.take i) = some s' ∧ AWb (w.heap.size ≤ ·) w a b1 b2 b3 (i * 41) blk' s' wr ∧ Inv s' (i * 41)
theorem Done.next {xs : List Stp} {w wr : World} {a b1 b2 b3 i : Nat} {blk : Int → Nat} {s' s3 : AS} {x : Stp} {n : Nat} (hs : AS.new.steps (xs.take (i + 1)) = s'.step x) (hI : Inv s' (i * 41)) (ho : s'.step x = some s3) (hn : x.cmds.length = n) (hb : AWb (w.heap.size ≤ ·) w a b1 b2 b3 (i * 41 + 1 + n) blk s3 wr) (hc : n ≤ 40) : Done xs w a b1 b2 b3 (i + 1) wr := by
  subst hn
  exact ⟨s3, blk, hs.trans ho, hb.mono (nM hc), (hI.step ho).mono (nM hc)⟩
theorem new_aud (w : World) : AWb (w.heap.size ≤ ·) w (w.heap.size + 1 + 1 + 1) w.heap.size (w.heap.size + 1) (w.heap.size + 1 + 1) 0 (fun _ => 0) AS.new ((((w.alloc (.map #[] 0)).alloc (.map #[] 0)).alloc (.map #[] 0)).alloc (.cells #[.map (some w.heap.size), .map (some (w.heap.size + 1)), .map (some (w.heap.size + 1 + 1)), .int .i64 1] 77)) := by
  have sz : ∀ (v : World) (o : Obj), (v.alloc o).heap.size = v.heap.size + 1 := fun v o => Array.size_push ..
  have m1 := MapI.At.made (P := Try.prog) (k := 3) w
  have m2 := MapI.At.made (P := Try.prog) (k := 3) (w.alloc (.map #[] 0))
  have m3 := MapI.At.made (P := Try.prog) (k := 3) ((w.alloc (.map #[] 0)).alloc (.map #[] 0))
  have ha := Blk.new (((w.alloc (.map #[] 0)).alloc (.map #[] 0)).alloc (.map #[] 0)) 77 #[.map (some w.heap.size), .map (some (w.heap.size + 1)), .map (some (w.heap.size + 1 + 1)), .int .i64 1]
  simp only [sz] at m2 m3 ha
  refine ⟨ha, ((m1.alloc _).alloc _).alloc _, (m2.alloc _).alloc _, m3.alloc _, ?_, ?_, by omega, by omega, by omega, (((Only.refl w).alloc _).alloc _).alloc _ |>.alloc _, fun _ h => h, ⟨?_, ?_, ?_, ?_⟩, ?_, ?_, ?_, ?_⟩
  all_goals first
    | exact fun _ h => (List.not_mem_nil h).elim
    | (intro k v h; cases h)
    | (show w.heap.size ≤ _; omega)
set_option maxHeartbeats 4000000 in
set_option maxRecDepth 100000 in
theorem first_any (xs : List Stp) (ad : Option Addr) (cap : Nat) (w : World) (hx : Stps (w.heap.size ≤ ·) w ad xs) (hl : xs.length ≤ 2000) : Calls Try.prog 23 #[.slice ad xs.length cap] w (RetN (firstP xs) w) := by
  have hmm := @run_makeMap Try.prog
  obtain ⟨n, hn⟩ : ∃ n, n = xs.length := ⟨_, rfl⟩
  rw [← hn]
  have HX := Lib.hid hx
  have HL := Lib.hid hl
  have HNX := Lib.hid hn
  clear hx hl hn
  go_enter Try.func23, Try.ntmps23
  go_wp2_with fail
  clear hmm
  have st : AWb (w.heap.size ≤ ·) w (w.heap.size + 1 + 1 + 1) w.heap.size (w.heap.size + 1) (w.heap.size + 1 + 1) 0 (fun _ => 0) AS.new ((((w.alloc (.map #[] 0)).alloc (.map #[] 0)).alloc (.map #[] 0)).alloc (.cells #[.map (some w.heap.size), .map (some (w.heap.size + 1)), .map (some (w.heap.size + 1 + 1)), .int .i64 1] 77)) := new_aud w
  have ST := Lib.hid st
  clear st
  revert ST
  generalize ((((w.alloc (.map #[] 0)).alloc (.map #[] 0)).alloc (.map #[] 0)).alloc (.cells #[.map (some w.heap.size), .map (some (w.heap.size + 1)), .map (some (w.heap.size + 1 + 1)), .int .i64 1] 77)) = W
  generalize w.heap.size + 1 + 1 + 1 = a
  generalize w.heap.size + 1 + 1 = b3
  generalize w.heap.size + 1 = b2
  generalize hb1 : w.heap.size = b1
  have HB1 := Lib.hid hb1
  clear hb1
  intro ST
  go_loopw [13] (fun iv wr => ∃ i : Nat, i ≤ n ∧ iv = .int .i64 i ∧ Done xs w a b1 b2 b3 i wr) (fun iv _ => n - (intOf iv).toNat)
  case atStart => exact ⟨0, by omega, rfl, AS.new, _, rfl, by rw [HB1.out]; exact ST.out, ⟨fun _ h => (List.not_mem_nil h).elim, by decide, by decide⟩⟩
  case round =>
    obtain ⟨i, hi, rfl, s', blk', hst, hAr, hIr⟩ := hrel
    have hcn := HNX.out
    have hl := HL.out
    have hn2 : n ≤ 2000 := by omega
    by_cases hlt : i < n
    · have hil : i < xs.length := by omega
      obtain ⟨x, hx⟩ : ∃ x, x = xs[i] := ⟨_, rfl⟩
      obtain ⟨b, off, ad', cap', rfl, hb, hnf, hcl, hcs, hat⟩ := HX.out i x (by rw [List.getElem?_eq_getElem hil, hx])
      have hat2 := hat.below (hAr.below.block b hb hnf)
      unfold At15 at hat2
      obtain ⟨d0, d1, d2, d3, d4, d5, d6, d7, d8, d9, d10, d11, d12, d13, d14⟩ := hat2
      have hsn : AS.new.steps (xs.take (i + 1)) = s'.step x := by rw [List.take_succ_eq_append_getElem hil, AS.steps_snoc, hst, ← hx]
      have hsp : xs = xs.take i ++ x :: xs.drop (i + 1) := by rw [hx, List.getElem_cons_drop hil, List.take_append_drop]
      have HSP := Lib.hid hsp
      have HSN := Lib.hid hsn
      have HAr := Lib.hid hAr
      have HIr := Lib.hid hIr
      have HCS := Lib.hid hcs
      have HST := Lib.hid hst
      have HCL := Lib.hid hcl
      obtain ⟨⟨ek, en, e2, es, e4, e5, em, e7, e8, e9⟩, ⟨rk, bx, r2, r3⟩, cs⟩ := x
      simp only at d0 d1 d2 d3 d4 d5 d6 d7 d8 d9 d10 d11 d12 d13 d14
      clear hsp hsn hAr hIr hcs hst hx hb hnf hcn hat hcl hl
      go_wp2_with fail
      generalize hW : wr.alloc _ = wq
      have bq : Below wr.heap.size wr wq := by rw [← hW]; exact (Below.refl _ _).alloc (Nat.le_refl _) _
      have hAq := HAr.out.next bq
      have hN : i * 41 + 1 + cs.length ≤ 100000 := nN HCL.out (by have := HL.out; have := HNX.out; omega)
      have hcall := step_all (w.heap.size ≤ ·) w a b1 b2 b3 (i * 41) blk' s' ⟨⟨ek, en, e2, es, e4, e5, em, e7, e8, e9⟩, ⟨rk, bx, r2, r3⟩, cs⟩ ad' cs.length cap' wq hAq HIr.out hN HCS.out rfl
      have HAq := Lib.hid hAq
      have HCALL := Lib.hid hcall
      clear hW bq hAq hN hcall d0 d1 d2 d3 d4 d5 d6 d7 d8 d9 d10 d11 d12 d13 d14
      refine (HCALL.out).mono ?_
      rintro e1 w3 (⟨ho, rfl, hb3⟩ | ⟨s3, blk3, ho, rfl, hb3⟩)
      · have hres : firstP xs = (i : Int) := by
          unfold firstP
          rw [HSP.out, AS.first_at _ _ _ _ _ _ HST.out ho, List.length_take]
          omega
        have HRES := Lib.hid hres
        have HB3 := Lib.hid hb3
        clear hres hb3 ho
        go_wp2
        go_ret
        refine RetN.mk HRES.out.symm ?_
        rcases HB3.out.below with h | h
        · exact h
        · exact (Nat.lt_irrefl _ h).elim
      · have H3 := Lib.hid (Done.next HSN.out HIr.out ho rfl hb3 HCL.out)
        clear hb3 ho
        go_wp2
        go_roundw
        case rel => exact ⟨i + 1, by omega, by go_num, H3.out⟩
        case measure => simp [intOf]; omega
    · have hall : AS.new.steps xs = some s' := by rw [← hst, List.take_of_length_le (by omega)]
      have hres : firstP xs = -1 := AS.first_all _ _ _ _ hall
      have HRES := Lib.hid hres
      have HAr := Lib.hid hAr
      clear hall hAr hIr hst hcn hres hl
      go_wp2
      go_ret
      refine RetN.mk HRES.out.symm ?_
      rcases HAr.out.below.below with h | h
      · exact h
      · exact (Nat.lt_irrefl _ h).elim
end Go.Proofs.Ytopbhdpfakjkjaa.Aud
