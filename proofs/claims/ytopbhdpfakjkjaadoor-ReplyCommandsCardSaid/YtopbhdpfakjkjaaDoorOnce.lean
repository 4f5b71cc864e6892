/- Proved: reply.all().Get in a run of one goroutine: the words of kinds and reasons. -/
import Derived.Test.YtopbhdpfakjkjaaDoorOnceParts
import Derived.Handy
namespace Go.Proofs.YtopbhdpfakjkjaaDoor.Once
open Go.RowKit Go.Proofs.YtopbhdpfakjkjaaDoor.Histo
set_option linter.unusedVariables false
/-! ### the words -/
def W1 : Array Value := #[.string ⟨#[111, 107]⟩, .string ⟨#[114, 101, 102, 117, 115, 101, 100]⟩, .string ⟨#[119, 97, 114, 109]⟩, .string ⟨#[99, 111, 108, 100]⟩, .string ⟨#[116, 104, 114, 111, 116, 116, 108, 101, 100]⟩]
def W2 : Array Value := #[.string ⟨#[]⟩, .string ⟨#[102, 117, 110, 99, 116, 105, 111, 110]⟩, .string ⟨#[97, 99, 99, 111, 117, 110, 116]⟩, .string ⟨#[116, 111, 107, 101, 110, 115]⟩, .string ⟨#[114, 111, 111, 109]⟩]
theorem two_new (w : World) (o1 o2 : Obj) : Below w.heap.size w ((w.alloc o1).alloc o2) := by
  have h1 := (Below.refl w.heap.size w).alloc (Nat.le_refl _) o1
  exact h1.alloc h1.size o2
theorem two_blk (w : World) (o : Obj) (t : TypeId) (cs : Array Value) : Blk ((w.alloc o).alloc (.cells cs t)) (w.heap.size + 1) t cs := by
  have h := Blk.new (w.alloc o) t cs
  rwa [show (w.alloc o).heap.size = w.heap.size + 1 from Array.size_push ..] at h
/-- Two rows of words in new blocks. -/
def Words (w : World) (e : Ending) (w' : World) : Prop :=
  ∃ b1 b2, e = .returned (.agg #[.slice (some ⟨b1, 0, none⟩) 5 5, .slice (some ⟨b2, 0, none⟩) 5 5]) ∧ Blk w' b1 9 W1 ∧ Blk w' b2 9 W2 ∧ w.heap.size ≤ b1 ∧ w.heap.size ≤ b2 ∧ Below w.heap.size w w'
theorem blk3 (w : World) (o : Obj) (c1 c2 : Array Value) : Blk (((w.alloc o).alloc (.cells c1 9)).alloc (.cells c2 9)) (w.heap.size + 1) 9 c1 ∧ Blk (((w.alloc o).alloc (.cells c1 9)).alloc (.cells c2 9)) (w.heap.size + 1 + 1) 9 c2 := by
  have s1 : ∀ (w : World) (o : Obj), (w.alloc o).heap.size = w.heap.size + 1 := fun w o => Array.size_push ..
  constructor
  · have := (Blk.new (w.alloc o) 9 c1).alloc (.cells c2 9)
    rw [s1] at this; exact this
  · have := Blk.new ((w.alloc o).alloc (.cells c1 9)) 9 c2
    rw [s1, s1] at this; exact this
set_option maxRecDepth 100000 in
set_option maxHeartbeats 1600000 in
theorem words_any (w : World) : Calls Tryd.prog 21 #[] w (Words w) := by
  go_enter Tryd.func21, Tryd.ntmps21
  go_wp2
  go_returns
  refine ⟨_, _, rfl, ?_, ?_, ?_, ?_, ?_⟩
  · exact (blk3 w _ _ _).1
  · exact (blk3 w _ _ _).2
  · omega
  · omega
  · have h1 := (Below.refl w.heap.size w).alloc (Nat.le_refl _) (.cells #[.slice (some ⟨w.heap.size + 1, 0, none⟩) 5 5, .slice (some ⟨w.heap.size + 1 + 1, 0, none⟩) 5 5] 40)
    have h2 := h1.alloc h1.size (.cells W1 9)
    exact h2.alloc h2.size _
/-- The cells of a memo. -/
def F : Value := .func (.func 21) #[] #[]
def mem (d st md : Int) (v1 v2 : Value) : Array Value := #[.int .u32 d, .int .i32 st, .int .u32 0, F, .int .u32 md, v1, v2]
abbrev sl (b : Nat) : Value := .slice (some ⟨b, 0, none⟩) 5 5
theorem grown_set {w0 w : World} {g : Nat} (h : w0.grownBy w (some g)) (i : Nat) (u : Value) : w0.grownBy (w.setCell ⟨g, i, none⟩ u) (some g) :=
  ⟨h.os, h.tape, h.output, by simpa [World.setCell] using h.size, fun k hk hne => (Below.heap_setCell w ⟨g, i, none⟩ u k (fun e => hne (by rw [e]))).trans (h.block k hk hne)⟩
theorem grown_drew {w0 w : World} {r : Option Nat} (h : w0.grownBy w r) : w0.grownBy w.drew r := ⟨h.os, h.tape, h.output, h.size, h.block⟩
theorem grown_refl (w : World) (r : Option Nat) : w.grownBy w r := ⟨rfl, rfl, rfl, Nat.le_refl _, fun _ _ _ => rfl⟩
theorem grown_below {w0 w w' : World} {r : Option Nat} (h : w0.grownBy w r) (hb : Below w.heap.size w w') : w0.grownBy w' r :=
  ⟨hb.os.trans h.os, hb.tape.trans h.tape, hb.output.trans h.output, Nat.le_trans h.size hb.size, fun k hk hne => (hb.block k (Nat.lt_of_lt_of_le hk h.size)).trans (h.block k hk hne)⟩
/-- A memo that is made, with its two rows of words; all else that was there is as it was. -/
structure Made (g : Nat) (w0 w : World) (d st : Int) (b1 b2 : Nat) : Prop where
  m : Blk w g 63 (mem d st 1 (sl b1) (sl b2))
  r1 : Blk w b1 9 W1
  r2 : Blk w b2 9 W2
  l1 : w0.heap.size ≤ b1
  l2 : w0.heap.size ≤ b2
  ne1 : b1 ≠ g
  ne2 : b2 ≠ g
  keep : w0.grownBy w (some g)
theorem Made.turn {g : Nat} {w0 w : World} {d st : Int} {b1 b2 : Nat} (h : Made g w0 w d st b1 b2) (i : Nat) (u : Value) (d' st' : Int) (hm : (mem d st 1 (sl b1) (sl b2)).setIfInBounds i u = mem d' st' 1 (sl b1) (sl b2)) : Made g w0 (w.setCell ⟨g, i, none⟩ u) d' st' b1 b2 := by
  have := h.m.set_ i u
  rw [hm] at this
  exact ⟨this, h.r1.far (p := ⟨g, i, none⟩) h.ne1 u, h.r2.far (p := ⟨g, i, none⟩) h.ne2 u, h.l1, h.l2, h.ne1, h.ne2, grown_set h.keep i u⟩
theorem Made.drew {g : Nat} {w0 w : World} {d st : Int} {b1 b2 : Nat} (h : Made g w0 w d st b1 b2) : Made g w0 w.drew d st b1 b2 := ⟨h.m, h.r1, h.r2, h.l1, h.l2, h.ne1, h.ne2, grown_drew h.keep⟩
set_option maxRecDepth 100000 in
set_option maxHeartbeats 4000000 in
theorem clos_any (g pb : Nat) (w0 w : World) (v1 v2 : Value) (hp : w.cell? ⟨pb, 0, none⟩ = some (.pointer (some ⟨g, 0, none⟩))) (hpg : pb ≠ g) (hm : Blk w g 63 (mem 0 1 0 v1 v2)) (hk : w0.grownBy w (some g)) :
    Calls Tryd.prog 23 #[.pointer (some ⟨pb, 0, none⟩)] w fun e w' => e = .returned (.tuple #[]) ∧ ∃ b1 b2, Made g w0 w' 0 1 b1 b2 := by
  have g3 : w.cell? ⟨g, 3, none⟩ = some F := hm.cell 3
  have WA := Lib.hid (fun w => words_any w)
  have hpl : pb < w.heap.size := World.block_lt_of_cell? w _ hp
  have KS := Lib.hid (fun (w' : World) (hb : Below w.heap.size w w') => (⟨(hb.cell (p := ⟨pb, 0, none⟩) hpl).trans hp, (hb.cell (p := ⟨g, 3, none⟩) hm.lt).trans g3⟩ : w'.cell? ⟨pb, 0, none⟩ = some (.pointer (some ⟨g, 0, none⟩)) ∧ w'.cell? ⟨g, 3, none⟩ = some F))
  have KT := Lib.hid (fun (w' : World) (hb : Below w.heap.size w w') (u1 u2 : Value) => (⟨((World.cell?_of_block (w := w') (a := ⟨pb, 0, none⟩) ((Below.heap_setCell _ ⟨g, 6, none⟩ u2 pb hpg).trans (Below.heap_setCell w' ⟨g, 5, none⟩ u1 pb hpg))).trans ((hb.cell (p := ⟨pb, 0, none⟩) hpl).trans hp)), (((hm.below hb hm.lt).set_ 5 u1).set_ 6 u2).cell 3⟩ : ((w'.setCell ⟨g, 5, none⟩ u1).setCell ⟨g, 6, none⟩ u2).cell? ⟨pb, 0, none⟩ = some (.pointer (some ⟨g, 0, none⟩)) ∧ ((w'.setCell ⟨g, 5, none⟩ u1).setCell ⟨g, 6, none⟩ u2).cell? ⟨g, 3, none⟩ = some F))
  have HM := Lib.hid hm
  have HB := Lib.hid hk
  have HPG := Lib.hid hpg
  have hpg' : g ≠ pb := hpg.symm
  unfold F at g3 KS KT
  clear hm hk hpl
  go_enter Tryd.func23, Tryd.ntmps23
  go_wp2_with fail
  go_region_held3 (fun w' => w'.cell? ⟨pb, 0, none⟩ = some (.pointer (some ⟨g, 0, none⟩)) ∧ w'.cell? ⟨g, 3, none⟩ = some (.func (.func 21) #[] #[]))
    (first
      | exact KS.out _ (Below.refl _ _).drew
      | exact KS.out _ HBL.out
      | exact KT.out _ HBL.out _ _
      | go_keep)
    (first
      | (go_at_call 21; refine (WA.out _).mono ?_; rintro e w2 ⟨b1, b2, rfl, hr1, hr2, hl1, hl2, hbl⟩; have HBL := Lib.hid ((Below.refl w.heap.size w).drew.trans hbl); have c5 : w2.cell? ⟨g, 5, none⟩ = some v1 := (HM.out.below HBL.out HM.out.lt).cell 5; have c6 : w2.cell? ⟨g, 6, none⟩ = some v2 := (HM.out.below HBL.out HM.out.lt).cell 6; have f5 := (HM.out.below HBL.out HM.out.lt).frozen 5; have f6 := (HM.out.below HBL.out HM.out.lt).frozen 6))
  all_goals
    have hmm := ((HM.out.below HBL.out HM.out.lt).set_ 5 (sl b1)).set_ 6 (sl b2)
    have hbb := grown_below HB.out HBL.out
    have hpp := (KT.out _ HBL.out (sl b1) (sl b2)).1
    have hmade : Blk ((w2.setCell ⟨g, 5, none⟩ (sl b1)).setCell ⟨g, 6, none⟩ (sl b2)) g 63 (mem 0 1 0 (sl b1) (sl b2)) := hmm
    have q4 : ((w2.setCell ⟨g, 5, none⟩ (sl b1)).setCell ⟨g, 6, none⟩ (sl b2)).cell? ⟨g, 4, none⟩ = some (.int .u32 0) := hmade.cell 4
    have z4 := hmade.frozen 4
    have hne1 : b1 ≠ g := by have := HM.out.lt; have := hl1; simp at this; omega
    have hne2 : b2 ≠ g := by have := HM.out.lt; have := hl2; simp at this; omega
    have HFIN := Lib.hid (show Made g w0 (((w2.setCell ⟨g, 5, none⟩ (sl b1)).setCell ⟨g, 6, none⟩ (sl b2)).drew.setCell ⟨g, 4, none⟩ (.int .u32 1)) 0 1 b1 b2 from by
      have h4 := Blk.set_ (w := ((w2.setCell ⟨g, 5, none⟩ (sl b1)).setCell ⟨g, 6, none⟩ (sl b2)).drew) hmade 4 (.int .u32 1)
      exact ⟨h4, Blk.far (w := ((w2.setCell ⟨g, 5, none⟩ (sl b1)).setCell ⟨g, 6, none⟩ (sl b2)).drew) ((hr1.far (p := ⟨g, 5, none⟩) hne1 _).far (p := ⟨g, 6, none⟩) hne1 _) (p := ⟨g, 4, none⟩) hne1 _,
        Blk.far (w := ((w2.setCell ⟨g, 5, none⟩ (sl b1)).setCell ⟨g, 6, none⟩ (sl b2)).drew) ((hr2.far (p := ⟨g, 5, none⟩) hne2 _).far (p := ⟨g, 6, none⟩) hne2 _) (p := ⟨g, 4, none⟩) hne2 _,
        by have := HB.out.size; have := hl1; simp at this; omega, by have := HB.out.size; have := hl2; simp at this; omega, hne1, hne2,
        grown_set (w := ((w2.setCell ⟨g, 5, none⟩ (sl b1)).setCell ⟨g, 6, none⟩ (sl b2)).drew) (grown_drew (grown_set (grown_set hbb 5 _) 6 _)) 4 _⟩)
    have ST := Lib.hid (store_bool ⟨g, 4, none⟩ (.int .u32 0) _ q4 z4)
    clear hmm hbb hmade q4 z4 c5 c6 f5 f6 hr1 hr2 hl1 hl2 hbl hne1 hne2
    go_wp2_with fail
    refine (ST.out).mono ?_
    rintro e w' ⟨rfl, rfl⟩
    go_wp2
    go_returns
    exact ⟨rfl, b1, b2, HFIN.out⟩
set_option maxRecDepth 100000 in
set_option maxHeartbeats 4000000 in
theorem slow_any (g pb : Nat) (w0 w : World) (v1 v2 : Value) (hp : w.cell? ⟨pb, 0, none⟩ = some (.pointer (some ⟨g, 0, none⟩))) (hpg : pb ≠ g) (hm : Blk w g 63 (mem 0 0 0 v1 v2)) (hk : w0.grownBy w (some g)) :
    Calls Tryd.prog 29 #[.pointer (some ⟨g, 0, none⟩), .func (.func 23) #[] #[.pointer (some ⟨pb, 0, none⟩)]] w fun e w' => e = .returned (.tuple #[]) ∧ ∃ b1 b2, Made g w0 w' 1 0 b1 b2 := by
  obtain ⟨W1, hW1⟩ : ∃ W, W = w.setCell ⟨g, 1, none⟩ (.int .i32 1) := ⟨_, rfl⟩
  have b1 : Blk W1 g 63 (mem 0 1 0 v1 v2) := by rw [hW1]; exact hm.set_ 1 (.int .i32 1)
  have p1 : W1.cell? ⟨pb, 0, none⟩ = some (.pointer (some ⟨g, 0, none⟩)) := by rw [hW1]; exact (World.cell?_of_block (w := w) (a := ⟨pb, 0, none⟩) (Below.heap_setCell w ⟨g, 1, none⟩ _ pb hpg)).trans hp
  have k1 : w0.grownBy W1 (some g) := by rw [hW1]; exact grown_set hk 1 _
  have KL := lock_free ⟨g, 1, none⟩ w (hm.cell 1) (hm.frozen 1)
  rw [← hW1] at KL
  have KB := load_bool ⟨g, 0, none⟩ 0 W1 (b1.cell 0)
  have K1 := clos_any g pb w0 W1 v1 v2 p1 hpg b1 k1
  have KL := Lib.hid KL
  have KB := Lib.hid KB
  have KC := Lib.hid K1
  have hnot : ∀ (x : Bool) (w : World), (Op.unary .not (.bool x)).run Tryd.prog w = .ok (.bool (!x)) w := fun _ _ => rfl
  clear hm hp b1 p1 K1 hW1 hpg k1 hk
  go_enter_defers Tryd.func29, Tryd.ntmps29
  go_wp2_with fail
  refine (KL.out).mono ?_
  rintro e w' ⟨rfl, rfl⟩
  go_wp2_with fail
  refine (KB.out).mono ?_
  rintro e w' ⟨rfl, rfl⟩
  go_wp2_with fail
  refine (KC.out).mono ?_
  rintro e w2 ⟨rfl, b1, b2, hM⟩
  have KS := fun u => store_deferred ⟨g, 0, none⟩ (.int .u32 0) u w2 (hM.m.cell 0) (hM.m.frozen 0)
  have hM2 : Made g w0 (w2.drew.setCell ⟨g, 0, none⟩ (.int .u32 1)) 1 1 b1 b2 := hM.drew.turn 0 (.int .u32 1) 1 1 rfl
  have KU := fun u => unlock_deferred ⟨g, 1, none⟩ u (w2.drew.setCell ⟨g, 0, none⟩ (.int .u32 1)) (hM2.m.cell 1) (hM2.m.frozen 1)
  have hM3 : Made g w0 ((w2.drew.setCell ⟨g, 0, none⟩ (.int .u32 1)).setCell ⟨g, 1, none⟩ (.int .i32 0)) 1 0 b1 b2 := hM2.turn 1 (.int .i32 0) 1 0 rfl
  have KS := Lib.hid KS
  have KU := Lib.hid KU
  have HF := Lib.hid hM3
  clear hM hM2 hM3
  go_wp2
  refine leaves_cons (f := 24) (args := #[.pointer (some ⟨g, 0, none⟩), .bool true]) (by simp) (by simp [go_sem]) ?_
  refine (KS.out .returning).mono ?_
  rintro e u' w'' ⟨rfl, rfl, rfl⟩
  refine leaves_cons (f := 41) (args := #[.pointer (some ⟨g, 1, none⟩)]) (by simp [settle]) (by simp [go_sem]) ?_
  refine (KU.out _).mono ?_
  rintro e u' w'' ⟨rfl, rfl, rfl⟩
  simp [Leaves, settle, results, Tryd.results29]
  exact ⟨b1, b2, HF.out⟩
set_option maxRecDepth 100000 in
set_option maxHeartbeats 4000000 in
theorem do_first (g pb : Nat) (w0 w : World) (v1 v2 : Value) (hp : w.cell? ⟨pb, 0, none⟩ = some (.pointer (some ⟨g, 0, none⟩))) (hpg : pb ≠ g) (hm : Blk w g 63 (mem 0 0 0 v1 v2)) (hk : w0.grownBy w (some g)) :
    Calls Tryd.prog 22 #[.pointer (some ⟨g, 0, none⟩), .func (.func 23) #[] #[.pointer (some ⟨pb, 0, none⟩)]] w fun e w' => e = .returned (.tuple #[]) ∧ ∃ b1 b2, Made g w0 w' 1 0 b1 b2 := by
  have KB := Lib.hid (load_bool ⟨g, 0, none⟩ 0 w (hm.cell 0))
  have KS := Lib.hid (slow_any g pb w0 w v1 v2 hp hpg hm hk)
  have hnot : ∀ (x : Bool) (w : World), (Op.unary .not (.bool x)).run Tryd.prog w = .ok (.bool (!x)) w := fun _ _ => rfl
  clear hm hp hpg hk
  go_enter Tryd.func22, Tryd.ntmps22
  go_wp2_with fail
  refine (KB.out).mono ?_
  rintro e w' ⟨rfl, rfl⟩
  go_wp2_with fail
  refine (KS.out).mono ?_
  rintro e w' ⟨rfl, hr⟩
  have HR := Lib.hid hr
  clear hr
  go_wp2
  go_returns
  exact ⟨rfl, HR.out⟩
/-- What all().Get() tells: two rows of words in blocks of their own. -/
def Telling (B : Nat) (w0 : World) (e : Ending) (w' : World) : Prop :=
  ∃ b1 b2, e = .returned (.agg #[sl b1, sl b2]) ∧ Blk w' b1 9 W1 ∧ Blk w' b2 9 W2 ∧ B ≤ b1 ∧ B ≤ b2 ∧ Below B w0 w'
set_option maxRecDepth 100000 in
set_option maxHeartbeats 4000000 in
theorem get_first (B g : Nat) (w0 w : World) (hm : Blk w g 63 (mem 0 0 0 (.slice none 0 0) (.slice none 0 0))) (hB : B ≤ g) (hbel : Below B w0 w) (hBw : B ≤ w.heap.size) :
    Calls Tryd.prog 15 #[.pointer (some ⟨g, 0, none⟩)] w (Telling B w0) := by
  have hmf : ∀ (fn : Fn) (first cap : Array Value) (w : World), (Instr.makeFunc fn first cap).run Tryd.prog w = .ok (.func fn first cap) w := fun _ _ _ _ => rfl
  have lg := hm.lt
  have HM := Lib.hid (And.intro hm (And.intro hB (And.intro hbel hBw)))
  clear hm hB hbel hBw
  go_enter Tryd.func15, Tryd.ntmps15
  go_wp2_with fail
  have hb := two_new w (.cells #[.pointer (some ⟨g, 0, none⟩)] 41) (.cells #[.slice none 0 0, .slice none 0 0] 40)
  have hpc := (Blk.new w 41 #[.pointer (some ⟨g, 0, none⟩)]).alloc (.cells #[.slice none 0 0, .slice none 0 0] 40)
  have hrc := two_blk w (.cells #[.pointer (some ⟨g, 0, none⟩)] 41) 40 #[.slice none 0 0, .slice none 0 0]
  have hng : w.heap.size ≠ g := by omega
  have hng2 : w.heap.size + 1 ≠ g := by omega
  generalize (w.alloc _).alloc _ = W at hb hpc hrc ⊢
  obtain ⟨pb, hpb⟩ : ∃ p, p = w.heap.size := ⟨_, rfl⟩
  have hsz := hb.size
  rw [← hpb] at hpc hrc hng hng2 ⊢
  have K := do_first g pb W W (.slice none 0 0) (.slice none 0 0) (hpc.cell 0) hng (HM.out.1.below hb HM.out.1.lt) (grown_refl W _)
  have K := Lib.hid K
  have HB := Lib.hid (And.intro hb (And.intro hpb hsz))
  have HP := Lib.hid hpc
  have HR := Lib.hid hrc
  have HNG := Lib.hid (And.intro hng hng2)
  clear hb hpc hrc hng hng2 hpb hsz lg
  refine (K.out).mono ?_
  rintro e w2 ⟨rfl, b1, b2, hM⟩
  have hp2 : Blk w2 pb 41 #[.pointer (some ⟨g, 0, none⟩)] := HP.out.grown hM.keep (fun e => HNG.out.1 (by injection e))
  have hr2 : Blk w2 (pb + 1) 40 #[.slice none 0 0, .slice none 0 0] := HR.out.grown hM.keep (fun e => HNG.out.2 (by injection e))
  have c0 : w2.cell? ⟨pb, 0, none⟩ = some (.pointer (some ⟨g, 0, none⟩)) := hp2.cell 0
  have c5 : w2.cell? ⟨g, 5, none⟩ = some (.slice (some ⟨b1, 0, none⟩) 5 5) := hM.m.cell 5
  have c6 : w2.cell? ⟨g, 6, none⟩ = some (.slice (some ⟨b2, 0, none⟩) 5 5) := hM.m.cell 6
  have r0 : w2.cell? ⟨pb + 1, 0, none⟩ = some (.slice none 0 0) := hr2.cell 0
  have r1 : w2.cell? ⟨pb + 1, 1, none⟩ = some (.slice none 0 0) := hr2.cell 1
  have z0 := hr2.frozen 0
  have z1 := hr2.frozen 1
  have HFIN := Lib.hid (show Telling B w0 (.returned (.agg #[sl b1, sl b2])) ((w2.setCell ⟨pb + 1, 0, none⟩ (sl b1)).setCell ⟨pb + 1, 1, none⟩ (sl b2)) from by
    have hl := HR.out.lt
    have n1 : b1 ≠ pb + 1 := by have := hM.l1; omega
    have n2 : b2 ≠ pb + 1 := by have := hM.l2; omega
    have hs := HB.out.2.2
    have hp := HB.out.2.1
    have hB2 := HM.out.2.2.2
    refine ⟨b1, b2, rfl, (hM.r1.far (p := ⟨pb + 1, 0, none⟩) n1 _).far (p := ⟨pb + 1, 1, none⟩) n1 _, (hM.r2.far (p := ⟨pb + 1, 0, none⟩) n2 _).far (p := ⟨pb + 1, 1, none⟩) n2 _, by have := hM.l1; omega, by have := hM.l2; omega, ?_⟩
    have hbl : Below B w0 W := HM.out.2.2.1.trans (HB.out.1.mono hB2)
    have hbl2 : Below B w0 w2 := hbl.grown hM.keep (by omega) (fun k e => by injection e with e; subst e; exact HM.out.2.1)
    exact (hbl2.setCell (p := ⟨pb + 1, 0, none⟩) (show B ≤ pb + 1 by omega) _).setCell (p := ⟨pb + 1, 1, none⟩) (show B ≤ pb + 1 by omega) _)
  have q0 : (w2.setCell ⟨pb + 1, 0, none⟩ (.slice (some ⟨b1, 0, none⟩) 5 5)).cell? ⟨pb + 1, 0, none⟩ = some (.slice (some ⟨b1, 0, none⟩) 5 5) := (hr2.set_ 0 _).cell 0
  have q1 : ((w2.setCell ⟨pb + 1, 0, none⟩ (.slice (some ⟨b1, 0, none⟩) 5 5)).setCell ⟨pb + 1, 1, none⟩ (.slice (some ⟨b2, 0, none⟩) 5 5)).cell? ⟨pb + 1, 1, none⟩ = some (.slice (some ⟨b2, 0, none⟩) 5 5) := ((hr2.set_ 0 _).set_ 1 _).cell 1
  clear hp2 hr2 hM
  go_wp2
  refine bodyPost_ret (by simp [results, Tryd.results15, go_sem, q0, q1]; try rfl) rfl ?_
  obtain ⟨x1, x2, h1, h2⟩ := HFIN.out
  exact ⟨x1, x2, h1, h2⟩
end Go.Proofs.YtopbhdpfakjkjaaDoor.Once
