/- Proved: what the words of reply's answers, commands and of api's errors are, as the program makes them. -/
import Derived.Test.YtopbhdpfakjkjaaDoorOnce
import Derived.Test.YtopbhdpfakjkjaaDoorAnswer
import Derived.Test.YtopbhdpfakjkjaaDoorShelf
namespace Go.Proofs.YtopbhdpfakjkjaaDoor.Reply
open Go.RowKit Go.Proofs.YtopbhdpfakjkjaaDoor.Histo Go.Proofs.YtopbhdpfakjkjaaDoor.Event Go.Proofs.YtopbhdpfakjkjaaDoor.Once
set_option linter.unusedVariables false
def wordB (k : Int) : List UInt8 := if k = 0 then [111, 107] else if k = 1 then [97, 114, 103] else if k = 2 then [110, 111, 110, 101] else if k = 3 then [115, 116, 97, 116, 101] else if k = 4 then [113, 117, 111, 116, 97] else if k = 5 then [102, 111, 114, 109] else if k = 6 then [109, 97, 110, 121] else []
def kindB (k : Int) : List UInt8 := if k = 0 then [111, 107] else if k = 1 then [114, 101, 102, 117, 115, 101, 100] else if k = 2 then [119, 97, 114, 109] else if k = 3 then [99, 111, 108, 100] else if k = 4 then [116, 104, 114, 111, 116, 116, 108, 101, 100] else []
def whyB (k : Int) : List UInt8 := if k = 0 then [] else if k = 1 then [102, 117, 110, 99, 116, 105, 111, 110] else if k = 2 then [97, 99, 99, 111, 117, 110, 116] else if k = 3 then [116, 111, 107, 101, 110, 115] else if k = 4 then [114, 111, 111, 109] else []
/-- What the program's world holds of package-level variables that strconv and bytealg read. -/
structure GW (w : World) : Prop where
  tab : Lib.TabIs Tryd.prog w "internal/strconv.uint64pow10" .u64 Lib.pow10Tab
  max : ∃ m, w.cell? ⟨0, 0, none⟩ = some (.int .i64 m)
  syn : ∃ tp p, w.var? Tryd.prog "strconv.ErrSyntax" = some #[.iface tp p]
  rng : ∃ tp p, w.var? Tryd.prog "strconv.ErrRange" = some #[.iface tp p]
theorem var_below {P : Program} {w w' : World} {n : String} {cs : Array Value} (h : w.var? P n = some cs) (hb : Below w.heap.size w w') : w'.var? P n = some cs := by
  unfold World.var? at h ⊢
  cases hg : P.globalNamed n with
  | none => rw [hg] at h; cases h
  | some g =>
    rw [hg] at h
    simp only [Option.bind_some] at h ⊢
    have hlt : g < w.heap.size := by
      rcases Nat.lt_or_ge g w.heap.size with h' | h'
      · exact h'
      · rw [Array.getElem?_eq_none h'] at h; cases h
    rw [hb.block g hlt]; exact h
theorem GW.below {w w' : World} (h : GW w) (hb : Below w.heap.size w w') : GW w' := by
  obtain ⟨m, hm⟩ := h.max
  obtain ⟨t1, p1, h1⟩ := h.syn
  obtain ⟨t2, p2, h2⟩ := h.rng
  have hl : 0 < w.heap.size := World.block_lt_of_cell? w _ hm
  exact ⟨var_below h.tab hb, ⟨m, (hb.cell (p := ⟨0, 0, none⟩) hl).trans hm⟩, ⟨t1, p1, var_below h1 hb⟩, ⟨t2, p2, var_below h2 hb⟩⟩
/-- It returns such letters, and makes new blocks alone. -/
def RetS (l : List UInt8) (w : World) (e : Ending) (w' : World) : Prop := e = .returned (.string ⟨l.toArray⟩) ∧ Below w.heap.size w w'
theorem RetS.mk {l : List UInt8} {s : ByteArray} {w w' : World} (h : s = ⟨l.toArray⟩) (hb : Below w.heap.size w w') : RetS l w (.returned (.string s)) w' := by subst h; exact ⟨rfl, hb⟩
theorem grow_below (w : World) (k : Nat) (os : Array Obj) : Below w.heap.size w (Go.Sort.grow (w.drewN k) os) :=
  ⟨rfl, rfl, rfl, by show w.heap.size ≤ (w.heap ++ os).size; rw [Array.size_append]; omega, fun i hi => by show (w.heap ++ os)[i]? = _; rw [Array.getElem?_append_left hi]⟩
theorem itoa_any (n : Int) (w : World) (h0 : -9223372036854775808 ≤ n) (h1 : n ≤ 9223372036854775807) (hG : GW w) : Calls Tryd.prog 12 #[.int .i64 n] w (RetS (Lib.itoa n) w) :=
  (Go.Proofs.Tryd.strconv_Itoa n h0 h1 w hG.tab).mono fun e w' ⟨he, k, os, hw⟩ => ⟨he, by rw [hw]; exact grow_below w k os⟩
set_option maxHeartbeats 4000000 in
set_option maxRecDepth 100000 in
theorem word_any (e : Int) (w : World) : Calls Tryd.prog 16 #[.int .i64 e] w (RetS (wordB e) w) := by
  by_cases h0 : e = 0
  · subst h0
    go_enter Tryd.func16, Tryd.ntmps16
    go_wp2
    go_ret
    exact RetS.mk (by rfl) ((Below.refl _ _).alloc (Nat.le_refl _) _)
  by_cases h1 : e = 1
  · subst h1
    go_enter Tryd.func16, Tryd.ntmps16
    go_wp2
    go_ret
    exact RetS.mk (by rfl) ((Below.refl _ _).alloc (Nat.le_refl _) _)
  by_cases h2 : e = 2
  · subst h2
    go_enter Tryd.func16, Tryd.ntmps16
    go_wp2
    go_ret
    exact RetS.mk (by rfl) ((Below.refl _ _).alloc (Nat.le_refl _) _)
  by_cases h3 : e = 3
  · subst h3
    go_enter Tryd.func16, Tryd.ntmps16
    go_wp2
    go_ret
    exact RetS.mk (by rfl) ((Below.refl _ _).alloc (Nat.le_refl _) _)
  by_cases h4 : e = 4
  · subst h4
    go_enter Tryd.func16, Tryd.ntmps16
    go_wp2
    go_ret
    exact RetS.mk (by rfl) ((Below.refl _ _).alloc (Nat.le_refl _) _)
  by_cases h5 : e = 5
  · subst h5
    go_enter Tryd.func16, Tryd.ntmps16
    go_wp2
    go_ret
    exact RetS.mk (by rfl) ((Below.refl _ _).alloc (Nat.le_refl _) _)
  by_cases h6 : e = 6
  · subst h6
    go_enter Tryd.func16, Tryd.ntmps16
    go_wp2
    go_ret
    exact RetS.mk (by rfl) ((Below.refl _ _).alloc (Nat.le_refl _) _)
  have hw : wordB e = [] := by unfold wordB; simp [*]
  rw [hw]
  clear hw
  by_cases hn : e < 0
  · have d1 : decide (e < 0) = true := decide_eq_true hn
    clear h0 h1 h2 h3 h4 h5 h6 hn
    go_enter Tryd.func16, Tryd.ntmps16
    go_wp2
    go_ret
    exact RetS.mk (by rfl) ((Below.refl _ _).alloc (Nat.le_refl _) _)
  · have d1 : decide (e < 0) = false := decide_eq_false hn
    have d2 : decide (6 < e) = true := decide_eq_true (by omega)
    clear h0 h1 h2 h3 h4 h5 h6 hn
    go_enter Tryd.func16, Tryd.ntmps16
    go_wp2
    go_ret
    exact RetS.mk (by rfl) ((Below.refl _ _).alloc (Nat.le_refl _) _)
/-- An answer as words; nothing, if it is none. -/
def text (a : Ans) : List UInt8 := if a.right = false then [] else
  kindB a.kind ++ (if a.kind = 1 then 32 :: wordB a.err else if a.kind = 2 ∨ a.kind = 3 then 32 :: Lib.itoa a.box else if a.kind = 4 then 32 :: whyB a.why else [])
theorem told_any (w : World) : Calls Tryd.prog 14 #[] w fun e w' => e = .returned (.pointer (some ⟨w.heap.size, 0, none⟩)) ∧ w' = w.alloc (.cells (mem 0 0 0 (.slice none 0 0) (.slice none 0 0)) 63) := by
  go_enter Tryd.func14, Tryd.ntmps14
  go_wp2
  go_ret
  exact ⟨rfl, rfl⟩
theorem get_any (w : World) : Calls Tryd.prog 15 #[.pointer (some ⟨w.heap.size, 0, none⟩)] (w.alloc (.cells (mem 0 0 0 (.slice none 0 0) (.slice none 0 0)) 63)) (Telling w.heap.size w) :=
  get_first w.heap.size w.heap.size w _ (Blk.new _ _ _) (Nat.le_refl _) ((Below.refl _ _).alloc (Nat.le_refl _) _) (by rw [show (w.alloc (.cells (mem 0 0 0 (.slice none 0 0) (.slice none 0 0)) 63)).heap.size = w.heap.size + 1 from Array.size_push ..]; omega)
theorem aright_parts {a : Ans} (h : a.right = true) : a.kind = 0 ∨ (a.kind = 1 ∧ 1 ≤ a.err ∧ a.err ≤ 6) ∨ (a.kind = 2 ∧ 1 ≤ a.box ∧ a.box ≤ 2147483647) ∨ (a.kind = 3 ∧ 1 ≤ a.box ∧ a.box ≤ 2147483647) ∨ (a.kind = 4 ∧ 1 ≤ a.why ∧ a.why ≤ 4) := by
  unfold Ans.right at h
  simp only [Bool.or_eq_true, Bool.and_eq_true, beq_iff_eq, decide_eq_true_eq] at h
  omega
theorem wordB_len (r : Int) : (wordB r).length ≤ 5 := by
  unfold wordB
  repeat' split
  all_goals decide
theorem nDig_le : ∀ (k u : Nat), u < 10 ^ k → Lib.nDigits u ≤ k + 1
  | 0, u, h => by rw [Lib.nDigits_small (by omega)]; omega
  | k + 1, u, h => by
    by_cases hs : u < 10
    · rw [Lib.nDigits_small hs]; omega
    · rw [Lib.nDigits_big hs]
      have := nDig_le k (u / 10) (by rw [Nat.pow_succ] at h; omega)
      omega
theorem itoa_len (n : Int) (h0 : -9223372036854775808 ≤ n) (h1 : n ≤ 9223372036854775807) : (Lib.itoa n).length ≤ 22 := by
  have p : (10 : Nat) ^ 20 = 100000000000000000000 := by decide
  unfold Lib.itoa
  split
  · rw [List.length_cons, Lib.decDigits_length]
    have := nDig_le 20 n.natAbs (by rw [p]; omega)
    omega
  · rw [Lib.decDigits_length]
    have := nDig_le 20 n.toNat (by rw [p]; omega)
    omega
theorem bapp (p y : List UInt8) : (⟨p.toArray⟩ : ByteArray) ++ (⟨#[32]⟩ ++ ⟨y.toArray⟩) = ⟨(p ++ 32 :: y).toArray⟩ := by apply ByteArray.ext; simp [ByteArray.data_append]
set_option maxHeartbeats 4000000 in
set_option maxRecDepth 100000 in
theorem string_any (k b y r : Int) (w : World) (hG : GW w) : Calls Tryd.prog 9 #[.agg #[.int .i64 k, .int .i64 b, .int .i64 y, .int .i64 r]] w (RetS (text ⟨k, b, y, r⟩) w) := by
  have HG := Lib.hid hG
  obtain ⟨l, hl⟩ : ∃ l, l = text ⟨k, b, y, r⟩ := ⟨_, rfl⟩
  rw [← hl]
  have HL := Lib.hid hl
  clear hG hl
  go_enter Tryd.func9, Tryd.ntmps9
  go_wp2_with fail
  have hb0 := (Below.refl w.heap.size w).alloc (Nat.le_refl _) (.cells #[.int .i64 k, .int .i64 b, .int .i64 y, .int .i64 r] 26)
  have hc0 := Blk.new w 26 #[.int .i64 k, .int .i64 b, .int .i64 y, .int .i64 r]
  obtain ⟨g, hg⟩ : ∃ g, g = w.heap.size := ⟨_, rfl⟩
  rw [← hg] at hc0
  rw [← hg]
  generalize w.alloc _ = W at hb0 hc0 ⊢
  have HB0 := Lib.hid hb0
  have HC0 := Lib.hid hc0
  have HGG := Lib.hid hg
  clear hb0 hc0 hg
  refine (aright_any ⟨k, b, y, r⟩ W).mono ?_
  rintro e1 w1 ⟨rfl, hb1⟩
  have HB1 := Lib.hid (HB0.out.trans (hb1.mono HB0.out.size))
  have HC1 := Lib.hid (HC0.out.below hb1 HC0.out.lt)
  clear HB0 HC0 hb1
  cases hr : Ans.right ⟨k, b, y, r⟩ with
  | false =>
    have HT := Lib.hid (show l = [] by rw [HL.out]; unfold text; rw [if_pos hr])
    clear hr
    go_wp2
    go_ret
    exact RetS.mk (by rw [HT.out]) HB1.out
  | true =>
  have HR := Lib.hid hr
  clear hr
  go_wp2_with fail
  refine (told_any w1).mono ?_
  rintro e2 w2 ⟨rfl, rfl⟩
  go_wp2_with fail
  refine (get_any w1).mono ?_
  rintro e3 w3 ⟨b1, b2, rfl, hw1, hw2, hl1, hl2, hb3⟩
  have HB3 := Lib.hid (HB1.out.trans (hb3.mono HB1.out.size))
  have hc3 := HC1.out.below hb3 HC1.out.lt
  have c0 : w3.cell? ⟨g, 0, none⟩ = some (.int .i64 k) := hc3.cell 0
  have c1 : w3.cell? ⟨g, 1, none⟩ = some (.int .i64 b) := hc3.cell 1
  have c2 : w3.cell? ⟨g, 2, none⟩ = some (.int .i64 y) := hc3.cell 2
  have c3 : w3.cell? ⟨g, 3, none⟩ = some (.int .i64 r) := hc3.cell 3
  have HC3 := Lib.hid hc3
  have HW1 := Lib.hid hw1
  have HW2 := Lib.hid hw2
  clear hc3 hw1 hw2 hl1 hl2 hb3
  have h4 := (Below.refl w3.heap.size w3).alloc (Nat.le_refl _) (.cells #[.slice (some ⟨b1, 0, none⟩) 5 5, .slice (some ⟨b2, 0, none⟩) 5 5] 40)
  have HB4 := Lib.hid (HB3.out.trans (h4.mono HB3.out.size))
  have HG4 := Lib.hid (HG.out.below HB4.out)
  have d0 : (w3.alloc (.cells #[.slice (some ⟨b1, 0, none⟩) 5 5, .slice (some ⟨b2, 0, none⟩) 5 5] 40)).cell? ⟨g, 0, none⟩ = some (.int .i64 k) := (HC3.out.below h4 HC3.out.lt).cell 0
  have d1 : (w3.alloc (.cells #[.slice (some ⟨b1, 0, none⟩) 5 5, .slice (some ⟨b2, 0, none⟩) 5 5] 40)).cell? ⟨g, 1, none⟩ = some (.int .i64 b) := (HC3.out.below h4 HC3.out.lt).cell 1
  have d2 : (w3.alloc (.cells #[.slice (some ⟨b1, 0, none⟩) 5 5, .slice (some ⟨b2, 0, none⟩) 5 5] 40)).cell? ⟨g, 2, none⟩ = some (.int .i64 y) := (HC3.out.below h4 HC3.out.lt).cell 2
  have d3 : (w3.alloc (.cells #[.slice (some ⟨b1, 0, none⟩) 5 5, .slice (some ⟨b2, 0, none⟩) 5 5] 40)).cell? ⟨g, 3, none⟩ = some (.int .i64 r) := (HC3.out.below h4 HC3.out.lt).cell 3
  have hrk := aright_parts HR.out
  have HH4 := Lib.hid h4
  clear h4 c0 c1 c2 c3
  rcases hrk with hk | ⟨hk, h1, h2⟩ | ⟨hk, h1, h2⟩ | ⟨hk, h1, h2⟩ | ⟨hk, h1, h2⟩
  · have hk : k = 0 := hk
    subst hk
    have e1 : (w3.alloc (.cells #[.slice (some ⟨b1, 0, none⟩) 5 5, .slice (some ⟨b2, 0, none⟩) 5 5] 40)).cell? ⟨b1, 0, none⟩ = some (.string ⟨#[111, 107]⟩) := (HW1.out.below HH4.out HW1.out.lt).cell 0
    have HT := Lib.hid (show l = [111, 107] by rw [HL.out]; unfold text; rw [if_neg (by rw [HR.out]; decide)]; rfl)
    go_wp2
    go_ret
    exact RetS.mk (by rw [HT.out]) HB4.out
  · have hk : k = 1 := hk
    subst hk
    have e1 : (w3.alloc (.cells #[.slice (some ⟨b1, 0, none⟩) 5 5, .slice (some ⟨b2, 0, none⟩) 5 5] 40)).cell? ⟨b1, 1, none⟩ = some (.string ⟨#[114, 101, 102, 117, 115, 101, 100]⟩) := (HW1.out.below HH4.out HW1.out.lt).cell 1
    have HT := Lib.hid (show l = [114, 101, 102, 117, 115, 101, 100] ++ 32 :: wordB r by rw [HL.out]; unfold text; rw [if_neg (by rw [HR.out]; decide)]; rfl)
    have n0 := wordB_len r
    have n1 : ¬ 9223372036854775807 < 1 + (wordB r).length := by omega
    have n2 : ¬ 9223372036854775807 < 7 + (1 + (wordB r).length) := by omega
    clear h1 h2 n0
    go_wp2_with fail
    refine (word_any r _).mono ?_
    rintro e5 w5 ⟨rfl, hb5⟩
    have HB5 := Lib.hid (HB4.out.trans (hb5.mono HB4.out.size))
    clear hb5
    go_wp2
    go_ret
    exact RetS.mk (by rw [HT.out]; exact bapp [114, 101, 102, 117, 115, 101, 100] _) HB5.out
  · have hk : k = 2 := hk
    subst hk
    have e1 : (w3.alloc (.cells #[.slice (some ⟨b1, 0, none⟩) 5 5, .slice (some ⟨b2, 0, none⟩) 5 5] 40)).cell? ⟨b1, 2, none⟩ = some (.string ⟨#[119, 97, 114, 109]⟩) := (HW1.out.below HH4.out HW1.out.lt).cell 2
    have HT := Lib.hid (show l = [119, 97, 114, 109] ++ 32 :: Lib.itoa b by rw [HL.out]; unfold text; rw [if_neg (by rw [HR.out]; decide)]; rfl)
    have HH := Lib.hid (And.intro h1 h2)
    have n0 := itoa_len b (by have : 1 ≤ b := h1; omega) (by have : b ≤ 2147483647 := h2; omega)
    have n1 : ¬ 9223372036854775807 < 1 + (Lib.itoa b).length := by omega
    have n2 : ¬ 9223372036854775807 < 4 + (1 + (Lib.itoa b).length) := by omega
    clear h1 h2 n0
    go_wp2_with fail
    refine (itoa_any b _ (by have : 1 ≤ b := HH.out.1; omega) (by have : b ≤ 2147483647 := HH.out.2; omega) HG4.out).mono ?_
    rintro e5 w5 ⟨rfl, hb5⟩
    have HB5 := Lib.hid (HB4.out.trans (hb5.mono HB4.out.size))
    clear hb5
    go_wp2
    go_ret
    exact RetS.mk (by rw [HT.out]; exact bapp [119, 97, 114, 109] _) HB5.out
  · have hk : k = 3 := hk
    subst hk
    have e1 : (w3.alloc (.cells #[.slice (some ⟨b1, 0, none⟩) 5 5, .slice (some ⟨b2, 0, none⟩) 5 5] 40)).cell? ⟨b1, 3, none⟩ = some (.string ⟨#[99, 111, 108, 100]⟩) := (HW1.out.below HH4.out HW1.out.lt).cell 3
    have HT := Lib.hid (show l = [99, 111, 108, 100] ++ 32 :: Lib.itoa b by rw [HL.out]; unfold text; rw [if_neg (by rw [HR.out]; decide)]; rfl)
    have HH := Lib.hid (And.intro h1 h2)
    have n0 := itoa_len b (by have : 1 ≤ b := h1; omega) (by have : b ≤ 2147483647 := h2; omega)
    have n1 : ¬ 9223372036854775807 < 1 + (Lib.itoa b).length := by omega
    have n2 : ¬ 9223372036854775807 < 4 + (1 + (Lib.itoa b).length) := by omega
    clear h1 h2 n0
    go_wp2_with fail
    refine (itoa_any b _ (by have : 1 ≤ b := HH.out.1; omega) (by have : b ≤ 2147483647 := HH.out.2; omega) HG4.out).mono ?_
    rintro e5 w5 ⟨rfl, hb5⟩
    have HB5 := Lib.hid (HB4.out.trans (hb5.mono HB4.out.size))
    clear hb5
    go_wp2
    go_ret
    exact RetS.mk (by rw [HT.out]; exact bapp [99, 111, 108, 100] _) HB5.out
  · have hk : k = 4 := hk
    subst hk
    have e1 : (w3.alloc (.cells #[.slice (some ⟨b1, 0, none⟩) 5 5, .slice (some ⟨b2, 0, none⟩) 5 5] 40)).cell? ⟨b1, 4, none⟩ = some (.string ⟨#[116, 104, 114, 111, 116, 116, 108, 101, 100]⟩) := (HW1.out.below HH4.out HW1.out.lt).cell 4
    have hy : y = 1 ∨ y = 2 ∨ y = 3 ∨ y = 4 := by simp only at h1 h2; omega
    clear h1 h2
    rcases hy with hy | hy | hy | hy
    · subst hy
      have e2 : (w3.alloc (.cells #[.slice (some ⟨b1, 0, none⟩) 5 5, .slice (some ⟨b2, 0, none⟩) 5 5] 40)).cell? ⟨b2, 1, none⟩ = some (.string ⟨#[102, 117, 110, 99, 116, 105, 111, 110]⟩) := (HW2.out.below HH4.out HW2.out.lt).cell 1
      have HT := Lib.hid (show l = [116, 104, 114, 111, 116, 116, 108, 101, 100, 32, 102, 117, 110, 99, 116, 105, 111, 110] by rw [HL.out]; unfold text; rw [if_neg (by rw [HR.out]; decide)]; rfl)
      go_wp2
      go_ret
      exact RetS.mk (by rw [HT.out]; rfl) HB4.out
    · subst hy
      have e2 : (w3.alloc (.cells #[.slice (some ⟨b1, 0, none⟩) 5 5, .slice (some ⟨b2, 0, none⟩) 5 5] 40)).cell? ⟨b2, 2, none⟩ = some (.string ⟨#[97, 99, 99, 111, 117, 110, 116]⟩) := (HW2.out.below HH4.out HW2.out.lt).cell 2
      have HT := Lib.hid (show l = [116, 104, 114, 111, 116, 116, 108, 101, 100, 32, 97, 99, 99, 111, 117, 110, 116] by rw [HL.out]; unfold text; rw [if_neg (by rw [HR.out]; decide)]; rfl)
      go_wp2
      go_ret
      exact RetS.mk (by rw [HT.out]; rfl) HB4.out
    · subst hy
      have e2 : (w3.alloc (.cells #[.slice (some ⟨b1, 0, none⟩) 5 5, .slice (some ⟨b2, 0, none⟩) 5 5] 40)).cell? ⟨b2, 3, none⟩ = some (.string ⟨#[116, 111, 107, 101, 110, 115]⟩) := (HW2.out.below HH4.out HW2.out.lt).cell 3
      have HT := Lib.hid (show l = [116, 104, 114, 111, 116, 116, 108, 101, 100, 32, 116, 111, 107, 101, 110, 115] by rw [HL.out]; unfold text; rw [if_neg (by rw [HR.out]; decide)]; rfl)
      go_wp2
      go_ret
      exact RetS.mk (by rw [HT.out]; rfl) HB4.out
    · subst hy
      have e2 : (w3.alloc (.cells #[.slice (some ⟨b1, 0, none⟩) 5 5, .slice (some ⟨b2, 0, none⟩) 5 5] 40)).cell? ⟨b2, 4, none⟩ = some (.string ⟨#[114, 111, 111, 109]⟩) := (HW2.out.below HH4.out HW2.out.lt).cell 4
      have HT := Lib.hid (show l = [116, 104, 114, 111, 116, 116, 108, 101, 100, 32, 114, 111, 111, 109] by rw [HL.out]; unfold text; rw [if_neg (by rw [HR.out]; decide)]; rfl)
      go_wp2
      go_ret
      exact RetS.mk (by rw [HT.out]; rfl) HB4.out
end Go.Proofs.YtopbhdpfakjkjaaDoor.Reply
