/- Plain: what a heap holds behind a set, a drop: its items in another order. -/
import Derived.Test.YtjmdgicdpggljaaGreatM15
import Derived.Test.YtjmdgicdpggljaaGreatM14
import Derived.Test.YtjmdgicdpggljaaGreatM21
import Derived.Test.YtjmdgicdpggljaaGreatM26
set_option linter.all false
namespace Go.Proofs.YtjmdgicdpggljaaGreat.GH
set_option linter.unusedVariables false
section
variable {K V : Type} [DecidableEq K] [Inhabited K] [Inhabited V]
theorem hup_perm (lt : V → V → Bool) : ∀ (n : Nat) (xs : HL K V) (i : Nat), i < xs.length → (hup lt n xs i).1.Perm xs ∧ (hup lt n xs i).2 < xs.length
  | 0, xs, i, hi => ⟨List.Perm.refl _, hi⟩
  | n + 1, xs, i, hi => by
    unfold hup
    split
    · have hp := hswap_perm (xs := xs) (i := i) (j := (i - 1) / 2) hi (by omega)
      obtain ⟨h1, h2⟩ := hup_perm lt n (hswap xs i ((i - 1) / 2)) ((i - 1) / 2) (by rw [hswap_len]; omega)
      exact ⟨h1.trans hp, by rw [hswap_len] at h2; exact h2⟩
    · exact ⟨List.Perm.refl _, hi⟩
omit [DecidableEq K] in
theorem hpick_lt' (lt : V → V → Bool) (xs : HL K V) (m c : Nat) (h : m < xs.length) : hpick lt xs m c < xs.length := by unfold hpick; split <;> omega
omit [DecidableEq K] in
theorem hleast_lt' (lt : V → V → Bool) (xs : HL K V) (i : Nat) (h : i < xs.length) : hleast lt xs i < xs.length := by
  unfold hleast
  exact hpick_lt' _ _ _ _ (hpick_lt' _ _ _ _ h)
theorem hdown_perm (lt : V → V → Bool) : ∀ (n : Nat) (xs : HL K V) (i : Nat), i < xs.length → (hdown lt n xs i).Perm xs
  | 0, xs, i, _ => List.Perm.refl _
  | n + 1, xs, i, hi => by
    unfold hdown
    split
    · exact List.Perm.refl _
    · have hj := hleast_lt' lt xs i hi
      exact (hdown_perm lt n _ _ (by rw [hswap_len]; exact hj)).trans (hswap_perm hi hj)
theorem hfix_perm (lt : V → V → Bool) (xs : HL K V) (i : Nat) (h : i < xs.length) : (hfix lt xs i).Perm xs := by
  unfold hfix
  obtain ⟨h1, h2⟩ := hup_perm lt i xs i h
  split
  · exact (hdown_perm lt _ _ _ (by rw [h1.length_eq]; exact h)).trans h1
  · exact h1
theorem hcut_perm (xs : HL K V) (i : Nat) (h : i < xs.length) : (hcut xs i ++ [(hkey xs i, hval xs i)]).Perm xs := by
  unfold hcut
  have hp := hswap_perm (xs := xs) (i := i) (j := xs.length - 1) h (by omega)
  refine List.Perm.trans ?_ hp
  have hl := hswap_len xs i (xs.length - 1)
  have hlast : (hswap xs i (xs.length - 1))[xs.length - 1]? = some (hkey xs i, hval xs i) := by
    rw [hswap_get h (by omega), if_pos rfl]
    exact hget_pair h
  have e : (hswap xs i (xs.length - 1)).take (xs.length - 1) ++ [(hkey xs i, hval xs i)] = hswap xs i (xs.length - 1) := by
    have h2 : (hswap xs i (xs.length - 1)).take (xs.length - 1 + 1) = hswap xs i (xs.length - 1) := List.take_of_length_le (by rw [hl]; omega)
    rw [List.take_add_one, hlast] at h2
    exact h2
  rw [e]
/-- What a drop leaves. -/
theorem hdrop_mem (lt : V → V → Bool) {xs : HL K V} (hn : (xs.map (·.1)).Nodup) (k : K) : ((hdrop lt xs k).map (·.1)).Nodup ∧ ∀ p, p ∈ hdrop lt xs k ↔ p ∈ xs ∧ p.1 ≠ k := by
  unfold hdrop
  cases hi : hidx xs k with
  | none =>
    have := hidx_none.1 hi
    exact ⟨hn, fun p => ⟨fun h => ⟨h, this p h⟩, fun h => h.1⟩⟩
  | some i =>
    obtain ⟨h1, h2⟩ := (hidx_some hn).1 hi
    have hc := hcut_perm xs i h1
    have hres : (if i < xs.length - 1 then hfix lt (hcut xs i) i else hcut xs i).Perm (hcut xs i) := by
      split
      · next hlt =>
        refine hfix_perm lt _ _ ?_
        have := hc.length_eq
        rw [List.length_append] at this
        simp at this
        omega
      · exact List.Perm.refl _
    have hnd : ((hcut xs i ++ [(hkey xs i, hval xs i)]).map (·.1)).Nodup := (hc.map (·.1)).nodup_iff.2 hn
    rw [List.map_append] at hnd
    have hnd2 := List.nodup_append.1 hnd
    simp only
    refine ⟨(hres.map (·.1)).nodup_iff.2 hnd2.1, fun p => ?_⟩
    rw [hres.mem_iff]
    have hm : p ∈ xs ↔ p ∈ hcut xs i ∨ p = (hkey xs i, hval xs i) := by
      rw [← hc.mem_iff]
      simp
    constructor
    · intro hp
      refine ⟨hm.2 (.inl hp), fun e => ?_⟩
      exact hnd2.2.2 p.1 (List.mem_map.2 ⟨p, hp, rfl⟩) (hkey xs i) (by simp) (by rw [e, h2])
    · rintro ⟨hp, hne⟩
      rcases hm.1 hp with h | h
      · exact h
      · exact absurd (by rw [h]; exact h2) hne
theorem hdrop_perm (lt : V → V → Bool) {xs : HL K V} (hn : (xs.map (·.1)).Nodup) {k : K} {i : Nat} (hi : hidx xs k = some i) : (hdrop lt xs k ++ [(k, hval xs i)]).Perm xs := by
  obtain ⟨h1, h2⟩ := (hidx_some hn).1 hi
  have hc := hcut_perm xs i h1
  rw [h2] at hc
  unfold hdrop
  rw [hi]
  simp only
  split
  · next hlt =>
    have hl : i < (hcut xs i).length := by
      have := hc.length_eq
      rw [List.length_append] at this
      simp at this
      omega
    exact ((hfix_perm lt _ _ hl).append_right _).trans hc
  · exact hc
theorem hdrop_filter (lt : V → V → Bool) {xs : HL K V} (hn : (xs.map (·.1)).Nodup) (k : K) (q : K × V → Bool) : ((hdrop lt xs k).filter q).length ≤ (xs.filter q).length := by
  cases hi : hidx xs k with
  | none =>
    unfold hdrop
    rw [hi]
    exact Nat.le_refl _
  | some i =>
    have hp := (hdrop_perm lt hn hi).filter q
    have := hp.length_eq
    rw [List.filter_append, List.length_append] at this
    omega
/-- What a set leaves. -/
theorem hset_mem (lt : V → V → Bool) {xs : HL K V} (hn : (xs.map (·.1)).Nodup) (k : K) (v : V) : ((hset lt xs k v).map (·.1)).Nodup ∧ ∀ p, p ∈ hset lt xs k v ↔ p = (k, v) ∨ (p ∈ xs ∧ p.1 ≠ k) := by
  unfold hset
  cases hi : hidx xs k with
  | none =>
    have hno := hidx_none.1 hi
    have hp := hfix_perm lt (xs ++ [(k, v)]) xs.length (by rw [List.length_append]; simp)
    simp only
    refine ⟨(hp.map (·.1)).nodup_iff.2 ?_, fun p => ?_⟩
    · rw [List.map_append]
      refine List.nodup_append.2 ⟨hn, by simp, fun a ha b hb => ?_⟩
      simp at hb
      subst hb
      obtain ⟨q, hq, rfl⟩ := List.mem_map.1 ha
      exact hno q hq
    · rw [hp.mem_iff]
      simp only [List.mem_append, List.mem_singleton]
      constructor
      · rintro (h | h)
        · exact .inr ⟨h, hno p h⟩
        · exact .inl h
      · rintro (h | h)
        · exact .inr h
        · exact .inl h.1
  | some i =>
    obtain ⟨h1, h2⟩ := (hidx_some hn).1 hi
    simp only
    have hp := hfix_perm lt (xs.set i (hkey xs i, v)) i (by rw [List.length_set]; exact h1)
    have hk : xs[i]? = some (hkey xs i, hval xs i) := hget_pair h1
    have hmap : (xs.set i (hkey xs i, v)).map (·.1) = xs.map (·.1) := by
      rw [List.map_set]
      refine List.ext_getElem? fun j => ?_
      rw [List.getElem?_set]
      split
      · next e =>
        subst e
        rw [List.getElem?_map, hk]
        simp [h1]
      · rfl
    refine ⟨(hp.map (·.1)).nodup_iff.2 (by rw [hmap]; exact hn), fun p => ?_⟩
    rw [hp.mem_iff]
    constructor
    · intro hm
      obtain ⟨j, hj⟩ := List.mem_iff_getElem?.1 hm
      rw [List.getElem?_set] at hj
      by_cases e : i = j
      · rw [if_pos e, if_pos h1] at hj
        cases hj
        exact .inl (by rw [h2])
      · rw [if_neg e] at hj
        have hpm : p ∈ xs := List.mem_iff_getElem?.2 ⟨j, hj⟩
        refine .inr ⟨hpm, fun he => ?_⟩
        have hjl : j < xs.length := by
          rcases Nat.lt_or_ge j xs.length with h | h
          · exact h
          · rw [List.getElem?_eq_none h] at hj; cases hj
        have : hidx xs k = some j := (hidx_some hn).2 ⟨hjl, by rw [← he]; unfold hkey; rw [List.getD_eq_getElem?_getD, hj]; rfl⟩
        rw [hi] at this
        injection this with this
        exact e this
    · rintro (rfl | ⟨hm, hne⟩)
      · refine List.mem_iff_getElem?.2 ⟨i, ?_⟩
        rw [List.getElem?_set, if_pos rfl]
        first | rw [if_pos h1, h2] | (simp only [h1, if_true, h2])
      · obtain ⟨j, hj⟩ := List.mem_iff_getElem?.1 hm
        refine List.mem_iff_getElem?.2 ⟨j, ?_⟩
        rw [List.getElem?_set, if_neg ?_]
        · exact hj
        · rintro rfl
          rw [hk] at hj
          cases hj
          exact hne h2
end

end Go.Proofs.YtjmdgicdpggljaaGreat.GH

/- Plain: sums over the sandboxes; how many numbers may be different. -/
namespace Go.Proofs.YtjmdgicdpggljaaGreat.GH
set_option linter.unusedVariables false
namespace FM
variable {α : Type}
theorem ins_perm (p : Int × α) : ∀ l : FM α, (ins p l).Perm (p :: l)
  | [] => List.Perm.refl _
  | q :: r => by
    unfold ins
    split
    · exact List.Perm.refl _
    · exact ((ins_perm p r).cons q).trans (List.Perm.swap p q r)
theorem put_perm (l : FM α) (k : Int) (a : α) : (put l k a).Perm ((k, a) :: del l k) := ins_perm _ _
theorem del_none {l : FM α} {k : Int} (h : get l k = none) : del l k = l := by
  unfold del
  refine List.filter_eq_self.2 fun p hp => ?_
  simp only [bne_iff_ne, ne_eq]
  intro e
  unfold get at h
  rw [Option.map_eq_none_iff, List.find?_eq_none] at h
  exact h p hp (by simpa using e)
theorem del_perm : ∀ {l : FM α} (_ : Sorted l) {k : Int} {a : α}, get l k = some a → l.Perm ((k, a) :: del l k)
  | [], _, k, a, h => by cases h
  | p :: r, hs, k, a, h => by
    have hs2 : (∀ q ∈ r, p.1 < q.1) ∧ Sorted r := List.pairwise_cons.1 hs
    rw [get_cons] at h
    by_cases e : p.1 = k
    · rw [if_pos e] at h
      cases h
      have : del (p :: r) k = r := by
        unfold del
        rw [List.filter_cons_of_neg (by simp [e])]
        refine List.filter_eq_self.2 fun q hq => ?_
        have := hs2.1 q hq
        simp only [bne_iff_ne, ne_eq]
        omega
      rw [this, ← e]
    · rw [if_neg e] at h
      have ih := del_perm hs2.2 h
      have : del (p :: r) k = p :: del r k := by
        unfold del
        rw [List.filter_cons_of_pos (by simp [e])]
      rw [this]
      exact (ih.cons p).trans (List.Perm.swap _ _ _)
end FM
/-- The memory of the sandboxes of which something holds. -/
def sumIf (q : Box → Bool) : FM Box → Int
  | [] => 0
  | x :: r => (if q x.2 = true then x.2.mem else 0) + sumIf q r
theorem sumIf_perm {q : Box → Bool} {l l' : FM Box} (h : l.Perm l') : sumIf q l = sumIf q l' := by
  induction h with
  | nil => rfl
  | cons x _ ih => unfold sumIf; rw [ih]
  | swap x y r => simp only [sumIf]; omega
  | trans _ _ h1 h2 => rw [h1, h2]
theorem sumIf_cons (q : Box → Bool) (x : Int × Box) (r : FM Box) : sumIf q (x :: r) = (if q x.2 = true then x.2.mem else 0) + sumIf q r := rfl
theorem sumIf_del {q : Box → Bool} {l : FM Box} (hs : FM.Sorted l) {k : Int} {b : Box} (h : FM.get l k = some b) : sumIf q l = (if q b = true then b.mem else 0) + sumIf q (FM.del l k) := by
  rw [sumIf_perm (FM.del_perm hs h), sumIf_cons]
theorem sumIf_put {q : Box → Bool} (l : FM Box) (k : Int) (b : Box) : sumIf q (FM.put l k b) = (if q b = true then b.mem else 0) + sumIf q (FM.del l k) := by
  rw [sumIf_perm (FM.put_perm l k b), sumIf_cons]
theorem sumIf_new {q : Box → Bool} {l : FM Box} {k : Int} (h : FM.get l k = none) (b : Box) : sumIf q (FM.put l k b) = (if q b = true then b.mem else 0) + sumIf q l := by
  rw [sumIf_put, FM.del_none h]
theorem sumIf_nonneg {q : Box → Bool} : ∀ {l : FM Box}, (∀ x ∈ l, 0 ≤ x.2.mem) → 0 ≤ sumIf q l
  | [], _ => Int.le_refl 0
  | x :: r, h => by
    have h1 := h x List.mem_cons_self
    have h2 := sumIf_nonneg (q := q) (l := r) fun y hy => h y (List.mem_cons_of_mem _ hy)
    unfold sumIf
    split <;> omega
theorem sumIf_pos {q : Box → Bool} : ∀ {l : FM Box}, 0 < sumIf q l → ∃ x ∈ l, q x.2 = true
  | [], h => by simp [sumIf] at h
  | x :: r, h => by
    by_cases e : q x.2 = true
    · exact ⟨x, List.mem_cons_self, e⟩
    · unfold sumIf at h
      rw [if_neg e] at h
      obtain ⟨y, hy, h2⟩ := sumIf_pos (q := q) (l := r) (by omega)
      exact ⟨y, List.mem_cons_of_mem _ hy, h2⟩
theorem sumIf_le {q : Box → Bool} : ∀ {l : FM Box}, (∀ x ∈ l, 0 ≤ x.2.mem) → ∀ {x : Int × Box}, x ∈ l → q x.2 = true → x.2.mem ≤ sumIf q l
  | [], _, _, hx, _ => by cases hx
  | y :: r, h, x, hx, e => by
    have h2 := sumIf_nonneg (q := q) (l := r) fun y hy => h y (List.mem_cons_of_mem _ hy)
    have h1 := h y List.mem_cons_self
    unfold sumIf
    rcases List.mem_cons.1 hx with rfl | hx
    · rw [if_pos e]; omega
    · have := sumIf_le (l := r) (fun y hy => h y (List.mem_cons_of_mem _ hy)) hx e
      split <;> omega
theorem idles_eq (s : Core) (h : Int) : s.idles h = sumIf (fun b => b.host == h && b.idle && !b.pinned) s.boxes := by
  unfold Core.idles
  generalize s.boxes = l
  induction l with
  | nil => rfl
  | cons x r ih =>
    unfold sumIf
    rw [List.filter_cons]
    split
    · rw [List.map_cons, List.sum_cons, ih]
    · rw [ih]; omega
/-- As many different numbers as may be. -/
theorem nodup_len : ∀ (n : Nat) (l : List Int), l.Nodup → (∀ x ∈ l, 0 ≤ x ∧ x < n) → l.length ≤ n
  | 0, l, _, h => by
    cases l with
    | nil => exact Nat.le_refl 0
    | cons x r => have := h x List.mem_cons_self; omega
  | n + 1, l, hn, h => by
    have ih := nodup_len n (l.erase (n : Int)) (hn.erase _) fun x hx => by
      have h1 := (hn.mem_erase_iff).1 hx
      have h2 := h x h1.2
      have h3 := h1.1
      omega
    by_cases e : (n : Int) ∈ l
    · rw [List.length_erase_of_mem e] at ih
      omega
    · rw [List.erase_of_not_mem e] at ih
      omega
theorem boxes_len {l : FM Box} (hs : FM.Sorted l) {n : Int} (h : ∀ id b, FM.get l id = some b → 1 ≤ id ∧ id < n) : (l.length : Int) ≤ max n 0 := by
  have := FM.length_le (n := n.toNat) hs (fun p hp => by have := h p.1 p.2 (FM.get_of_mem hs hp); omega)
  omega
end Go.Proofs.YtjmdgicdpggljaaGreat.GH

/- Plain: what is true of a core's state at all times, and that its steps keep it. -/
namespace Go.Proofs.YtjmdgicdpggljaaGreat.GH
open Go.Proofs.YtjmdgicdpggljaaGreat.Policy (Win win)
set_option linter.unusedVariables false

/-! ### hosts -/
structure HI (hs : Hosts) (u : Int → Int) : Prop where
  len : hs.length = 32
  used : ∀ h, 0 ≤ h → h < 32 → (hs.at_ h).used = u h
  off : ∀ m ∈ hs, m.there = false → m.used = 0
section
variable {hs : Hosts} {u u' : Int → Int} {h k mem : Int}
theorem HI.congr (H : HI hs u) (e : ∀ h, 0 ≤ h → h < 32 → u' h = u h) : HI hs u' := ⟨H.len, fun h h0 h1 => (H.used h h0 h1).trans (e h h0 h1).symm, H.off⟩
theorem at_mem (hl : hs.length = 32) (h0 : 0 ≤ h) (h1 : h < 32) : hs.at_ h ∈ hs := by
  unfold Hosts.at_
  rw [List.getD_eq_getElem?_getD, List.getElem?_eq_getElem (by omega)]
  exact List.getElem_mem _
theorem at_put (hl : hs.length = 32) (h0 : 0 ≤ h) (h1 : h < 32) (k0 : 0 ≤ k) (m : Mach) : (hs.put h m).at_ k = if k = h then m else hs.at_ k := by
  unfold Hosts.at_ Hosts.put
  rw [List.getD_eq_getElem?_getD, List.getElem?_set, List.getD_eq_getElem?_getD]
  by_cases e : k = h
  · subst e; rw [if_pos rfl, if_pos rfl, if_pos (by omega)]; rfl
  · rw [if_neg (by omega), if_neg e]
theorem put_len (m : Mach) : (hs.put h m).length = hs.length := by unfold Hosts.put; rw [List.length_set]
theorem put_mem {m x : Mach} (hx : x ∈ hs.put h m) : x = m ∨ x ∈ hs := by
  unfold Hosts.put at hx
  rcases List.mem_or_eq_of_mem_set hx with h | h
  · exact .inr h
  · exact .inl h
theorem HI.put (H : HI hs u) (h0 : 0 ≤ h) (h1 : h < 32) (m : Mach) (hm : m.there = false → m.used = 0) : HI (hs.put h m) (fun k => if k = h then m.used else u k) := by
  refine ⟨by rw [put_len]; exact H.len, fun k k0 k1 => ?_, fun x hx ht => ?_⟩
  · rw [at_put H.len h0 h1 k0]
    show (if k = h then m else hs.at_ k).used = if k = h then m.used else u k
    split
    · rfl
    · exact H.used k k0 k1
  · rcases put_mem hx with rfl | hx
    · exact hm ht
    · exact H.off x hx ht
theorem HI.sweep (H : HI hs u) (h0 : 0 ≤ h) (h1 : h < 32) : HI (hs.sweep h) u := by
  unfold Hosts.sweep
  split
  · next e =>
    refine (H.put h0 h1 Mach.none (fun _ => rfl)).congr fun k k0 k1 => ?_
    show u k = if k = h then Mach.none.used else u k
    split
    · next e2 => rw [e2, ← H.used h h0 h1, e.2]; rfl
    · rfl
  · exact H
theorem HI.there (H : HI hs u) (h0 : 0 ≤ h) (h1 : h < 32) (hp : 0 < u h) : (hs.at_ h).there = true := by
  cases e : (hs.at_ h).there with
  | true => rfl
  | false =>
    have := H.off _ (at_mem H.len h0 h1) e
    rw [H.used h h0 h1] at this
    omega
theorem HI.gives (H : HI hs u) (h0 : 0 ≤ h) (h1 : h < 32) (hm : 1 ≤ mem) (hu : mem ≤ u h) : hs.gives h mem = true := by
  unfold Hosts.gives Hosts.there Hosts.ok
  rw [H.there h0 h1 (by omega), H.used h h0 h1]
  simp only [decide_eq_true h0, decide_eq_true h1, decide_eq_true (show 0 ≤ mem by omega), decide_eq_true hu, Bool.and_true]
theorem HI.give (H : HI hs u) (h0 : 0 ≤ h) (h1 : h < 32) (hm : 1 ≤ mem) (hu : mem ≤ u h) : HI (hs.give h mem) (fun k => if k = h then u h - mem else u k) := by
  unfold Hosts.give
  rw [if_pos (H.gives h0 h1 hm hu)]
  refine HI.sweep (?_) h0 h1
  have ht := H.there h0 h1 (by omega)
  refine (H.put h0 h1 { hs.at_ h with used := (hs.at_ h).used - mem } (fun e => by rw [ht] at e; cases e)).congr fun k k0 k1 => ?_
  show (if k = h then u h - mem else u k) = if k = h then (hs.at_ h).used - mem else u k
  rw [H.used h h0 h1]
theorem HI.take (H : HI hs u) (h0 : 0 ≤ h) (h1 : h < 32) (ht : hs.takes h mem = true) : HI (hs.take h mem) (fun k => if k = h then u h + mem else u k) := by
  unfold Hosts.take
  rw [if_pos ht]
  have hth : (hs.at_ h).there = true := by
    unfold Hosts.takes Hosts.up Hosts.there at ht
    simp only [Bool.and_eq_true] at ht
    exact ht.1.1.1.2
  refine (H.put h0 h1 { hs.at_ h with used := (hs.at_ h).used + mem } (fun e => by rw [hth] at e; cases e)).congr fun k k0 k1 => ?_
  show (if k = h then u h + mem else u k) = if k = h then (hs.at_ h).used + mem else u k
  rw [H.used h h0 h1]
theorem fitTo_takes (mem : Int) : ∀ n : Nat, n ≤ 32 → 0 ≤ hs.fitTo mem n → hs.takes (hs.fitTo mem n) mem = true
  | 0, _, h => by unfold Hosts.fitTo at h; omega
  | n + 1, hn, h => by
    unfold Hosts.fitTo Hosts.better at h ⊢
    by_cases e : hs.up (n : Int) = true ∧ 0 ≤ mem ∧ mem ≤ hs.free (n : Int) ∧ (hs.fitTo mem n < 0 ∨ hs.free (n : Int) < hs.free (hs.fitTo mem n))
    · rw [if_pos e]
      unfold Hosts.takes
      rw [e.1, decide_eq_true e.2.1, decide_eq_true e.2.2.1]; rfl
    · rw [if_neg e] at h ⊢
      exact fitTo_takes mem n (by omega) h
theorem fit_takes (h : 0 ≤ hs.fit mem) : hs.takes (hs.fit mem) mem = true := fitTo_takes mem 32 (Nat.le_refl _) h
/-- Something is given back to a host that goes on. -/
theorem give_up (hl : hs.length = 32) (h0 : 0 ≤ h) (h1 : h < 32) (hu : hs.up h = true) (hg : hs.gives h mem = true) : (hs.give h mem).up h = true ∧ (hs.give h mem).free h = hs.free h + mem := by
  have hth : (hs.at_ h).there = true ∧ (hs.at_ h).drain = false := by
    unfold Hosts.up Hosts.there at hu
    simp only [Bool.and_eq_true, Bool.not_eq_true'] at hu
    exact ⟨hu.1.2, hu.2⟩
  unfold Hosts.give
  rw [if_pos hg]
  obtain ⟨m, hm⟩ : ∃ m : Mach, m = { hs.at_ h with used := (hs.at_ h).used - mem } := ⟨_, rfl⟩
  rw [← hm]
  have e1 : (hs.put h m).at_ h = m := by rw [at_put hl h0 h1 h0, if_pos rfl]
  have e2 : (hs.put h m).sweep h = hs.put h m := by
    unfold Hosts.sweep
    rw [if_neg (by rw [e1, hm]; rintro ⟨h, _⟩; rw [hth.2] at h; cases h)]
  rw [e2]
  have e3 : (hs.put h m).there h = true := by
    unfold Hosts.there Hosts.ok
    rw [e1, hm, hth.1, decide_eq_true h0, decide_eq_true h1]; rfl
  have e4 : hs.there h = true := by
    unfold Hosts.there Hosts.ok
    rw [hth.1, decide_eq_true h0, decide_eq_true h1]; rfl
  refine ⟨?_, ?_⟩
  · unfold Hosts.up
    rw [e3, e1, hm, hth.2]; rfl
  · unfold Hosts.free
    rw [if_pos e3, if_pos e4, e1, hm]
    show (hs.at_ h).size - ((hs.at_ h).used - mem) = _
    omega
end

/-! ### the whole -/
structure FnB (f : Int) (y : Fn) : Prop where
  f : 0 ≤ f ∧ f < 64
  mem : 1 ≤ y.mem ∧ y.mem ≤ 4096
  cost : 1 ≤ y.cost ∧ y.cost ≤ 1000
  often : 0 ≤ y.often ∧ y.often ≤ 1000
  keep : 0 ≤ y.keep ∧ y.keep ≤ 1000
/-- One that goes by itself. -/
def Box.loose (b : Box) : Bool := b.idle && !b.pinned
def onHost (h : Int) (b : Box) : Bool := b.host == h
/-- 'x': the sandboxes that are on their way, and in no host's cache. -/
structure Inv (x : Int → Prop) (s : Core) : Prop where
  sb : FM.Sorted s.boxes
  sf : FM.Sorted s.fns
  nx : 1 ≤ s.next ∧ s.next ≤ 1000000000
  box : ∀ id b, FM.get s.boxes id = some b → b.id = id ∧ 1 ≤ id ∧ id < s.next ∧ (0 ≤ b.host ∧ b.host < 32) ∧ (1 ≤ b.mem ∧ b.mem ≤ 4096) ∧ (FM.get s.fns b.fn).isSome = true
  fn : ∀ f y, FM.get s.fns f = some y → FnB f y
  fq : ∀ f, s.quota.known f = true → (FM.get s.fns f).isSome = true
  ft : ∀ f y, FM.get s.fns f = some y → (FM.get s.toks y.acc).isSome = true
  tn : (s.timers.map (·.1)).Nodup
  tk : ∀ p ∈ s.timers, (p.1.kind = 0 ∧ ∃ b, FM.get s.boxes p.1.id = some b ∧ b.loose = true) ∨ (p.1.kind = 1 ∧ (FM.get s.fns p.1.id).isSome = true)
  cn : ∀ h, ((s.cache h).items.map (·.1)).Nodup
  ck : ∀ h id, (∃ p ∈ (s.cache h).items, p.1 = id) ↔ (¬ x id ∧ ∃ b, FM.get s.boxes id = some b ∧ b.host = h ∧ b.loose = true)
  cm : ∀ h, ∀ p ∈ (s.cache h).items, 1 ≤ p.2.den ∧ p.2.num ≤ (s.cache h).clock * p.2.den + 1000000
  cc : ∀ h, ((s.cache h).clock : Int) + 1000000 * s.boxes.length ≤ 1000000 * s.next
  hi : HI s.hosts (fun h => sumIf (onHost h) s.boxes)
section
variable {x x' : Int → Prop} {s t : Core}
theorem Inv.of (I : Inv x s) (e1 : t.boxes = s.boxes) (e2 : t.fns = s.fns) (e3 : t.quota = s.quota) (e4 : t.toks = s.toks) (e5 : t.timers = s.timers) (e6 : t.caches = s.caches) (e7 : t.hosts = s.hosts) (e8 : t.next = s.next) : Inv x t := by
  have ec : ∀ h, t.cache h = s.cache h := fun h => by unfold Core.cache; rw [e6]
  refine ⟨by rw [e1]; exact I.sb, by rw [e2]; exact I.sf, by rw [e8]; exact I.nx, ?_, ?_, ?_, ?_, by rw [e5]; exact I.tn, ?_, ?_, ?_, ?_, ?_, by rw [e7, e1]; exact I.hi⟩
  · rw [e1, e8, e2]; exact I.box
  · rw [e2]; exact I.fn
  · rw [e3, e2]; exact I.fq
  · rw [e2, e4]; exact I.ft
  · rw [e5, e1, e2]; exact I.tk
  · intro h; rw [ec]; exact I.cn h
  · intro h id; rw [ec, e1]; exact I.ck h id
  · intro h; rw [ec]; exact I.cm h
  · intro h; rw [ec, e1, e8]; exact I.cc h
theorem Inv.exch (I : Inv x s) (e : ∀ i b, FM.get s.boxes i = some b → b.loose = true → (x' i ↔ x i)) : Inv x' s := by
  refine ⟨I.sb, I.sf, I.nx, I.box, I.fn, I.fq, I.ft, I.tn, I.tk, I.cn, fun h id => ?_, I.cm, I.cc, I.hi⟩
  rw [I.ck h id]
  constructor
  · rintro ⟨h1, b, h2, h3, h4⟩
    exact ⟨fun hx => h1 ((e id b h2 h4).1 hx), b, h2, h3, h4⟩
  · rintro ⟨h1, b, h2, h3, h4⟩
    exact ⟨fun hx => h1 ((e id b h2 h4).2 hx), b, h2, h3, h4⟩
theorem cache_setCache (s : Core) (h k : Int) (c : Cache) : (s.setCache h c).cache k = if k = h then c else s.cache k := by
  unfold Core.cache Core.setCache
  simp only [FM.get_put]
  by_cases e : k = h
  · simp [e]
  · simp [e]
theorem Inv.mem_pos (I : Inv x s) : ∀ y ∈ s.boxes, 0 ≤ y.2.mem := fun y hy => by
  have := (I.box y.1 y.2 (FM.get_of_mem I.sb hy)).2.2.2.2.1
  omega
theorem Inv.no_timer (I : Inv x s) {id : Int} {b : Box} (hb : FM.get s.boxes id = some b) (hl : b.loose = false) : ∀ p ∈ s.timers, p.1 ≠ ⟨0, id⟩ := fun p hp e => by
  rcases I.tk p hp with ⟨_, c, h1, h2⟩ | ⟨h1, _⟩
  · rw [e] at h1
    rw [hb] at h1
    cases h1
    rw [hl] at h2
    cases h2
  · rw [e] at h1
    cases h1
/-- take -/
theorem Inv.take (I : Inv x s) {b : Box} (hb : FM.get s.boxes b.id = some b) (hx : ∀ i, i ≠ b.id → ¬ x i) : Inv (fun i => i = b.id) (s.take b) ∧ ∀ p ∈ (s.take b).timers, p.1 ≠ ⟨0, b.id⟩ := by
  obtain ⟨n1, m1⟩ := hdrop_mem TMark.lt I.tn ⟨0, b.id⟩
  obtain ⟨n2, m2⟩ := hdrop_mem Mark.lt (I.cn b.host) b.id
  have hc : ∀ k, (s.take b).cache k = if k = b.host then (s.cache b.host).drop b.id else s.cache k := fun k => cache_setCache s b.host k _
  refine ⟨⟨I.sb, I.sf, I.nx, I.box, I.fn, I.fq, I.ft, n1, fun p hp => I.tk p ((m1 p).1 hp).1, fun h => ?_, fun h id => ?_, fun h p hp => ?_, fun h => ?_, I.hi⟩, fun p hp => ((m1 p).1 hp).2⟩
  · rw [hc]
    split
    · exact n2
    · exact I.cn h
  · rw [hc]
    by_cases e : h = b.host
    · subst e
      rw [if_pos rfl]
      have e2 : (∃ p ∈ ((s.cache b.host).drop b.id).items, p.1 = id) ↔ ((∃ p ∈ (s.cache b.host).items, p.1 = id) ∧ id ≠ b.id) := by
        constructor
        · rintro ⟨p, hp, rfl⟩
          exact ⟨⟨p, ((m2 p).1 hp).1, rfl⟩, ((m2 p).1 hp).2⟩
        · rintro ⟨⟨p, hp, rfl⟩, hne⟩
          exact ⟨p, (m2 p).2 ⟨hp, hne⟩, rfl⟩
      rw [e2, I.ck]
      constructor
      · rintro ⟨⟨_, h2⟩, h3⟩
        exact ⟨h3, h2⟩
      · rintro ⟨h3, h2⟩
        exact ⟨⟨hx id h3, h2⟩, h3⟩
    · rw [if_neg e, I.ck]
      constructor
      · rintro ⟨_, c, h2, h3, h4⟩
        refine ⟨fun e2 => ?_, c, h2, h3, h4⟩
        rw [e2, hb] at h2
        cases h2
        exact e h3.symm
      · rintro ⟨h3, h2⟩
        exact ⟨hx id h3, h2⟩
  · rw [hc] at hp ⊢
    by_cases e : h = b.host
    · subst e
      rw [if_pos rfl] at hp ⊢
      exact I.cm b.host p ((m2 p).1 hp).1
    · rw [if_neg e] at hp ⊢
      exact I.cm h p hp
  · rw [hc]
    have := I.cc h
    split
    · next e => rw [e] at this; exact this
    · exact this
/-- A sandbox that is nowhere else is struck off. -/
theorem Inv.del (I : Inv x s) {b : Box} (hb : FM.get s.boxes b.id = some b) (hx : x b.id) (hk : ∀ p ∈ s.timers, p.1 ≠ ⟨0, b.id⟩) (hx' : ∀ i, i ≠ b.id → (x' i ↔ x i)) (tl : FM Int) :
    Inv x' { s with hosts := s.hosts.give b.host b.mem, boxes := FM.del s.boxes b.id, til := tl } := by
  obtain ⟨_, b1, b2, b3, b4, b5⟩ := I.box _ _ hb
  have hlen := FM.length_del_there I.sb hb
  have hget : ∀ k, FM.get (FM.del s.boxes b.id) k = if k = b.id then none else FM.get s.boxes k := fun k => FM.get_del _ _ _
  have hsub : ∀ k c, FM.get (FM.del s.boxes b.id) k = some c → k ≠ b.id ∧ FM.get s.boxes k = some c := fun k c hc => by
    rw [hget] at hc
    split at hc
    · cases hc
    · next e => exact ⟨e, hc⟩
  refine ⟨I.sb.del _, I.sf, I.nx, fun id c hc => I.box id c (hsub id c hc).2, I.fn, I.fq, I.ft, I.tn, fun p hp => ?_, I.cn, fun h id => ?_, I.cm, fun h => ?_, ?_⟩
  · rcases I.tk p hp with ⟨h1, c, h2, h3⟩ | h1
    · refine .inl ⟨h1, c, ?_, h3⟩
      show FM.get (FM.del s.boxes b.id) p.1.id = some c
      rw [hget, if_neg ?_]
      · exact h2
      · intro e
        exact hk p hp (by obtain ⟨⟨k1, k2⟩, v⟩ := p; simp only at h1 e; rw [h1, e])
    · exact .inr h1
  · show (∃ p ∈ (s.cache h).items, p.1 = id) ↔ (¬ x' id ∧ ∃ c, FM.get (FM.del s.boxes b.id) id = some c ∧ c.host = h ∧ c.loose = true)
    rw [I.ck]
    by_cases e : id = b.id
    · subst e
      constructor
      · rintro ⟨h1, _⟩; exact absurd hx h1
      · rintro ⟨_, c, h1, _⟩
        exact absurd rfl (hsub _ _ h1).1
    · rw [hget, if_neg e, hx' id e]
  · have := I.cc h
    show ((s.cache h).clock : Int) + 1000000 * (FM.del s.boxes b.id).length ≤ 1000000 * s.next
    omega
  · have hle := sumIf_le (q := onHost b.host) I.mem_pos (FM.mem_of_get hb) (by unfold onHost; simp)
    refine (I.hi.give b3.1 b3.2 b4.1 hle).congr fun h h0 h1 => ?_
    have := sumIf_del (q := onHost h) I.sb hb
    show sumIf (onHost h) (FM.del s.boxes b.id) = if h = b.host then sumIf (onHost b.host) s.boxes - b.mem else sumIf (onHost h) s.boxes
    by_cases e : h = b.host
    · subst e
      rw [if_pos rfl, this, if_pos (by unfold onHost; simp)]
      omega
    · rw [if_neg e, this, if_neg (by unfold onHost; simp; exact fun e2 => e e2.symm)]
      omega
/-- A function that is written anew. -/
theorem Inv.fnput (I : Inv x s) {f : Int} {y : Fn} (hb : FnB f y) (ha : (FM.get s.toks y.acc).isSome = true) : Inv x { s with fns := FM.put s.fns f y } := by
  have hget : ∀ k, FM.get (FM.put s.fns f y) k = if k = f then some y else FM.get s.fns k := fun k => FM.get_put _ _ _ _
  have hsome : ∀ k, (FM.get s.fns k).isSome = true → (FM.get (FM.put s.fns f y) k).isSome = true := fun k h => by
    rw [hget]; split
    · rfl
    · exact h
  refine ⟨I.sb, I.sf.put _ _, I.nx, fun id c hc => ?_, fun k z hz => ?_, fun k hk => hsome k (I.fq k hk), fun k z hz => ?_, I.tn, fun p hp => ?_, I.cn, I.ck, I.cm, I.cc, I.hi⟩
  · obtain ⟨h1, h2, h3, h4, h5, h6⟩ := I.box id c hc
    exact ⟨h1, h2, h3, h4, h5, hsome _ h6⟩
  · have hz2 : FM.get (FM.put s.fns f y) k = some z := hz
    rw [hget] at hz2
    split at hz2
    · next e => cases hz2; rw [e]; exact hb
    · exact I.fn k z hz2
  · have hz2 : FM.get (FM.put s.fns f y) k = some z := hz
    rw [hget] at hz2
    split at hz2
    · cases hz2; exact ha
    · exact I.ft k z hz2
  · rcases I.tk p hp with h1 | ⟨h1, h2⟩
    · exact .inl h1
    · exact .inr ⟨h1, hsome _ h2⟩
theorem Inv.quota (I : Inv x s) {q : Quota} (hq : ∀ f, q.known f = true → (FM.get s.fns f).isSome = true) : Inv x { s with quota := q } :=
  ⟨I.sb, I.sf, I.nx, I.box, I.fn, hq, I.ft, I.tn, I.tk, I.cn, I.ck, I.cm, I.cc, I.hi⟩
theorem known_set {q : Quota} {i : Nat} {y : QF} (h : y.there = (q.fs.getD i ⟨false, 0, 0, 0⟩).there) (f : Int) : ({ q with fs := q.fs.set i y } : Quota).known f = q.known f := by
  unfold Quota.known Quota.f
  congr 1
  simp only [List.getD_eq_getElem?_getD, List.getElem?_set]
  split
  · next e =>
    subst e
    split
    · rw [List.getD_eq_getElem?_getD] at h; exact h
    · next e2 => rw [List.getElem?_eq_none (by omega)]
  · rfl
theorem fin_known (q : Quota) (k f : Int) : (q.fin k).known f = q.known f := by
  unfold Quota.fin
  split
  · exact known_set (y := { q.f k with busy := (q.f k).busy - 1 }) rfl f
  · rfl
theorem begin_known (q : Quota) (k f : Int) : (q.begin k).known f = q.known f := by
  unfold Quota.begin
  split
  · exact known_set (y := { q.f k with busy := (q.f k).busy + 1 }) rfl f
  · rfl
/-- What a sandbox's end leaves. -/
structure Ended (s t : Core) (b : Box) : Prop where
  boxes : t.boxes = FM.del s.boxes b.id
  next : t.next = s.next
  now : t.now = s.now
  out : t.out = s.out
  toks : t.toks = s.toks
  ans : t.ans = s.ans
  hosts : t.hosts = s.hosts.give b.host b.mem
  still : b.runs = false → t.fns = s.fns ∧ t.quota = s.quota
  fns : ∀ f, (FM.get t.fns f).map (fun y => (y.acc, y.mem, y.cost, y.keep, y.often)) = (FM.get s.fns f).map (fun y => (y.acc, y.mem, y.cost, y.keep, y.often))
  timers : ∀ p, p ∈ t.timers → p ∈ s.timers
  tlen : ∀ q : TKey × TMark → Bool, (t.timers.filter q).length ≤ (s.timers.filter q).length
  cache : ∀ h, (t.cache h) = if h = b.host then (s.cache h).drop b.id else s.cache h
theorem Inv.gone (I : Inv x s) {b : Box} (hb : FM.get s.boxes b.id = some b) (hx : ∀ i, i ≠ b.id → ¬ x i) : ∃ t, s.gone b = some t ∧ Inv (fun _ => False) t ∧ Ended s t b := by
  obtain ⟨I1, hk⟩ := I.take hb hx
  have hb1 : FM.get (s.take b).boxes b.id = some b := hb
  obtain ⟨n1, m1⟩ := hdrop_mem TMark.lt I.tn ⟨0, b.id⟩
  have hc : ∀ k, (s.take b).cache k = if k = b.host then (s.cache k).drop b.id else s.cache k := fun k => by
    rw [show (s.take b).cache k = if k = b.host then (s.cache b.host).drop b.id else s.cache k from cache_setCache s b.host k _]
    split
    · next e => rw [e]
    · rfl
  unfold Core.gone
  simp only
  by_cases hr : b.runs = true
  · rw [if_pos hr]
    have hfs := (I.box _ _ hb).2.2.2.2.2
    cases hy : FM.get (s.take b).fns b.fn with
    | none => have h2 : FM.get s.fns b.fn = none := hy; rw [h2] at hfs; cases hfs
    | some y =>
      have hy2 : FM.get s.fns b.fn = some y := hy
      have hfb := I.fn _ _ hy2
      have I2 := (I1.fnput (y := { y with last := (s.take b).now }) ⟨hfb.f, hfb.mem, hfb.cost, hfb.often, hfb.keep⟩ (show (FM.get s.toks y.acc).isSome = true from I.ft _ _ hy2)).quota (q := (s.take b).quota.fin b.fn) (fun f hf => by
        rw [fin_known] at hf
        have := I.fq f hf
        show (FM.get (FM.put s.fns b.fn _) f).isSome = true
        rw [FM.get_put]; split
        · rfl
        · exact this)
      have I3 := Inv.del (x' := fun _ => False) I2 hb1 rfl hk (fun i hi => ⟨fun h => h.elim, fun h => hi h⟩) (FM.del (s.take b).til b.id)
      refine ⟨_, rfl, I3, ⟨rfl, rfl, rfl, rfl, rfl, rfl, rfl, (fun h => by rw [hr] at h; cases h), fun f => ?_, fun p hp => ((m1 p).1 hp).1, hdrop_filter TMark.lt I.tn ⟨0, b.id⟩, hc⟩⟩
      show (FM.get (FM.put s.fns b.fn _) f).map _ = _
      rw [FM.get_put]
      split
      · next e => rw [e, hy2]; rfl
      · rfl
  · rw [if_neg hr]
    have I3 := Inv.del (x' := fun _ => False) I1 hb1 rfl hk (fun i hi => ⟨fun h => h.elim, fun h => hi h⟩) (FM.del (s.take b).til b.id)
    exact ⟨_, rfl, I3, ⟨rfl, rfl, rfl, rfl, rfl, rfl, rfl, fun _ => ⟨rfl, rfl⟩, fun _ => rfl, fun p hp => ((m1 p).1 hp).1, hdrop_filter TMark.lt I.tn ⟨0, b.id⟩, hc⟩⟩
end
end Go.Proofs.YtjmdgicdpggljaaGreat.GH

/- Plain: what is true at all times stays so when sandboxes turn, are idle, are booted. -/
namespace Go.Proofs.YtjmdgicdpggljaaGreat.GH
open Go.Proofs.YtjmdgicdpggljaaGreat.Policy (Win win)
set_option linter.unusedVariables false
/-- What most steps leave as it is. -/
structure Fr (s t : Core) : Prop where
  fns : t.fns = s.fns
  quota : t.quota = s.quota
  toks : t.toks = s.toks
  now : t.now = s.now
  ans : t.ans = s.ans
section
variable {x x' : Int → Prop} {s t u : Core}
theorem Fr.refl (s : Core) : Fr s s := ⟨rfl, rfl, rfl, rfl, rfl⟩
theorem Fr.trans (a : Fr s t) (b : Fr t u) : Fr s u := ⟨b.fns.trans a.fns, b.quota.trans a.quota, b.toks.trans a.toks, b.now.trans a.now, b.ans.trans a.ans⟩
theorem Ended.fr {b : Box} (h : Ended s t b) (hr : b.runs = false) : Fr s t := ⟨(h.still hr).1, (h.still hr).2, h.toks, h.now, h.ans⟩
theorem loose_still {b : Box} (h : b.loose = true) : b.runs = false ∧ b.idle = true ∧ b.pinned = false := by
  unfold Box.loose Box.idle at h
  unfold Box.runs Box.idle
  simp only [Bool.and_eq_true, beq_iff_eq, Bool.not_eq_true'] at h
  rw [h.1]
  exact ⟨rfl, rfl, h.2⟩
theorem Inv.out (I : Inv x s) (l : List Cmd) : Inv x { s with out := l } := I.of rfl rfl rfl rfl rfl rfl rfl rfl
theorem Inv.kill (I : Inv x s) {b : Box} (hb : FM.get s.boxes b.id = some b) (hx : ∀ i, i ≠ b.id → ¬ x i) : ∃ u, s.gone b = some u ∧ s.kill b = some { u with out := u.out ++ [⟨false, b.id, b.fn, b.host⟩] } ∧ Inv (fun _ => False) u ∧ Ended s u b := by
  obtain ⟨u, hu, Iu, he⟩ := I.gone hb hx
  exact ⟨u, hu, by unfold Core.kill; rw [hu]; rfl, Iu, he⟩
/-- A sandbox's block is turned. -/
theorem Inv.setBox (I : Inv x s) {b0 b : Box} (hb : FM.get s.boxes b.id = some b0) (hf : b.fn = b0.fn) (hh : b.host = b0.host) (hm : b.mem = b0.mem) (hk : ∀ p ∈ s.timers, p.1 ≠ ⟨0, b.id⟩)
    (hx : b0.loose = false ∨ x b.id) (hx' : ∀ i, i ≠ b.id → (x' i ↔ x i)) (hb' : x' b.id ∨ b.loose = false) : Inv x' (s.setBox b) := by
  have hget : ∀ k, FM.get (FM.put s.boxes b.id b) k = if k = b.id then some b else FM.get s.boxes k := fun k => FM.get_put _ _ _ _
  obtain ⟨b1, b2, b3, b4, b5, b6⟩ := I.box _ _ hb
  refine ⟨I.sb.put _ _, I.sf, I.nx, fun id c hc => ?_, I.fn, I.fq, I.ft, I.tn, fun p hp => ?_, I.cn, fun h id => ?_, I.cm, fun h => ?_, ?_⟩
  · have hc2 : FM.get (FM.put s.boxes b.id b) id = some c := hc
    rw [hget] at hc2
    split at hc2
    · next e =>
      cases hc2
      rw [e]
      exact ⟨rfl, b2, b3, by rw [hh]; exact b4, by rw [hm]; exact b5, by rw [hf]; exact b6⟩
    · exact I.box id c hc2
  · rcases I.tk p hp with ⟨h1, c, h2, h3⟩ | h1
    · refine .inl ⟨h1, c, ?_, h3⟩
      show FM.get (FM.put s.boxes b.id b) p.1.id = some c
      rw [hget, if_neg ?_]
      · exact h2
      · intro e
        exact hk p hp (by obtain ⟨⟨k1, k2⟩, v⟩ := p; simp only at h1 e; rw [h1, e])
    · exact .inr h1
  · show (∃ p ∈ (s.cache h).items, p.1 = id) ↔ (¬ x' id ∧ ∃ c, FM.get (FM.put s.boxes b.id b) id = some c ∧ c.host = h ∧ c.loose = true)
    rw [I.ck]
    by_cases e : id = b.id
    · subst e
      rw [hget, if_pos rfl]
      constructor
      · rintro ⟨h1, c, h2, h3, h4⟩
        rw [hb] at h2; cases h2
        rcases hx with h | h
        · rw [h] at h4; cases h4
        · exact absurd h h1
      · rintro ⟨h1, c, h2, h3, h4⟩
        cases h2
        rcases hb' with h | h
        · exact absurd h h1
        · rw [h] at h4; cases h4
    · rw [hget, if_neg e, hx' id e]
  · have := I.cc h
    show ((s.cache h).clock : Int) + 1000000 * (FM.put s.boxes b.id b).length ≤ 1000000 * s.next
    rw [FM.length_put_there I.sb hb]
    exact this
  · refine I.hi.congr fun h h0 h1 => ?_
    show sumIf (onHost h) (FM.put s.boxes b.id b) = sumIf (onHost h) s.boxes
    rw [sumIf_put, sumIf_del I.sb hb]
    unfold onHost
    rw [hh, hm]
theorem Inv.timers_len (I : Inv x s) : (s.timers.length : Int) ≤ s.next + 64 := by
  obtain ⟨code, hcode⟩ : ∃ code : TKey → Int, code = fun k => if k.kind = 0 then k.id + 64 else k.id := ⟨_, rfl⟩
  have hrange : ∀ p ∈ s.timers, (p.1.kind = 0 ∧ 1 ≤ p.1.id ∧ p.1.id < s.next) ∨ (p.1.kind = 1 ∧ 0 ≤ p.1.id ∧ p.1.id < 64) := fun p hp => by
    rcases I.tk p hp with ⟨h1, c, h2, _⟩ | ⟨h1, h2⟩
    · obtain ⟨_, h3, h4, _⟩ := I.box _ _ h2
      exact .inl ⟨h1, h3, h4⟩
    · cases hy : FM.get s.fns p.1.id with
      | none => rw [hy] at h2; cases h2
      | some y => have := (I.fn _ _ hy).f; exact .inr ⟨h1, this⟩
  have hnd : ((s.timers.map (·.1)).map code).Nodup := by
    unfold List.Nodup
    rw [List.pairwise_map]
    refine List.Pairwise.imp_of_mem ?_ I.tn
    intro a b ha hb hne e
    obtain ⟨p, hp, rfl⟩ := List.mem_map.1 ha
    obtain ⟨q, hq, rfl⟩ := List.mem_map.1 hb
    rw [hcode] at e
    simp only at e
    have h1 := hrange p hp
    have h2 := hrange q hq
    refine hne ?_
    obtain ⟨⟨pk, pi⟩, pv⟩ := p
    obtain ⟨⟨qk, qi⟩, qv⟩ := q
    simp only at h1 h2 e ⊢
    have : pk = qk ∧ pi = qi := by
      rcases h1 with ⟨rfl, _, _⟩ | ⟨rfl, _, _⟩ <;> rcases h2 with ⟨rfl, _, _⟩ | ⟨rfl, _, _⟩ <;> simp at e <;> omega
    rw [this.1, this.2]
  have := nodup_len (s.next + 64).toNat _ hnd fun y hy => by
    obtain ⟨k, hk, rfl⟩ := List.mem_map.1 hy
    obtain ⟨p, hp, rfl⟩ := List.mem_map.1 hk
    have h1 := hrange p hp
    have h2 := I.nx
    rw [hcode]
    simp only
    rcases h1 with ⟨e, _, _⟩ | ⟨e, _, _⟩ <;> rw [e] <;> simp <;> omega
  rw [List.length_map, List.length_map] at this
  have h2 := I.nx
  omega
theorem Inv.items_len (I : Inv x s) (h : Int) : ((s.cache h).items.length : Int) ≤ s.next := by
  have := nodup_len s.next.toNat _ (I.cn h) fun y hy => by
    obtain ⟨p, hp, rfl⟩ := List.mem_map.1 hy
    obtain ⟨_, c, h2, _⟩ := (I.ck h p.1).1 ⟨p, hp, rfl⟩
    obtain ⟨_, h3, h4, _⟩ := I.box _ _ h2
    have := I.nx
    omega
  rw [List.length_map] at this
  have h2 := I.nx
  omega
theorem Inv.boxes_len (I : Inv x s) : (s.boxes.length : Int) ≤ s.next := by
  have := GH.boxes_len I.sb (n := s.next) fun id b hb => ⟨(I.box id b hb).2.1, (I.box id b hb).2.2.1⟩
  have := I.nx
  omega
/-- A time is set. -/
theorem Inv.tset (I : Inv x s) (k : TKey) (at_ : Int) (hk : (k.kind = 0 ∧ ∃ b, FM.get s.boxes k.id = some b ∧ b.loose = true) ∨ (k.kind = 1 ∧ (FM.get s.fns k.id).isSome = true)) : Inv x { s with timers := s.timers.set_ k at_ } := by
  obtain ⟨n1, m1⟩ := hset_mem TMark.lt I.tn k ⟨at_, k⟩
  refine ⟨I.sb, I.sf, I.nx, I.box, I.fn, I.fq, I.ft, n1, fun p hp => ?_, I.cn, I.ck, I.cm, I.cc, I.hi⟩
  rcases (m1 p).1 hp with rfl | ⟨h, _⟩
  · exact hk
  · exact I.tk p h
theorem Inv.tdrop (I : Inv x s) (k : TKey) : Inv x { s with timers := s.timers.drop k } := by
  obtain ⟨n1, m1⟩ := hdrop_mem TMark.lt I.tn k
  exact ⟨I.sb, I.sf, I.nx, I.box, I.fn, I.fq, I.ft, n1, fun p hp => I.tk p ((m1 p).1 hp).1, I.cn, I.ck, I.cm, I.cc, I.hi⟩
/-- idle -/
theorem Inv.idle (I : Inv x s) {b : Box} (hb : FM.get s.boxes b.id = some b) (hxb : x b.id) (hx : ∀ i, i ≠ b.id → ¬ x i) (hl : b.loose = true) (fin : Int) :
    ∃ t, s.idle b fin = some t ∧ Inv (fun _ => False) t ∧ Fr s t ∧ t.next = s.next ∧ (s.now < fin → t.boxes = s.boxes) := by
  obtain ⟨hr, hi, hp⟩ := loose_still hl
  unfold Core.idle
  by_cases hle : fin ≤ s.now
  · rw [if_pos hle]
    obtain ⟨u, hu, hk, Iu, he⟩ := I.kill hb hx
    exact ⟨_, hk, Iu.out _, ⟨(he.fr hr).fns, (he.fr hr).quota, (he.fr hr).toks, (he.fr hr).now, (he.fr hr).ans⟩, he.next, fun h => by omega⟩
  · rw [if_neg hle]
    obtain ⟨_, b1, b2, b3, b4, b5⟩ := I.box _ _ hb
    cases hy : FM.get s.fns b.fn with
    | none => rw [hy] at b5; cases b5
    | some y =>
      simp only
      have hfb := I.fn _ _ hy
      have h1 := I.items_len b.host
      have h2 := I.timers_len
      have h3 := I.nx
      rw [if_pos ⟨by omega, by omega⟩]
      refine ⟨_, rfl, ?_, ⟨rfl, rfl, rfl, rfl, rfl⟩, rfl, fun _ => rfl⟩
      obtain ⟨c, hc⟩ : ∃ c, c = s.cache b.host := ⟨_, rfl⟩
      rw [← hc]
      have hcc := I.cc b.host
      have hbl := I.boxes_len
      rw [← hc] at hcc
      obtain ⟨no, hno⟩ : ∃ n : Nat, y.often = n := ⟨y.often.toNat, by have := hfb.often; omega⟩
      obtain ⟨nc, hnc⟩ : ∃ n : Nat, y.cost = n := ⟨y.cost.toNat, by have := hfb.cost; omega⟩
      obtain ⟨nm, hnm⟩ : ∃ n : Nat, y.mem = n := ⟨y.mem.toNat, by have := hfb.mem; omega⟩
      have et : y.often.toNat = no ∧ y.cost.toNat = nc ∧ y.mem.toNat = nm := by rw [hno, hnc, hnm]; exact ⟨rfl, rfl, rfl⟩
      rw [et.1, et.2.1, et.2.2]
      have bo : no ≤ 1000 := by have := hfb.often; omega
      have bc : nc ≤ 1000 := by have := hfb.cost; omega
      have bm : 1 ≤ nm ∧ nm ≤ 4096 := by have := hfb.mem; omega
      have hoc : no * nc ≤ 1000000 := Nat.le_trans (Nat.mul_le_mul bo bc) (by decide)
      have hcl : c.clock ≤ 1000000000000000 := by omega
      have hcm : c.clock * nm ≤ 1000000000000000 * 4096 := Nat.mul_le_mul hcl bm.2
      have eset : c.set_ b.id no nc nm = { c with items := hset Mark.lt c.items b.id ⟨c.clock * nm + no * nc, nm, b.id⟩ } := by
        unfold Cache.set_
        rw [if_pos ⟨by omega, by omega, by omega⟩]
      rw [eset]
      have hn := I.cn b.host
      rw [← hc] at hn
      obtain ⟨n2, m2⟩ := hset_mem Mark.lt hn b.id ⟨c.clock * nm + no * nc, nm, b.id⟩
      have hck := I.ck b.host
      have hcmm := I.cm b.host
      rw [← hc] at hck hcmm
      refine Inv.tset (s := s.setCache b.host _) ?_ ⟨0, b.id⟩ fin (.inl ⟨rfl, b, hb, hl⟩)
      refine ⟨I.sb, I.sf, I.nx, I.box, I.fn, I.fq, I.ft, I.tn, I.tk, fun h => ?_, fun h id => ?_, fun h p hp => ?_, fun h => ?_, I.hi⟩
      · rw [cache_setCache]
        split
        · exact n2
        · exact I.cn h
      · rw [cache_setCache]
        by_cases e : h = b.host
        · subst e
          rw [if_pos rfl]
          by_cases e2 : id = b.id
          · subst e2
            exact ⟨fun _ => ⟨id, b, hb, rfl, hl⟩, fun _ => ⟨_, (m2 _).2 (.inl rfl), rfl⟩⟩
          · constructor
            · rintro ⟨p, hp, rfl⟩
              rcases (m2 p).1 hp with h | ⟨h, _⟩
              · rw [h] at e2; exact absurd rfl e2
              · obtain ⟨_, h5⟩ := (hck p.1).1 ⟨p, h, rfl⟩
                exact ⟨fun h => h, h5⟩
            · rintro ⟨_, h5⟩
              obtain ⟨p, hp, rfl⟩ := (hck id).2 ⟨hx id e2, h5⟩
              exact ⟨p, (m2 p).2 (.inr ⟨hp, e2⟩), rfl⟩
        · rw [if_neg e, I.ck]
          by_cases e2 : id = b.id
          · constructor
            · rintro ⟨h5, _⟩; rw [e2] at h5; exact absurd hxb h5
            · rintro ⟨_, d, h5, h6, _⟩
              have h5 : FM.get s.boxes id = some d := h5
              rw [e2, hb] at h5
              cases h5
              exact absurd h6.symm e
          · constructor
            · rintro ⟨_, h5⟩; exact ⟨fun h => h, h5⟩
            · rintro ⟨_, h5⟩; exact ⟨hx id e2, h5⟩
      · rw [cache_setCache] at hp ⊢
        by_cases e : h = b.host
        · rw [if_pos e] at hp ⊢
          rcases (m2 p).1 hp with rfl | ⟨h5, _⟩
          · exact ⟨bm.1, by show c.clock * nm + no * nc ≤ c.clock * nm + 1000000; omega⟩
          · exact hcmm p h5
        · rw [if_neg e] at hp ⊢
          exact I.cm h p hp
      · rw [cache_setCache]
        by_cases e : h = b.host
        · rw [if_pos e]
          exact hcc
        · rw [if_neg e]
          exact I.cc h
/-- start -/
theorem Inv.start (I : Inv x s) {f h : Int} {y : Fn} (hy : FM.get s.fns f = some y) (h0 : 0 ≤ h) (h1 : h < 32) (ht : s.hosts.takes h y.mem = true) (hn : s.next + 1 ≤ 1000000000) :
    ∃ t, s.start f h = some (t, Core.boot f h s.next y.mem s.now) ∧ Inv x t ∧ Fr s t ∧ t.next = s.next + 1 ∧ t.boxes = FM.put s.boxes s.next (Core.boot f h s.next y.mem s.now) ∧ t.timers = s.timers ∧ t.til = s.til := by
  have hfb := I.fn _ _ hy
  have hnew : FM.get s.boxes s.next = none := by
    cases e : FM.get s.boxes s.next with
    | none => rfl
    | some b => have := (I.box _ _ e).2.2.1; omega
  unfold Core.start
  rw [hy]
  simp only
  rw [if_pos (by omega)]
  refine ⟨_, rfl, ?_, ⟨rfl, rfl, rfl, rfl, rfl⟩, rfl, rfl, rfl, rfl⟩
  obtain ⟨b, hbe⟩ : ∃ b, b = Core.boot f h s.next y.mem s.now := ⟨_, rfl⟩
  rw [← hbe]
  have q1 : b.id = s.next := by rw [hbe]; rfl
  have q2 : b.host = h := by rw [hbe]; rfl
  have q3 : b.mem = y.mem := by rw [hbe]; rfl
  have q4 : b.loose = false := by rw [hbe]; rfl
  have q5 : b.fn = f := by rw [hbe]; rfl
  have hget : ∀ k, FM.get (FM.put s.boxes s.next b) k = if k = s.next then some b else FM.get s.boxes k := fun k => FM.get_put _ _ _ _
  have hnx := I.nx
  refine ⟨I.sb.put _ _, I.sf, ⟨by show 1 ≤ s.next + 1; omega, hn⟩, fun id c hc => ?_, I.fn, I.fq, I.ft, I.tn, fun p hp => ?_, I.cn, fun k id => ?_, I.cm, fun k => ?_, ?_⟩
  · have hc2 : FM.get (FM.put s.boxes s.next b) id = some c := hc
    rw [hget] at hc2
    split at hc2
    · next e =>
      cases hc2
      refine ⟨by rw [e, q1], by omega, by show id < s.next + 1; omega, by rw [q2]; exact ⟨h0, h1⟩, by rw [q3]; exact hfb.mem, by rw [q5, hy]; rfl⟩
    · obtain ⟨c1, c2, c3, c4⟩ := I.box id c hc2
      exact ⟨c1, c2, by show id < s.next + 1; omega, c4⟩
  · rcases I.tk p hp with ⟨e1, c, e2, e3⟩ | e1
    · refine .inl ⟨e1, c, ?_, e3⟩
      show FM.get (FM.put s.boxes s.next b) p.1.id = some c
      have := (I.box _ _ e2).2.2.1
      rw [hget, if_neg (by omega)]
      exact e2
    · exact .inr e1
  · show (∃ p ∈ (s.cache k).items, p.1 = id) ↔ (¬ x id ∧ ∃ c, FM.get (FM.put s.boxes s.next b) id = some c ∧ c.host = k ∧ c.loose = true)
    rw [I.ck, hget]
    by_cases e : id = s.next
    · rw [if_pos e]
      constructor
      · rintro ⟨_, c, e1, _⟩
        rw [e, hnew] at e1; cases e1
      · rintro ⟨_, c, e1, _, e3⟩
        cases e1
        rw [q4] at e3; cases e3
    · rw [if_neg e]
  · have := I.cc k
    show ((s.cache k).clock : Int) + 1000000 * (FM.put s.boxes s.next b).length ≤ 1000000 * (s.next + 1)
    rw [FM.length_put_new hnew]
    omega
  · refine (I.hi.take h0 h1 ht).congr fun k k0 k1 => ?_
    show sumIf (onHost k) (FM.put s.boxes s.next b) = if k = h then sumIf (onHost h) s.boxes + y.mem else sumIf (onHost k) s.boxes
    rw [sumIf_new hnew]
    unfold onHost
    rw [q2, q3]
    by_cases e : k = h
    · subst e
      simp
      omega
    · rw [if_neg e, if_neg (by simp; exact fun e2 => e e2.symm)]
      omega
end
end Go.Proofs.YtjmdgicdpggljaaGreat.GH
