/- Proved: the law ReplyCommands, for every input, what it reads of package variables tied to the program's text. -/
import Derived.Test.YtopbhdpfakjkjaaDoorReplyCommands
import Derived.Test.YtopbhdpfakjkjaaDoorReplyLaidC
import Derived.Test.YtopbhdpfakjkjaaDoorTie
import Derived.Test.YtopbhdpfakjkjaaDoorCards
import Derived.SevenTiedAt
import Derived.ChangeMaps5
import Derived.Deep.DeepHandedRow
namespace Go.Proofs.YtopbhdpfakjkjaaDoor.replyCommands
open Go.ChangeShapes Go.WideShapes Go.ChangeAt Go.RowKit Go.Proofs.YtopbhdpfakjkjaaDoor.Reply
set_option maxRecDepth 100000 in
set_option maxHeartbeats 4000000 in
theorem lifted (os : Os) (started : os.Started) (H : Type) (enc : TypeId × Value → H) (F : Stop.Interp) :
    ReturnsInHanded {} Tryd.checked os 6 .any ((OpenSpec.ofChange Rows.replyCommandsSpec).preRow enc Tryd.prog Tryd.f6 Rows.replyCommandsRow.domain false Rows.replyCommandsRow.laid) (((OpenSpec.ofChange Rows.replyCommandsSpec).at F).post enc Tryd.prog Tryd.f6 false true false false) := by
  refine returnsInHanded_of_row (C := Tryd.checked) (s := OpenSpec.ofChange Rows.replyCommandsSpec) own started (by kernel_rfl) Tryd.func6
    (witness_row_at (enc := enc) (C := Tryd.checked) false (laidWorld os) #[.agg #[.bool false, .int .i64 0, .int .i64 0, .int .i64 0], .agg #[.bool false, .int .i64 0, .int .i64 0, .int .i64 0]] rfl (by kernel_rfl) (by kernel_rfl) (by kernel_rfl) (OpenSpec.preRow_of_B rfl 8 (by kernel_rfl) (by kernel_rfl) (laid_met os _))) ?_
  intro W base args ds gs before hval0 hW _ _ _ hL hsh _
  have hval : ∀ (j : Nat) t v, Tryd.f6.params[j]? = some t → args[j]? = some v → Value.okWide Tryd.prog W .any base t v := hval0
  have hW' := hW
  obtain ⟨p, q, hA0, hV, rfl, _, _⟩ := hW
  have hA : DataW.TrodAll enc Tryd.prog W 0 (fun _ => true) true Tryd.f6.params.toList args.toList ds p := hA0
  rw [Tryd.params6] at hA hval
  obtain ⟨v0, v1, d0, d1, p0, p1, rfl, rfl, rfl, h0, h1⟩ := trodAll_two hA
  obtain ⟨rfl, rfl⟩ := trodVars_none hV
  obtain ⟨a0, b0, c0, e0, rfl, rfl, w0, k0⟩ := open_cmd (hval 0 37 v0 rfl rfl) h0
  obtain ⟨a1, b1, c1, e1, rfl, rfl, w1, k1⟩ := open_cmd (hval 1 37 v1 rfl rfl) h1
  clear hA0 hval0 hA hV
  refine (commands_any a0 b0 c0 e0 a1 b1 c1 e1 W (gw_of hL hsh) w0 w1).mono fun e W' ⟨he, bel⟩ => ?_
  subst he
  exact ⟨_, rfl, _, _, _, [], _, [], hW', trodAll_mk1 (shut_bool Tryd.underlying4 _), trodAll_mk2 (k0 _ _) (k1 _ _), rfl, bel.frame _, fun h => by cases h⟩
theorem over : Rows.ReplyCommandsSaid :=
  OpenClaim.holds_of_cond 6 Tryd.f6 rfl rfl rfl rfl rfl rfl rfl ⟨rfl, rfl, rfl, rfl, rfl⟩ rfl rfl rfl rfl rfl (by kernel_rfl) Tryd.func6 (by kernel_rfl)
    (of_decide_eq_true (by kernel_rfl)) (by unfold Func.isWrapper; first | (rw [if_pos (by decide +kernel)]; kernel_rfl) | (rw [if_neg (by decide +kernel)]; exact ⟨rfl, rfl⟩))
    (fun os started H enc _ F0 => by rw [OpenClaim.pre_eq_preRow]; exact lifted os started H enc F0)
theorem card : Rows.ReplyCommandsCardSaid :=
  Claim7.holds_tied_plain_at .later [] [.data, .data, .data, .sentinel, .sentinel] true (true, "20925ec071f0e8e9512a5792e5d69045627a216e1e15bffd19bf1f9609d228a8") true
    over (fun _ h => by cases h) (by kernel_rfl) (fun _ h => by cases h) replyCommands_row_tie rfl ⟨rfl, rfl⟩ (by kernel_rfl) rfl
    (fun f fn hf hfn => by
      obtain rfl : f = 6 := Option.some.inj ((show Tryd.prog.funcNamed "greenhouse/greenhouselaw17.ReplyCommands" = some 6 by kernel_rfl).symm.trans hf) |>.symm
      obtain rfl : fn = Tryd.f6 := (Option.some.inj (Tryd.func6.symm.trans hfn)).symm
      exact ⟨by kernel_rfl, fun j t ht => by
        rw [Tryd.params6] at ht
        have h3 : t = 37 := by
          rcases j with _ | _ | j
          · simpa using ht.symm
          · simpa using ht.symm
          · simp at ht
        subst h3
        exact (show Tryd.prog.wantsStandIn 37 = false by kernel_rfl)⟩)
    (by kernel_rfl)
end Go.Proofs.YtopbhdpfakjkjaaDoor.replyCommands
namespace Go.Proofs.YtopbhdpfakjkjaaDoor
/-- The card, under a short name, for the claim. -/
theorem replyCommands_holds : Rows.ReplyCommandsCardSaid := replyCommands.card
end Go.Proofs.YtopbhdpfakjkjaaDoor
