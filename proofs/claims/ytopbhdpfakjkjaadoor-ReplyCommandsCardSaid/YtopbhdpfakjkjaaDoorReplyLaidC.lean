/- Proved: a command as an argument, opened and shut. -/
import Derived.Test.YtopbhdpfakjkjaaDoorReplyLaid
namespace Go.Proofs.YtopbhdpfakjkjaaDoor.Reply
open Go.ChangeShapes Go.WideShapes Go.ChangeAt Go.RowKit Go.Joins
set_option linter.unusedVariables false
theorem cells37 : Tryd.prog.cellsOf 37 = 4 := by kernel_rfl
theorem inI_of {x : Int} (h : (Lit.int .i64 x).wf = true) : -9223372036854775808 ≤ x ∧ x ≤ 9223372036854775807 := by
  have e1 : IntKind.i64.min = -9223372036854775808 := rfl
  have e2 : IntKind.i64.max = 9223372036854775807 := rfl
  simpa [Lit.wf, e1, e2] using h
set_option maxRecDepth 100000 in
theorem open_cmd {H : Type} {enc : TypeId × Value → H} {W : World} {sp : Nat → Bool} {r : Reach} {b0 : Nat} {v : Value} {d : DataW H} {p : List MemPlace} (hv : Value.okWide Tryd.prog W r b0 37 v) (h : DataW.Trod enc Tryd.prog W 0 sp true 37 v d p) :
    ∃ (a : Bool) (b c e : Int), v = .agg #[.bool a, .int .i64 b, .int .i64 c, .int .i64 e] ∧ p = [] ∧ ((-9223372036854775808 ≤ b ∧ b ≤ 9223372036854775807) ∧ (-9223372036854775808 ≤ c ∧ c ≤ 9223372036854775807) ∧ (-9223372036854775808 ≤ e ∧ e ≤ 9223372036854775807)) ∧ (∀ (W' : World) (sp' : Nat → Bool), DataW.Trod enc Tryd.prog W' 0 sp' true 37 (.agg #[.bool a, .int .i64 b, .int .i64 c, .int .i64 e]) d []) := by
  obtain ⟨v0, v1, v2, v3, y0, y1, y2, y3, n, rfl, rfl, rfl, h0, h1, h2, h3⟩ := open_agg4 Tryd.underlying37 (by kernel_rfl) cells37 hv h
  obtain ⟨a, e0, rfl⟩ := DataW.trod_bool Tryd.underlying4 h0
  obtain ⟨b, e1, rfl, wb⟩ := DataW.trod_int Tryd.underlying3 h1
  obtain ⟨c, e2, rfl, wc⟩ := DataW.trod_int Tryd.underlying3 h2
  obtain ⟨e, e3, rfl, we⟩ := DataW.trod_int Tryd.underlying3 h3
  simp at e0 e1 e2 e3
  subst e0 e1 e2 e3
  refine ⟨a, b, c, e, rfl, rfl, ⟨inI_of wb, inI_of wc, inI_of we⟩, fun W' sp' => ?_⟩
  exact shut_agg4 (y0 := (.lit (.bool a), [])) (y1 := (.lit (.int .i64 b), [])) (y2 := (.lit (.int .i64 c), [])) (y3 := (.lit (.int .i64 e), [])) Tryd.underlying37 (by kernel_rfl) cells37
    ⟨1, by simp [DataW.trod, Tryd.underlying4]⟩ ⟨1, by simp [DataW.trod, Tryd.underlying3, wb]⟩ ⟨1, by simp [DataW.trod, Tryd.underlying3, wc]⟩ ⟨1, by simp [DataW.trod, Tryd.underlying3, we]⟩
end Go.Proofs.YtopbhdpfakjkjaaDoor.Reply
