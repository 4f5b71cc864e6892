/- Proved: what a row's list of package variables gives the walk (GW); a start that fits; an answer as an argument, opened and shut. -/
import Derived.Test.YtopbhdpfakjkjaaDoorRows
import Derived.Test.YtopbhdpfakjkjaaDoorReplyFns
import Derived.Deep.DeepHandedRow
import Derived.Stop.LaidErr
import Derived.LaidLaws
import Derived.Lib.LaidTab
import Derived.Lib.SmallJoins
import Derived.RowKit
import Derived.SizedLaws
import Derived.ProofKit
import Derived.OpenShut
namespace Go.Proofs.YtopbhdpfakjkjaaDoor.Reply
open Go.ChangeShapes Go.WideShapes Go.ChangeAt Go.RowKit Go.Joins
set_option linter.unusedVariables false
theorem own : ownKnob Tryd.prog.godebug = none := by kernel_rfl
theorem laidOut : laidOutB Tryd.prog = true := by kernel_rfl
theorem gP : Tryd.prog.globalNamed "internal/strconv.uint64pow10" = some 1 := by kernel_rfl
theorem gPType : (Tryd.prog.globals[1]?).map (·.type) = some 97 := by kernel_rfl
theorem gS : Tryd.prog.globalNamed "strconv.ErrSyntax" = some 2 := by kernel_rfl
theorem gSType : (Tryd.prog.globals[2]?).map (·.type) = some 68 := by kernel_rfl
theorem gR : Tryd.prog.globalNamed "strconv.ErrRange" = some 3 := by kernel_rfl
theorem gRType : (Tryd.prog.globals[3]?).map (·.type) = some 68 := by kernel_rfl
theorem cells80 : Tryd.prog.cellsOf 80 = 1 := by kernel_rfl
theorem cells97 : Tryd.prog.cellsOf 97 = 20 := by kernel_rfl
theorem cells9 : Tryd.prog.cellsOf 9 = 1 := by kernel_rfl
theorem cells122 : Tryd.prog.cellsOf 122 = 1 := by kernel_rfl
theorem cells26 : Tryd.prog.cellsOf 26 = 4 := by kernel_rfl
theorem star : "*" ++ "errors.errorString" = "*errors.errorString" := by decide
theorem row120 (u : TypeId) (h : Tryd.prog.typeName? 3 u = some "*errors.errorString") : u = 120 :=
  typeName_ptr_named (nm := "errors.errorString") (by rw [star]; kernel_rfl) (by kernel_rfl) (by decide) u (by rw [star]; exact h)
theorem pow_eq : (Rows.laid_internal_strconv_uint64pow10 : DataW Unit) = Lib.tabData .u64 Lib.pow10Tab := by kernel_rfl
abbrev laidList : List (String × DataW Unit) := [("math/bits.deBruijn32tab", Rows.laid_math_bits_deBruijn32tab), ("math/bits.deBruijn64tab", Rows.laid_math_bits_deBruijn64tab), ("internal/strconv.uint64pow10", Rows.laid_internal_strconv_uint64pow10), ("strconv.ErrRange", Rows.laid_strconv_ErrRange), ("strconv.ErrSyntax", Rows.laid_strconv_ErrSyntax)]
/-- The walk's facts, out of the row's list and the world's shape. -/
theorem gw_of {W : World} (hL0 : laidMet Tryd.prog laidList W) (hsh : W.ShapedOpen Tryd.prog) : GW W := by
  have hL := hL0.tail.tail
  rw [pow_eq] at hL
  refine ⟨Lib.tabIs_of_head gP gPType Tryd.underlying97 Tryd.underlying80 cells80 cells97 hL, Tryd.laysM145.s1_3 W hsh, ?_, ?_⟩
  · obtain ⟨a, s, hv, -, -, -⟩ := laid_sentinel hL.tail.tail gS gSType Tryd.underlying68 row120 Tryd.underlying120 Tryd.underlying122 rfl rfl Tryd.underlying9 cells122 cells9
    exact ⟨_, _, hv⟩
  · obtain ⟨a, s, hv, -, -, -⟩ := laid_sentinel hL.tail gR gRType Tryd.underlying68 row120 Tryd.underlying120 Tryd.underlying122 rfl rfl Tryd.underlying9 cells122 cells9
    exact ⟨_, _, hv⟩
/-! ### One start that fits -/
abbrev synS : ByteArray := { data := #[105, 110, 118, 97, 108, 105, 100, 32, 115, 121, 110, 116, 97, 120] }
abbrev rngS : ByteArray := { data := #[118, 97, 108, 117, 101, 32, 111, 117, 116, 32, 111, 102, 32, 114, 97, 110, 103, 101] }
noncomputable def low : Nat := (World.holding Tryd.prog default ⟨#[], #[], []⟩).heap.size
def put (cs : Array Value) : Obj → Obj
  | .cells _ t frozen => .cells cs t frozen
  | o => o
def numbers : List (DataW Unit) → List Value
  | .lit (.int k z) :: r => .int k z :: numbers r
  | _ => []
def table : DataW Unit → Array Value
  | .agg ps => (numbers ps).toArray
  | _ => #[]
noncomputable def laidWorld (os : Os) : World :=
  let w0 := World.holding Tryd.prog os ⟨#[.cells #[.string synS] 122, .cells #[.string rngS] 122], #[], []⟩
  { w0 with heap := ((((w0.heap.modify 1 (put (table Rows.laid_internal_strconv_uint64pow10))).modify 2 (put #[.iface 120 (.pointer (some ⟨low, 0, none⟩))])).modify 3 (put #[.iface 120 (.pointer (some ⟨low + 1, 0, none⟩))])).modify 4 (put (table Rows.laid_math_bits_deBruijn32tab))).modify 5 (put (table Rows.laid_math_bits_deBruijn64tab)) }
theorem laid_met (os : Os) (args : Array Value) : laidMet Tryd.prog laidList ((laidWorld os).forCall (fun _ _ => 0) ⟨#[], args, []⟩).memory :=
  laidMet_of_run' 8 (by kernel_rfl) (by kernel_rfl)
set_option maxRecDepth 100000 in
theorem open_ans {H : Type} {enc : TypeId × Value → H} {W : World} {sp : Nat → Bool} {r : Reach} {b0 : Nat} {v : Value} {d : DataW H} {p : List MemPlace} (hv : Value.okWide Tryd.prog W r b0 26 v) (h : DataW.Trod enc Tryd.prog W 0 sp true 26 v d p) :
    ∃ a b c e : Int, v = .agg #[.int .i64 a, .int .i64 b, .int .i64 c, .int .i64 e] ∧ p = [] ∧ (Lit.int .i64 b).wf = true ∧ (∀ (W' : World) (sp' : Nat → Bool), DataW.Trod enc Tryd.prog W' 0 sp' true 26 (.agg #[.int .i64 a, .int .i64 b, .int .i64 c, .int .i64 e]) d []) := by
  obtain ⟨v0, v1, v2, v3, y0, y1, y2, y3, n, rfl, rfl, rfl, h0, h1, h2, h3⟩ := open_agg4 Tryd.underlying26 (by kernel_rfl) cells26 hv h
  obtain ⟨a, e0, rfl, wa⟩ := DataW.trod_int Tryd.underlying22 h0
  obtain ⟨b, e1, rfl, wb⟩ := DataW.trod_int Tryd.underlying3 h1
  obtain ⟨c, e2, rfl, wc⟩ := DataW.trod_int Tryd.underlying23 h2
  obtain ⟨e, e3, rfl, we⟩ := DataW.trod_int Tryd.underlying24 h3
  simp at e0 e1 e2 e3
  subst e0 e1 e2 e3
  refine ⟨a, b, c, e, rfl, rfl, wb, fun W' sp' => ?_⟩
  exact shut_agg4 (y0 := (.lit (.int .i64 a), [])) (y1 := (.lit (.int .i64 b), [])) (y2 := (.lit (.int .i64 c), [])) (y3 := (.lit (.int .i64 e), [])) Tryd.underlying26 (by kernel_rfl) cells26
    ⟨1, by simp [DataW.trod, Tryd.underlying22, wa]⟩ ⟨1, by simp [DataW.trod, Tryd.underlying3, wb]⟩ ⟨1, by simp [DataW.trod, Tryd.underlying23, wc]⟩ ⟨1, by simp [DataW.trod, Tryd.underlying24, we]⟩
end Go.Proofs.YtopbhdpfakjkjaaDoor.Reply
