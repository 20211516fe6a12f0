/- A world where the listed variables hold what is listed; what a row's condition and its world's shape give a walk. -/
import Derived.Test.YtkkgimhjjhhkjaaGreatDoorA
import Derived.Test.YtkkgimhjjhhkjaaGreatDoorRows
import Derived.ChangeSame
import Derived.ChangeVars
import Derived.JoinedOf
import Derived.LaidLaws
import Derived.LaidHandle
import Derived.LaidSub
import Derived.HandedShaped
import Derived.Shelf.Vars
import Derived.Lib.LaidIn
import Derived.KernelRfl
namespace Go.Proofs.YtkkgimhjjhhkjaaGreatDoor
open Go Go.Pev
theorem own : ownKnob Tryz.prog.godebug = none := by kernel_rfl
def tab32 : Array Value := #[0, 1, 28, 2, 29, 14, 24, 3, 30, 22, 20, 15, 25, 17, 4, 8, 31, 27, 13, 23, 21, 19, 16, 7, 26, 12, 18, 6, 11, 5, 10, 9].map (Value.int .u8)
def tab64 : Array Value := #[0, 1, 56, 2, 57, 49, 28, 3, 61, 58, 42, 50, 38, 29, 17, 4, 62, 47, 59, 36, 45, 43, 51, 22, 53, 39, 33, 30, 24, 18, 12, 5, 63, 55, 48, 27, 60, 41, 37, 16, 46, 35, 44, 21, 52, 32, 23, 11, 54, 26, 40, 15, 34, 20, 31, 10, 25, 14, 19, 9, 13, 8, 7, 6].map (Value.int .u8)
def tab10 : Array Value := #[1, 10, 100, 1000, 10000, 100000, 1000000, 10000000, 100000000, 1000000000, 10000000000, 100000000000, 1000000000000, 10000000000000, 100000000000000, 1000000000000000, 10000000000000000, 100000000000000000, 1000000000000000000, 10000000000000000000].map (Value.int .u64)
def put (g : Nat) (cs : Array Value) (h : Array Obj) : Array Obj := h.modify g fun
  | .cells _ t frozen => .cells cs t frozen
  | o => o
noncomputable def low : Nat := (World.holding Tryz.prog default ⟨#[], #[], []⟩).heap.size
abbrev rangeS : ByteArray := ⟨#[118, 97, 108, 117, 101, 32, 111, 117, 116, 32, 111, 102, 32, 114, 97, 110, 103, 101]⟩
abbrev syntaxS : ByteArray := ⟨#[105, 110, 118, 97, 108, 105, 100, 32, 115, 121, 110, 116, 97, 120]⟩
noncomputable def laidWorld (os : Os) : World :=
  let w0 := World.holding Tryz.prog os ⟨#[.cells #[.string rangeS] 189, .cells #[.string syntaxS] 189], #[], []⟩
  { w0 with heap := put 5 tab32 (put 6 tab64 (put 2 tab10 (put 0 #[.iface 141 (.agg #[.pointer (some ⟨7, 26, none⟩)])] (put 4 #[.iface 187 (.pointer (some ⟨low, 0, none⟩))] (put 3 #[.iface 187 (.pointer (some ⟨low + 1, 0, none⟩))] (w0.heap)))))) }
def laid5 : List (String × DataW Unit) := [("math/bits.deBruijn32tab", Rows.laid_math_bits_deBruijn32tab), ("math/bits.deBruijn64tab", Rows.laid_math_bits_deBruijn64tab), ("internal/strconv.uint64pow10", Rows.laid_internal_strconv_uint64pow10), ("strconv.ErrRange", Rows.laid_strconv_ErrRange), ("strconv.ErrSyntax", Rows.laid_strconv_ErrSyntax)]
def laid6 : List (String × DataW Unit) := [("math/bits.deBruijn32tab", Rows.laid_math_bits_deBruijn32tab), ("math/bits.deBruijn64tab", Rows.laid_math_bits_deBruijn64tab), ("internal/strconv.uint64pow10", Rows.laid_internal_strconv_uint64pow10), ("errors.errorType", Rows.laid_errors_errorType), ("strconv.ErrRange", Rows.laid_strconv_ErrRange), ("strconv.ErrSyntax", Rows.laid_strconv_ErrSyntax)]
set_option maxRecDepth 100000 in
theorem laid6_met (os : Os) (args : Array Value) : laidMetH Tryz.prog laid6 ((laidWorld os).forCall (fun _ _ => 0) ⟨#[], args, []⟩).memory :=
  laidMetH_of_parts (laidMet_of_run' 8 (by kernel_rfl) (by kernel_rfl)) (by kernel_rfl)
theorem num_of_shaped {W : World} (h : W.ShapedOpen Tryz.prog) : GV.ok W 1 .num :=
  Go.Proofs.cell_of_shapedOpen_int (P := Tryz.prog) (g := 1) (t := 3) (zero := #[.int .i64 0]) h (of_decide_eq_true (by kernel_rfl)) (by kernel_rfl) rfl (by kernel_rfl) (by kernel_rfl) Tryz.underlying3
theorem glob_of_met {W : World} (h : laidMet Tryz.prog laid5 W) (hs : W.ShapedOpen Tryz.prog) : Glob cfgT (fun _ => False) W := by
  have h3 : laidMet Tryz.prog (("internal/strconv.uint64pow10", Lib.tabData .u64 [1, 10, 100, 1000, 10000, 100000, 1000000, 10000000, 100000000, 1000000000, 10000000000, 100000000000, 1000000000000, 10000000000000, 100000000000000, 1000000000000000, 10000000000000000, 100000000000000000, 1000000000000000000, 10000000000000000000]) :: [("strconv.ErrRange", Rows.laid_strconv_ErrRange), ("strconv.ErrSyntax", Rows.laid_strconv_ErrSyntax)]) W := h.tail.tail
  have t := Lib.tabIs_of_head (g := 2) (t := 169) (e := 150) (n := 20) (by kernel_rfl) (by kernel_rfl) (by kernel_rfl) (by kernel_rfl) (by kernel_rfl) (by kernel_rfl) h3
  have r := GV.face_of_head (g := 4) (ti := 26) h3.tail (by kernel_rfl) (by kernel_rfl) Tryz.underlying26
  have x := GV.face_of_head (g := 3) (ti := 26) h3.tail.tail (by kernel_rfl) (by kernel_rfl) Tryz.underlying26
  exact Glob.cons (C := cfg) (GV.of_var (by kernel_rfl) t) (Glob.cons (C := cfg) x (Glob.cons (C := cfg) r (Glob.cons (C := cfg) (num_of_shaped hs) (Glob.none rfl))))
theorem glob6_of_laid {W : World} (h : laidMetH Tryz.prog laid6 W) (hs : W.ShapedOpen Tryz.prog) : Glob cfgG (fun _ => False) W := by
  obtain ⟨h1, h2⟩ : laidMet Tryz.prog laid5 W ∧ handlesMet Tryz.prog [("errors.errorType", Rows.laid_errors_errorType)] W := h
  exact Glob.cons (C := cfg) (GV.of_handle (u := 141) (ty := 26) rfl rfl (by kernel_rfl) (by kernel_rfl) (by kernel_rfl) h2) (glob_of_met h1 hs)
theorem laidOut : laidOutB Tryz.prog = true := by kernel_rfl
end Go.Proofs.YtkkgimhjjhhkjaaGreatDoor
