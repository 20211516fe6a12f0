/- Small plain facts. -/
import Derived.Test.YtkkgimhjjhhkjaaGreatDoorA
namespace Go.Proofs.YtkkgimhjjhhkjaaGreatDoor
open Go Go.Pev
theorem i64w (n : Int) (h1 : -9223372036854775808 ≤ n) (h2 : n ≤ 9223372036854775807) : IntKind.i64.wrap n = n := by rw [IntKind.wrap_i64]; omega
theorem cond_some {α : Type} (b : Bool) (x y : α) : (cond b (some x) (some y)) = some (cond b x y) := by cases b <;> rfl
theorem cond_int (b : Bool) (k : IntKind) (x y : Int) : (cond b (AV.int k x) (AV.int k y)) = AV.int k (cond b x y) := by cases b <;> rfl
theorem cond_err (b : Bool) (x y : Err) : (cond b (AV.err x) (AV.err y)) = AV.err (cond b x y) := by cases b <;> rfl
theorem cond_bool (b : Bool) (x y : Bool) : (cond b (AV.bool x) (AV.bool y)) = AV.bool (cond b x y) := by cases b <;> rfl
theorem cond_tup (b : Bool) (x y : List AV) : (cond b (AV.tup x) (AV.tup y)) = AV.tup (cond b x y) := by cases b <;> rfl
theorem cond_cons {α : Type} (b : Bool) (x y : α) (l m : List α) : (cond b (x :: l) (y :: m)) = cond b x y :: cond b l m := by cases b <;> rfl
theorem cond_ag (b : Bool) (x y : List AV) : (cond b (AV.ag x) (AV.ag y)) = AV.ag (cond b x y) := by cases b <;> rfl
theorem cond_sl (b : Bool) (s : Sh) (x y : List s.T) : (cond b (AV.sl s x) (AV.sl s y)) = AV.sl s (cond b x y) := by cases b <;> rfl
theorem cond_same {α : Type} (b : Bool) (x : α) : cond b x x = x := by cases b <;> rfl
theorem cond_nil {α : Type} (b : Bool) : cond b ([] : List α) [] = [] := by cases b <;> rfl
end Go.Proofs.YtkkgimhjjhhkjaaGreatDoor
