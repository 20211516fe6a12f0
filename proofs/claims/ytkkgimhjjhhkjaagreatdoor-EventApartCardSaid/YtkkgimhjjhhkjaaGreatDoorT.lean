/- strconv.FormatBool, FormatInt, ParseInt as contracts of the evaluator. -/
import Derived.Test.YtkkgimhjjhhkjaaGreatDoorBs
import Derived.Test.YtkkgimhjjhhkjaaGreatDoorSh
namespace Go.Proofs.YtkkgimhjjhhkjaaGreatDoor
open Go Go.Pev Go.Sort

theorem keep_grow (w : World) (k : Nat) (os : Array Obj) : KeepS (fun _ => False) w (grow (w.drewN k) os) :=
  ⟨rfl, rfl, rfl, by simp [grow, World.drewN], fun j hj _ => by simp [grow, World.drewN, Array.getElem?_append_left hj]⟩
theorem keep_below {w w' : World} (h : RowKit.Below w.heap.size w w') : KeepS (fun _ => False) w w' := ⟨h.os, h.tape, h.output, h.size, fun k hk _ => h.block k hk⟩

def sp25 : Pev.CSpec := { f := fun | [.bool b] => .ret (.str ⟨(Lib.formatBool b).toArray⟩) | _ => .fail }
theorem ok25 : EnterOk Tryz.prog 61 ∧ CSpecOk Tryz.prog cfg 61 sp25 := ⟨enter Tryz.func61 (by kernel_rfl) (by kernel_rfl), by
  intro args res h
  unfold sp25 at h
  simp only at h
  split at h <;> try (cases h; done)
  obtain rfl := Option.some.inj h
  refine Contract.of0 ?_ rfl rfl
  intro M w vs _ _ ha
  cases ha with
  | cons h1 t1 =>
    cases t1
    simp only [SR, LR] at h1
    subst h1
    exact (Tryz.strconv_FormatBool _ w).mono fun e w' ⟨h1, h2⟩ => ⟨_, h1, rfl, h2 ▸ KeepS.refl _ _⟩⟩

def sp23 : Pev.CSpec := { f := fun | [.int .i64 n, .int .i64 10] => .br (decide (-9223372036854775808 ≤ n ∧ n ≤ 9223372036854775807)) (.ret (.str ⟨(Lib.itoa n).toArray⟩)) .fail | _ => .fail }
theorem ok23 : EnterOk Tryz.prog 59 ∧ CSpecOk Tryz.prog cfgT 59 sp23 := ⟨enter Tryz.func59 (by kernel_rfl) (by kernel_rfl), by
  intro args res h
  unfold sp23 at h
  simp only at h
  split at h <;> try (cases h; done)
  rename_i n
  cases hd : decide (-9223372036854775808 ≤ n ∧ n ≤ 9223372036854775807) with
  | false => rw [hd] at h; cases h
  | true =>
    rw [hd] at h
    obtain rfl := Option.some.inj h
    refine Contract.of0 ?_ rfl rfl
    intro M w vs _ hg ha
    cases ha with
    | cons h1 t1 =>
      cases t1 with
      | cons h2 t2 =>
        cases t2
        simp only [SR, LR] at h1 h2
        subst h1; subst h2
        obtain ⟨b1, b2⟩ := of_decide_eq_true hd
        have ht : Lib.TabIs Tryz.prog w "internal/strconv.uint64pow10" .u64 Lib.pow10Tab := GV.to_var (g := 2) (by kernel_rfl) (hg (2, .is pow10) (List.mem_cons_self ..)).1
        exact (Tryz.strconv_FormatInt_10 n b1 b2 w ht).mono fun e w' ⟨h1, k, os, h2⟩ => ⟨_, h1, rfl, h2 ▸ keep_grow w k os⟩⟩

/-- Is it a numeral of an int64? Its value, where there is one. -/
def piOk (s : ByteArray) : Bool := match Lib.parseIntB 64 s.data.toList with | .ok _ => true | _ => false
def piV (s : ByteArray) : Int := match Lib.parseIntB 64 s.data.toList with | .ok v => v | Lib.NumEnd.syntax => 0 | .range => Lib.intSat 64 s.data.toList
def sp47 : Pev.CSpec := { f := fun
  | [.str s, .int .i64 10, .int .i64 64] => .br (decide (s.size ≤ 281474976710656)) (.br (piOk s) (.ret (.tup [.int .i64 (piV s), .err none])) (.ret (.tup [.int .i64 (piV s), .oth]))) .fail
  | _ => .fail }
theorem face_at {w : World} {b : Nat} (h : GV.face.ok w b) : ∃ ev, w.cell? ⟨b, 0, none⟩ = some ev ∧ (ev = .nilIface ∨ ∃ te pe, ev = .iface te pe) := by
  obtain ⟨te, pe, t, fr, h⟩ := h
  exact ⟨.iface te pe, by simp [World.cell?, h], .inr ⟨te, pe, rfl⟩⟩
theorem keep_or {w w' : World} (h : w' = w ∨ ∃ t, w' = Lib.bytesWorld w 5 t) : KeepS (fun _ => False) w w' := by
  rcases h with rfl | ⟨t, rfl⟩
  · exact KeepS.refl _ _
  · exact keep_below (Lib.bytesWorld_below _ _ _)
theorem ok47 : EnterOk Tryz.prog 93 ∧ CSpecOk Tryz.prog cfgT 93 sp47 := ⟨enter Tryz.func93 (by kernel_rfl) (by kernel_rfl), by
  intro args res h
  unfold sp47 at h
  simp only at h
  split at h <;> try (cases h; done)
  rename_i s
  cases hd : decide (s.size ≤ 281474976710656) with
  | false => rw [hd] at h; cases h
  | true =>
    rw [hd] at h
    have hs := of_decide_eq_true hd
    have hres : (res.pure && res.rfree) = true := by
      cases hq : piOk s with
      | true => rw [hq] at h; obtain rfl := Option.some.inj h; rfl
      | false => rw [hq] at h; obtain rfl := Option.some.inj h; rfl
    refine Contract.of0 ?_ rfl hres
    intro M w vs _ hg ha
    cases ha with
    | cons h1 t1 =>
      cases t1 with
      | cons h2 t2 =>
        cases t2 with
        | cons h3 t3 =>
          cases t3
          simp only [SR, LR] at h1 h2 h3
          subst h1; subst h2; subst h3
          have g2 := (hg (3, .face) (by simp [cfgT, globT])).1
          have g3 := (hg (4, .face) (by simp [cfgT, globT])).1
          obtain ⟨e2, c2, f2⟩ := face_at g2
          obtain ⟨e3, c3, f3⟩ := face_at g3
          match hp : Lib.parseIntB 64 s.data.toList with
          | Lib.NumEnd.ok v =>
            rw [show piOk s = true by unfold piOk; rw [hp], show piV s = v by unfold piV; rw [hp]] at h
            obtain rfl := Option.some.inj h
            exact (Tryz.strconv_ParseInt_10_at64_ok s (by omega) v hp w).mono fun e w' ⟨q1, q2⟩ => ⟨_, q1, ⟨[_, _], rfl, .cons rfl (.cons (Rob.const rfl) .nil)⟩, keep_or q2⟩
          | Lib.NumEnd.syntax =>
            rw [show piOk s = false by unfold piOk; rw [hp], show piV s = 0 by unfold piV; rw [hp]] at h
            obtain rfl := Option.some.inj h
            exact (Tryz.strconv_ParseInt_10_at64_syntax s hs hp e2 w c2 f2).mono fun e w' ⟨N, q1, _, _, q2⟩ => ⟨_, q1, ⟨[_, _], rfl, .cons rfl (.cons ⟨_, _, rfl⟩ .nil)⟩, keep_below q2⟩
          | Lib.NumEnd.range =>
            rw [show piOk s = false by unfold piOk; rw [hp], show piV s = Lib.intSat 64 s.data.toList by unfold piV; rw [hp]] at h
            obtain rfl := Option.some.inj h
            exact (Tryz.strconv_ParseInt_10_at64_range s hs hp e3 w c3 f3).mono fun e w' ⟨N, q1, _, _, q2⟩ => ⟨_, q1, ⟨[_, _], rfl, .cons rfl (.cons ⟨_, _, rfl⟩ .nil)⟩, keep_below q2⟩⟩
end Go.Proofs.YtkkgimhjjhhkjaaGreatDoor
