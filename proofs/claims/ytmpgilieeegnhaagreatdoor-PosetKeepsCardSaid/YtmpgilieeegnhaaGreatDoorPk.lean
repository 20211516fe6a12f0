/- slices.DeleteFunc over ints with whatever function value; the poset's pick. -/
import Derived.Test.YtmpgilieeegnhaaGreatDoorPewAh
import Derived.Test.YtmpgilieeegnhaaGreatDoorGb
import Derived.Lib.SliceRun
import Derived.Lib.Walk
import Derived.WalkKit
import Derived.Deep.LoopGhost
import Derived.Deep.Draws
import Derived.Shelf.RegionOpenPlain
import Derived.KernelRfl
set_option maxRecDepth 100000
namespace Go.Proofs.YtmpgilieeegnhaaGreatDoor
open Go Go.Pev Go.Lib Go.RowKit Go.Shelf
/-- What a walk along a row asks: the row holds these numbers; the function value's answers. -/
structure PJ (g : Nat) (lb : Array Value) (blk n : Nat) (pr : Int → List Pev.Node → Option (Bool × List Pev.Node)) (J : List Int → List Pev.Node → World → Prop) : Prop where
  eg : ∀ args w, (callFunc g args).run Tryz.prog w = .ok (.enter g args) w
  big : n ≤ 9223372036854775807
  len : ∀ {d H W}, J d H W → d.length = n
  cell : ∀ {d H W}, J d H W → ∀ j x, d[j]? = some x → W.cell? ⟨blk, j, none⟩ = some (.int .i64 x)
  free : ∀ {d H W}, J d H W → ∀ j, W.frozen? ⟨blk, j, none⟩ = false
  call : ∀ {d H W x b H'}, J d H W → pr x H = some (b, H') → Calls Tryz.prog g (#[.int .i64 x] ++ lb) W fun e w' => e = .returned (.bool b) ∧ J d H' w'
  set : ∀ {d H W i x}, J d H W → i < n → J (d.set i x) H (W.setCell ⟨blk, i, none⟩ (.int .i64 x))
/-- The numbers that the function value lets stay. -/
def delF (pr : Int → List Pev.Node → Option (Bool × List Pev.Node)) : List Int → List Pev.Node → Option (List Int × List Pev.Node)
  | [], H => some ([], H)
  | x :: r, H => (pr x H).bind fun p => (delF pr r p.2).map fun q => (cond p.1 q.1 (x :: q.1), q.2)
theorem delF_cons {pr : Int → List Pev.Node → Option (Bool × List Pev.Node)} {x : Int} {r : List Int} {H : List Pev.Node} {m : List Int} {H1 : List Pev.Node} (h : delF pr (x :: r) H = some (m, H1)) :
    ∃ b H' m2, pr x H = some (b, H') ∧ delF pr r H' = some (m2, H1) ∧ m = cond b m2 (x :: m2) := by
  simp only [delF] at h
  obtain ⟨⟨b, H'⟩, h1, h2⟩ := Option.bind_eq_some_iff.1 h
  obtain ⟨⟨m2, H2⟩, h3, h4⟩ := Option.map_eq_some_iff.1 h2
  simp only [Prod.mk.injEq] at h4
  obtain ⟨h4, rfl⟩ := h4
  exact ⟨b, H', m2, h1, h3, h4.symm⟩
/-- The numbers up to the first that goes. -/
def keepF (pr : Int → List Pev.Node → Option (Bool × List Pev.Node)) : List Int → List Pev.Node → Option (List Pev.Node)
  | [], H => some H
  | x :: r, H => match pr x H with
    | some (false, H') => keepF pr r H'
    | _ => none
theorem keepF_cons {pr : Int → List Pev.Node → Option (Bool × List Pev.Node)} {x : Int} {r : List Int} {H H1 : List Pev.Node} (h : keepF pr (x :: r) H = some H1) : ∃ H', pr x H = some (false, H') ∧ keepF pr r H' = some H1 := by
  simp only [keepF] at h
  split at h
  · rename_i H' h1
    exact ⟨H', h1, h⟩
  · cases h
theorem delF_hit {pr : Int → List Pev.Node → Option (Bool × List Pev.Node)} : ∀ {d : List Int} {H : List Pev.Node} {m : List Int} {H1 : List Pev.Node}, delF pr d H = some (m, H1) →
    (keepF pr d H = some H1 ∧ m = d) ∨ ∃ k x H2 H3 m2, d[k]? = some x ∧ keepF pr (d.take k) H = some H2 ∧ pr x H2 = some (true, H3) ∧ delF pr (d.drop (k + 1)) H3 = some (m2, H1) ∧ m = d.take k ++ m2
  | [], H, m, H1, h => by
    simp only [delF, Option.some.injEq, Prod.mk.injEq] at h
    obtain ⟨rfl, rfl⟩ := h
    exact .inl ⟨rfl, rfl⟩
  | x :: r, H, m, H1, h => by
    obtain ⟨b, H', m2, h1, h2, h3⟩ := delF_cons h
    cases b with
    | true => exact .inr ⟨0, x, H, H', m2, rfl, rfl, h1, h2, h3⟩
    | false =>
      rcases delF_hit h2 with ⟨q1, q2⟩ | ⟨k, y, H2, H3, m3, q1, q2, q3, q4, q5⟩
      · left
        refine ⟨?_, by rw [h3, q2]; rfl⟩
        show keepF pr (x :: r) H = _
        simp only [keepF, h1]
        exact q1
      · right
        refine ⟨k + 1, y, H2, H3, m3, q1, ?_, q3, q4, by rw [h3, q5]; rfl⟩
        show keepF pr (x :: r.take k) H = _
        simp only [keepF, h1]
        exact q2
set_option maxHeartbeats 2000000 in
theorem indexJ {g : Nat} {lb : Array Value} {blk n : Nat} {pr : Int → List Pev.Node → Option (Bool × List Pev.Node)} {J : List Int → List Pev.Node → World → Prop} (K : PJ g lb blk n pr J) (c : Nat) {d : List Int} {H Hk H3 : List Pev.Node} {w : World} {k0 : Nat} (hJ : J d H w) (h0 : k0 ≤ n) (hk : keepF pr (d.take k0) H = some Hk) (hh : k0 < n → ∃ x, d[k0]? = some x ∧ pr x Hk = some (true, H3)) :
    Calls Tryz.prog 76 #[.slice (some ⟨blk, 0, none⟩) n c, .func (.func g) #[] lb] w fun e w' => e = .returned (.int .i64 (if k0 < n then (k0 : Int) else -1)) ∧ J d (if k0 < n then H3 else Hk) w' := by
  have hlen := K.len hJ
  have eg := K.eg
  have hbig := K.big
  have DD : Aside (k0 ≤ n ∧ (k0 < n → ∃ x, d[k0]? = some x ∧ pr x Hk = some (true, H3))) := (show Aside _ from ⟨h0, hh⟩)
  clear h0 hh
  go_enter Tryz.func76, Tryz.ntmps76
  go_wp2
  go_loopg [5, 8] n (fun gg _ s8 wr => ∃ (kk : Nat) (H2 : List Pev.Node), kk ≤ k0 ∧ n - kk ≤ gg ∧ s8 = .int .i64 kk ∧ Aside (J d H2 wr ∧ keepF pr ((d.take k0).drop kk) H2 = some Hk))
  case atStart => exact ⟨0, H, Nat.zero_le _, by omega, rfl, (show Aside _ from ⟨hJ, by simpa using hk⟩)⟩
  case round =>
    obtain ⟨kk, H2, hkk, hg, rfl, A⟩ := hrel
    have hkn := DD.out.1
    by_cases hlt : kk < n
    · have hltz : (kk : Int) < (n : Int) := by omega
      obtain ⟨x, hx⟩ : ∃ x, d[kk]? = some x := ⟨d[kk]'(by omega), List.getElem?_eq_getElem (by omega)⟩
      have hcell := K.cell A.out.1 kk x hx
      by_cases hlk : kk < k0
      · have hxt : (d.take k0)[kk]? = some x := by rw [List.getElem?_take, if_pos hlk, hx]
        have hdr : (d.take k0).drop kk = x :: (d.take k0).drop (kk + 1) := by
          obtain ⟨h', rfl⟩ := List.getElem?_eq_some_iff.1 hxt
          exact List.drop_eq_getElem_cons h'
        obtain ⟨H4, q1, q2⟩ := keepF_cons (hdr ▸ A.out.2)
        have hcall := K.call A.out.1 q1
        have B : Aside (keepF pr ((d.take k0).drop (kk + 1)) H4 = some Hk) := (show Aside _ from q2)
        clear A q1 q2 hdr hxt
        go_wp2_with (go_at_fn g; refine hcall.mono ?_; rintro e w' ⟨rfl, hJ'⟩)
        go_roundg (n - (kk + 1))
        case measure => omega
        case rel => exact ⟨kk + 1, H4, by omega, by omega, by go_num, (show Aside _ from ⟨hJ', B.out⟩)⟩
      · obtain rfl : kk = k0 := by omega
        obtain ⟨y, hy, hp⟩ := DD.out.2 hlt
        rw [hx] at hy
        obtain rfl := Option.some.inj hy
        have h2 := A.out.2
        rw [List.drop_of_length_le (by rw [List.length_take]; omega)] at h2
        obtain rfl := Option.some.inj h2
        have hcall := K.call A.out.1 hp
        clear A h2 hp
        go_wp2_with (go_at_fn g; refine hcall.mono ?_; rintro e w' ⟨rfl, hJ'⟩)
        go_ret
        exact ⟨rfl, hJ'⟩
    · have hltz : ¬ (kk : Int) < (n : Int) := by omega
      obtain rfl : kk = k0 := by omega
      have h2 := A.out.2
      rw [List.drop_of_length_le (by rw [List.length_take]; omega)] at h2
      obtain rfl := Option.some.inj h2
      go_wp2
      go_ret
      exact ⟨rfl, A.out.1⟩
theorem setCellsJ {g : Nat} {lb : Array Value} {blk n : Nat} {pr : Int → List Pev.Node → Option (Bool × List Pev.Node)} {J : List Int → List Pev.Node → World → Prop} (K : PJ g lb blk n pr J) {H : List Pev.Node} : ∀ (k i : Nat) (d : List Int) (w : World), J d H w → i + k ≤ n → ∃ d', J d' H (w.setCells blk i (List.replicate k (.int .i64 0))) ∧ d'.take i = d.take i
  | 0, i, d, w, hJ, _ => ⟨d, hJ, rfl⟩
  | k + 1, i, d, w, hJ, hk => by
    obtain ⟨d', h1, h2⟩ := setCellsJ K k (i + 1) (d.set i 0) _ (K.set (x := 0) hJ (by omega)) (by omega)
    refine ⟨d', h1, ?_⟩
    have := congrArg (List.take i) h2
    rw [List.take_take, List.take_take, Nat.min_eq_left (Nat.le_succ i), List.take_set_of_le (Nat.le_refl i)] at this
    exact this
set_option maxHeartbeats 4000000 in
theorem deleteJ {g : Nat} {lb : Array Value} {blk n : Nat} {pr : Int → List Pev.Node → Option (Bool × List Pev.Node)} {J : List Int → List Pev.Node → World → Prop} (K : PJ g lb blk n pr J) (c : Nat) (hc : n ≤ c) {d : List Int} {H H1 : List Pev.Node} {w : World} {m : List Int} (hJ : J d H w) (hd : delF pr d H = some (m, H1)) :
    Calls Tryz.prog 58 #[.slice (some ⟨blk, 0, none⟩) n c, .func (.func g) #[] lb] w fun e w' => e = .returned (.slice (some ⟨blk, 0, none⟩) m.length c) ∧ ∃ d', J d' H1 w' ∧ d'.take m.length = m ∧ m.length ≤ n := by
  have hlen := K.len hJ
  have eg := K.eg
  have hbig := K.big
  have e76 : ∀ args w, (callFunc 76 args).run Tryz.prog w = .ok (.enter 76 args) w := enters_of Tryz.func76 (by kernel_rfl) rfl
  have KK : Aside (PJ g lb blk n pr J) := (show Aside _ from K)
  have DD : Aside (d.length = n) := (show Aside _ from hlen)
  rcases delF_hit hd with ⟨q1, q2⟩ | ⟨k0, x0, H2, H3, m2, q1, q2, q3, q4, q5⟩
  · have hIF := indexJ (H3 := H1) K c hJ (Nat.le_refl n) (by rw [List.take_of_length_le (by omega)]; exact q1) (fun h => absurd h (Nat.lt_irrefl n))
    rw [if_neg (Nat.lt_irrefl n), if_neg (Nat.lt_irrefl n)] at hIF
    subst q2
    clear K hJ hd hlen q1
    go_enter Tryz.func58, Tryz.ntmps58
    go_wp2_with (go_at_fn 76; refine hIF.mono ?_; rintro e w' ⟨rfl, hJ'⟩)
    go_ret
    exact ⟨by rw [DD.out]; rfl, m, hJ', by rw [List.take_length], by have := DD.out; omega⟩
  · have hk0 : k0 < n := by have := (List.getElem?_eq_some_iff.1 q1).1; omega
    have hIF := indexJ K c hJ (Nat.le_of_lt hk0) q2 (fun _ => ⟨x0, q1, q3⟩)
    rw [if_pos hk0, if_pos hk0] at hIF
    have hne1 : ((k0 : Int) == -1) = false := beq_eq_false_iff_ne.2 (by omega)
    have Q : Aside (delF pr (d.drop (k0 + 1)) H3 = some (m2, H1) ∧ m = d.take k0 ++ m2) := (show Aside _ from ⟨q4, q5⟩)
    clear K hJ hd hlen q1 q2 q3 q4 q5
    go_enter Tryz.func58, Tryz.ntmps58
    go_wp2_with (go_at_fn 76; refine hIF.mono ?_; rintro e w' ⟨rfl, hJ2⟩)
    have I0 : Aside (J d H3 w' ∧ delF pr (d.drop (k0 + 1)) H3 = some (m2, H1) ∧ m = d.take k0 ++ m2) := (show Aside _ from ⟨hJ2, Q.out.1, Q.out.2⟩)
    clear hJ2 hIF
    go_loopg [5, 6, 7] n (fun gg s5 s6 _ wr => ∃ (i j : Nat) (H2 : List Pev.Node) (dk m2 : List Int), s5 = .int .i64 i ∧ s6 = .int .i64 j ∧ i < j ∧ j ≤ n ∧ n - j ≤ gg ∧ Aside (J dk H2 wr ∧ delF pr (d.drop j) H2 = some (m2, H1) ∧ m = dk.take i ++ m2 ∧ dk.drop j = d.drop j))
    case atStart => exact ⟨k0, k0 + 1, H3, d, m2, rfl, by go_num, by omega, by omega, by omega, (show Aside _ from ⟨I0.out.1, I0.out.2.1, I0.out.2.2, rfl⟩)⟩
    case round =>
      obtain ⟨i, j, H3, dk, m3, rfl, rfl, hij, hjn, hgg, A⟩ := hrel
      have hdl := KK.out.len A.out.1
      by_cases hlt : j < n
      · have hltz : (j : Int) < (n : Int) := by omega
        obtain ⟨x, hx⟩ : ∃ x, d[j]? = some x := ⟨d[j]'(by have := DD.out; omega), List.getElem?_eq_getElem (by have := DD.out; omega)⟩
        have hxk : dk[j]? = some x := by
          have h1 : (dk.drop j)[0]? = (d.drop j)[0]? := by rw [A.out.2.2.2]
          simpa [hx] using h1
        have hcell := KK.out.cell A.out.1 j x hxk
        have hdr : d.drop j = x :: d.drop (j + 1) := by
          obtain ⟨h', rfl⟩ := List.getElem?_eq_some_iff.1 hx
          exact List.drop_eq_getElem_cons h'
        obtain ⟨b, H4, m4, q1, q2, q3⟩ := delF_cons (hdr ▸ A.out.2.1)
        have hcall := KK.out.call A.out.1 q1
        obtain ⟨old, hold⟩ : ∃ x, dk[i]? = some x := ⟨dk[i]'(by omega), List.getElem?_eq_getElem (by omega)⟩
        have B : Aside (m = dk.take i ++ m3 ∧ m3 = cond b m4 (x :: m4) ∧ delF pr (d.drop (j + 1)) H4 = some (m4, H1) ∧ dk.drop (j + 1) = d.drop (j + 1) ∧ dk[i]? = some old) := (show Aside _ from ⟨A.out.2.2.1, q3, q2, by
          have := congrArg (List.drop 1) A.out.2.2.2
          rwa [List.drop_drop, List.drop_drop] at this, hold⟩)
        clear A q1 q2 q3 hdr hx hxk hold
        cases b with
        | false =>
          go_wp2_with (go_at_fn g; refine hcall.mono ?_; rintro e w' ⟨rfl, hJ'⟩; have hci := KK.out.cell hJ' i old B.out.2.2.2.2; have hfi := KK.out.free hJ' i; have J' : Aside (J dk H4 w') := (show Aside _ from hJ'); clear hJ')
          go_roundg (n - (j + 1))
          case measure => omega
          case rel =>
            refine ⟨i + 1, j + 1, H4, dk.set i x, m4, by go_num, by go_num, by omega, by omega, by omega, (show Aside _ from ⟨KK.out.set J'.out (by omega), B.out.2.2.1, ?_, ?_⟩)⟩
            · rw [B.out.1, B.out.2.1, List.take_add_one, List.getElem?_set_self (by omega), List.take_set_of_le (Nat.le_refl i), List.append_assoc]
              rfl
            · rw [List.drop_set, if_pos (by omega)]
              exact B.out.2.2.2.1
        | true =>
          go_wp2_with (go_at_fn g; refine hcall.mono ?_; rintro e w' ⟨rfl, hJ'⟩)
          go_roundg (n - (j + 1))
          case measure => omega
          case rel => exact ⟨i, j + 1, H4, dk, m4, rfl, by go_num, by omega, by omega, by omega, (show Aside _ from ⟨hJ', B.out.2.2.1, by rw [B.out.1, B.out.2.1]; rfl, B.out.2.2.2.1⟩)⟩
      · obtain rfl : j = n := by omega
        have hltz : ¬ (j : Int) < (j : Int) := by omega
        have hcl : ∀ ty, (Builtin.clear_ #[35] ty #[.slice (some ⟨blk, i, none⟩) (j - i) (c - i)]).run Tryz.prog wr = .ok (.tuple #[]) (wr.setCells blk i (List.replicate (j - i) (.int .i64 0))) :=
          fun ty => Lib.run_clear_slice wr _ _ ty _ Tryz.underlying35 (fun w => Tryz.zeroValue3 w) rfl rfl blk i _ _ (by omega) (fun t ht => by rw [KK.out.cell A.out.1 (i + t) _ (List.getElem?_eq_getElem (by omega))]; rfl) (fun t ht => KK.out.free A.out.1 _)
        go_wp2
        go_ret
        have h2 := A.out.2.1
        rw [List.drop_of_length_le (by have := DD.out; omega)] at h2
        simp only [delF, Option.some.injEq, Prod.mk.injEq] at h2
        obtain ⟨rfl, rfl⟩ := h2
        have hm := A.out.2.2.1
        rw [List.append_nil] at hm
        have hml : m.length = i := by rw [hm, List.length_take]; omega
        obtain ⟨d', g1, g2⟩ := setCellsJ KK.out (j - i) i dk wr A.out.1 (by omega)
        exact ⟨by rw [hml]; rfl, d', g1, by rw [hml, g2, ← hm], by omega⟩
set_option maxHeartbeats 1000000 in
theorem indexNil (c : Nat) (fv : Value) (w : World) : Calls Tryz.prog 76 #[.slice none 0 c, fv] w fun e w' => e = .returned (.int .i64 (-1)) ∧ w' = w := by
  go_enter Tryz.func76, Tryz.ntmps76
  go_wp2
  go_loopg [5, 8] 0 (fun _ _ s8 wr => s8 = .int .i64 0 ∧ wr = w)
  case atStart => exact ⟨rfl, rfl⟩
  case round =>
    obtain ⟨rfl, rfl⟩ := hrel
    go_wp2
    go_ret
    exact ⟨rfl, rfl⟩
theorem deleteNil (c : Nat) (fv : Value) (w : World) : Calls Tryz.prog 58 #[.slice none 0 c, fv] w fun e w' => e = .returned (.slice none 0 c) ∧ w' = w := by
  have e76 : ∀ args w, (callFunc 76 args).run Tryz.prog w = .ok (.enter 76 args) w := enters_of Tryz.func76 (by kernel_rfl) rfl
  have hIF := indexNil c fv w
  go_enter Tryz.func58, Tryz.ntmps58
  go_wp2_with (go_at_fn 76; refine hIF.mono ?_; rintro e w' ⟨rfl, rfl⟩)
  go_ret
  exact ⟨rfl, rfl⟩
/-! ### pick -/
def T0 : Tabs := { cfgG with asF := 0, asPtr := 0, asNum := 0, shs := [], eqs := [], specs := [] }
/-- The row and the region. -/
def rsP (lk : List Nat) (l : List Int) (H : List Pev.Node) : Nat → Option RS := getR [(8000, some (.row 3 (.int .i64) l)), (REG, some (.reg lk [] H))]
theorem rsP_8000 {lk : List Nat} {l : List Int} {H : List Pev.Node} : rsP lk l H 8000 = some (.row 3 (.int .i64) l) := rfl
theorem rsP_reg {lk : List Nat} {l : List Int} {H : List Pev.Node} : rsP lk l H REG = some (.reg lk [] H) := rfl
theorem rsP_new {lk : List Nat} {l : List Int} {H0 H : List Pev.Node} : updR (getR [(REG, some (.reg lk [] H0))]) [(8000, some (.row 3 (.int .i64) l)), (REG, some (.reg lk [] H))] = rsP lk l H := by
  funext i
  unfold rsP
  rw [updR_cons', updR_cons', getR_cons, getR_cons]
  split
  · rfl
  · split
    · rfl
    · rename_i h
      rw [updR_nil, getR_cons, if_neg h, getR_nil]
theorem rsP_row {lk : List Nat} {l l' : List Int} {H : List Pev.Node} : updR (rsP lk l H) [(8000, some (.row 3 (.int .i64) l'))] = rsP lk l' H := by
  funext i
  unfold rsP
  rw [updR_cons', updR_nil, getR_cons, getR_cons, getR_cons]
  split
  · rfl
  · rw [getR_cons]
theorem rsP_put {lk : List Nat} {l : List Int} {H H' : List Pev.Node} : updR (rsP lk l H) [(REG, some (.reg lk [] H'))] = rsP lk l H' := by
  funext i
  unfold rsP
  rw [updR_cons', updR_nil, getR_cons, getR_cons, getR_cons, getR_cons]
  by_cases h : REG = i
  · subst h; rw [if_pos rfl, if_neg (by decide), if_pos rfl]
  · simp only [if_neg h]
def notF (hp : Int → List Pev.Node → Option (Bool × List Pev.Node)) (x : Int) (H : List Pev.Node) : Option (Bool × List Pev.Node) := (hp x H).map fun p => (!p.1, p.2)
section
variable {B : Base} {w w1 : World} {sl : Nat → Option AV} {a : Act} {lk : List Nat} {v : Value}
/-- What stands while the walk goes along the row. -/
def JP (B : Base) (w1 : World) (sl : Nat → Option AV) (a : Act) (lk : List Nat) (v : Value) (d : List Int) (H : List Pev.Node) (W : World) : Prop :=
  ∃ ρ F β N, Rel (T0.cf β N B.L) B w1 sl (rsP lk d H) ρ F a W ∧ ρ 8000 = v
set_option maxHeartbeats 1000000 in
theorem pj {f n c blk b77 : Nat} {cs : List AV} {us : List Value} {hp : Int → List Pev.Node → Option (Bool × List Pev.Node)} (ef : EnterOk Tryz.prog f) (e59 : EnterOk Tryz.prog 59) (hcs : cs.all AV.pure1 = true) (hn : n ≤ 9223372036854775807)
    (hf : ∀ x H b H', hp x H = some (b, H') → Contract Tryz.prog cfgG f ((.int .i64 x :: cs) ++ [.hin lk H]) (.outs (.bool b) .undef H'))
    (s1 : sl 1 = some (.fnc f cs)) (s2 : sl 2 = some (.own 8000)) (t1 : a.tmps[1]? = some (.func (.func f) #[] us.toArray)) (t2 : a.tmps[2]? = some (.slice (some ⟨blk, 0, none⟩) n c))
    (hb : w1.cell? ⟨b77, 0, none⟩ = some (.func (.func f) #[] us.toArray)) (hb1 : ¬ B.W b77) :
    PJ 59 #[.pointer (some ⟨b77, 0, none⟩)] blk n (notF hp) (JP B w1 sl a lk (.slice (some ⟨blk, 0, none⟩) n c)) := by
  refine ⟨fun args w => e59 args w, hn, ?_, ?_, ?_, ?_, ?_⟩
  · rintro d H W ⟨ρ, F, β, N, h, h8⟩
    exact (h.ints rsP_8000 h8).1.symm
  · rintro d H W ⟨ρ, F, β, N, h, h8⟩
    exact (h.ints rsP_8000 h8).2.1
  · rintro d H W ⟨ρ, F, β, N, h, h8⟩
    exact (h.ints rsP_8000 h8).2.2.1
  · rintro d H W x b H' ⟨ρ, F, β, N, h, h8⟩ hx0
    obtain ⟨⟨b', H''⟩, hx, he⟩ := Option.map_eq_some_iff.1 hx0
    simp only [Prod.mk.injEq] at he
    obtain ⟨rfl, rfl⟩ := he
    obtain ⟨vf, e1, us', e2, hus⟩ := h.slots 1 _ s1
    rw [t1] at e1
    obtain rfl := Option.some.inj e1
    simp only [Value.func.injEq, true_and] at e2
    have e2 : us = us' := by simpa using e2
    subst e2
    have hcell : W.cell? ⟨b77, 0, none⟩ = some (.func (.func f) #[] us.toArray) := by
      rw [← hb]
      have hlt : b77 < w1.heap.size := World.block_lt_of_cell? w1 ⟨b77, 0, none⟩ hb
      exact World.cell?_of_block (a := ⟨b77, 0, none⟩) (h.keep.block b77 hlt hb1)
    have hcall := rel_call h (g := f) (args := .int .i64 x :: cs) (us := .int .i64 x :: us) (hf x H b' H'' hx) (by
      show (true && cs.all AV.pure2) = true
      rw [Bool.true_and, List.all_eq_true]
      intro y hy
      have := List.all_eq_true.1 hcs y hy
      cases y <;> first | exact this | (simp [AV.pure1] at this; done)) (.cons rfl (hus.imp fun _ _ h => h.toVR)) rsP_reg rfl
    rw [rsP_put] at hcall
    have ef' : ∀ args w, (callFunc f args).run Tryz.prog w = .ok (.enter f args) w := ef
    have hcall : Calls Tryz.prog f (#[.int .i64 x] ++ us.toArray) W fun e w' => e = .returned (.bool b') ∧ JP B w1 sl a lk (.slice (some ⟨blk, 0, none⟩) n c) d H'' w' := by
      have : Calls Tryz.prog f (Value.int .i64 x :: us).toArray W fun e w' => e = .returned (.bool b') ∧ JP B w1 sl a lk (.slice (some ⟨blk, 0, none⟩) n c) d H'' w' := hcall.mono fun e w' hh => by
        obtain ⟨v', hv0, ρ', F', β', N', h', hv'⟩ := hh
        have hv' : v' = .bool b' := hv'
        subst hv'
        refine ⟨hv0, ρ', F', β', N', h', ?_⟩
        obtain ⟨u, q1, q2⟩ := h'.slots 2 _ s2
        rw [t2] at q1
        obtain rfl := Option.some.inj q1
        exact q2.symm
      rw [show #[Value.int .i64 x] ++ us.toArray = (Value.int .i64 x :: us).toArray by simp]
      exact this
    clear h h8 hus hf hx hx0
    generalize us.toArray = ua at hcell hcall
    show Calls Tryz.prog 59 #[.int .i64 x, .pointer (some ⟨b77, 0, none⟩)] W _
    go_enter Tryz.func59, Tryz.ntmps59
    go_wp2_with (go_at_fn f; refine hcall.mono ?_; rintro e w' ⟨rfl, hJ⟩)
    go_ret
    exact ⟨rfl, hJ⟩
  · rintro d H W i x ⟨ρ, F, β, N, h, h8⟩ hi
    have q := h.ints rsP_8000 h8
    have := q.2.2.2 i x (by rw [← q.1]; exact hi)
    rw [rsP_row] at this
    exact ⟨ρ, F, β, N, this, h8⟩
end
set_option maxHeartbeats 1000000 in
theorem pick_walk {f : Nat} {vp : Value} {ua : Array Value} {w : World} (S Q : Value → World → Prop)
    (hAll : Calls Tryz.prog 24 #[vp] (w.alloc (.cells #[.func (.func f) #[] ua] 77)) fun e w' => ∃ v, e = .returned v ∧ S v w')
    (hDel : ∀ v w', S v w' → Calls Tryz.prog 58 #[v, .func (.func 59) #[] #[.pointer (some ⟨w.heap.size, 0, none⟩)]] w' fun e w2 => ∃ v', e = .returned v' ∧ Q v' w2) :
    Calls Tryz.prog 36 #[vp, .func (.func f) #[] ua] w fun e w2 => ∃ v', e = .returned v' ∧ Q v' w2 := by
  have e24 : ∀ args w, (callFunc 24 args).run Tryz.prog w = .ok (.enter 24 args) w := enters_of Tryz.func24 (by kernel_rfl) rfl
  have e58 : ∀ args w, (callFunc 58 args).run Tryz.prog w = .ok (.enter 58 args) w := enters_of Tryz.func58 (by kernel_rfl) rfl
  go_enter Tryz.func36, Tryz.ntmps36
  go_wp2_with (go_at_fn 24; refine hAll.mono ?_; rintro e w' ⟨v, rfl, hv⟩; have hD := hDel v w' hv)
  go_wp2_with (go_at_fn 58; refine hD.mono ?_; rintro e w2 ⟨v', rfl, hv'⟩)
  go_ret
  exact ⟨v', rfl, hv'⟩
/-- pick: the numbers of which something holds. -/
theorem pick_ok {f : Nat} {cs : List AV} {p : Option Nat} {lk : List Nat} {H H1 H2 : List Pev.Node} {l m : List Int} {hp : Int → List Pev.Node → Option (Bool × List Pev.Node)} (ef : EnterOk Tryz.prog f) (hcs : cs.all AV.pure1 = true)
    (hall : Contract Tryz.prog cfgG 24 ([.rf .ptr p] ++ [.hin lk H]) (.outs (.rowv 3 (.int .i64) l) .undef H1))
    (hf : ∀ x H b H', hp x H = some (b, H') → Contract Tryz.prog cfgG f ((.int .i64 x :: cs) ++ [.hin lk H]) (.outs (.bool b) .undef H'))
    (hd : delF (notF hp) l H1 = some (m, H2)) : Contract Tryz.prog cfgG 36 [.rf .ptr p, .fnc f cs, .hin lk H] (.outs (.rowv 3 (.int .i64) m) .undef H2) := by
  intro B w ρ F vs hM hv
  have hv : All2 (VR ((cfgG.at B.b0 B.n0).lk B.L) ρ (Mof B (getR [(REG, some (.reg lk [] H))]) F) w) [.rf .ptr p, .fnc f cs] vs := hv
  have hM : Mem (T0.cf B.b0 B.n0 B.L) B w (getR [(REG, some (.reg lk [] H))]) ρ F w := hM
  obtain ⟨vp, vf, rfl, hvp, us, rfl, hus⟩ : ∃ vp vf, vs = [vp, vf] ∧ VR (T0.cf B.b0 B.n0 B.L) ρ (Mof B (getR [(REG, some (.reg lk [] H))]) F) w (.rf .ptr p) vp ∧ VR (T0.cf B.b0 B.n0 B.L) ρ (Mof B (getR [(REG, some (.reg lk [] H))]) F) w (.fnc f cs) vf := by
    cases hv with
    | cons h1 h2 => cases h2 with
      | cons h2 h3 => cases h3; exact ⟨_, _, rfl, h1, h2⟩
  have e59 : EnterOk Tryz.prog 59 := enter Tryz.func59 (by kernel_rfl) (by kernel_rfl)
  -- the box of the function value
  have hk := KeepS.alloc w (.cells #[.func (.func f) #[] us.toArray] 77)
  have hM1 := hM.enter (.cells #[.func (.func f) #[] us.toArray] 77)
  have hpm : ∀ x ∈ cs, ∀ id, x.ment1 id = false := fun x hx id => pure_ment1 (List.all_eq_true.1 hcs x hx) id
  let sl : Nat → Option AV := fun t => if t = 0 then some (.rf .ptr p) else if t = 1 then some (.fnc f cs) else none
  have hR1 : Rel (T0.cf B.b0 B.n0 (enterB B w).L) (enterB B w) (w.alloc (.cells #[.func (.func f) #[] us.toArray] 77)) sl (getR [(REG, some (.reg lk [] H))]) ρ F ⟨#[vp, .func (.func f) #[] us.toArray, .nilIface], []⟩ (w.alloc (.cells #[.func (.func f) #[] us.toArray] 77)) := by
    refine { toMem := hM1, slots := fun t av ht => ?_, defers := rfl }
    have hst : ∀ {x : AV} {v : Value}, (∀ id, x.ment id = false) → VR (T0.cf B.b0 B.n0 B.L) ρ (Mof B (getR [(REG, some (.reg lk [] H))]) F) w x v → VR (T0.cf B.b0 B.n0 (enterB B w).L) ρ (Mof (enterB B w) (getR [(REG, some (.reg lk [] H))]) F) (w.alloc (.cells #[.func (.func f) #[] us.toArray] 77)) x v :=
      fun hm hx => hx.step (hk.mono fun _ _ f => f.elim) (fun _ g _ => g) fun id hid => absurd (hid.symm.trans (hm id)) (by decide)
    by_cases h0 : t = 0
    · subst h0
      obtain rfl : AV.rf .ptr p = av := Option.some.inj ht
      exact ⟨vp, rfl, hst (fun _ => rfl) hvp⟩
    · by_cases h1 : t = 1
      · subst h1
        obtain rfl : AV.fnc f cs = av := Option.some.inj ht
        exact ⟨_, rfl, hst (fun id => List.any_eq_false.2 fun x hx => by simp [hpm x hx id]) ⟨us, rfl, hus⟩⟩
      · simp only [sl, if_neg h0, if_neg h1] at ht
        cases ht
  have hfr : Fresh sl (getR [(REG, some (.reg lk [] H))]) 8000 := by
    refine ⟨fun t av ht => ?_, fun id st hst => ?_, by decide⟩
    · by_cases h0 : t = 0
      · subst h0
        obtain rfl : AV.rf .ptr p = av := Option.some.inj ht
        rfl
      · by_cases h1 : t = 1
        · subst h1
          obtain rfl : AV.fnc f cs = av := Option.some.inj ht
          exact List.any_eq_false.2 fun x hx => by simp [hpm x hx 8000]
        · simp only [sl, if_neg h0, if_neg h1] at ht
          cases ht
    · rw [getR_cons] at hst
      split at hst
      · obtain rfl := Option.some.inj hst; rfl
      · cases hst
  have hAll := rel_callRow hR1 (g := 24) (d := 8000) (args := [.rf .ptr p]) (us := [vp]) hall rfl (.cons (by obtain ⟨v, q1, q2⟩ := hR1.slots 0 _ rfl; cases q1; exact q2) .nil) rfl hfr (by decide)
  rw [rsP_new] at hAll
  -- what comes behind
  have hDel : ∀ v w', (∃ ρ' F' β' N', Rel (T0.cf β' N' (enterB B w).L) (enterB B w) (w.alloc (.cells #[.func (.func f) #[] us.toArray] 77)) sl (rsP lk l H1) ρ' F' ⟨#[vp, .func (.func f) #[] us.toArray, .nilIface], []⟩ w' ∧ v = ρ' 8000) →
      Calls Tryz.prog 58 #[v, .func (.func 59) #[] #[.pointer (some ⟨w.heap.size, 0, none⟩)]] w' fun e w2 => ∃ v', e = .returned v' ∧ ∃ ρ' F' β' N', Mem (T0.cf β' N' B.L) B w (rsP lk m H2) ρ' F' w2 ∧ v' = ρ' 8000 := by
    rintro v w' ⟨ρ', F', β', N', hR, rfl⟩
    obtain ⟨css, hown0, _, _⟩ := hR.res 8000 _ rsP_8000
    rcases hown0.2 with ⟨hv0, hl0⟩ | ⟨g, cap, cur, hv0, _, _, hnc, hcm, _⟩
    · have : l = [] := List.length_eq_zero_iff.1 hl0
      subst this
      simp only [delF, Option.some.injEq, Prod.mk.injEq] at hd
      obtain ⟨rfl, rfl⟩ := hd
      rw [hv0]
      exact (deleteNil 0 _ w').mono fun e w2 ⟨q1, q2⟩ => by subst q2; exact ⟨_, q1, ρ', F', β', N', hM.leave hR.toMem, hv0.symm⟩
    · have hR2 := hR.put (some 2) (fun d e => by obtain rfl := Option.some.inj e; show 2 < 3; decide) (.own 8000) (ρ' 8000) rfl
      have K := pj (B := enterB B w) (w1 := w.alloc (.cells #[.func (.func f) #[] us.toArray] 77)) (sl := updS sl (some 2) (.own 8000)) (a := Act.put ⟨#[vp, .func (.func f) #[] us.toArray, .nilIface], []⟩ (some 2) (ρ' 8000)) (lk := lk) (n := l.length) (c := cap) (blk := g) (b77 := w.heap.size) ef e59 hcs (Nat.le_trans (Nat.le_trans hnc hcm) (of_decide_eq_true rfl)) hf rfl rfl rfl (by rw [hv0]; rfl) (by simp) (fun g => Nat.lt_irrefl _ g.2)
      rw [hv0]
      refine (deleteJ K cap hnc ⟨ρ', F', β', N', hR2, hv0⟩ hd).mono fun e w2 ⟨q1, d', ⟨ρ2, F2, β2, N2, hR3, h8⟩, q3, q4⟩ => ?_
      have hR4 : Rel (T0.cf β2 N2 (enterB B w).L) (enterB B w) (w.alloc (.cells #[.func (.func f) #[] us.toArray] 77)) (fun _ => none) (rsP lk d' H2) ρ2 F2 act0 w2 := hR3.toMem.rel
      have hfr2 : Fresh (fun _ => none) (rsP lk d' H2) 8000 := by
        refine ⟨fun t av ht => (by cases ht), fun id st hst => ?_, by decide⟩
        unfold rsP at hst
        rw [getR_cons, getR_cons] at hst
        split at hst
        · obtain rfl := Option.some.inj hst; rfl
        · split at hst
          · obtain rfl := Option.some.inj hst; rfl
          · cases hst
      have hl2 := (hR3.ints rsP_8000 h8).1
      have hR5 := hR4.cut hfr2 (s := .int .i64) (l := d') rsP_8000 h8 (m := m.length) (by omega)
      rw [q3, rsP_row] at hR5
      exact ⟨_, q1, _, F2, β2, N2, hM.leave hR5.toMem, (if_pos rfl).symm⟩
  exact (pick_walk (fun v w' => ∃ ρ' F' β' N', Rel (T0.cf β' N' (enterB B w).L) (enterB B w) (w.alloc (.cells #[.func (.func f) #[] us.toArray] 77)) sl (rsP lk l H1) ρ' F' ⟨#[vp, .func (.func f) #[] us.toArray, .nilIface], []⟩ w' ∧ v = ρ' 8000) (fun v' w2 => ∃ ρ' F' β' N', Mem (T0.cf β' N' B.L) B w (rsP lk m H2) ρ' F' w2 ∧ v' = ρ' 8000) hAll hDel).mono fun e w' ⟨v', q1, ρ', F', β', N', q2, q3⟩ => ⟨v', β', N', ρ', F', q1, q3, q2⟩
end Go.Proofs.YtmpgilieeegnhaaGreatDoor
