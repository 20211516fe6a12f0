/- The pure evaluator, part Ab: contracts by hand, with a row that is handed over. Own text, over any program. -/
import Derived.Test.YtkkgimhjjhhkjaaGreatDoorPewZa
import Derived.Sort.OwnSortedInts
import Derived.Shelf.Sort.Plain
import Derived.Shelf.Slices.In.SortNone
import Derived.Shelf.SlIter.Keys
import Derived.Shelf.SlIter.Sorted
import Derived.Shelf.SlIterI.Keys
import Derived.Shelf.SlIterI.Sorted
namespace Go.Pev
open Go
theorem all2_one {α β : Type} {R : α → β → Prop} {a : α} {vs : List β} (h : All2 R [a] vs) : ∃ v, vs = [v] ∧ R a v := by
  cases h with
  | cons h1 h2 => cases h2; exact ⟨_, rfl, h1⟩
theorem row_hand {P : Program} {C : Cfg} {g : Nat} {e : TypeId} {s : Sh} {l l' : List s.T}
    (h : ∀ (C' : Cfg) (M : Nat → Prop) (w : World) (v : Value) (css : List (List Value)), w.ownsRow 0 e s.sz v l.length css.flatten → All2 (RR C' M w s) l css →
      Calls P g #[v] w fun en w' => en = .returned (.tuple #[]) ∧ ∃ css', w'.ownsRow 0 e s.sz v l'.length css'.flatten ∧ All2 (RR C' M w s) l' css' ∧ KeepS (fun k => v.ownBlock = some k) w w') :
    Contract P C g [.rowv e s l] (.outs (.tup []) (.rowv e s l') []) := by
  intro B w ρ F vs hM hv
  have hv : All2 (VR ((C.at B.b0 B.n0).lk B.L) ρ (Mof B (getR [(7000, some (.row e s l))]) F) w) [.own 7000] vs := hv
  have hM : Mem ((C.at B.b0 B.n0).lk B.L) B w (getR [(7000, some (.row e s l))]) ρ F w := hM
  obtain ⟨v, hvs, hvv⟩ := all2_one hv
  subst hvs
  have hv : v = ρ 7000 := hvv
  subst hv
  have h7 : getR [(7000, some (RS.row e s l))] 7000 = some (.row e s l) := rfl
  obtain ⟨css, hown, hF, hrr⟩ := hM.res 7000 _ h7
  refine (h _ _ w (ρ 7000) css hown hrr).mono fun en w' ⟨h1, css', h2, h3, h4⟩ => ?_
  have hrange : ∀ k, (ρ 7000).ownBlock = some k → (B.W k ∨ w.heap.size ≤ k) ∧ k < w.heap.size := fun k hk =>
    ⟨hM.rngW h7 ((hF k).2 hk) (by simp [isReg]), (hM.rng 7000 _ k h7 ((hF k).2 hk)).2⟩
  have hkM : KeepS (Mof B (getR [(7000, some (.row e s l))]) F) w w' := h4.mono fun k _ hk => .inr ⟨7000, _, h7, (hF k).2 hk⟩
  have hkW : KeepS B.W w w' := h4.mono fun k hk hb => by
    rcases (hrange k hb).1 with c | c
    · exact c
    · omega
  have only : ∀ {id : Nat} {st : RS}, getR [(7000, some (RS.row e s l'))] id = some st → id = 7000 ∧ st = .row e s l' := by
    intro id st hst
    by_cases hid : id = 7000
    · subst hid; exact ⟨rfl, (Option.some.inj hst).symm⟩
    · exfalso
      have : getR [(7000, some (RS.row e s l'))] id = none := by
        unfold getR get
        simp only [show Nat.beq 7000 id = false from by
          cases hb : Nat.beq 7000 id with
          | false => rfl
          | true => exact absurd (Nat.eq_of_beq_eq_true hb).symm hid]
        rfl
      rw [this] at hst; cases hst
  have hsub : ∀ k, Mof B (getR [(7000, some (.row e s l'))]) F k → Mof B (getR [(7000, some (.row e s l))]) F k := by
    rintro k (h0 | ⟨id, st, hst, hk⟩)
    · exact .inl h0
    · obtain ⟨rfl, rfl⟩ := only hst
      exact .inr ⟨7000, _, h7, hk⟩
  refine ⟨_, B.b0, B.n0, ρ, F, h1, ⟨[], rfl, .nil⟩, ?_⟩
  show Mem ((C.at B.b0 B.n0).lk B.L) B w (getR [(7000, some (.row e s l'))]) ρ F w'
  refine ⟨hkW, hM.m0, hM.wl, hM.lsz, ?_, ?_, ?_, hM.one, hM.bone, hM.ext, hM.glob, fun _ => hM.own7 rfl, ?_⟩
  · intro id st hst
    obtain ⟨rfl, rfl⟩ := only hst
    exact ⟨css', h2, hF, h3.imp fun x cs hx => hx.step hkM (fun k hk _ => hsub k hk)⟩
  · intro id st k hst hk
    obtain ⟨rfl, rfl⟩ := only hst
    obtain ⟨c1, c2⟩ := hM.rng 7000 _ k h7 hk
    exact ⟨c1.imp_right fun c => c.imp_left fun c => by simp [isReg] at c, Nat.lt_of_lt_of_le c2 h4.size⟩
  · intro i j s1 t k hi hj hne
    obtain ⟨rfl, _⟩ := only hi
    obtain ⟨rfl, _⟩ := only hj
    exact absurd rfl hne
  · intro lk its H hreg
    obtain ⟨c, _⟩ := only hreg
    cases c
end Go.Pev
/- The pure evaluator, part Ac: slices.Sort of a row of ints. Own text, over any program. -/
namespace Go.Pev
open Go
def sortZ (l : List Int) : List Int := l.mergeSort fun x y => decide (x ≤ y)
def sortC (l : List Int) : Option (List Int) := cond (decide (l.length ≤ 1000000000)) (some (sortZ l)) none
theorem ints_flat {C : Cfg} {M : Nat → Prop} {w : World} : ∀ {l : List Int} {css : List (List Value)}, All2 (RR C M w (.int .i64)) l css → css.flatten = l.map (Value.int .i64)
  | [], _, h => by cases h; rfl
  | x :: l, _, h => by
    cases h with
    | cons h1 h2 =>
      have h1 : _ = [Value.int .i64 x] := h1
      subst h1
      have := ints_flat h2
      simp [this]
theorem ints_all2 {C : Cfg} {M : Nat → Prop} {w : World} : ∀ l : List Int, All2 (RR C M w (.int .i64)) l (l.map fun x => [Value.int .i64 x])
  | [] => .nil
  | x :: l => .cons (show [Value.int .i64 x] = [Value.int .i64 x] from rfl) (ints_all2 l)
theorem flat_ones (l : List Int) : (l.map fun x => [Value.int .i64 x]).flatten = l.map (Value.int .i64) := by
  induction l with
  | nil => rfl
  | cons x l ih => simp [ih]
theorem sortI_ok {P : Program} {C : Cfg} {ρr : Go.Shelf.Ren} (Ly : Go.Proofs.Lays.n189 P ρr) {e : TypeId} (l l' : List Int) (h : sortC l = some l') : Contract P C (ρr.f 189) [.rowv e (.int .i64) l] (.outs (.tup []) (.rowv e (.int .i64) l') []) := by
  unfold sortC at h
  cases hd : decide (l.length ≤ 1000000000) with
  | false => rw [hd] at h; cases h
  | true =>
    rw [hd] at h
    have hlen := of_decide_eq_true hd
    obtain rfl := Option.some.inj h
    refine row_hand fun C' M w v css hown hrr => ?_
    have hfl := ints_flat hrr
    have hl' : (sortZ l).length = l.length := by unfold sortZ; rw [List.length_mergeSort]
    rcases hown with ⟨hn, ⟨rfl, h0⟩ | ⟨g, cap, cur, rfl, hb, hg, h1, h2, h3, h4⟩⟩
    · have hl0 : l = [] := List.eq_nil_of_length_eq_zero h0
      subst hl0
      refine (Go.Proofs.Any.slices_Sort_int_none Ly none 0 w).mono fun en w' ⟨q1, q2⟩ => ?_
      subst q2
      have e0 : sortZ [] = [] := by simp [sortZ]
      rw [e0]
      exact ⟨q1, [], World.ownsRow_nil _ _ _ _, .nil, KeepS.refl _ _⟩
    · rw [hfl] at h4
      have h4' : cur.toList.take l.length = l.map (Value.int .i64) := by
        have e1 : l.length * (Sh.int IntKind.i64).sz = l.length := Nat.mul_one _
        rw [e1] at h4; exact h4
      have hH := holds_of_blockI hg h4'
      refine (Go.Proofs.Any.slices_Sort_int Ly g 0 cap l w hH (Array.getElem?_eq_some_iff.1 hg).1 (by omega)).mono fun en w' ⟨q1, n, os, q2⟩ => ?_
      subst q2
      refine ⟨q1, (sortZ l).map fun x => [Value.int .i64 x], ?_, ints_all2 _, ?_⟩
      · rw [flat_ones, hl']
        exact ownsRow_sortedI (ss := l) (ts := sortZ l) hl' hb hg h1 h2 h3
      · have hk := KeepS.of_grown (grownBy_sortedI (w := w) (g := g) (n := n) (os := os) (sortZ l).toArray)
        exact hk.mono fun k _ hk => hk.symm
noncomputable def sortI_sp (e : TypeId) : CSpec := genSpecR [.row e (.int .i64)] [.own e (.int .i64)] (some 0) false (fun x => sortC x.1)
theorem sortI_spec {P : Program} {C : Cfg} {ρr : Go.Shelf.Ren} (Ly : Go.Proofs.Lays.n189 P ρr) (e : TypeId) : CSpecOk P C (ρr.f 189) (sortI_sp e) := handSpecR fun x r h => by
  obtain ⟨l, ⟨⟩⟩ := x
  exact sortI_ok Ly l r h
end Go.Pev
/- The pure evaluator, part Ad: slices.Sorted(maps.Keys(m)), the keys strings. Own text, over any program. -/
namespace Go.Pev
open Go Go.Maps Go.Sort Go.Shelf Go.RowKit
def act0 : Act := { tmps := #[], defers := [] }
theorem Mem.rel {C : Cfg} {B : Base} {w0 : World} {rs : Nat → Option RS} {ρ : Nat → Value} {F : Nat → Nat → Prop} {w : World} (h : Mem C B w0 rs ρ F w) : Rel C B w0 (fun _ => none) rs ρ F act0 w :=
  { toMem := h, slots := (by intro t av e; cases e), defers := rfl }
theorem map_arg {C : Cfg} {ρ : Nat → Value} {M : Nat → Prop} {w : World} {x : Option Nat} {v : Value} (h : VR C ρ M w (.rf .map x) v) : (x = none ∧ v = .map none) ∨ ∃ n b, x = some n ∧ n < C.N ∧ C.β n = .map (some b) ∧ v = .map (some b) := by
  have h : RR C M w (.rf .map) x [v] := h
  rcases h with ⟨h1, h2⟩ | ⟨n, h1, h2, h3, h4⟩
  · exact .inl ⟨h1, (List.cons.inj h2).1⟩
  · obtain ⟨b, hb⟩ := RK.fits_map h4
    exact .inr ⟨n, b, h1, h2, hb, ((List.cons.inj h3).1).trans hb⟩
theorem updR_reg (r r' : RS) : updR (getR [(REG, some r)]) [(REG, some r')] = getR [(REG, some r')] := by
  funext id
  unfold updR getR get
  cases h : Nat.beq REG id with
  | true => simp [h]
  | false => simp [h, get]
theorem keys_ok {P : Program} {C : Cfg} {ρr : Ren} (L : Go.Proofs.SlLaysZ.n7 P ρr) (x : Option Nat) (lk : List Nat) (H : List Node) : Contract P C (ρr.f 7) [.rf .map x, .hin lk H] (.outs (.fnc (ρr.f 10) [.rf .ptr (some H.length)]) .undef (H ++ [.box (ρr.t 23) (.rf .map) x])) := by
  intro B w ρ F vs hM hv
  have hv : All2 (VR ((C.at B.b0 B.n0).lk B.L) ρ (Mof B (getR [(REG, some (.reg lk [] H))]) F) w) [.rf .map x] vs := hv
  have hM : Mem ((C.at B.b0 B.n0).lk B.L) B w (getR [(REG, some (.reg lk [] H))]) ρ F w := hM
  obtain ⟨v, hvs, hvv⟩ := all2_one hv
  subst hvs
  have hmap : ∃ mb, v = .map mb := by
    rcases map_arg hvv with ⟨_, h⟩ | ⟨_, b, _, _, _, h⟩
    · exact ⟨_, h⟩
    · exact ⟨_, h⟩
  obtain ⟨mb, rfl⟩ := hmap
  refine (callsIn_wide.1 (Go.Proofs.AnyZ.keys_in L Fence.wide 5 trivial rfl mb w)).mono fun e w' ⟨h1, h2⟩ => ?_
  subst h2
  have hr : getR [(REG, some (RS.reg lk [] H))] REG = some (.reg lk [] H) := rfl
  have hlen : H.length = B.n0 := by obtain ⟨_, G, hG⟩ := hM.res REG _ hr; exact hG.len
  have hk := KeepS.alloc w (.cells #[.map mb] (ρr.t 23))
  obtain ⟨F', hR⟩ := hM.rel.regNew hr none (fun n e => by cases e) (v := .pointer (some ⟨w.heap.size, 0, none⟩)) rfl (X := fun _ => False) (Gn := fun k => k = w.heap.size) (x' := .box (ρr.t 23) (.rf .map) x) hk (fun G hG => ⟨fun k f => f.elim, fun k hk => .inr (by subst hk; simp), fun M' hM' => by
    refine node_box (cs := [.map mb]) ?_ rfl
    have hx : RR ((C.at B.b0 B.n0).lk B.L) (Mof B (getR [(REG, some (.reg lk [] H))]) F) w (.rf .map) x [.map mb] := hvv
    exact RR.ext (Cfg.more_ext _ _) (.rf .map) x _ (RR.step (hk.mono fun _ _ g => g.elim) hM' (.rf .map) x _ hx)⟩)
  rw [updR_reg] at hR
  refine ⟨_, (fun i => if i = B.n0 then .pointer (some ⟨w.heap.size, 0, none⟩) else B.b0 i), B.n0 + 1, ρ, F', h1, ?_, hR.toMem⟩
  refine ⟨[.pointer (some ⟨w.heap.size, 0, none⟩)], rfl, .cons ?_ .nil⟩
  refine .inr ⟨H.length, rfl, by rw [hlen]; exact Nat.lt_succ_self _, ?_, ?_⟩
  · rw [hlen]; exact congrArg (fun v => [v]) (if_pos rfl).symm
  · rw [hlen]; exact congrArg RK.ptr.fits (if_pos rfl)
noncomputable def keys_sp (t f : Nat) : CSpec :=
  { f := fun args => match args with
      | [.rf .map x, .hin _ H] => .ret (.outs (.fnc f [.rf .ptr (some H.length)]) .undef (H ++ [.box t (.rf .map) x]))
      | _ => .fail
    own := none
    reg := true }
theorem keys_spec {P : Program} {C : Cfg} {ρr : Ren} (L : Go.Proofs.SlLaysZ.n7 P ρr) : CSpecOk P C (ρr.f 7) (keys_sp (ρr.t 23) (ρr.f 10)) := by
  intro args res h
  unfold keys_sp at h
  simp only at h
  split at h
  · have h := Option.some.inj h
    subst h
    exact keys_ok L _ _ _
  · cases h
def sortB (l : List ByteArray) : List ByteArray := ((l.map fun s => s.data.toList).mergeSort fun x y => decide (x ≤ y)).map fun x => ⟨x.toArray⟩
def keysC {β : Type} (l : List (ByteArray × β)) : Option (List ByteArray) := cond (decide (l.length ≤ 1000000) && l.all fun p => decide (p.1.size ≤ 1000000)) (some (sortB (l.map (·.1)))) none
def sortedF (t : TypeId) (va : Bool) (v : Sh) (n : Option Nat) (H : List Node) : Option (List ByteArray) := match n.bind (getBox t (.rf .map) H) with
  | some (some m) => match getMap false va .str v H m with
    | some l => keysC (β := v.T) l
    | none => none
  | _ => none
end Go.Pev
/- The pure evaluator, part Ae: slices.Sorted over maps.Keys, the keys strings. Own text, over any program. -/
set_option maxRecDepth 100000
namespace Go.Pev
open Go Go.Maps Go.Sort Go.Shelf Go.RowKit Go.Proofs Go.ChangeShapes Go.WideShapes
open Go.WideElems (Fit rd rg rd_mk rg_of)
abbrev anyR : Value → Option (DataW Unit × List MemPlace) := fun _ => some (.lit (.bool true), [])
theorem all2_len {α β : Type} {R : α → β → Prop} : ∀ {l : List α} {m : List β}, All2 R l m → l.length = m.length
  | _, _, .nil => rfl
  | _, _, .cons _ h => by simp [all2_len h]
section
variable {C : Cfg} {M : Nat → Prop} {w : World} {va : Bool} {v : Sh} {P : Program} {k : TypeId}
theorem ents_rd (hk : P.underlying k = some .string) : ∀ {m : List (ByteArray × v.T)} {es : List MapEntry}, All2 (EntR C M w false va .str v) m es → (∀ p ∈ m, p.1.size ≤ maxLen) →
    es.map (rg P k anyR) = m.map (fun p => (Lit.string p.1.data.toList, DataW.lit (Lit.bool true))) ∧ (∀ x ∈ es, ∃ y, rd P k anyR x = some y) ∧ es.map (·.key) = m.map fun p => Value.string p.1
  | _, _, .nil, _ => ⟨rfl, fun _ h => (by cases h), rfl⟩
  | p :: m, e :: es, .cons h1 h2, hs => by
    obtain ⟨i1, i2, i3⟩ := ents_rd hk h2 fun q hq => hs q (List.mem_cons_of_mem _ hq)
    have hkey : e.key = .string p.1 := h1.1
    have hko : keyOf P k e.key = some (.string p.1.data.toList) := by
      rw [hkey]
      have := hs p List.mem_cons_self
      simp [keyOf, hk, mapKey, this]
    obtain ⟨ek, ev, eb⟩ := e
    have hr : rd P k anyR ⟨ek, ev, eb⟩ = some (Lit.string p.1.data.toList, DataW.lit (Lit.bool true)) := rd_mk (R := anyR) (key := ek) (val := ev) (yv := (DataW.lit (Lit.bool true), [])) (born := eb) hko rfl
    refine ⟨?_, ?_, ?_⟩
    · rw [List.map_cons, List.map_cons, i1, rg_of hr]
    · intro x hx
      rcases List.mem_cons.1 hx with rfl | hx
      · exact ⟨_, hr⟩
      · exact i2 x hx
    · rw [List.map_cons, List.map_cons, i3]; exact congrArg (· :: _) hkey
theorem map_owns (hk : P.underlying k = some .string) {l : List (ByteArray × v.T)} {es : Array MapEntry} {clock b : Nat} (hb : w.heap[b]? = some (.map es clock)) (hm : MapR C M w false va .str v l es clock) (hl : l.length ≤ 1000000) (hs : ∀ p ∈ l, p.1.size ≤ maxLen) :
    ∃ D0 : DataW Unit, w.ownsMap P k anyR b es.size D0 ∧ Maps.size D0 = l.length ∧ (strKeys D0).Perm (l.map fun p => p.1.data.toList) := by
  obtain ⟨m, hp, hm0⟩ := hm
  obtain ⟨i1, i2, i3⟩ := ents_rd hk hm0.ents fun p hp' => hs p (hp.mem_iff.1 hp')
  have hlen : es.toList.length = l.length := (all2_len hm0.ents).symm.trans hp.length_eq
  have hsz : es.size = l.length := by simpa using hlen
  refine ⟨.map ((es.toList.map (rg P k anyR)).foldr DataW.insert []), ⟨es, clock, hb, ⟨?_, ⟨hm0.born, hm0.nodup, ?_⟩, i2⟩, Nat.le_refl _, rfl⟩, ?_, ?_⟩
  · rw [hsz]; exact Nat.le_trans hl (of_decide_eq_true rfl)
  · rw [i3]
    refine List.pairwise_map.2 (hm0.keys.imp fun {p q} h c => ?_)
    have c : Value.string p.1 = Value.string q.1 := c
    have c : p.1 = q.1 := Value.string.inj c
    have : eqB .str p.1 q.1 = true := by rw [c]; exact eqB_self .str _ rfl
    rw [this] at h; cases h
  · show List.length _ = _
    rw [length_sorted, List.length_map, hlen]
  · show (List.map (fun (p : Lit × DataW Unit) => strOf p.1) _).Perm _
    refine ((sorted_perm _).map _).trans ?_
    rw [i1, List.map_map]
    exact (hp.map _)
end
theorem strs_all2 {C : Cfg} {M : Nat → Prop} {w : World} : ∀ l : List ByteArray, All2 (RR C M w .str) l (l.map fun x => [Value.string x])
  | [] => .nil
  | x :: l => .cons (show [Value.string x] = [Value.string x] from rfl) (strs_all2 l)
theorem strs_ones (l : List ByteArray) : (l.map fun x => [Value.string x]).flatten = l.map Value.string := by
  induction l with
  | nil => rfl
  | cons x l ih => simp [ih]
theorem newRow_mem {C : Cfg} {B : Base} {ρ : Nat → Value} {F : Nat → Nat → Prop} {w w' : World} {lk : List Nat} {H : List Node} {e : TypeId} {s : Sh} {l : List s.T} {v : Value} {css : List (List Value)}
    (hM : Mem C B w (getR [(REG, some (.reg lk [] H))]) ρ F w) (hk : KeepS (fun _ => False) w w') (hown : w'.ownsRow w.heap.size e s.sz v l.length css.flatten) (hrr : ∀ M', All2 (RR C M' w' s) l css) :
    ∃ ρ' F', v = ρ' 8000 ∧ Mem C B w (getR [(8000, some (.row e s l)), (REG, some (.reg lk [] H))]) ρ' F' w' := by
  have hone : v.oneCell' = true := by
    rcases hown.2 with ⟨rfl, _⟩ | ⟨g, cap, cur, rfl, _⟩ <;> rfl
  let ρ' : Nat → Value := fun id => if id = 8000 then v else ρ id
  let F' : Nat → Nat → Prop := fun id => if id = 8000 then fun k => v.ownBlock = some k else F id
  have hr : getR [(REG, some (RS.reg lk [] H))] REG = some (.reg lk [] H) := rfl
  have hg : ∀ id, id ≠ 8000 → getR [(8000, some (RS.row e s l)), (REG, some (.reg lk [] H))] id = getR [(REG, some (RS.reg lk [] H))] id := fun id hid => by
    unfold getR
    rw [get_cons, if_neg (Ne.symm hid)]
  have only : ∀ {id : Nat} {st : RS}, getR [(REG, some (RS.reg lk [] H))] id = some st → st = .reg lk [] H ∧ id = REG := by
    intro id st hst
    unfold getR at hst
    rw [get_cons] at hst
    by_cases hid : REG = id
    · rw [if_pos hid] at hst
      exact ⟨(Option.some.inj hst).symm, hid.symm⟩
    · rw [if_neg hid] at hst
      cases hst
  have hlt := fun k hk => World.ownsRow.lt hown k hk
  refine ⟨ρ', F', (if_pos rfl).symm, (hM.rel.upd (rs' := getR [(8000, some (.row e s l)), (REG, some (.reg lk [] H))]) (ρ' := ρ') (F' := F') (fun id => id = 8000) hk (fun _ g => g.elim) (fun id hid => ⟨hg id hid, if_neg hid⟩) (fun _ _ _ h => by cases h)
    (fun id st hid hst => ⟨if_neg hid, fun i hi => ?_⟩) (fun _ _ _ _ _ _ g => g) (fun id st hid hst => ?_) (fun id => ?_) ⟨(fun h => by cases h), fun lk' its' H' h => ⟨its', H', h⟩⟩).toMem⟩
  · obtain ⟨rfl, _⟩ := only hst
    cases hi
  · subst hid
    obtain rfl : RS.row e s l = st := Option.some.inj hst
    refine ⟨fun _ => ⟨css, ?_, fun k => (by simp [F', ρ']), hrr _⟩, fun k hk' => ?_⟩
    · rw [show ρ' 8000 = v from if_pos rfl]
      exact ⟨hown.1, hown.2.imp_right fun ⟨g, cap, cur, a, _, c⟩ => ⟨g, cap, cur, a, Nat.zero_le _, c⟩⟩
    · have hk' : v.ownBlock = some k := by
        have := hk'
        simp only [F', if_true] at this
        exact this
      obtain ⟨a1, a2⟩ := hlt k hk'
      refine ⟨.inr (.inr a1), a2, fun c => by omega, fun j t hj ht hF => ?_⟩
      rw [hg j hj] at ht
      have hF : F j k := by
        have := hF
        simp only [F', if_neg hj] at this
        exact this
      have := (hM.rng j t k ht hF).2
      omega
  · show (if id = 8000 then v else ρ id).oneCell' = true
    split
    · exact hone
    · exact hM.one id
theorem sorted_ok {P : Program} {C : Cfg} {ρ6 ρ7 : Ren} (L6 : SlLaysZ.n6 P ρ6) (L10 : SlLaysZ.n10 P ρ7) (hkk : P.underlying (ρ7.t 26) = some .string) (hsort : AnyZ.SortsIn P ρ6 Fence.wide 4) (e9 : ∀ args w, (callFunc (ρ6.f 9) args).run P w = .ok (.enter (ρ6.f 9) args) w) (eg : ∀ args w, (callFunc (ρ7.f 10) args).run P w = .ok (.enter (ρ7.f 10) args) w)
    {va : Bool} {v : Sh} {n : Option Nat} {lk : List Nat} {H : List Node} {ks : List ByteArray} (h : sortedF (ρ7.t 23) va v n H = some ks) :
    Contract P C (ρ6.f 6) [.fnc (ρ7.f 10) [.rf .ptr n], .hin lk H] (.outs (.rowv (ρ6.t 26) .str ks) .undef H) := by
  intro B w ρ F vs hM hv
  have hv : All2 (VR ((C.at B.b0 B.n0).lk B.L) ρ (Mof B (getR [(REG, some (.reg lk [] H))]) F) w) [.fnc (ρ7.f 10) [.rf .ptr n]] vs := hv
  have hM : Mem ((C.at B.b0 B.n0).lk B.L) B w (getR [(REG, some (.reg lk [] H))]) ρ F w := hM
  obtain ⟨u, hvs, cs, rfl, hcs⟩ := all2_one hv
  subst hvs
  obtain ⟨c, rfl, hc⟩ := all2_one hcs
  unfold sortedF at h
  split at h <;> try (cases h; done)
  rename_i m hbox
  split at h <;> try (cases h; done)
  rename_i l hmap
  obtain ⟨nn, rfl, hbox⟩ := Option.bind_eq_some_iff.1 hbox
  have hbox := getBox_some hbox
  have hmap := getMap_some hmap
  have hr : getR [(REG, some (RS.reg lk [] H))] REG = some (.reg lk [] H) := rfl
  obtain ⟨_, G, hG⟩ := hM.res REG _ hr
  obtain ⟨b0, cells, hβ, _, hcell, hrr⟩ := hG.node _ _ hbox
  obtain ⟨b, es, clock, hβm, _, hes, hMR⟩ := hG.node _ _ hmap
  -- the captured cell
  have hc : RR ((C.at B.b0 B.n0).lk B.L) (Mof B (getR [(REG, some (.reg lk [] H))]) F) w (.rf .ptr) (some nn) [c] := hc
  have hcv : c = .pointer (some ⟨b0, 0, none⟩) := by
    rcases hc with ⟨hc, _⟩ | ⟨q, hq, _, hc, _⟩
    · cases hc
    · cases hq
      exact ((List.cons.inj hc).1).trans hβ
  have hcell0 : w.cell? ⟨b0, 0, none⟩ = some (.map (some b)) := by
    have hrr : RR ((C.at B.b0 B.n0).lk B.L) (Mof B (getR [(REG, some (.reg lk [] H))]) F) w (.rf .map) (some m) cells.toList := hrr
    rcases hrr with ⟨hx, _⟩ | ⟨q, hq, _, hx, _⟩
    · cases hx
    · cases hq
      rw [hβm] at hx
      unfold World.cell?
      simp only [hcell]
      have : cells = #[.map (some b)] := Array.toList_inj.1 hx
      subst this; rfl
  unfold keysC at h
  cases hcond : (decide (l.length ≤ 1000000) && l.all fun p => decide (p.1.size ≤ 1000000)) with
  | false => rw [hcond] at h; cases h
  | true =>
    rw [hcond] at h
    obtain rfl := Option.some.inj h
    rw [Bool.and_eq_true] at hcond
    have hl := of_decide_eq_true hcond.1
    have hs : ∀ p ∈ l, p.1.size ≤ maxLen := fun p hp => Nat.le_trans (of_decide_eq_true (List.all_eq_true.1 hcond.2 p hp)) (of_decide_eq_true rfl)
    obtain ⟨D0, ho, hsz, hpm⟩ := map_owns hkk hes hMR hl hs
    have hseq := AnyZ.keys_gives L10 Fence.wide 2 trivial rfl (by omega) b0 b es.size D0 w (Array.getElem?_eq_some_iff.1 hcell).1 hcell0 ho
    rw [hsz] at hseq
    subst hcv
    refine (callsIn_wide.1 (AnyZ.sorted_in L6 Fence.wide 5 trivial trivial trivial trivial rfl (by omega) hsort e9 (ρ7.f 10) #[.pointer (some ⟨b0, 0, none⟩)] trivial eg _ l.length (Nat.le_trans hl (of_decide_eq_true rfl)) (by omega) w hseq)).mono fun e w' ⟨v', ss, q1, q2, q3, _, q4⟩ => ?_
    have hkeep : KeepS (fun _ => False) w w' := KeepS.of_below q4
    have hss : ss.mergeSort (fun x y => decide (x ≤ y)) = (l.map fun p => p.1.data.toList).mergeSort (fun x y => decide (x ≤ y)) := mergeSort_of_perm (q2.trans hpm)
    have hlen : (sortB (l.map (·.1))).length = ss.length := by
      unfold sortB
      rw [List.length_map, List.length_mergeSort, List.length_map, List.length_map, q2.length_eq, hpm.length_eq, List.length_map]
    have hrow : (sortB (l.map (·.1))).map Value.string = (ss.mergeSort (fun x y => decide (x ≤ y))).map encStr := by
      rw [hss]
      unfold sortB
      rw [List.map_map, List.map_map]
      rfl
    obtain ⟨ρ', F', hv', hM'⟩ := newRow_mem (e := ρ6.t 26) (s := .str) (l := sortB (l.map (·.1))) (v := v') (css := (sortB (l.map (·.1))).map fun x => [Value.string x]) hM hkeep (by rw [strs_ones, hlen, hrow]; exact q3) (fun _ => strs_all2 _)
    exact ⟨v', B.b0, B.n0, ρ', F', q1, hv', hM'⟩
end Go.Pev
/- The pure evaluator, part Af: slices.Sorted over maps.Keys, the keys ints. Own text, over any program. -/
set_option maxRecDepth 100000
namespace Go.Pev
open Go Go.Maps Go.Sort Go.Shelf Go.RowKit Go.Proofs Go.ChangeShapes Go.WideShapes
open Go.WideElems (Fit rd rg rd_mk rg_of)
theorem keysI_ok {P : Program} {C : Cfg} {ρr : Ren} (L : Go.Proofs.SlLaysZI.n7 P ρr) (x : Option Nat) (lk : List Nat) (H : List Node) : Contract P C (ρr.f 7) [.rf .map x, .hin lk H] (.outs (.fnc (ρr.f 10) [.rf .ptr (some H.length)]) .undef (H ++ [.box (ρr.t 23) (.rf .map) x])) := by
  intro B w ρ F vs hM hv
  have hv : All2 (VR ((C.at B.b0 B.n0).lk B.L) ρ (Mof B (getR [(REG, some (.reg lk [] H))]) F) w) [.rf .map x] vs := hv
  have hM : Mem ((C.at B.b0 B.n0).lk B.L) B w (getR [(REG, some (.reg lk [] H))]) ρ F w := hM
  obtain ⟨v, hvs, hvv⟩ := all2_one hv
  subst hvs
  have hmap : ∃ mb, v = .map mb := by
    rcases map_arg hvv with ⟨_, h⟩ | ⟨_, b, _, _, _, h⟩
    · exact ⟨_, h⟩
    · exact ⟨_, h⟩
  obtain ⟨mb, rfl⟩ := hmap
  refine (callsIn_wide.1 (Go.Proofs.AnyZI.keys_in L Fence.wide 5 trivial rfl mb w)).mono fun e w' ⟨h1, h2⟩ => ?_
  subst h2
  have hr : getR [(REG, some (RS.reg lk [] H))] REG = some (.reg lk [] H) := rfl
  have hlen : H.length = B.n0 := by obtain ⟨_, G, hG⟩ := hM.res REG _ hr; exact hG.len
  have hk := KeepS.alloc w (.cells #[.map mb] (ρr.t 23))
  obtain ⟨F', hR⟩ := hM.rel.regNew hr none (fun n e => by cases e) (v := .pointer (some ⟨w.heap.size, 0, none⟩)) rfl (X := fun _ => False) (Gn := fun k => k = w.heap.size) (x' := .box (ρr.t 23) (.rf .map) x) hk (fun G hG => ⟨fun k f => f.elim, fun k hk => .inr (by subst hk; simp), fun M' hM' => by
    refine node_box (cs := [.map mb]) ?_ rfl
    have hx : RR ((C.at B.b0 B.n0).lk B.L) (Mof B (getR [(REG, some (.reg lk [] H))]) F) w (.rf .map) x [.map mb] := hvv
    exact RR.ext (Cfg.more_ext _ _) (.rf .map) x _ (RR.step (hk.mono fun _ _ g => g.elim) hM' (.rf .map) x _ hx)⟩)
  rw [updR_reg] at hR
  refine ⟨_, (fun i => if i = B.n0 then .pointer (some ⟨w.heap.size, 0, none⟩) else B.b0 i), B.n0 + 1, ρ, F', h1, ?_, hR.toMem⟩
  refine ⟨[.pointer (some ⟨w.heap.size, 0, none⟩)], rfl, .cons ?_ .nil⟩
  refine .inr ⟨H.length, rfl, by rw [hlen]; exact Nat.lt_succ_self _, ?_, ?_⟩
  · rw [hlen]; exact congrArg (fun v => [v]) (if_pos rfl).symm
  · rw [hlen]; exact congrArg RK.ptr.fits (if_pos rfl)
theorem keysI_spec {P : Program} {C : Cfg} {ρr : Ren} (L : Go.Proofs.SlLaysZI.n7 P ρr) : CSpecOk P C (ρr.f 7) (keys_sp (ρr.t 23) (ρr.f 10)) := by
  intro args res h
  unfold keys_sp at h
  simp only at h
  split at h
  · have h := Option.some.inj h
    subst h
    exact keysI_ok L _ _ _
  · cases h
def okZ (x : Int) : Bool := decide (-9223372036854775808 ≤ x) && decide (x ≤ 9223372036854775807)
def keysZ {β : Type} (l : List (Int × β)) : Option (List Int) := cond (decide (l.length ≤ 1000000) && l.all fun p => okZ p.1) (some ((l.map (·.1)).mergeSort fun x y => decide (x ≤ y))) none
def sortedZ (t : TypeId) (va : Bool) (v : Sh) (n : Option Nat) (H : List Node) : Option (List Int) := match n.bind (getBox t (.rf .map) H) with
  | some (some m) => match getMap false va (.int .i64) v H m with
    | some l => keysZ (β := v.T) l
    | none => none
  | _ => none
section
variable {C : Cfg} {M : Nat → Prop} {w : World} {va : Bool} {v : Sh} {P : Program} {k : TypeId}
theorem ents_rdI (hk : P.underlying k = some (.int .i64)) : ∀ {m : List (Int × v.T)} {es : List MapEntry}, All2 (EntR C M w false va (.int .i64) v) m es → (∀ p ∈ m, okZ p.1 = true) →
    es.map (rg P k anyR) = m.map (fun p => (Lit.int .i64 p.1, DataW.lit (Lit.bool true))) ∧ (∀ x ∈ es, ∃ y, rd P k anyR x = some y) ∧ es.map (·.key) = m.map fun p => Value.int .i64 p.1
  | _, _, .nil, _ => ⟨rfl, fun _ h => (by cases h), rfl⟩
  | p :: m, e :: es, .cons h1 h2, hs => by
    obtain ⟨i1, i2, i3⟩ := ents_rdI hk h2 fun q hq => hs q (List.mem_cons_of_mem _ hq)
    have hkey : e.key = .int .i64 p.1 := h1.1
    have hko : keyOf P k e.key = some (.int .i64 p.1) := by
      rw [hkey]
      have h3 := hs p List.mem_cons_self
      unfold okZ at h3
      simp only [Bool.and_eq_true, decide_eq_true_eq] at h3
      have hw : (Lit.int .i64 p.1).wf = true := by
        show (decide (IntKind.i64.min ≤ p.1) && decide (p.1 ≤ IntKind.i64.max)) = true
        rw [Bool.and_eq_true]
        exact ⟨decide_eq_true h3.1, decide_eq_true h3.2⟩
      simp [keyOf, hk, mapKey, hw]
    obtain ⟨ek, ev, eb⟩ := e
    have hr : rd P k anyR ⟨ek, ev, eb⟩ = some (Lit.int .i64 p.1, DataW.lit (Lit.bool true)) := rd_mk (R := anyR) (key := ek) (val := ev) (yv := (DataW.lit (Lit.bool true), [])) (born := eb) hko rfl
    refine ⟨?_, ?_, ?_⟩
    · rw [List.map_cons, List.map_cons, i1, rg_of hr]
    · intro x hx
      rcases List.mem_cons.1 hx with rfl | hx
      · exact ⟨_, hr⟩
      · exact i2 x hx
    · rw [List.map_cons, List.map_cons, i3]; exact congrArg (· :: _) hkey
theorem map_ownsI (hk : P.underlying k = some (.int .i64)) {l : List (Int × v.T)} {es : Array MapEntry} {clock b : Nat} (hb : w.heap[b]? = some (.map es clock)) (hm : MapR C M w false va (.int .i64) v l es clock) (hl : l.length ≤ 1000000) (hs : ∀ p ∈ l, okZ p.1 = true) :
    ∃ D0 : DataW Unit, w.ownsMap P k anyR b es.size D0 ∧ Maps.size D0 = l.length ∧ (intKeys D0).Perm (l.map fun p => p.1) := by
  obtain ⟨m, hp, hm0⟩ := hm
  obtain ⟨i1, i2, i3⟩ := ents_rdI hk hm0.ents fun p hp' => hs p (hp.mem_iff.1 hp')
  have hlen : es.toList.length = l.length := (all2_len hm0.ents).symm.trans hp.length_eq
  have hsz : es.size = l.length := by simpa using hlen
  refine ⟨.map ((es.toList.map (rg P k anyR)).foldr DataW.insert []), ⟨es, clock, hb, ⟨?_, ⟨hm0.born, hm0.nodup, ?_⟩, i2⟩, Nat.le_refl _, rfl⟩, ?_, ?_⟩
  · rw [hsz]; exact Nat.le_trans hl (of_decide_eq_true rfl)
  · rw [i3]
    refine List.pairwise_map.2 (hm0.keys.imp fun {p q} h c => ?_)
    have c : Value.int .i64 p.1 = Value.int .i64 q.1 := c
    have c : p.1 = q.1 := (Value.int.inj c).2
    have : eqB (.int .i64) p.1 q.1 = true := by rw [c]; exact eqB_self (.int .i64) _ rfl
    rw [this] at h; cases h
  · show List.length _ = _
    rw [length_sorted, List.length_map, hlen]
  · show (List.map (fun (p : Lit × DataW Unit) => intOf p.1) _).Perm _
    refine ((sorted_perm _).map _).trans ?_
    rw [i1, List.map_map]
    exact (hp.map _)
end
theorem sortedI_ok {P : Program} {C : Cfg} {ρ6 ρ7 : Ren} (L6 : SlLaysZI.n6 P ρ6) (L10 : SlLaysZI.n10 P ρ7) (hkk : P.underlying (ρ7.t 26) = some (.int .i64)) (hsort : AnyZI.SortsIn P ρ6 Fence.wide 4) (e9 : ∀ args w, (callFunc (ρ6.f 9) args).run P w = .ok (.enter (ρ6.f 9) args) w) (eg : ∀ args w, (callFunc (ρ7.f 10) args).run P w = .ok (.enter (ρ7.f 10) args) w)
    {va : Bool} {v : Sh} {n : Option Nat} {lk : List Nat} {H : List Node} {ks : List Int} (h : sortedZ (ρ7.t 23) va v n H = some ks) :
    Contract P C (ρ6.f 6) [.fnc (ρ7.f 10) [.rf .ptr n], .hin lk H] (.outs (.rowv (ρ6.t 26) (.int .i64) ks) .undef H) := by
  intro B w ρ F vs hM hv
  have hv : All2 (VR ((C.at B.b0 B.n0).lk B.L) ρ (Mof B (getR [(REG, some (.reg lk [] H))]) F) w) [.fnc (ρ7.f 10) [.rf .ptr n]] vs := hv
  have hM : Mem ((C.at B.b0 B.n0).lk B.L) B w (getR [(REG, some (.reg lk [] H))]) ρ F w := hM
  obtain ⟨u, hvs, cs, rfl, hcs⟩ := all2_one hv
  subst hvs
  obtain ⟨c, rfl, hc⟩ := all2_one hcs
  unfold sortedZ at h
  split at h <;> try (cases h; done)
  rename_i m hbox
  split at h <;> try (cases h; done)
  rename_i l hmap
  obtain ⟨nn, rfl, hbox⟩ := Option.bind_eq_some_iff.1 hbox
  have hbox := getBox_some hbox
  have hmap := getMap_some hmap
  have hr : getR [(REG, some (RS.reg lk [] H))] REG = some (.reg lk [] H) := rfl
  obtain ⟨_, G, hG⟩ := hM.res REG _ hr
  obtain ⟨b0, cells, hβ, _, hcell, hrr⟩ := hG.node _ _ hbox
  obtain ⟨b, es, clock, hβm, _, hes, hMR⟩ := hG.node _ _ hmap
  -- the captured cell
  have hc : RR ((C.at B.b0 B.n0).lk B.L) (Mof B (getR [(REG, some (.reg lk [] H))]) F) w (.rf .ptr) (some nn) [c] := hc
  have hcv : c = .pointer (some ⟨b0, 0, none⟩) := by
    rcases hc with ⟨hc, _⟩ | ⟨q, hq, _, hc, _⟩
    · cases hc
    · cases hq
      exact ((List.cons.inj hc).1).trans hβ
  have hcell0 : w.cell? ⟨b0, 0, none⟩ = some (.map (some b)) := by
    have hrr : RR ((C.at B.b0 B.n0).lk B.L) (Mof B (getR [(REG, some (.reg lk [] H))]) F) w (.rf .map) (some m) cells.toList := hrr
    rcases hrr with ⟨hx, _⟩ | ⟨q, hq, _, hx, _⟩
    · cases hx
    · cases hq
      rw [hβm] at hx
      unfold World.cell?
      simp only [hcell]
      have : cells = #[.map (some b)] := Array.toList_inj.1 hx
      subst this; rfl
  unfold keysZ at h
  cases hcond : (decide (l.length ≤ 1000000) && l.all fun p => okZ p.1) with
  | false => rw [hcond] at h; cases h
  | true =>
    rw [hcond] at h
    obtain rfl := Option.some.inj h
    rw [Bool.and_eq_true] at hcond
    have hl := of_decide_eq_true hcond.1
    have hs : ∀ p ∈ l, okZ p.1 = true := fun p hp => List.all_eq_true.1 hcond.2 p hp
    obtain ⟨D0, ho, hsz, hpm⟩ := map_ownsI hkk hes hMR hl hs
    have hseq := AnyZI.keys_gives L10 Fence.wide 2 trivial rfl (by omega) b0 b es.size D0 w (Array.getElem?_eq_some_iff.1 hcell).1 hcell0 ho
    rw [hsz] at hseq
    subst hcv
    refine (callsIn_wide.1 (AnyZI.sorted_in L6 Fence.wide 5 trivial trivial trivial trivial rfl (by omega) hsort e9 (ρ7.f 10) #[.pointer (some ⟨b0, 0, none⟩)] trivial eg _ l.length (Nat.le_trans hl (of_decide_eq_true rfl)) (by omega) w hseq)).mono fun e w' ⟨v', ss, q1, q2, q3, _, q4⟩ => ?_
    have hkeep : KeepS (fun _ => False) w w' := KeepS.of_below q4
    have hss : ss.mergeSort (fun x y => decide (x ≤ y)) = (l.map fun p => p.1).mergeSort (fun x y => decide (x ≤ y)) := Go.mergeSort_of_perm_i (q2.trans hpm)
    have hlen : ((l.map (·.1)).mergeSort (fun x y => decide (x ≤ y))).length = ss.length := by
      rw [List.length_mergeSort, List.length_map, q2.length_eq, hpm.length_eq, List.length_map]
    have hrow : ((l.map (·.1)).mergeSort (fun x y => decide (x ≤ y))).map (Value.int .i64) = (ss.mergeSort (fun x y => decide (x ≤ y))).map encZ := by
      rw [hss]
    obtain ⟨ρ', F', hv', hM'⟩ := newRow_mem (e := ρ6.t 26) (s := .int .i64) (l := (l.map (·.1)).mergeSort (fun x y => decide (x ≤ y))) (v := v') (css := ((l.map (·.1)).mergeSort (fun x y => decide (x ≤ y))).map fun x => [Value.int .i64 x]) hM hkeep (by rw [flat_ones, hlen, hrow]; exact q3) (fun _ => ints_all2 _)
    exact ⟨v', B.b0, B.n0, ρ', F', q1, hv', hM'⟩
end Go.Pev
/- The pure evaluator, part Ag: an argument's lists are no longer than memory. Own text. -/
namespace Go.Pev
def wzF (chk : TypeId → (s : Sh) → s.T → Prop) : List Field → (s : Sh) → s.T → Prop
  | [], _, _ => True
  | f :: fs, s, y => match fs, s, y with
    | [], s, y => chk f.type s y
    | g :: fs, .pair a b, y => chk f.type a y.1 ∧ wzF chk (g :: fs) b y.2
    | _ :: _, _, _ => True
def wzS (P : Program) : Nat → TypeId → (s : Sh) → s.T → Prop
  | 0, _, _, _ => True
  | d + 1, t, s, y => match P.underlying t with
    | some (.slice e) => (match s, y with
      | .sl s', l => List.length (α := s'.T) l * P.bytesOf e ≤ reachBytes ∧ ∀ x ∈ (l : List s'.T), wzS P d e s' x
      | _, _ => True)
    | some (.struct fs) => wzF (wzS P d) fs.toList s y
    | _ => True
section
variable {H : Type} {enc : TypeId × Value → H} {P : Program} {w w' : World} {base : Nat} {spare : Nat → Bool} {held : Bool} {C : Cfg}
theorem mem_wAll {e : TypeId} : ∀ {l : List (DataW H)} {d : DataW H} {n : Nat}, d ∈ l → n ∈ d.weights P e → n ∈ DataW.weightsAll P e l
  | [], _, _, h, _ => by cases h
  | c :: l, d, n, h, hn => by
    simp only [DataW.weightsAll, List.mem_append]
    rcases List.mem_cons.1 h with h | h
    · exact .inl (by rw [← h]; exact hn)
    · exact .inr (mem_wAll h hn)
theorem fields_RZ {d : Nat} (ih : ∀ (t : TypeId) (s : Sh) (fuel : Nat) (cs : List Value) (x : DataW H × List MemPlace), argShp P d t s = true → DataW.trod enc P w base spare held fuel t cs = some x → ∃ y : s.T, RR C (fun _ => False) w s y cs ∧ wfS s y ∧ ((∀ n ∈ x.1.weights P t, n ≤ reachBytes) → wzS P d t s y)) {n : Nat} {cs : List Value} :
    ∀ (fs : List Field) (s : Sh) (off : Nat) (xs : List (DataW H × List MemPlace)), argFs P (argShp P d) fs s off = true → cs.length = off + s.sz → xs.length = fs.length → (∀ (i : Nat) f, fs[i]? = some f → DataW.trod enc P w base spare held n f.type ((cs.drop f.offset).take (P.cellsOf f.type)) = xs[i]?) → ∃ y : s.T, RR C (fun _ => False) w s y (cs.drop off) ∧ wfS s y ∧ ((∀ n ∈ DataW.weightsEach P (fs.map (·.type)) (xs.map (·.1)), n ≤ reachBytes) → wzF (wzS P d) fs s y)
  | [], _, _, _, h, _, _, _ => by simp [argFs] at h
  | [f], s, off, [x], h, hl, _, hx => by
    simp only [argFs, Bool.and_eq_true] at h
    obtain ⟨⟨h1, h2⟩, h3⟩ := h
    have hx := hx 0 f rfl
    have e1 := Nat.eq_of_beq_eq_true h1
    have e3 := Nat.eq_of_beq_eq_true h3
    obtain ⟨y, hy, hw, hz⟩ := ih _ _ _ _ _ h2 hx
    rw [e1, e3, List.take_of_length_le (by simp; omega)] at hy
    exact ⟨y, hy, hw, fun hq => hz fun n hn => hq n (by simp only [List.map_cons, List.map_nil, DataW.weightsEach, List.append_nil]; exact hn)⟩
  | f :: g :: fs, s, off, x :: xs, h, hl, hxl, hx => by
    cases s <;> simp only [argFs] at h <;> try (cases h; done)
    rename_i a b
    simp only [Bool.and_eq_true] at h
    obtain ⟨⟨⟨h1, h2⟩, h3⟩, h4⟩ := h
    have e1 := Nat.eq_of_beq_eq_true h1
    have e3 := Nat.eq_of_beq_eq_true h3
    have hx0 := hx 0 f rfl
    obtain ⟨y, hy, hw, hq1⟩ := ih _ _ _ _ _ h2 hx0
    rw [e1, e3] at hy
    obtain ⟨z, hz, hv, hq2⟩ := fields_RZ (n := n) (cs := cs) ih (g :: fs) b (off + a.sz) xs h4 (by simp only [Sh.sz] at hl; omega) (by simpa using hxl) (fun i f hf => by have := hx (i + 1) f (by simpa using hf); simpa using this)
    exact ⟨(y, z), ⟨hy, by rw [List.drop_drop]; exact hz⟩, ⟨hw, hv⟩, fun hq => ⟨hq1 fun n hn => hq n (by simp only [List.map_cons, DataW.weightsEach, List.mem_append]; exact .inl hn), hq2 fun n hn => hq n (by
      rw [List.map_cons, List.map_cons (f := fun x : DataW H × List MemPlace => x.1)]
      simp only [DataW.weightsEach, List.mem_append]
      exact .inr hn)⟩⟩
  | [_], _, _, [], _, _, h, _ => by simp at h
  | [_], _, _, _ :: _ :: _, _, _, h, _ => by simp at h
  | _ :: _ :: _, _, _, [], _, _, h, _ => by simp at h
theorem trod_RZ : ∀ (d : Nat) (t : TypeId) (s : Sh) (fuel : Nat) (cs : List Value) (x : DataW H × List MemPlace), argShp P d t s = true → DataW.trod enc P w base spare held fuel t cs = some x → ∃ y : s.T, RR C (fun _ => False) w s y cs ∧ wfS s y ∧ ((∀ n ∈ x.1.weights P t, n ≤ reachBytes) → wzS P d t s y)
  | 0, _, _, _, _, _, h, _ => by simp [argShp] at h
  | d + 1, t, s, fuel, cs, x, h, hx => by
    simp only [argShp] at h
    split at h
    · rename_i k hu
      have hs : s = .int k := by simpa using h
      subst hs
      obtain ⟨n, hn, _, hw⟩ := DataW.trod_int hu hx
      exact ⟨n, hn, hw, fun _ => by simp only [wzS]; rw [hu]; trivial⟩
    · rename_i hu
      have hs : s = .bool := by simpa using h
      subst hs
      have key : ∃ b : Bool, cs = [.bool b] := by
        cases fuel with
        | zero => simp [DataW.trod] at hx
        | succ n =>
          unfold DataW.trod at hx
          rw [hu] at hx
          split at hx <;> simp_all
      obtain ⟨n, hn⟩ := key
      exact ⟨n, hn, trivial, fun _ => by simp only [wzS]; rw [hu]; trivial⟩
    · rename_i hu
      have hs : s = .str := by simpa using h
      subst hs
      obtain ⟨n, hn, _, hw⟩ := DataW.trod_string hu hx
      exact ⟨n, hn, hw, fun _ => by simp only [wzS]; rw [hu]; trivial⟩
    · rename_i e hu
      split at h <;> try (cases h; done)
      rename_i s'
      simp only [Bool.and_eq_true] at h
      obtain ⟨h1, h2⟩ := h
      have e2 := Nat.eq_of_beq_eq_true h2
      rcases Deep.open_slice hu hx with ⟨rfl, _⟩ | ⟨a, len, cap, m, n, D, Pl, rfl, hb, hl, hm, hmm, rfl, hel⟩
      · exact ⟨[], ⟨none, 0, rfl, Nat.le_refl _, .inl rfl⟩, ⟨Nat.zero_le _, fun _ h => by cases h⟩, fun _ => by simp only [wzS]; rw [hu]; exact ⟨by simp, fun _ h => by cases h⟩⟩
      · have hlm : len ≤ m := by rw [hmm]; split <;> omega
        have each : ∀ i, i < len → ∃ (y : s'.T) (cs' : List Value), (RR C (fun _ => False) w s' y cs' ∧ wfS s' y) ∧ (w.cells? base (a.add (i * s'.sz)) s'.sz = some cs' ∧ ((∀ n ∈ (D i).weights P e, n ≤ reachBytes) → wzS P d e s' y)) := by
          intro i hi
          obtain ⟨cs', g1, g2⟩ := hel i (by omega)
          obtain ⟨y, hy, hy2, hy3⟩ := trod_RZ d e s' n cs' _ h1 g2
          rw [e2] at g1
          exact ⟨y, cs', ⟨hy, hy2⟩, g1, hy3⟩
        obtain ⟨l, css, q1, q2, q3⟩ := all2_of (r := fun y cs' => RR C (fun _ => False) w s' y cs' ∧ wfS s' y) len (fun i hi => let ⟨y, cs', h, _⟩ := each i hi; ⟨y, cs', h⟩) (fun i y cs' => w.cells? base (a.add (i * s'.sz)) s'.sz = some cs' ∧ ((∀ n ∈ (D i).weights P e, n ≤ reachBytes) → wzS P d e s' y)) (fun i hi => let ⟨y, cs', h, h'⟩ := each i hi; ⟨y, cs', h, h'⟩)
        obtain ⟨q2, q4⟩ := q2.left
        refine ⟨l, ⟨some a, cap, by rw [q1], by rw [q1]; exact hl, .inr ⟨a, css, rfl, q2, ?_⟩⟩, ⟨by rw [q1]; exact Nat.le_trans hl hm, q4⟩, fun hz => ?_⟩
        rotate_left
        · simp only [wzS]
          rw [hu]
          have hz1 : ∀ n ∈ (len + (m - len)) * P.bytesOf e :: (DataW.weightsAll P e ((List.range len).map D) ++ DataW.weightsAll P e ((List.range (m - len)).map fun j => D (len + j))), n ≤ reachBytes := fun n hn => hz n (by simp only [DataW.weights, hu, List.length_map, List.length_range]; exact hn)
          refine ⟨?_, fun y hy => ?_⟩
          · have := hz1 _ List.mem_cons_self
            rw [q1]
            exact Nat.le_trans (Nat.mul_le_mul_right _ (Nat.le_add_right _ _)) this
          · obtain ⟨i, hi, he⟩ := List.getElem_of_mem hy
            have hi' : i < len := by rw [← q1]; exact hi
            obtain ⟨y', _, g1, _, _, g4⟩ := q3 i hi'
            rw [List.getElem?_eq_getElem hi, he] at g1
            obtain rfl := Option.some.inj g1
            exact g4 fun n hn => hz1 n (List.mem_cons_of_mem _ (List.mem_append_left _ (mem_wAll (List.mem_map_of_mem (List.mem_range.2 hi')) hn)))
        intro w' hw j u hj
        have hcl : ∀ c ∈ css, c.length = s'.sz := fun c hc => by
          obtain ⟨x, _, hx⟩ := q2.mem_right c hc
          exact RR.len s' x c hx
        rw [flatten_ext s'.sz_pos hcl] at hj
        cases hi : css[j / s'.sz]? with
        | none => rw [hi] at hj; cases hj
        | some c =>
          rw [hi] at hj
          have hlt : j / s'.sz < len := by
            have := (List.getElem?_eq_some_iff.1 hi).1
            rw [← q2.length, q1] at this
            exact this
          obtain ⟨_, b, _, g2, g3, _⟩ := q3 _ hlt
          rw [hi] at g2
          obtain rfl := Option.some.inj g2
          have := cells_rob g3 w' hw (j % s'.sz) u hj
          rw [addr_add, Nat.div_add_mod'] at this
          exact this
    · rename_i fs hu
      simp only [Bool.and_eq_true] at h
      obtain ⟨h1, h2⟩ := h
      obtain ⟨xs, n, rfl, rfl, hlen, hxl, hf⟩ := DataW.trod_struct hu hx
      have e2 := Nat.eq_of_beq_eq_true h2
      obtain ⟨y, hy, hw, hz⟩ := fields_RZ (C := C) (n := n) (cs := cs) (fun t s fuel cs x => trod_RZ d t s fuel cs x) fs.toList s 0 xs h1 (by omega) (by rw [hxl]; simp) (fun i f hi => hf i f (by simpa using hi))
      exact ⟨y, by simpa using hy, hw, fun hq => by
        simp only [wzS]
        rw [hu]
        exact hz fun n hn => hq n (by simp only [DataW.weights, hu]; exact hn)⟩
    · cases h
end
open Go.ChangeShapes Go.WideShapes Go.RowKit in
theorem open_shZ {H : Type} {enc : TypeId × Value → H} {P : Program} {W : World} {base : Nat} {t : TypeId} {s : Sh} {v : Value} {d : DataW H} {ps : List MemPlace} {C : Cfg} (hc : argShp P 8 t s = true) (hst : stOk P t s = true)
    (hv : Value.okWide P W .any base t v) (h : DataW.Trod enc P W 0 (fun _ => true) true t v d ps) : ∃ x : s.T, SR C (fun _ => .nilIface) (fun _ => False) W (encA s x) v ∧ wfS s x ∧ ((∀ n ∈ d.weights P t, n ≤ reachBytes) → wzS P 8 t s x) := by
  obtain ⟨n, hn⟩ := h
  obtain ⟨y, hy, hw, hz⟩ := trod_RZ (C := C) 8 t s n v.cells.toList _ hc hn
  refine ⟨y, ?_, hw, hz⟩
  have hl := leaves_rel (ρ := fun _ => .nilIface) s y _ hy
  simp only [argShp] at hc
  split at hc
  · rename_i k hu
    have hs : s = .int k := by simpa using hc
    subst hs
    obtain ⟨n, rfl⟩ := okWide_int hu hv
    simp only [RR, Value.cells] at hy
    simp at hy
    subst hy
    rfl
  · rename_i hu
    have hs : s = .bool := by simpa using hc
    subst hs
    obtain ⟨n, rfl⟩ := okWide_bool hu hv
    simp only [RR, Value.cells] at hy
    simp at hy
    subst hy
    rfl
  · rename_i hu
    have hs : s = .str := by simpa using hc
    subst hs
    obtain ⟨n, rfl⟩ := okWide_string hu hv
    simp only [RR, Value.cells] at hy
    simp at hy
    subst hy
    rfl
  · rename_i e hu
    split at hc <;> try (cases hc; done)
    rename_i s'
    obtain ⟨a, len, cap, rfl⟩ := okWide_slice hu hv
    simp only [Value.cells] at hl
    cases hl with | cons h1 h2 => exact h1
  · rename_i fs hu
    obtain ⟨cs, rfl, _⟩ := okWide_struct hu hv
    unfold stOk at hst
    rw [hu] at hst
    cases s <;> try (cases hst; done)
    exact ⟨cs.toList, rfl, hl⟩
  · cases hc
end Go.Pev
/- The pure evaluator, part Ah: calls with the region out of a walk by hand; captured variables' blocks. Own text, over any program. -/
namespace Go.Pev
open Go
section
variable {P : Program} {T : Tabs} {M0 : Base} {β : Nat → Value} {N : Nat} {w0 : World} {sl : Nat → Option AV} {rs : Nat → Option RS} {ρ : Nat → Value} {F : Nat → Nat → Prop} {a : Act} {w : World}
theorem hin_args {args : List AV} {us : List Value} {C : Cfg} {M : Nat → Prop} {lk : List Nat} {H : List Node} (hp : args.all AV.pure2 = true) (hargs : All2 (VR C ρ M w) args us) : inArgs (args ++ [.hin lk H]) = (args, [(REG, some (.reg lk [] H))]) := by
  have hn : ∀ x ∈ args, ∀ lk H, x ≠ .hin lk H := fun x hx => pure2_hin (List.all_eq_true.1 hp x hx)
  rw [inArgs_app hn, inArgs_id hargs, show ([AV.hin lk H] : List AV) = hinL true lk [] H from rfl, hinL_in]
  simp [regIn, itLocks]
theorem call_regIn {G : Nat → Nat → Prop} {lk : List Nat} {H : List Node} (hr : rs REG = some (.reg lk [] H)) (hG : RegG (T.cf β N M0.L) ρ (Mof M0 rs F) w (F REG) G lk [] H) : CallIn T β N M0 rs ρ F w G none true lk [] H (getR [(REG, some (.reg lk [] H))]) := by
  refine ⟨fun _ e => (by cases e), fun _ => ?_, fun _ => ⟨hr, hG, ?_⟩, fun e => (by cases e), fun i _ hR => ?_⟩
  · rw [getR_cons, if_neg (by decide), getR_nil]
  · rw [getR_cons, if_pos rfl]; rfl
  · rw [getR_cons, if_neg (Ne.symm hR), getR_nil]
theorem rel_call (h : Rel (T.cf β N M0.L) M0 w0 sl rs ρ F a w) {g : Nat} {args : List AV} {us : List Value} {lk : List Nat} {H oH : List Node} {ov : AV}
    (hspec : Contract P T.toCfg g (args ++ [.hin lk H]) (.outs ov .undef oH)) (hp : args.all AV.pure2 = true) (hargs : All2 (VR (T.cf β N M0.L) ρ (Mof M0 rs F) w) args us)
    (hr : rs REG = some (.reg lk [] H)) (hov : ov.pure2 = true) :
    Calls P g us.toArray w fun e w' => ∃ v, e = .returned v ∧ ∃ ρ' F' β' N', Rel (T.cf β' N' M0.L) M0 w0 sl (updR rs [(REG, some (.reg lk [] oH))]) ρ' F' a w' ∧ VR (T.cf β' N' M0.L) ρ' (Mof M0 (updR rs [(REG, some (.reg lk [] oH))]) F') w' ov v := by
  obtain ⟨_, G, hG⟩ := h.res REG _ hr
  have hin := hin_args (lk := lk) (H := H) hp hargs
  have hc := call_regIn hr hG
  have hmem := call_in hc h
  have hargs' : All2 (VR (T.cf β N (cL M0 G true [])) (cR ρ none) (Mof (cB β N M0 rs ρ F G none true lk []) (getR [(REG, some (.reg lk [] H))]) (cF F G none true)) w) args us :=
    hargs.imp_mem fun x v hxm hx => VR.relk (hx.step (KeepS.refl _ _) (fun k hk _ => hc.cMof hk) fun id hid => by rw [pure_ment (pure2_pure (List.all_eq_true.1 hp x hxm)) id] at hid; cases hid)
  have hcall := hspec (cB β N M0 rs ρ F G none true lk []) w (cR ρ none) (cF F G none true) us (by rw [hin]; exact hmem) (by rw [hin]; exact hargs')
  refine hcall.mono fun e w' hh => ?_
  obtain ⟨v, b, n, ρ', F', rfl, hv, hm⟩ := hh
  rw [hin] at hv hm
  refine ⟨v, rfl, ?_⟩
  have hrow : rowOf ov = [] := by
    have h2 := pure2_norow hov
    cases ov <;> first | exact h2 | (simp [AV.pure2, AV.pure1] at hov; done)
  have hv : VR (T.cf b n (cL M0 G true [])) ρ' (Mof (cB β N M0 rs ρ F G none true lk []) (getR (outW [(REG, some (.reg lk [] H))] (.outs ov .undef oH))) F') w' (unrow 8000 ov) v := hv
  rw [unrow_none hrow] at hv
  have hoR : getR (outW [(REG, some (.reg lk [] H))] (.outs ov .undef oH)) REG = some (.reg lk [] oH) := by
    simp only [outW, List.append_assoc]
    rw [outRow_skip (by decide), outO_skip (by decide), outH_at (its := []) (by rw [get_cons', if_pos rfl])]
  obtain ⟨ρ2, F2, bb, nn, hrel, hsub, _, hbn⟩ := call_out hc h (rs'' := updR rs [(REG, some (.reg lk [] oH))]) (nd := none) (H' := oH) hm (fun d e => by cases e) (fun id ho => by cases ho)
    (fun _ => ⟨by rw [updR_cons', if_pos rfl]; rfl, hoR⟩) (fun i _ _ h3 => by rw [updR_cons', if_neg (fun e => h3 ⟨rfl, e.symm⟩), updR_nil])
  obtain ⟨rfl, rfl⟩ : bb = b ∧ nn = n := by
    rcases hbn with e | ⟨e, _⟩
    · exact e
    · cases e
  exact ⟨ρ2, F2, bb, nn, hrel, VR.relk (hv.step (KeepS.refl _ _) (fun k hk _ => hsub k hk) fun id hid => by rw [pure_ment (pure2_pure hov) id] at hid; cases hid)⟩
theorem rel_callRow (h : Rel (T.cf β N M0.L) M0 w0 sl rs ρ F a w) {g d : Nat} {args : List AV} {us : List Value} {lk : List Nat} {H oH : List Node} {e : TypeId} {s : Sh} {l : List s.T}
    (hspec : Contract P T.toCfg g (args ++ [.hin lk H]) (.outs (.rowv e s l) .undef oH)) (hp : args.all AV.pure2 = true) (hargs : All2 (VR (T.cf β N M0.L) ρ (Mof M0 rs F) w) args us)
    (hr : rs REG = some (.reg lk [] H)) (hf : Fresh sl rs d) (hdR : d ≠ REG) :
    Calls P g us.toArray w fun en w' => ∃ v, en = .returned v ∧ ∃ ρ' F' β' N', Rel (T.cf β' N' M0.L) M0 w0 sl (updR rs [(d, some (.row e s l)), (REG, some (.reg lk [] oH))]) ρ' F' a w' ∧ v = ρ' d := by
  obtain ⟨_, G, hG⟩ := h.res REG _ hr
  have hin := hin_args (lk := lk) (H := H) hp hargs
  have hc := call_regIn hr hG
  have hmem := call_in hc h
  have hargs' : All2 (VR (T.cf β N (cL M0 G true [])) (cR ρ none) (Mof (cB β N M0 rs ρ F G none true lk []) (getR [(REG, some (.reg lk [] H))]) (cF F G none true)) w) args us :=
    hargs.imp_mem fun x v hxm hx => VR.relk (hx.step (KeepS.refl _ _) (fun k hk _ => hc.cMof hk) fun id hid => by rw [pure_ment (pure2_pure (List.all_eq_true.1 hp x hxm)) id] at hid; cases hid)
  have hcall := hspec (cB β N M0 rs ρ F G none true lk []) w (cR ρ none) (cF F G none true) us (by rw [hin]; exact hmem) (by rw [hin]; exact hargs')
  refine hcall.mono fun en w' hh => ?_
  obtain ⟨v, b, n, ρ', F', rfl, hv, hm⟩ := hh
  rw [hin] at hv hm
  refine ⟨v, rfl, ?_⟩
  have hv : v = ρ' 8000 := hv
  have hoR : getR (outW [(REG, some (.reg lk [] H))] (.outs (.rowv e s l) .undef oH)) REG = some (.reg lk [] oH) := by
    simp only [outW, List.append_assoc]
    rw [outRow_skip (by decide), outO_skip (by decide), outH_at (its := []) (by rw [get_cons', if_pos rfl])]
  obtain ⟨ρ2, F2, bb, nn, hrel, hsub, h8, hbn⟩ := call_out hc h (rs'' := updR rs [(d, some (.row e s l)), (REG, some (.reg lk [] oH))]) (nd := some d) (H' := oH) hm
    (fun d' e' => by
      obtain rfl := Option.some.inj e'
      exact ⟨hf, hdR, (fun e => by cases e), e, s, l, by rw [updR_cons', if_pos rfl], (by simp only [outW, List.append_assoc]; exact outRow_at rfl), fun e => by cases e⟩)
    (fun id ho => by cases ho)
    (fun _ => ⟨by rw [updR_cons', if_neg hdR, updR_cons', if_pos rfl]; rfl, hoR⟩) (fun i h1 _ h3 => by rw [updR_cons', if_neg (fun e => h1 (by rw [e])), updR_cons', if_neg (fun e => h3 ⟨rfl, e.symm⟩), updR_nil])
  exact ⟨ρ2, F2, bb, nn, hrel, by rw [hv, h8 d rfl]⟩
abbrev enterB (B : Base) (w : World) : Base := { B with W := fun k => B.W k ∧ k < w.heap.size }
theorem Mem.enter {B : Base} (h : Mem (T.cf β N B.L) B w rs ρ F w) (o : Obj) : Mem (T.cf β N B.L) (enterB B w) (w.alloc o) rs ρ F (w.alloc o) := by
  have hk := KeepS.alloc w o
  have hsz : w.heap.size ≤ (w.alloc o).heap.size := hk.size
  refine ⟨KeepS.refl _ _, fun k g => ?_, fun k g => h.wl k g.1, fun k g => Nat.lt_of_lt_of_le (h.lsz k g) hsz, fun id st hst => (h.res id st hst).step hk (fun _ f => f.elim) (fun _ _ f => f.elim) (fun _ g _ => g) rfl (fun _ _ => rfl), fun id st k hst hF => ?_, h.disj, h.one, h.bone, h.ext, fun p hp => ?_, h.own7, h.lkz⟩
  · obtain ⟨a1, a2, a3⟩ := h.m0 k g
    exact ⟨Nat.lt_of_lt_of_le a1 hsz, fun f => a2 f.1, a3⟩
  · obtain ⟨a1, a2⟩ := h.rng id st k hst hF
    refine ⟨?_, Nat.lt_of_lt_of_le a2 hsz⟩
    rcases a1 with a1 | a1 | a1
    · exact .inl ⟨a1, a2⟩
    · exact .inr (.inl a1)
    · exact absurd a2 (Nat.not_lt.2 a1)
  · obtain ⟨a1, a2, a3⟩ := h.glob p hp
    exact ⟨GV.step (hk.block p.1 a2 (fun f => f)) a1, Nat.lt_of_lt_of_le a2 hsz, fun g => a3 (g.imp_right fun g => g.imp_left And.left)⟩
theorem Mem.leave {B : Base} {β0 : Nat → Value} {N0 : Nat} {rs0 : Nat → Option RS} {ρ0 : Nat → Value} {F0 : Nat → Nat → Prop} {w' : World} {o : Obj} (h0 : Mem (T.cf β0 N0 B.L) B w rs0 ρ0 F0 w) (h : Mem (T.cf β N B.L) (enterB B w) (w.alloc o) rs ρ F w') : Mem (T.cf β N B.L) B w rs ρ F w' := by
  have hk := KeepS.alloc w o
  have hsz : w.heap.size ≤ (w.alloc o).heap.size := hk.size
  refine ⟨(hk.mono fun _ _ f => f.elim).trans (h.keep.mono fun _ _ g => g.1), h0.m0, h0.wl, h0.lsz, h.res, fun id st k hst hF => ?_, h.disj, h.one, h.bone, h.ext, h0.glob, h.own7, h.lkz⟩
  obtain ⟨a1, a2⟩ := h.rng id st k hst hF
  refine ⟨?_, a2⟩
  rcases a1 with a1 | a1 | a1
  · exact .inl a1.1
  · exact .inr (.inl a1)
  · exact .inr (.inr (Nat.le_trans hsz a1))
theorem Rel.cut {C : Cfg} (h : Rel C M0 w0 sl rs ρ F a w) {id : Nat} (hf : Fresh sl rs id) {e : TypeId} {s : Sh} {l : List s.T} (hid : rs id = some (.row e s l)) {g n c : Nat} (hg : ρ id = .slice (some ⟨g, 0, none⟩) n c) {m : Nat} (hm : m ≤ l.length) :
    Rel C M0 w0 sl (updR rs [(id, some (.row e s (l.take m)))]) (fun i => if i = id then .slice (some ⟨g, 0, none⟩) m c else ρ i) F a w := by
  obtain ⟨css, ⟨hlen, hown⟩, hF, hel⟩ := h.res id _ hid
  have hcl : ∀ c ∈ css, c.length = s.sz := fun c hc => by
    obtain ⟨x, _, hx⟩ := hel.mem_right c hc
    exact RR.len s x c hx
  refine h.upd (fun i => i = id) (KeepS.refl (fun _ => False) w) (fun _ f => f.elim) (fun i hi => ⟨by rw [updR_single, if_neg (Ne.symm hi)], rfl⟩)
    (fun t av i ht hme => if_neg fun e => by subst e; rw [hf.slots t av ht] at hme; cases hme) (fun i st hi hst => ⟨if_neg hi, fun j hj => if_neg fun e => by subst e; rw [hf.res i st hst] at hj; cases hj⟩)
    (fun _ _ _ _ _ _ g => g) (fun j stj hj hst => ?_) (fun i => ?_) ⟨fun h7 => ?_, fun lk its H h' => ?_⟩
  · subst hj
    rw [updR_single, if_pos rfl] at hst
    obtain rfl := Option.some.inj hst
    have hF' : ∀ k, F j k ↔ k = g := fun k => by
      rw [hF k, hg]
      exact ⟨fun e => (Option.some.inj e).symm, fun e => by rw [e]; rfl⟩
    refine ⟨fun hs => ⟨css.take m, ⟨?_, ?_⟩, fun k => ?_, (hel.imp fun x cs hx => RR.step (KeepS.refl (fun _ => False) w |>.mono fun _ _ f => f.elim) hs s x cs hx).take m⟩, fun k hk => ?_⟩
    · rw [flatten_length (fun c hc => hcl c (List.mem_of_mem_take hc)), List.length_take, ← hel.length, List.length_take, Nat.min_eq_left hm]
    · have hj : (fun i => if i = j then Value.slice (some ⟨g, 0, none⟩) m c else ρ i) j = .slice (some ⟨g, 0, none⟩) m c := if_pos rfl
      rw [hj]
      rcases hown with ⟨hv, _⟩ | ⟨g', cap, cur, hv, hb, hh, hnc, hcm, hcs, htk⟩
      · rw [hg] at hv; cases hv
      · rw [hg] at hv
        obtain ⟨rfl, rfl, rfl⟩ : g = g' ∧ n = l.length ∧ c = cap := by simpa using hv
        refine .inr ⟨g, c, cur, by rw [List.length_take, Nat.min_eq_left hm], hb, hh, by rw [List.length_take]; omega, hcm, hcs, ?_⟩
        have h1 := congrArg (List.take (m * s.sz)) htk
        rw [List.take_take, Nat.min_eq_left (Nat.mul_le_mul_right _ hm)] at h1
        rw [List.length_take, Nat.min_eq_left hm, h1]
        conv => lhs; rw [← List.take_append_drop m css, List.flatten_append]
        refine List.take_left' ?_
        rw [flatten_length (fun c hc => hcl c (List.mem_of_mem_take hc)), List.length_take, ← hel.length, Nat.min_eq_left hm]
    · have hj : (fun i => if i = j then Value.slice (some ⟨g, 0, none⟩) m c else ρ i) j = .slice (some ⟨g, 0, none⟩) m c := if_pos rfl
      rw [hj, hF' k]
      exact ⟨fun e => by rw [e]; rfl, fun e => (Option.some.inj e).symm⟩
    · obtain ⟨a1, a2⟩ := h.rng j _ k hid hk
      refine ⟨a1.imp_right fun a1 => a1.imp_left fun a1 => by simp [isReg] at a1, a2, fun _ => .inr ⟨j, _, hid, hk⟩, fun i t hi ht => ?_⟩
      rw [updR_single, if_neg (Ne.symm hi)] at ht
      exact h.disj j i _ t k hid ht (Ne.symm hi) hk
  · show (if i = id then _ else ρ i).oneCell' = true
    split
    · rfl
    · exact h.one i
  · rw [updR_single, if_neg hf.ne] at h7
    exact ⟨h7, if_neg (Ne.symm hf.ne)⟩
  · rw [updR_single] at h'
    split at h'
    · cases h'
    · exact ⟨_, _, h'⟩
theorem setCell_row {g i : Nat} {cells : Array Value} {e : TypeId} {fr : Nat × Nat} {v : Value} (hg : w.heap[g]? = some (.cells cells e fr)) (hi : i < cells.size) : w.setCell ⟨g, i, none⟩ v = w.setRow g (cells.toList.take i ++ [v] ++ cells.toList.drop (i + 1)).toArray := by
  have hlt : g < w.heap.size := (Array.getElem?_eq_some_iff.1 hg).1
  have hv : w.heap[g] = .cells cells e fr := (Array.getElem?_eq_some_iff.1 hg).2
  have hset : cells.setIfInBounds i v = (cells.toList.take i ++ [v] ++ cells.toList.drop (i + 1)).toArray := by
    apply Array.ext'
    rw [Array.toList_setIfInBounds, List.set_eq_take_append_cons_drop, if_pos (by simpa using hi)]
    simp
  unfold World.setCell World.setRow
  have : (w.heap.modify g fun | .cells c elem frozen => .cells (if (none : Option Nat).isSome then c else c.setIfInBounds i v) elem frozen | o => o) = w.heap.modify g fun | .cells _ elem frozen => .cells (cells.toList.take i ++ [v] ++ cells.toList.drop (i + 1)).toArray elem frozen | o => o := by
    apply Array.ext
    · simp
    · intro k h1 h2
      rw [Array.getElem_modify, Array.getElem_modify]
      split
      · rename_i e; subst e
        rw [hv]
        simp only [Option.isSome_none, Bool.false_eq_true, if_false, hset]
      · rfl
  exact congrArg (fun h => ({ w with heap := h } : World)) this
theorem Rel.ints {C : Cfg} (h : Rel C M0 w0 sl rs ρ F a w) {id : Nat} {e : TypeId} {l : List Int} (hid : rs id = some (.row e (.int .i64) l)) {g n c : Nat} (hg : ρ id = .slice (some ⟨g, 0, none⟩) n c) :
    n = l.length ∧ (∀ j x, l[j]? = some x → w.cell? ⟨g, j, none⟩ = some (.int .i64 x)) ∧ (∀ j, w.frozen? ⟨g, j, none⟩ = false) ∧
      ∀ i x, i < l.length → Rel C M0 w0 sl (updR rs [(id, some (.row e (.int .i64) (l.set i x)))]) ρ F a (w.setCell ⟨g, i, none⟩ (.int .i64 x)) := by
  obtain ⟨css, hown0, hF, hel⟩ := h.res id _ hid
  have hn : n = l.length := by
    obtain ⟨A, c', hv, _⟩ := own_slice hown0
    rw [hg] at hv
    cases hv; rfl
  have hfr : ∀ j, w.frozen? ⟨g, j, none⟩ = false := by
    rcases hown0.2 with ⟨hv, _⟩ | ⟨g', cap, cur, hv, hb, hh, _⟩
    · rw [hg] at hv; cases hv
    · rw [hg] at hv
      obtain ⟨rfl, _⟩ : g = g' ∧ _ := by simpa using hv
      intro j
      simp [World.frozen?, hh]
  refine ⟨hn, fun j x hx => ?_, hfr, fun i x hi => ?_⟩
  · have hi : j < l.length := (List.getElem?_eq_some_iff.1 hx).1
    obtain ⟨g', cap, cs, e1, e2, e3⟩ := row_at hown0 hel hi
    rw [hg] at e1
    obtain ⟨rfl, _⟩ : g = g' ∧ _ := by simpa using e1
    have e2 : cs = [.int .i64 l[j]] := e2
    have := e3 0 (.int .i64 l[j]) (by rw [e2]; rfl)
    rw [show ((⟨g, j * (Sh.int .i64).sz, none⟩ : Addr).add 0) = ⟨g, j, none⟩ by rw [add_zero']; simp [Sh.sz]] at this
    rw [this]
    obtain ⟨_, h2⟩ := List.getElem?_eq_some_iff.1 hx
    rw [h2]
  · obtain ⟨cells, q1, q2, q3⟩ := h.elt (st := .int .i64) (l := l) hid hg (v := [.int .i64 x]) (vs := [.int .i64 x]) (off := 0) (i := i) (y := l[i]) (x := x) (List.getElem?_eq_getElem hi) (.cons rfl .nil) (fun y hy => by rw [List.mem_singleton.1 hy]; rfl) (Nat.le_refl _) rfl
    have hsz : i * (Sh.int .i64).sz + 0 = i := by simp [Sh.sz]
    rw [hsz] at q2 q3
    rw [setCell_row q1 (by simp at q2; omega)]
    exact q3
end
end Go.Pev
