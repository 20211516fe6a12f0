/- Chapter 8, plain: names and their counts: the document's insertion and a sorted map by names. -/
import Derived.Test.YtdiomgmckidccaaGreatDoorKh
set_option maxRecDepth 100000
namespace Go.Proofs.YtdiomgmckidccaaGreatDoor
open Go Go.Pev
abbrev Cnt := List (ByteArray × Int)
abbrev lkC (s : ByteArray) (l : Cnt) : Option Int := lookL .str (.int .i64) s l
abbrev SoC (l : Cnt) : Prop := Go.Pev.Sorted .str (.int .i64) l
/-- A name counts one more. -/
def bmp (s : ByteArray) : Cnt → Cnt
  | [] => [(s, 1)]
  | p :: T => if ltN p.1 s = true then p :: bmp s T else if p.1 = s then (s, p.2 + 1) :: T else (s, 1) :: p :: T
theorem bmp_len (s : ByteArray) : ∀ T : Cnt, (bmp s T).length ≤ T.length + 1
  | [] => Nat.le_refl _
  | p :: T => by
    unfold bmp
    have := bmp_len s T
    split
    · simp only [List.length_cons]; omega
    · split <;> simp
theorem bmp_pos (s : ByteArray) : ∀ T : Cnt, (∀ (h : posN (T.map (·.1)) s < T.length), (T[posN (T.map (·.1)) s]).1 = s → (bmp s T).map (·.1) = T.map (·.1) ∧ (bmp s T).map (·.2) = (T.map (·.2)).set (posN (T.map (·.1)) s) (T[posN (T.map (·.1)) s].2 + 1)) ∧
    ((∀ (h : posN (T.map (·.1)) s < T.length), (T[posN (T.map (·.1)) s]).1 ≠ s) → (bmp s T).map (·.1) = (T.map (·.1)).take (posN (T.map (·.1)) s) ++ [s] ++ (T.map (·.1)).drop (posN (T.map (·.1)) s) ∧ (bmp s T).map (·.2) = (T.map (·.2)).take (posN (T.map (·.1)) s) ++ [1] ++ (T.map (·.2)).drop (posN (T.map (·.1)) s))
  | [] => ⟨fun h => by simp at h, fun _ => ⟨rfl, rfl⟩⟩
  | p :: T => by
    obtain ⟨h1, h2⟩ := bmp_pos s T
    by_cases hlt : ltN p.1 s = true
    · have e : posN ((p :: T).map (·.1)) s = posN (T.map (·.1)) s + 1 := if_pos hlt
      have eb : bmp s (p :: T) = p :: bmp s T := by rw [bmp, if_pos hlt]
      rw [eb]
      refine ⟨fun h hs => ?_, fun h => ?_⟩
      · have hl : posN (T.map (·.1)) s < T.length := by rw [e] at h; simpa using h
        have hg : (p :: T)[posN ((p :: T).map (·.1)) s] = T[posN (T.map (·.1)) s] := by
          have : (p :: T)[posN ((p :: T).map (·.1)) s]? = T[posN (T.map (·.1)) s]? := by rw [e, List.getElem?_cons_succ]
          rw [List.getElem?_eq_getElem h, List.getElem?_eq_getElem hl] at this
          exact Option.some.inj this
        rw [hg] at hs ⊢
        obtain ⟨a, b⟩ := h1 hl hs
        rw [e]
        simp only [List.map_cons, List.set_cons_succ, a, b, and_self]
      · have hl : ∀ (h : posN (T.map (·.1)) s < T.length), (T[posN (T.map (·.1)) s]).1 ≠ s := fun hl hs => by
          have h' : posN ((p :: T).map (·.1)) s < (p :: T).length := by rw [e]; simpa using hl
          refine h h' ?_
          have : (p :: T)[posN ((p :: T).map (·.1)) s]? = T[posN (T.map (·.1)) s]? := by rw [e, List.getElem?_cons_succ]
          rw [List.getElem?_eq_getElem h', List.getElem?_eq_getElem hl] at this
          rw [Option.some.inj this]; exact hs
        obtain ⟨a, b⟩ := h2 hl
        rw [e]
        simp only [List.map_cons, List.take_succ_cons, List.drop_succ_cons, a, b, List.cons_append, and_self]
    · have e : posN ((p :: T).map (·.1)) s = 0 := if_neg hlt
      refine ⟨fun h hs => ?_, fun h => ?_⟩
      · have hg : (p :: T)[posN ((p :: T).map (·.1)) s] = p := by
          have : (p :: T)[posN ((p :: T).map (·.1)) s]? = some p := by rw [e, List.getElem?_cons_zero]
          rw [List.getElem?_eq_getElem h] at this
          exact Option.some.inj this
        rw [hg] at hs ⊢
        rw [bmp, if_neg hlt, if_pos hs, e]
        simp only [List.map_cons, List.set_cons_zero, hs, and_self]
      · have hp : p.1 ≠ s := by
          have h' : posN ((p :: T).map (·.1)) s < (p :: T).length := by rw [e]; simp
          have := h h'
          have hg : (p :: T)[posN ((p :: T).map (·.1)) s] = p := by
            have : (p :: T)[posN ((p :: T).map (·.1)) s]? = some p := by rw [e, List.getElem?_cons_zero]
            rw [List.getElem?_eq_getElem h'] at this
            exact Option.some.inj this
          rwa [hg] at this
        rw [bmp, if_neg hlt, if_neg hp, e]
        exact ⟨rfl, rfl⟩
theorem bmp_keys (s : ByteArray) : ∀ (T : Cnt), ∀ q ∈ bmp s T, q.1 = s ∨ ∃ p ∈ T, p.1 = q.1
  | [], q, h => .inl (by rw [List.mem_singleton.1 h])
  | p :: T, q, h => by
    unfold bmp at h
    split at h
    · rcases List.mem_cons.1 h with e | e
      · exact .inr ⟨p, List.mem_cons_self, by rw [e]⟩
      · rcases bmp_keys s T q e with c | ⟨p', c1, c2⟩
        · exact .inl c
        · exact .inr ⟨p', List.mem_cons_of_mem _ c1, c2⟩
    · split at h
      · rcases List.mem_cons.1 h with e | e
        · exact .inl (by rw [e])
        · exact .inr ⟨q, List.mem_cons_of_mem _ e, rfl⟩
      · rcases List.mem_cons.1 h with e | e
        · exact .inl (by rw [e])
        · exact .inr ⟨q, e, rfl⟩
theorem soC_cons {p : ByteArray × Int} {l : Cnt} : SoC (p :: l) ↔ (∀ q ∈ l, ltN p.1 q.1 = true) ∧ SoC l := List.pairwise_cons
theorem bmp_so (s : ByteArray) : ∀ {T : Cnt}, SoC T → SoC (bmp s T)
  | [], _ => soC_cons.2 ⟨fun _ h => (nomatch h), .nil⟩
  | p :: T, h => by
    obtain ⟨h1, h2⟩ := soC_cons.1 h
    unfold bmp
    by_cases hlt : ltN p.1 s = true
    · rw [if_pos hlt]
      refine soC_cons.2 ⟨fun q hq => ?_, bmp_so s h2⟩
      rcases bmp_keys s T q hq with c | ⟨p', c1, c2⟩
      · rw [c]; exact hlt
      · rw [← c2]; exact h1 p' c1
    · rw [if_neg hlt]
      by_cases he : p.1 = s
      · rw [if_pos he]
        exact soC_cons.2 ⟨fun q hq => by show ltN s q.1 = true; rw [← he]; exact h1 q hq, h2⟩
      · rw [if_neg he]
        have hsp : ltN s p.1 = true := ltN_of (Bool.eq_false_iff.2 hlt) he
        refine soC_cons.2 ⟨fun q hq => ?_, h⟩
        rcases List.mem_cons.1 hq with e | e
        · rw [e]; exact hsp
        · exact ltN_trans hsp (h1 q e)
theorem lkC_cons (z : ByteArray) (p : ByteArray × Int) (l : Cnt) : lkC z (p :: l) = if p.1 = z then some p.2 else lkC z l := by
  show (match eqB .str p.1 z with | true => some p.2 | false => lkC z l) = _
  rw [eqS]
  by_cases h : p.1 = z
  · rw [if_pos h, decide_eq_true h]
  · rw [if_neg h, decide_eq_false h]
theorem lkC_lt {z : ByteArray} {l : Cnt} (h : ∀ q ∈ l, ltN z q.1 = true) : lkC z l = none := look_lt (k := .str) (v := .int .i64) rfl h
theorem bmp_look (s z : ByteArray) : ∀ {T : Cnt}, SoC T → lkC z (bmp s T) = if z = s then some ((lkC s T).getD 0 + 1) else lkC z T
  | [], _ => by
    rw [bmp, lkC_cons]
    by_cases h : z = s
    · rw [if_pos h, if_pos h.symm]; rfl
    · rw [if_neg h, if_neg (Ne.symm h)]
  | p :: T, h => by
    obtain ⟨h1, h2⟩ := soC_cons.1 h
    unfold bmp
    by_cases hlt : ltN p.1 s = true
    · have hps : p.1 ≠ s := fun c => by rw [c, ltN_irrefl] at hlt; cases hlt
      rw [if_pos hlt, lkC_cons, bmp_look s z h2, lkC_cons s, if_neg hps, lkC_cons z p T]
      by_cases hz : p.1 = z
      · rw [if_pos hz, if_neg (fun c => hps (hz.trans c)), if_pos hz]
      · rw [if_neg hz, if_neg hz]
    · rw [if_neg hlt]
      by_cases he : p.1 = s
      · rw [if_pos he, lkC_cons, lkC_cons s, if_pos he, lkC_cons z p T]
        by_cases hz : z = s
        · rw [if_pos hz, if_pos hz.symm]; rfl
        · rw [if_neg hz, if_neg (Ne.symm hz), if_neg (fun c => hz (by rw [← c, he]))]
      · have hsp : ltN s p.1 = true := ltN_of (Bool.eq_false_iff.2 hlt) he
        have hno : lkC s (p :: T) = none := lkC_lt fun q hq => by
          rcases List.mem_cons.1 hq with e | e
          · rw [e]; exact hsp
          · exact ltN_trans hsp (h1 q e)
        rw [if_neg he, lkC_cons, hno]
        by_cases hz : z = s
        · rw [if_pos hz, if_pos hz.symm]; rfl
        · rw [if_neg hz, if_neg (Ne.symm hz)]
/-- The names of a filter's bounds count. -/
def cntB (bs : List Bd) (T : Cnt) : Cnt := bs.foldl (fun T b => bmp b.1 T) T
def cntL (L : Items) (T : Cnt) : Cnt := L.foldl (fun T x => cntB x.2.2 T) T
theorem cntB_len : ∀ (bs : List Bd) (T : Cnt), (cntB bs T).length ≤ T.length + bs.length
  | [], _ => Nat.le_refl _
  | b :: bs, T => by
    have h1 := cntB_len bs (bmp b.1 T)
    have h2 := bmp_len b.1 T
    show (cntB bs (bmp b.1 T)).length ≤ _
    simp only [List.length_cons]; omega
theorem cntB_look (z : ByteArray) : ∀ (bs : List Bd) {T : Cnt}, (bs.map (·.1)).Nodup → SoC T → SoC (cntB bs T) ∧ lkC z (cntB bs T) = match getB bs z with | some _ => some ((lkC z T).getD 0 + 1) | none => lkC z T
  | [], _, _, h => ⟨h, rfl⟩
  | b :: bs, T, hn, h => by
    obtain ⟨hn1, hn2⟩ := List.nodup_cons.1 hn
    obtain ⟨a1, a2⟩ := cntB_look z bs hn2 (bmp_so b.1 h)
    refine ⟨a1, ?_⟩
    show lkC z (cntB bs (bmp b.1 T)) = _
    rw [a2, getB_cons, bmp_look b.1 z h]
    by_cases hz : b.1 = z
    · have : getB bs z = none := getB_none fun c hc e => hn1 (by show b.1 ∈ _; rw [hz, ← e]; exact List.mem_map_of_mem hc)
      rw [this, if_pos hz, if_pos hz.symm, hz]
    · rw [if_neg hz, if_neg (Ne.symm hz)]
theorem cntL_len : ∀ (L : Items) (T : Cnt), (∀ p ∈ L, p.2.2.length ≤ 16) → (cntL L T).length ≤ T.length + 16 * L.length
  | [], _, _ => Nat.le_refl _
  | p :: L, T, h => by
    have h1 := cntL_len L (cntB p.2.2 T) fun q hq => h q (List.mem_cons_of_mem _ hq)
    have h2 := cntB_len p.2.2 T
    have h3 := h p List.mem_cons_self
    show (cntL L (cntB p.2.2 T)).length ≤ _
    simp only [List.length_cons]; omega
theorem cntL_look (z : ByteArray) : ∀ (L : Items) {T : Cnt}, (∀ p ∈ L, (p.2.2.map (·.1)).Nodup) → SoC T → SoC (cntL L T) ∧ lkC z (cntL L T) = if (ents L z).length = 0 then lkC z T else some ((lkC z T).getD 0 + ((ents L z).length : Int))
  | [], _, _, h => ⟨h, rfl⟩
  | p :: L, T, hn, h => by
    obtain ⟨b1, b2⟩ := cntB_look z p.2.2 (hn p List.mem_cons_self) h
    obtain ⟨a1, a2⟩ := cntL_look z L (fun q hq => hn q (List.mem_cons_of_mem _ hq)) b1
    refine ⟨a1, ?_⟩
    show lkC z (cntL L (cntB p.2.2 T)) = _
    rw [a2, b2, ents_cons]
    cases getB p.2.2 z with
    | none => rfl
    | some b =>
      simp only [List.length_cons, Option.getD_some]
      rw [if_neg (show ¬ (ents L z).length + 1 = 0 by omega)]
      by_cases hl : (ents L z).length = 0
      · rw [if_pos hl, hl]; rfl
      · rw [if_neg hl]
        congr 1
        push_cast
        omega
theorem lk_map {f : ByteArray → Int} (z : ByteArray) : ∀ (N : NmL), lkC z (N.map fun p => (p.1, f p.1)) = (lkM z N).map fun _ => f z
  | [] => rfl
  | p :: N => by
    have ih := lk_map (f := f) z N
    rw [List.map_cons, lkC_cons]
    have : lkM z (p :: N) = if p.1 = z then some p.2 else lkM z N := by
      show (match eqB .str p.1 z with | true => some p.2 | false => lkM z N) = _
      rw [eqS]
      by_cases h : p.1 = z
      · rw [if_pos h, decide_eq_true h]
      · rw [if_neg h, decide_eq_false h]
    rw [this]
    by_cases h : p.1 = z
    · rw [if_pos h, if_pos h, h]; rfl
    · rw [if_neg h, if_neg h]; exact ih
theorem names_same {H : List Pev.Node} {n a m : Nat} {L : Items} {N : NmL} {own : Nat → Option Ro} (h : RepI H n a m L N (ents L) own) (hf : Fine L) : cntL L [] = N.map fun p => (p.1, ((ents L p.1).length : Int)) := by
  have hn : ∀ p ∈ L, (p.2.2.map (·.1)).Nodup := fun p hp => rise_nodup (ckF_rise (hf.ok p hp)).1
  refine sorted_ext (k := .str) (v := .int .i64) rfl (cntL_look (ByteArray.mk #[]) L hn .nil).1 (List.pairwise_map.2 h.so) fun z => ?_
  refine (cntL_look z L hn .nil).2.trans (Eq.symm ((lk_map (f := fun s => ((ents L s).length : Int)) z N).trans ?_))
  cases hz : lkM z N with
  | none => rw [h.no z hz]; rfl
  | some r =>
    obtain ⟨q, _, _, _, hne⟩ := h.sub z r hz
    rw [if_neg fun c => hne (List.length_eq_zero_iff.1 c)]
    show some _ = some _
    rw [show (lkC z []).getD 0 = 0 from rfl, Int.zero_add]
end Go.Proofs.YtdiomgmckidccaaGreatDoor
