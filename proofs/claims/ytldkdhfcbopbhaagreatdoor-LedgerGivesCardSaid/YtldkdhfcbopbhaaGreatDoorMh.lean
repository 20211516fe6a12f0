/- Chapter 21, plain: Open. -/
import Derived.Test.YtldkdhfcbopbhaaGreatDoorMg
import Derived.Test.YtldkdhfcbopbhaaGreatDoorPewZa
set_option maxRecDepth 100000
namespace Go.Proofs.YtldkdhfcbopbhaaGreatDoor
open Go Go.Pev
/-- How many there are, written down for each. -/
def finB (A : PL) (lf : List (K21 × Option Nat)) (B : List (K21 × Int)) : List (K21 × Int) := lf.foldl (fun B p => putL shFrom (.int .i64) p.1 (Int.ofNat (A.ev p.1).length) B) B
abbrev SortN (B : List (K21 × Int)) : Prop := Go.Pev.Sorted shFrom (.int .i64) B
theorem finB_sorted (A : PL) : ∀ (lf : List (K21 × Option Nat)) (B : List (K21 × Int)), SortN B → SortN (finB A lf B)
  | [], _, h => h
  | p :: lf, B, h => finB_sorted A lf _ (sorted_put (k := shFrom) (v := .int .i64) rfl h)
theorem finB_look (A : PL) (z : K21) : ∀ (lf : List (K21 × Option Nat)) (B : List (K21 × Int)), SortN B → lkN z (finB A lf B) = if z ∈ lf.map (·.1) then some (Int.ofNat (A.ev z).length) else lkN z B
  | [], _, _ => by simp [finB]
  | p :: lf, B, h => by
    have hs := sorted_put (k := shFrom) (v := .int .i64) (x := p.1) (y := Int.ofNat (A.ev p.1).length) rfl h
    show lkN z (finB A lf _) = _
    rw [finB_look A z lf _ hs]
    by_cases h1 : z ∈ lf.map (·.1)
    · rw [if_pos h1, if_pos (by rw [List.map_cons]; exact List.mem_cons_of_mem _ h1)]
    · rw [if_neg h1]
      show lookL shFrom (.int .i64) z _ = _
      rw [look_put (k := shFrom) (v := .int .i64) rfl (h.keys rfl), key_is]
      by_cases h2 : z = p.1
      · rw [if_pos h2, if_pos (by rw [List.map_cons, h2]; exact List.mem_cons_self), h2]
      · rw [if_neg h2, if_neg (by rw [List.map_cons, List.mem_cons]; exact fun c => c.elim h2 h1)]
theorem mem_del {e : K21 × Option Nat} {lf : List (K21 × Option Nat)} (hk : Keys shFrom (.rf .sli) lf) (z : K21) : z ∈ (delL shFrom (.rf .sli) e.1 lf).map (·.1) ↔ z ≠ e.1 ∧ z ∈ lf.map (·.1) := by
  rw [delL_filter (k := shFrom) (v := .rf .sli) rfl _ _ hk]
  constructor
  · intro h
    obtain ⟨p, hp, h3⟩ := List.mem_map.1 h
    obtain ⟨h1, h2⟩ := List.mem_filter.1 hp
    refine ⟨fun c => ?_, h3 ▸ List.mem_map_of_mem h1⟩
    rw [show eqB shFrom p.1 e.1 = true from by rw [h3, c]; exact eqB_self shFrom _ rfl] at h2
    cases h2
  · rintro ⟨h1, h⟩
    obtain ⟨p, h2, h3⟩ := List.mem_map.1 h
    refine List.mem_map.2 ⟨p, List.mem_filter.2 ⟨h2, ?_⟩, h3⟩
    cases hc : eqB shFrom p.1 e.1 with
    | false => rfl
    | true => exact absurd (h3.symm.trans (eqB_eq shFrom _ _ rfl hc)) h1
theorem finB_any (A : PL) {e : K21 × Option Nat} {lf : List (K21 × Option Nat)} (hk : Keys shFrom (.rf .sli) lf) (he : e ∈ lf) {B : List (K21 × Int)} (hB : SortN B) :
    finB A (delL shFrom (.rf .sli) e.1 lf) (putL shFrom (.int .i64) e.1 (Int.ofNat (A.ev e.1).length) B) = finB A lf B := by
  have hs := sorted_put (k := shFrom) (v := .int .i64) (x := e.1) (y := Int.ofNat (A.ev e.1).length) rfl hB
  refine sorted_ext (k := shFrom) (v := .int .i64) rfl (finB_sorted A _ _ hs) (finB_sorted A _ _ hB) fun z => ?_
  refine (finB_look A z _ _ hs).trans (Eq.trans ?_ (finB_look A z _ _ hB).symm)
  have hl : lkN z (putL shFrom (.int .i64) e.1 (Int.ofNat (A.ev e.1).length) B) = if z = e.1 then some (Int.ofNat (A.ev e.1).length) else lkN z B := (look_put (k := shFrom) (v := .int .i64) rfl (hB.keys rfl)).trans key_is
  rw [hl]
  by_cases hz : z = e.1
  · subst hz
    have : e.1 ∈ lf.map (·.1) := List.mem_map_of_mem he
    rw [if_pos this, if_pos rfl]
    split <;> rfl
  · rw [if_neg hz]
    by_cases h2 : z ∈ lf.map (·.1)
    · rw [if_pos h2, if_pos ((mem_del hk z).2 ⟨hz, h2⟩)]
    · rw [if_neg h2, if_neg fun c => h2 ((mem_del hk z).1 c).2]
theorem open_loop (A : PL) {n e q b x : Nat} {id : Int} {f : Fil} {c : Bool} (heb : e ≠ b) (hqb : q ≠ b) : ∀ (m : Nat) (lf : List (K21 × Option Nat)) (B : List (K21 × Int)) (K : List Pev.Node), lf.length < m → Keys shFrom (.rf .sli) lf → SortN B → K[q]? = some (ndS f b x c) → K[b]? = some (ndNum B) →
    (∀ p ∈ lf, ∃ j, p.2 = some j ∧ j ≠ b ∧ K[j]? = some (ndRow (A.ev p.1))) →
    LT.loop ledger_Ledger_Open_b0 m (some n, id, some q, [], some e, lf, K, ()) = some (some n, id, some q, [], K.set b (ndNum (finB A lf B)), ())
  | 0, _, _, _, h, _, _, _, _, _ => by omega
  | m + 1, [], B, K, _, _, _, _, hb, _ => by
    rw [LT.loop_succ]
    refine (run_br_t rfl).trans ?_
    have : K.set b (ndNum B) = K := by
      obtain ⟨h1, h2⟩ := List.getElem?_eq_some_iff.1 hb
      rw [← h2]; exact List.set_getElem_self h1
    show some _ = some _
    rw [show finB A [] B = B from rfl, this]
  | m + 1, a :: lf, B, K, hm, hk, hB, hq, hb, hr => by
    rw [LT.loop_succ]
    refine (run_br_f rfl).trans ?_
    refine LT.run_any (a :: lf) _ _ _ (by simp) fun p hp => ?_
    obtain ⟨j, h1, h2, h3⟩ := hr p hp
    refine (run_br_t rfl).trans ((run_br_t rfl).trans ((run_eq (getBox_at hq)).trans ((run_eq (getBox_at hq)).trans ?_)))
    rw [h1]
    refine (run_br_t rfl).trans ((run_eq (getRow_at h3)).trans ((run_br_t rfl).trans ((run_br_t (wrOk_it heb)).trans ((run_eq (getMap_at hb)).trans ?_))))
    have hs := sorted_put (k := shFrom) (v := .int .i64) (x := p.1) (y := Int.ofNat (A.ev p.1).length) rfl hB
    have hlen : (delL shFrom (.rf .sli) p.1 (a :: lf)).length < m := by
      have := (mem_del hk p.1 (e := p))
      have h4 : (delL shFrom (.rf .sli) p.1 (a :: lf)).length < (a :: lf).length := by
        rw [delL_filter (k := shFrom) (v := .rf .sli) rfl _ _ hk]
        refine List.length_filter_lt_length_iff_exists.2 ⟨p, hp, ?_⟩
        simp [eqB_self shFrom p.1 rfl]
      omega
    have ih := open_loop A (n := n) (id := id) (x := x) (f := f) (c := c) heb hqb m (delL shFrom (.rf .sli) p.1 (a :: lf)) (putL shFrom (.int .i64) p.1 (Int.ofNat (A.ev p.1).length) B) (K.set b (ndNum (putL shFrom (.int .i64) p.1 (Int.ofNat (A.ev p.1).length) B))) hlen
      (hk.sublist (delL_sub (k := shFrom) (v := .rf .sli) p.1 _)) hs ((set_ne (Ne.symm hqb)).trans hq) (set_at hb) (fun r hr' => by
        obtain ⟨j', k1, k2, k3⟩ := hr r ((delL_sub (k := shFrom) (v := .rf .sli) p.1 _).subset hr')
        exact ⟨j', k1, k2, (set_ne (Ne.symm k2)).trans k3⟩)
    refine Eq.trans ?_ (ih.trans ?_)
    · rfl
    · rw [finB_any A hk hp hB, List.set_set]
end Go.Proofs.YtldkdhfcbopbhaaGreatDoor
