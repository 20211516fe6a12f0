/- Chapter 21, plain: LedgerGives answers true. -/
import Derived.Test.YtldkdhfcbopbhaaGreatDoorNf
import Derived.Test.YtldkdhfcbopbhaaGreatDoorGe
set_option maxRecDepth 100000
namespace Go.Proofs.YtldkdhfcbopbhaaGreatDoor
open Go Go.Pev
/-- What giving leaves of a ledger. -/
structure Keeps (A B : PL) : Prop where
  ev : B.ev = A.ev
  cnt : B.cnt = A.cnt
  ns : B.ns = A.ns
  sub : ∀ id p, A.sub id = some p → ∃ q, B.sub id = some q ∧ q.closed = p.closed ∧ q.f = p.f
theorem Keeps.refl (A : PL) : Keeps A A := ⟨rfl, rfl, rfl, fun _ p h => ⟨p, h, rfl, rfl⟩⟩
theorem Keeps.trans {A B C : PL} (h : Keeps A B) (k : Keeps B C) : Keeps A C := ⟨k.ev.trans h.ev, k.cnt.trans h.cnt, k.ns.trans h.ns, fun id p hp => by
  obtain ⟨q, h1, h2, h3⟩ := h.sub id p hp
  obtain ⟨r, k1, k2, k3⟩ := k.sub id q h1
  exact ⟨r, k1, k2.trans h2, k3.trans h3⟩⟩
theorem keeps_set {A : PL} {id : Int} {p p' : PSub} (h : A.sub id = some p) (h1 : p'.closed = p.closed) (h2 : p'.f = p.f) : Keeps A (upS A id p') := ⟨rfl, rfl, rfl, fun z q hq => by
  by_cases hz : z = id
  · subst hz
    rw [h] at hq; cases hq
    exact ⟨p', if_pos rfl, h1, h2⟩
  · exact ⟨q, (if_neg hz).trans hq, rfl, rfl⟩⟩
theorem Good.same {A B : PL} {i j : Nat} (h : Good A i) (k : Keeps A B) (g : Good B j) : Good B i := ⟨g.small, by rw [k.cnt]; exact h.cnt, by rw [k.ns]; exact h.ns, g.evs, g.subs⟩
theorem drop_next {M : List Int} {t d : Int} {L : List Int} (hs : M.Pairwise (· < ·)) (h : M.filter (fun n => decide (n ≥ t)) = d :: L) : M.filter (fun n => decide (n ≥ d + 1)) = L ∧ (∀ n ∈ L, d < n) ∧ t ≤ d := by
  have hd : d ∈ M.filter (fun n => decide (n ≥ t)) := by rw [h]; exact List.mem_cons_self
  have ht : t ≤ d := of_decide_eq_true (List.mem_filter.1 hd).2
  have hs' := hs.filter (fun n => decide (n ≥ t))
  rw [h] at hs'
  have hs' := List.pairwise_cons.1 hs'
  refine ⟨?_, hs'.1, ht⟩
  have e : M.filter (fun n => decide (n ≥ d + 1)) = (M.filter (fun n => decide (n ≥ t))).filter (fun n => decide (n ≥ d + 1)) := by
    rw [List.filter_filter]
    refine List.filter_congr fun n _ => ?_
    by_cases hn : n ≥ d + 1
    · rw [decide_eq_true hn, decide_eq_true (show n ≥ t by omega)]; rfl
    · rw [decide_eq_false hn]; rfl
  rw [e, h, List.filter_cons, if_neg (by simp; omega)]
  refine List.filter_eq_self.2 fun n hn => decide_eq_true ?_
  have := hs'.1 n hn
  omega
section
variable {A : PL} {id a b x : Int} {p : PSub}
theorem giveP_no (hl : liveP A id = some p) (hr : rightB a b = true) (hx : 0 ≤ x ∧ x < ((A.ev (a, b)).length : Int)) (he : earlyP p (a, b) (A.ev (a, b)) x = false) (hf : firstP (mtP p.f (atP p (a, b)) 0 (A.ev (a, b))) x = false) : giveP A id a b x = (A, eN 20) := by
  unfold giveP
  rw [hl]
  simp only [hr, if_true, if_pos hx, he, hf, Bool.or_self, Bool.false_eq_true, if_false]
theorem giveP_yes (hl : liveP A id = some p) (hr : rightB a b = true) (hx : 0 ≤ x ∧ x < ((A.ev (a, b)).length : Int)) (hf : firstP (mtP p.f (atP p (a, b)) 0 (A.ev (a, b))) x = true) : giveP A id a b x = (upS A id (nxP p (a, b) (IntKind.i64.wrap (x + 1))), none) := by
  unfold giveP
  rw [hl]
  simp only [hr, if_true, if_pos hx, hf, Bool.or_true]
theorem early_no (h : atP p (a, b) ≤ x ∨ p.nx (a, b) ≠ none) (l : List Ev) : earlyP p (a, b) l x = false := by
  unfold earlyP
  unfold atP at h
  cases hn : p.nx (a, b) with
  | some t => rfl
  | none =>
    rw [hn] at h
    have h : p.bg (a, b) ≤ x := h.resolve_right (fun c => c rfl)
    rw [decide_eq_false (by omega)]; rfl
theorem live_up (hl : liveP A id = some p) (q : PSub) (hq : q.closed = p.closed) : liveP (upS A id q) id = some q := by
  have := (live_sub hl).2
  unfold liveP
  rw [show (upS A id q).sub id = some q from if_pos rfl]
  simp only [hq, this, Bool.false_eq_true, if_false]
end
/-- How one subscription stands with one publisher: this is due. -/
structure Dues (A : PL) (id a b : Int) (p : PSub) (L : List Int) : Prop where
  live : liveP A id = some p
  right : rightB a b = true
  due : mtP p.f (atP p (a, b)) 0 (A.ev (a, b)) = L
section
variable {A : PL} {id a b : Int} {p : PSub} {d : Int} {L : List Int} {g : Nat}
theorem Dues.list (h : Dues A id a b p L) (hg : Good A g) : (mi p.f 0 (A.ev (a, b))).filter (fun n => decide (n ≥ atP p (a, b))) = L := by
  rw [← h.due, mtP_mi _ _ _ _ (hg.mbs (live_sub h.live).1 (a, b))]
theorem Dues.mem (h : Dues A id a b p L) (hg : Good A g) : ∀ n ∈ L, atP p (a, b) ≤ n ∧ 0 ≤ n ∧ n < ((A.ev (a, b)).length : Int) := by
  intro n hn
  rw [← h.list hg] at hn
  obtain ⟨h1, h2⟩ := List.mem_filter.1 hn
  obtain ⟨j, hj, e, _⟩ := (mi_mem _ _ _ _).1 h1
  exact ⟨of_decide_eq_true h2, by omega, by omega⟩
/-- What is not the first is not taken. -/
theorem Dues.skip (h : Dues A id a b p (d :: L)) (hg : Good A g) {x : Int} (hx : x ∈ L) : giveP A id a b x = (A, eN 20) := by
  have hm := h.mem hg x (List.mem_cons_of_mem _ hx)
  have hd := drop_next (mi_sorted _ _ _) (h.list hg)
  refine giveP_no h.live h.right hm.2 (early_no (.inl hm.1) _) ?_
  rw [h.due]
  show (d == x) = false
  have := hd.2.1 x hx
  rw [beq_eq_false_iff_ne]; omega
theorem Dues.take (h : Dues A id a b p (d :: L)) (hg : Good A g) (hgi : g ≤ 1000) : giveP A id a b d = (upS A id (nxP p (a, b) (d + 1)), none) ∧ Dues (upS A id (nxP p (a, b) (d + 1))) id a b (nxP p (a, b) (d + 1)) L ∧ giveP (upS A id (nxP p (a, b) (d + 1))) id a b d = (upS A id (nxP p (a, b) (d + 1)), eN 20) ∧ Keeps A (upS A id (nxP p (a, b) (d + 1))) := by
  have hm := h.mem hg d List.mem_cons_self
  have hd := drop_next (mi_sorted _ _ _) (h.list hg)
  have hev := hg.small.ev (a, b)
  have hc := hg.cnt
  have hw : IntKind.i64.wrap (d + 1) = d + 1 := i64_wrap _ (by omega) (by omega)
  have h1 : giveP A id a b d = (upS A id (nxP p (a, b) (d + 1)), none) := by
    rw [giveP_yes h.live h.right hm.2 (by rw [h.due]; show (d == d) = true; simp), hw]
  have hl' := live_up h.live (nxP p (a, b) (d + 1)) rfl
  have hat : atP (nxP p (a, b) (d + 1)) (a, b) = d + 1 := by unfold atP nxP; simp
  have hdue : mtP (nxP p (a, b) (d + 1)).f (atP (nxP p (a, b) (d + 1)) (a, b)) 0 ((upS A id (nxP p (a, b) (d + 1))).ev (a, b)) = L := by
    rw [hat]
    show mtP p.f (d + 1) 0 (A.ev (a, b)) = L
    rw [mtP_mi _ _ _ _ (hg.mbs (live_sub h.live).1 (a, b)), hd.1]
  refine ⟨h1, ⟨hl', h.right, hdue⟩, ?_, keeps_set (live_sub h.live).1 rfl rfl⟩
  refine giveP_no hl' h.right hm.2 (early_no (.inr (by unfold nxP; simp)) _) ?_
  rw [hdue]
  cases L with
  | nil => rfl
  | cons e L =>
    show (e == d) = false
    have := hd.2.1 e List.mem_cons_self
    rw [beq_eq_false_iff_ne]; omega
end
theorem few20 : few2 0 (eN 20) := Nat.le_refl _
theorem fails20 : law21_fails (eN 20) (true, [], 20) = some true := fails_is few20 (by omega)
section
variable {n g : Nat} (hgi : g ≤ 1000) (D : List Int) (u1 : List RSub) (u2 u3 : Int) (u4 : List RFact) (u5 u6 : Int) (m : RLed) (id : Int) (s1 : Bool) (s2 : List Bd) (s3 : Int) (s4 : Bool) (a b q1 : Int) (q2 : Ev)
include hgi
theorem gives3 : ∀ (fu i : Nat) (A : PL) (own : Nat → Option Rl) (H : List Pev.Node) (p : PSub), i ≤ D.length → D.length - i < fu → D.length ≤ 1000000 → Led H n A own → Good A g → Dues A id a b p (D.drop i) →
    ∃ H' A' p', LT.loop law21_LedgerGives_b3 fu (some n, D, u1, u2, u3, u4, u5, u6, D, Int.ofNat D.length, (i : Int), m.1, m.2.1, m.2.2, id, s1, s2, s3, s4, a, b, q1, q2, [], H, ()) = some (.inr (some n, u1, u2, u3, u4, u5, u6, m.1, m.2.1, m.2.2, id, s1, s2, s3, s4, a, b, q1, q2, [], H', ())) ∧ Led H' n A' own ∧ Good A' g ∧ Keeps A A' ∧ Dues A' id a b p' []
  | 0, _, _, _, _, _, _, h, _, _, _, _ => by omega
  | fu + 1, i, A, own, H, p, h1, h2, hD, hl, hg, hd => by
    rw [LT.loop_succ]
    by_cases hi : i < D.length
    · rw [List.drop_eq_getElem_cons hi] at hd
      obtain ⟨t1, t2, t3, t4⟩ := hd.take hg hgi
      have hev := hg.small.ev (a, b)
      have hc := hg.cnt
      have hlen : (A.ev (a, b)).length ≤ 1000000 := by omega
      -- the three calls
      have call : ∀ (B : PL) (K : List Pev.Node) (x : Int), Led K n B own → Good B g → (B.ev (a, b)).length ≤ 1000000 → ∃ K', ledger_Ledger_Give (some n) id a b x [] K = some ((giveP B id a b x).2, K') ∧ Led K' n (giveP B id a b x).1 own := by
        intro B K x hB hgB hBl
        obtain ⟨e, s, E, S, hx⟩ := hB
        obtain ⟨K', k1, k2, _⟩ := give_is hx hgB.means id a b x hBl
        exact ⟨K', k1, k2⟩
      have hg' : Good (upS A id (nxP p (a, b) (D[i] + 1))) g := by
        have := hg.give id a b D[i]
        rw [t1] at this
        exact hg.same t4 this
      have rest : ∀ K, Led K n A own → ∃ K2 K3, ledger_Ledger_Give (some n) id a b D[i] [] K = some (none, K2) ∧ ledger_Ledger_Give (some n) id a b D[i] [] K2 = some (eN 20, K3) ∧ Led K3 n (upS A id (nxP p (a, b) (D[i] + 1))) own := by
        intro K hK
        obtain ⟨K2, k1, k2⟩ := call A K D[i] hK hg hlen
        rw [t1] at k1 k2
        obtain ⟨K3, k3, k4⟩ := call _ K2 D[i] k2 hg' hlen
        rw [t3] at k3 k4
        exact ⟨K2, K3, k1, k3, k4⟩
      have onw := fun K3 (hK : Led K3 n (upS A id (nxP p (a, b) (D[i] + 1))) own) => gives3 fu (i + 1) _ own K3 _ (by omega) (by omega) hD hK hg' t2
      have fin : ∀ K, Led K n A own → ∃ H' A' p', ((LT.opt (ledger_Ledger_Give (some n) id a b (getI D (i : Int) 0) [] K) fun x41 => (.br (!Option.isNone x41.fst) (.ret (.inl (false, some n, u1, u2, u3, u4, u5, u6, m.1, m.2.1, m.2.2, id, s1, s2, s3, s4, a, b, q1, q2, [], x41.snd, ()))) (.opt (ledger_Ledger_Give (some n) id a b (getI D (i : Int) 0) [] x41.snd) fun x42 => (.opt (law21_fails x42.fst (true, [], 20)) fun x43 => (.br (!x43) (.ret (.inl (false, some n, u1, u2, u3, u4, u5, u6, m.1, m.2.1, m.2.2, id, s1, s2, s3, s4, a, b, q1, q2, [], x42.snd, ()))) (.next (some n, D, u1, u2, u3, u4, u5, u6, D, Int.ofNat D.length, (IntKind.i64.wrap ((i : Int) + 1)), m.1, m.2.1, m.2.2, id, s1, s2, s3, s4, a, b, q1, q2, [], x42.snd, ())))))) : LT law21_LedgerGives_S3 law21_LedgerGives_Q3).run some (LT.loop law21_LedgerGives_b3 fu)) = some (.inr (some n, u1, u2, u3, u4, u5, u6, m.1, m.2.1, m.2.2, id, s1, s2, s3, s4, a, b, q1, q2, [], H', ())) ∧ Led H' n A' own ∧ Good A' g ∧ Keeps A A' ∧ Dues A' id a b p' [] := by
        intro K hK
        obtain ⟨K2, K3, k1, k2, k3⟩ := rest K hK
        obtain ⟨H', A', p', w1, w2, w3, w4, w5⟩ := onw K3 k3
        refine ⟨H', A', p', ?_, w2, w3, t4.trans w4, w5⟩
        rw [getI_lt hi, wsucc (by omega)]
        exact (rn_o k1).trans ((rn_f rfl).trans ((rn_o k2).trans ((rn_o fails20).trans ((rn_f rfl).trans w1))))
      by_cases hn : i + 1 < D.length
      · have hmem : D[i + 1] ∈ D.drop (i + 1) := by rw [List.drop_eq_getElem_cons hn]; exact List.mem_cons_self
        obtain ⟨K, k1, k2⟩ := call A H D[i + 1] hl hg hlen
        rw [hd.skip hg hmem] at k1 k2
        obtain ⟨H', A', p', w1, w2⟩ := fin K k2
        refine ⟨H', A', p', ?_, w2⟩
        refine (rn_in hi).trans ?_
        have hw : IntKind.i64.wrap ((i : Int) + 1) = ((i + 1 : Nat) : Int) := wsucc (by omega)
        have hb1 : decide (IntKind.i64.wrap ((i : Int) + 1) < Int.ofNat D.length) = true := by rw [hw]; exact dlt hn
        have hb0 : decide (0 ≤ IntKind.i64.wrap ((i : Int) + 1)) = true := by rw [hw]; exact dge0
        refine (rn_t hb1).trans ((rn_t hb0).trans ((rn_t hb1).trans ?_))
        refine (rn_o (a := (eN 20, K)) (by rw [hw, getI_lt hn]; exact k1)).trans ((rn_o fails20).trans ((rn_f rfl).trans w1))
      · obtain ⟨H', A', p', w1, w2⟩ := fin H hl
        refine ⟨H', A', p', ?_, w2⟩
        refine (rn_in hi).trans ?_
        have hw : IntKind.i64.wrap ((i : Int) + 1) = ((i + 1 : Nat) : Int) := wsucc (by omega)
        have hb1 : decide (IntKind.i64.wrap ((i : Int) + 1) < Int.ofNat D.length) = false := by rw [hw]; exact decide_eq_false (by simp only [Int.ofNat_eq_natCast]; omega)
        exact (rn_f hb1).trans w1
    · have : i = D.length := by omega
      subst this
      rw [List.drop_length] at hd
      exact ⟨H, A, p, rn_out.trans rfl, hl, hg, Keeps.refl A, hd⟩
end
section
variable {n g : Nat} (hgi : g ≤ 1000) (u1 : List RSub) (u2 u3 : Int) (m : RLed) (id : Int) (s1 : Bool) (s2 : List Bd) (s3 : Int) (s4 : Bool) (hrt : ∀ x ∈ m.1, rightB x.1 x.2.1 = true) (hlm : m.1.length ≤ 1000000)
include hgi hrt hlm
theorem gives2 : ∀ (fu i : Nat) (A : PL) (own : Nat → Option Rl) (H : List Pev.Node) (p : PSub), i ≤ m.1.length → m.1.length - i < fu → Led H n A own → Good A g → liveP A id = some p →
    ∃ H' A', LT.loop law21_LedgerGives_b2 fu (some n, u1, u2, u3, m.1, Int.ofNat m.1.length, (i : Int), m.1, m.2.1, m.2.2, id, s1, s2, s3, s4, [], H, ()) = some (.inr (some n, u1, u2, u3, m.1, m.2.1, m.2.2, [], H', ())) ∧ Led H' n A' own ∧ Good A' g ∧ Keeps A A'
  | 0, _, _, _, _, _, _, h, _, _, _ => by omega
  | fu + 1, i, A, own, H, p, h1, h2, hl, hg, hp => by
    rw [LT.loop_succ]
    by_cases hi : i < m.1.length
    · have hr := hrt _ (List.getElem_mem hi)
      have hev := hg.small.ev (m.1[i].1, m.1[i].2.1)
      have hc := hg.cnt
      have hd0 : dueP A id m.1[i].1 m.1[i].2.1 = (mtP p.f (atP p (m.1[i].1, m.1[i].2.1)) 0 (A.ev (m.1[i].1, m.1[i].2.1)), none) := by
        unfold dueP; rw [hp]; simp only [hr, if_true]
      obtain ⟨e, s, E, S, hx⟩ := hl
      have w1 := due_is hx hg.means id m.1[i].1 m.1[i].2.1 (by omega)
      rw [hd0] at w1
      have hlen := mtP_len p.f (atP p (m.1[i].1, m.1[i].2.1)) (A.ev (m.1[i].1, m.1[i].2.1)) 0
      obtain ⟨H1, A1, p1, v1, v2, v3, v4, v5⟩ := gives3 hgi (mtP p.f (atP p (m.1[i].1, m.1[i].2.1)) 0 (A.ev (m.1[i].1, m.1[i].2.1))) u1 u2 u3 m.1 (Int.ofNat m.1.length) (i : Int) m id s1 s2 s3 s4 m.1[i].1 m.1[i].2.1 m.1[i].2.2.1 m.1[i].2.2.2 FUEL 0 A own H p (Nat.zero_le _) (by rw [fuel_is]; omega) (by omega) ⟨e, s, E, S, hx⟩ hg ⟨hp, hr, rfl⟩
      have hv2 := v2
      obtain ⟨e1, s1', E1, S1, hx1⟩ := v2
      have hev1 := v3.small.ev (m.1[i].1, m.1[i].2.1)
      have hc1 := v3.cnt
      have hd1 : dueP A1 id m.1[i].1 m.1[i].2.1 = ([], none) := by
        unfold dueP; rw [v5.live]; simp only [hr, if_true]; rw [v5.due]
      have w2 := due_is hx1 v3.means id m.1[i].1 m.1[i].2.1 (by omega)
      rw [hd1] at w2
      obtain ⟨H2, A2, x1, x2, x3, x4⟩ := gives2 fu (i + 1) A1 own H1 p1 (by omega) (by omega) hv2 v3 v5.live
      refine ⟨H2, A2, ?_, x2, x3, v4.trans x4⟩
      refine (rn_in hi).trans ?_
      rw [getI_lt hi]
      refine (rn_o w1).trans ((rn_f rfl).trans ((rn_o v1).trans ?_))
      refine Eq.trans (rn_o w2) ((rn_f rfl).trans ((rn_f rfl).trans ?_))
      show LT.loop law21_LedgerGives_b2 fu (some n, u1, u2, u3, m.1, Int.ofNat m.1.length, IntKind.i64.wrap ((i : Int) + 1), m.1, m.2.1, m.2.2, id, s1, s2, s3, s4, [], H1, ()) = _
      rw [wsucc (by omega)]
      exact x1
    · have : i = m.1.length := by omega
      subst this
      exact ⟨H, A, rn_out.trans rfl, hl, hg, Keeps.refl A⟩
end
section
variable {n g : Nat} (hgi : g ≤ 1000) (m : RLed) (hrt : ∀ x ∈ m.1, rightB x.1 x.2.1 = true) (hlm : m.1.length ≤ 1000000)
include hgi hrt hlm
theorem gives1 : ∀ (fu i : Nat) (A : PL) (own : Nat → Option Rl) (H : List Pev.Node), i ≤ m.2.1.length → m.2.1.length - i < fu → m.2.1.length ≤ 1000000 → Led H n A own → Good A g → (∀ s ∈ m.2.1, s.2.2.2 = false → ∃ p, A.sub s.1 = some p ∧ p.closed = false) →
    ∃ H', LT.loop law21_LedgerGives_b1 fu (some n, m.2.1, Int.ofNat m.2.1.length, (i : Int), m.1, m.2.1, m.2.2, [], H, ()) = some (.inr ([], H', ()))
  | 0, _, _, _, _, _, h, _, _, _, _ => by omega
  | fu + 1, i, A, own, H, h1, h2, hb, hl, hg, hs => by
    rw [LT.loop_succ]
    by_cases hi : i < m.2.1.length
    · cases hc : m.2.1[i].2.2.2 with
      | true =>
        obtain ⟨H', w⟩ := gives1 fu (i + 1) A own H (by omega) (by omega) hb hl hg hs
        refine ⟨H', (rn_in hi).trans ?_⟩
        rw [getI_lt hi, wsucc (by omega)]
        exact (rn_t hc).trans w
      | false =>
        obtain ⟨p, hp, hpc⟩ := hs _ (List.getElem_mem hi) hc
        have hp : liveP A m.2.1[i].1 = some p := by unfold liveP; rw [hp]; simp only [hpc, Bool.false_eq_true, if_false]
        obtain ⟨H1, A1, v1, v2, v3, v4⟩ := gives2 hgi m.2.1 (Int.ofNat m.2.1.length) (i : Int) m m.2.1[i].1 m.2.1[i].2.1.1 m.2.1[i].2.1.2 m.2.1[i].2.2.1 m.2.1[i].2.2.2 hrt hlm FUEL 0 A own H p (Nat.zero_le _) (by rw [fuel_is]; omega) hl hg hp
        obtain ⟨H', w⟩ := gives1 fu (i + 1) A1 own H1 (by omega) (by omega) hb v2 v3 (fun s hs' hcl => by
          obtain ⟨p, hp, hpc⟩ := hs s hs' hcl
          obtain ⟨q, k1, k2, _⟩ := v4.sub _ _ hp
          exact ⟨q, k1, k2.trans hpc⟩)
        refine ⟨H', (rn_in hi).trans ?_⟩
        rw [getI_lt hi]
        refine (rn_f hc).trans ((rn_o v1).trans ?_)
        show LT.loop law21_LedgerGives_b1 fu (some n, m.2.1, Int.ofNat m.2.1.length, IntKind.i64.wrap ((i : Int) + 1), m.1, m.2.1, m.2.2, [], H1, ()) = _
        rw [wsucc (by omega)]
        exact w
    · have : i = m.2.1.length := by omega
      subst this
      exact ⟨H, rn_out.trans rfl⟩
end
theorem gives0 {n : Nat} (ops : List Op21) (hl : ops.length ≤ 100) (ho : ∀ o ∈ ops, smallO o) : ∀ (f i : Nat) (m : RLed) (H : List Pev.Node), i ≤ ops.length → ops.length - i < f → Both n i m H →
    ∃ m' H', LT.loop law21_LedgerGives_b0 f (some n, ops, Int.ofNat ops.length, (i : Int), m.1, m.2.1, m.2.2, [], H, ()) = some (.inr (some n, m'.1, m'.2.1, m'.2.2, [], H', ())) ∧ Both n ops.length m' H'
  | 0, _, _, _, _, h, _ => by omega
  | f + 1, i, m, H, h1, h2, h3 => by
    rw [LT.loop_succ]
    by_cases hi : i < ops.length
    · obtain ⟨m', H', w1, w2⟩ := step_is h3 (by omega) ops[i] (ho _ (List.getElem_mem hi))
      obtain ⟨m2, H2, w3, w4⟩ := gives0 ops hl ho f (i + 1) m' H' (by omega) (by omega) w2
      refine ⟨m2, H2, (rn_in hi).trans ?_, w4⟩
      rw [getI_lt hi, wsucc (by omega)]
      exact (rn_o w1).trans ((rn_f rfl).trans w3)
    · have : i = ops.length := by omega
      subst this
      exact ⟨m, H, rn_out.trans rfl, h3⟩
theorem gives_true (ops : List Op21) (hl : ops.length ≤ 9223372036854775807) : ∃ H, law21_LedgerGives ops [] [] = some (true, H) := by
  obtain ⟨fb, hf1, hf2⟩ := few_ok ops hl
  unfold law21_LedgerGives law21_LedgerGives_t
  cases fb with
  | false =>
    exact ⟨exH5, (fn_o awake_is).trans ((fn_f rfl).trans ((fn_o hf1).trans ((fn_t rfl).trans rfl)))⟩
  | true =>
    obtain ⟨hlen, hsm⟩ := hf2 rfl
    obtain ⟨own, hl⟩ := new_at exH5
    obtain ⟨m', H', w, ⟨A, own', hL, hR, hG⟩, hgl⟩ := gives0 ops hlen hsm FUEL 0 ([], [], []) _ (Nat.zero_le _) (by rw [fuel_is]; omega) ⟨⟨noP, own, hl, Rel.no, Good.no⟩, Nat.zero_le _⟩
    have hns := hR.ns
    have hc := hR.cnt
    have g1 := hG.cnt
    have g2 := hG.ns
    obtain ⟨H2, w2⟩ := gives1 (by omega) m' hR.rt (by omega) FUEL 0 A own' H' (Nat.zero_le _) (by rw [fuel_is]; omega) (by omega) hL hG (fun s hs hcl => by
      refine ⟨mkP m' s, ?_, hcl⟩
      have := hR.sub s.1
      rw [this]
      have hfd : m'.2.1.find? (isS s.1) = some s := by
        obtain ⟨j, hj, rfl⟩ := List.getElem_of_mem hs
        rcases idxI_is (isS m'.2.1[j].1) m'.2.1 0 with ⟨h1, _⟩ | ⟨j', hj', _, h1, h2, h3⟩
        · exact absurd (decide_eq_true rfl) (List.find?_eq_none.1 h1 _ hs)
        · rw [h1]
          have : j' = j := by
            have h2 : m'.2.1[j'].1 = m'.2.1[j].1 := of_decide_eq_true h2
            have hnd := List.pairwise_iff_getElem.1 hR.nd
            rcases Nat.lt_trichotomy j' j with c | c | c
            · exact absurd ((List.getElem_map _).trans (h2.trans (List.getElem_map _).symm)) (hnd j' j (by simpa using hj') (by simpa using hj) c)
            · exact c
            · exact absurd ((List.getElem_map _).trans (h2.symm.trans (List.getElem_map _).symm)) (hnd j j' (by simpa using hj) (by simpa using hj') c)
          subst this; rfl
      rw [hfd]; rfl)
    refine ⟨H2, (fn_o awake_is).trans ((fn_f rfl).trans ((fn_o hf1).trans ((fn_f rfl).trans ((fn_o w).trans ?_))))⟩
    exact (fn_o w2).trans rfl
theorem gives_law (ops : List Op21) (w0 : wfS (.sl shOp) ops) : ∃ H, law21_LedgerGives ops [] [] = some (true, H) := gives_true ops w0.1
end Go.Proofs.YtldkdhfcbopbhaaGreatDoor
