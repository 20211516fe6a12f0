/- The pure evaluator, part R: regions, code, loops, functions. Own text, over any program. -/
import Derived.Test.YtciajnknnoecaaaDoorPevQ
namespace Go.Pev

section
variable {P : Program} {T : Tabs} {M0 : Nat → Prop} {w0 : World} {ops : Array Oper}

theorem count_set : ∀ {l : List Bool} {i : Nat}, l[i]? = some false → (l.set i true).count false + 1 = l.count false
  | [], _, h => by simp at h
  | b :: l, 0, h => by
    obtain rfl : b = false := by simpa using h
    simp
  | b :: l, i + 1, h => by
    have := count_set (l := l) (i := i) (by simpa using h)
    simp only [List.set_cons_succ, List.count_cons]
    omega

/-- A region that draws its order. -/
theorem any_ok (hf : Fit P T) (hsp : SpecsOk P T) {E E' : Env} {trs : List Tr} (hr : Runs P T ops ops.toList E trs E') (hdraw : drawOk ops.toList trs = true) (hback : backGo 0 ops.toList = true) {Q : Exit → Act → World → Prop} {N : Nat} (hdst : ∀ o ∈ ops.toList, ∀ d, o.dst = some d → d < N)
    (hQ : ∀ a w, a.tmps.size = N → RelEnv T M0 w0 E' a w → Q .normal a w) : ∀ (fuel : Nat) (listed : Array Bool) (a : Act) (w : World), listed.size = ops.size → listed.toList.count false ≤ fuel → Closed ops (fun j => listed.getD j false) → a.tmps.size = N →
      RelE T M0 w0 (mixS (get E.sl) (fun j => listed.getD j false) trs) (mixR (getR E.rs) (fun j => listed.getD j false) trs) a w → wpAny P .any ops Q fuel listed a w := by
  obtain ⟨hlen, hE1, hE2, hat⟩ := runs_at hr
  have hlen' : trs.length = ops.size := by rw [← hlen]; simp
  have hall : ∀ listed : Array Bool, listed.size = ops.size → Closed ops (fun j => listed.getD j false) → Region.ready .any ops listed = [] → ∀ j, j < ops.size → listed.getD j false = true := by
    intro listed hsz hc hrd j
    induction j using Nat.strongRecOn with
    | _ j ih =>
      intro hj
      cases hlj : listed.getD j false with
      | true => rfl
      | false =>
        have hmem : j ∈ Region.ready .any ops listed := by
          unfold Region.ready
          refine List.mem_filter.2 ⟨List.mem_range.2 hj, ?_⟩
          have hoj : ops[j]? = some ops[j] := Array.getElem?_eq_getElem hj
          have h1 : listed.getD j true = false := by
            have hj' : j < listed.size := by omega
            simp only [Array.getD_eq_getD_getElem?, Array.getElem?_eq_getElem hj', Option.getD_some] at hlj ⊢
            exact hlj
          simp only [h1, hoj, Option.map_some, Option.getD_some, Bool.not_false, Bool.true_and]
          rw [Array.all_eq_true_iff_forall_mem]
          intro e he
          cases hb : Region.binds .any e with
          | false => rfl
          | true =>
            have hlt := backGo_at hback j ops[j] (by simp) e (by simpa using he) hb
            simp only [Nat.zero_add] at hlt
            have := ih e.on hlt (by omega)
            simp [this]
        rw [hrd] at hmem
        simp at hmem
  have hend : ∀ (listed : Array Bool) (a : Act) (w : World), listed.size = ops.size → Closed ops (fun j => listed.getD j false) → a.tmps.size = N →
      RelE T M0 w0 (mixS (get E.sl) (fun j => listed.getD j false) trs) (mixR (getR E.rs) (fun j => listed.getD j false) trs) a w → Region.ready .any ops listed = [] → Q .normal a w := by
    intro listed a w hsz hc hN h hrd
    have hl := hall listed hsz hc hrd
    have hlt : ∀ {j : Nat} {x : Tr}, trs[j]? = some x → j < ops.size := fun {j x} hx => by rw [← hlen']; exact (List.getElem?_eq_some_iff.1 hx).1
    have e1 : mixS (get E.sl) (fun j => listed.getD j false) trs = get E'.sl := by
      rw [hE1]; funext t
      exact mixS_congr rfl fun j x hx _ => hl j (hlt hx)
    have e2 : mixR (getR E.rs) (fun j => listed.getD j false) trs = getR E'.rs := by
      rw [hE2]; funext t
      exact mixR_congr rfl fun j x hx _ => hl j (hlt hx)
    rw [e1, e2] at h
    exact hQ a w hN h
  intro fuel
  induction fuel with
  | zero =>
    intro listed a w hsz hcount hc hN h
    have hrd : Region.ready .any ops listed = [] := by
      have h0 : false ∉ listed.toList := List.count_eq_zero.1 (by omega)
      unfold Region.ready
      rw [List.filter_eq_nil_iff]
      intro j hj
      have hj' : j < listed.size := by have := List.mem_range.1 hj; omega
      have : listed[j] = true := by
        cases hlj : listed[j] with
        | true => rfl
        | false => exact absurd (by rw [← hlj]; simp) h0
      simp [Array.getD_eq_getD_getElem?, Array.getElem?_eq_getElem hj', this]
    exact ⟨hrd, hend listed a w hsz hc hN h hrd⟩
  | succ fuel ih =>
    intro listed a w hsz hcount hc hN h
    refine ⟨hend listed a w hsz hc hN h, fun i hi => ?_⟩
    unfold Region.ready at hi
    obtain ⟨hir, hi⟩ := List.mem_filter.1 hi
    have hilt := List.mem_range.1 hir
    have hoi : ops[i]? = some ops[i] := Array.getElem?_eq_getElem hilt
    have hil : i < listed.size := by omega
    simp only [Array.getD_eq_getD_getElem?, Array.getElem?_eq_getElem hil, Option.getD_some, hoi, Option.map_some, Bool.and_eq_true, Bool.not_eq_true'] at hi
    obtain ⟨hi1, hi2⟩ := hi
    rw [Array.all_eq_true_iff_forall_mem] at hi2
    have hpre : ∀ e ∈ ops[i].after.toList, Region.binds .any e = true → listed.getD e.on false = true := fun e he hb => by
      have := hi2 e (by simpa using he)
      rw [hb] at this
      simpa [Array.getD_eq_getD_getElem?] using this
    have hfi : listed.getD i false = false := by simp [Array.getD_eq_getD_getElem?, Array.getElem?_eq_getElem hil, hi1]
    obtain ⟨tr, htr⟩ : ∃ tr, trs[i]? = some tr := ⟨trs[i], List.getElem?_eq_getElem (by omega)⟩
    obtain ⟨hdid, hdsteq, hnew⟩ := hat i ops[i] tr (by simp) htr
    have hfar : ∀ j x, trs[j]? = some x → j ≠ i → listed.getD j false ≠ decide (j < i) → Far x tr := by
      intro j x hx hji hne
      have hjlt : j < ops.size := by rw [← hlen']; exact (List.getElem?_eq_some_iff.1 hx).1
      rcases Nat.lt_or_gt_of_ne hji with hlt | hgt
      · obtain ⟨p, hp, hor⟩ := drawOkGo_at hdraw j i x tr hlt hx htr
        simp only [Nat.zero_add] at hor
        rcases hor with hb | hap
        · have := closed_pred hc i ops[i] hoi hpre j (by rw [List.getD_eq_getElem?_getD, hp]; exact hb)
          exact absurd this (by rw [decide_eq_true hlt] at hne; exact hne)
        · exact apart_far hap
      · obtain ⟨p, hp, hor⟩ := drawOkGo_at hdraw i j tr x hgt htr hx
        simp only [Nat.zero_add] at hor
        have hlj : listed.getD j false = true := by
          have h0 : decide (j < i) = false := by simp; omega
          rw [h0] at hne
          simpa using hne
        rcases hor with hb | hap
        · have hoj : ops[j]? = some ops[j] := Array.getElem?_eq_getElem hjlt
          have := closed_pred hc j ops[j] hoj (fun e he hbi => hc j _ hlj hoj e he hbi) i (by rw [List.getD_eq_getElem?_getD, hp]; exact hb)
          simp only [hfi] at this; cases this
        · exact (apart_far hap).symm
    have hdid2 := hdid.near (mix_reads_S (f := fun j => listed.getD j false) htr hfi hfar) (mix_reads_R (f := fun j => listed.getD j false) htr hfi hfar)
    refine did_ok hf hsp hoi h (fun d hd => by rw [hN]; exact hdst ops[i] (by simp) d hd) hdid2 (fun d st hn => ⟨mix_fresh (f := fun j => listed.getD j false) htr hfi hfar hn (hnew d st hn), (hnew d st hn).ws, (hnew d st hn).st⟩) fun a' w' hsz' h' => ?_
    have hset : (fun j => (listed.setIfInBounds i true).getD j false) = fun j => listed.getD j false || decide (j = i) := by
      funext j
      by_cases hj : j = i
      · subst hj; simp [Array.getD_eq_getD_getElem?, hil]
      · simp [Array.getD_eq_getD_getElem?, Array.getElem?_setIfInBounds_ne (Ne.symm hj), hj]
    rw [mix_next_S (f := fun j => listed.getD j false) htr hfi hfar, mix_next_R (f := fun j => listed.getD j false) htr hfi hfar] at h'
    refine ih _ a' w' (by simpa using hsz) ?_ ?_ (hsz'.trans hN) (by rw [hset]; exact h')
    · have := count_set (l := listed.toList) (i := i) (by simp [hil, hi1])
      simp only [Array.toList_setIfInBounds]
      omega
    · rw [hset]
      intro j o hj ho e he hb
      simp only [Bool.or_eq_true, decide_eq_true_eq] at hj ⊢
      rcases hj with hj | rfl
      · exact .inl (hc j o hj ho e he hb)
      · rw [hoi] at ho
        obtain rfl := Option.some.inj ho
        exact .inl (hpre e he hb)

/-! ### code -/

/-- The static side: every slot is one of the frame's; edges go back. -/
def opsOk (N : Nat) (l : List Oper) : Bool := l.all (fun o => match o.dst with | some d => Nat.blt d N | none => true) && backGo 0 l
def codeOk (N : Nat) : Code → Bool
  | .region _ ops _ => opsOk N ops.toList
  | .seq a b => codeOk N a && codeOk N b
  | .cond _ x y => codeOk N x && codeOk N y
  | .block _ c => codeOk N c
  | .loop c => codeOk N c
  | _ => true

theorem opsOk_dst {N : Nat} {l : List Oper} (h : opsOk N l = true) : ∀ o ∈ l, ∀ d, o.dst = some d → d < N := by
  intro o ho d hd
  simp only [opsOk, Bool.and_eq_true, List.all_eq_true] at h
  have := h.1 o ho
  rw [hd] at this
  simpa [Nat.blt_eq] using this

theorem region_ok (hf : Fit P T) (hsp : SpecsOk P T) (hm : P.follows .mixedOrders = true) {A : Anns} {id : Nat} {draw : Bool} {E : Env} {k : Exit → Env → R} {res : AV} {N : Nat} (hok : opsOk N ops.toList = true) (h : evalC P T A (.region id ops draw) E k = some res) {a : Act} {w : World} (hN : a.tmps.size = N) (hr : RelEnv T M0 w0 E a w) :
    (Code.region id ops draw).wp P (fun x a' w' => ∃ E', k x E' = some res ∧ RelEnv T M0 w0 E' a' w' ∧ a'.tmps.size = N) a w := by
  simp only [evalC] at h
  obtain ⟨trs, E', h1, h2⟩ := evalOps_runs h
  have hd := opsOk_dst hok
  cases draw with
  | false =>
    refine wp_region ?_
    have := runs_ok (P := P) (T := T) (M0 := M0) (w0 := w0) hf hsp (ops := ops) (n := 0) (l := ops.toList) (Q := fun x a' w' => ∃ E', k x E' = some res ∧ RelEnv T M0 w0 E' a' w' ∧ a'.tmps.size = N) (by simp) (fun o ho d hd' => by rw [hN]; exact hd o ho d hd') h1 hr (fun a' w' hsz hr' => ⟨E', h2, hr', hsz.trans hN⟩)
    rw [List.range_eq_range']
    simpa using this
  | true =>
    simp only [List.append_nil, List.reverse_reverse] at h2
    split at h2 <;> try (cases h2; done)
    rename_i hdraw
    simp only [opsOk, Bool.and_eq_true] at hok
    refine wp_region_any hm ?_
    obtain ⟨ρ, F, hrel⟩ := hr
    have h0 : (fun j => (Array.replicate ops.size false).getD j false) = fun _ => false := by
      funext j
      simp only [Array.getD_eq_getD_getElem?, Array.getElem?_replicate]
      split <;> rfl
    refine any_ok (N := N) hf hsp h1 hdraw hok.2 hd (fun a' w' hsz hr' => ⟨E', h2, hr', hsz⟩) ops.size _ a _ (by simp) ?_ ?_ hN ?_
    · simp only [Array.toList_replicate]
      exact Nat.le_trans (List.count_le_length) (by simp)
    · rw [h0]; intro j o hj; cases hj
    · rw [h0, mixS_none, mixR_none]
      exact ⟨ρ, F, hrel.world (KeepS.drew w)⟩

end

end Go.Pev
