/- The pure evaluator, part Q: regions that draw their order. Own text, over any program. -/
import Derived.Test.YtciajnknnoecaaaDoorPevP
namespace Go.Pev

/-! ### what a set of operations has written -/

def mixS (sl : Nat → Option AV) (f : Nat → Bool) : List Tr → Nat → Option AV
  | [] => sl
  | tr :: r => mixS (if f 0 then updS sl tr.dst tr.v else sl) (fun j => f (j + 1)) r
def mixR (rs : Nat → Option RS) (f : Nat → Bool) : List Tr → Nat → Option RS
  | [] => rs
  | tr :: r => mixR (if f 0 then updR rs tr.ws else rs) (fun j => f (j + 1)) r

theorem updS_ne {sl : Nat → Option AV} {dst : Option Nat} {v : AV} {t : Nat} (h : dst ≠ some t) : updS sl dst v t = sl t := by simp [updS, h]
theorem updS_eq {sl : Nat → Option AV} {v : AV} {t : Nat} : updS sl (some t) v t = some v := by simp [updS]
theorem updR_ne {rs : Nat → Option RS} {ws : Ws} {id : Nat} (h : get ws id = none) : updR rs ws id = rs id := by simp [updR, h]
theorem updR_eq {rs : Nat → Option RS} {ws : Ws} {id : Nat} {q : Option RS} (h : get ws id = some q) : updR rs ws id = q := by simp [updR, h]

theorem mixS_congr : ∀ {trs : List Tr} {sl sl' : Nat → Option AV} {f g : Nat → Bool} {t : Nat}, sl t = sl' t → (∀ j tr, trs[j]? = some tr → tr.dst = some t → f j = g j) → mixS sl f trs t = mixS sl' g trs t
  | [], _, _, _, _, _, h, _ => h
  | tr :: r, sl, sl', f, g, t, h, hw => by
    simp only [mixS]
    refine mixS_congr ?_ fun j tr' h1 h2 => hw (j + 1) tr' (by simpa using h1) h2
    by_cases hd : tr.dst = some t
    · have := hw 0 tr (by simp) hd
      rw [this]
      cases g 0
      · simpa using h
      · simp [updS, hd]
    · cases f 0 <;> cases g 0 <;> simp [updS_ne hd, h]

theorem mixR_congr : ∀ {trs : List Tr} {rs rs' : Nat → Option RS} {f g : Nat → Bool} {id : Nat}, rs id = rs' id → (∀ j tr, trs[j]? = some tr → get tr.ws id ≠ none → f j = g j) → mixR rs f trs id = mixR rs' g trs id
  | [], _, _, _, _, _, h, _ => h
  | tr :: r, rs, rs', f, g, id, h, hw => by
    simp only [mixR]
    refine mixR_congr ?_ fun j tr' h1 h2 => hw (j + 1) tr' (by simpa using h1) h2
    by_cases hd : get tr.ws id = none
    · cases f 0 <;> cases g 0 <;> simp [updR_ne hd, h]
    · have := hw 0 tr (by simp) hd
      rw [this]
      cases g 0
      · simpa using h
      · obtain ⟨q, hq⟩ := Option.ne_none_iff_exists'.1 hd
        simp [updR_eq hq]

theorem mixS_none : ∀ {trs : List Tr} {sl : Nat → Option AV}, mixS sl (fun _ => false) trs = sl
  | [], _ => rfl
  | _ :: r, sl => by simp only [mixS]; exact mixS_none (trs := r)
theorem mixR_none : ∀ {trs : List Tr} {rs : Nat → Option RS}, mixR rs (fun _ => false) trs = rs
  | [], _ => rfl
  | _ :: r, rs => by simp only [mixR]; exact mixR_none (trs := r)

theorem mixS_last : ∀ {trs : List Tr} {sl : Nat → Option AV} {f : Nat → Bool} {i t : Nat} {tr : Tr}, trs[i]? = some tr → tr.dst = some t → f i = true → (∀ j x, i < j → trs[j]? = some x → x.dst = some t → f j = false) → mixS sl f trs t = some tr.v
  | [], _, _, _, _, _, h, _, _, _ => by simp at h
  | x :: r, sl, f, 0, t, tr, h, hd, hf, hl => by
    obtain rfl : x = tr := by simpa using h
    simp only [mixS, hf, if_true]
    rw [mixS_congr (g := fun _ => false) rfl fun j y h1 h2 => hl (j + 1) y (by omega) (by simpa using h1) h2, mixS_none, hd, updS_eq]
  | x :: r, sl, f, i + 1, t, tr, h, hd, hf, hl => by
    simp only [mixS]
    exact mixS_last (i := i) (by simpa using h) hd hf fun j y hj h1 h2 => hl (j + 1) y (by omega) (by simpa using h1) h2
theorem mixR_last : ∀ {trs : List Tr} {rs : Nat → Option RS} {f : Nat → Bool} {i id : Nat} {tr : Tr} {q : Option RS}, trs[i]? = some tr → get tr.ws id = some q → f i = true → (∀ j x, i < j → trs[j]? = some x → get x.ws id ≠ none → f j = false) → mixR rs f trs id = q
  | [], _, _, _, _, _, _, h, _, _, _ => by simp at h
  | x :: r, rs, f, 0, id, tr, q, h, hd, hf, hl => by
    obtain rfl : x = tr := by simpa using h
    simp only [mixR, hf, if_true]
    rw [mixR_congr (g := fun _ => false) rfl fun j y h1 h2 => hl (j + 1) y (by omega) (by simpa using h1) h2, mixR_none, updR_eq hd]
  | x :: r, rs, f, i + 1, id, tr, q, h, hd, hf, hl => by
    simp only [mixR]
    exact mixR_last (i := i) (by simpa using h) hd hf fun j y hj h1 h2 => hl (j + 1) y (by omega) (by simpa using h1) h2

theorem mixS_mem : ∀ {trs : List Tr} {sl : Nat → Option AV} {f : Nat → Bool} {t : Nat} {av : AV}, mixS sl f trs t = some av → sl t = some av ∨ ∃ j tr, trs[j]? = some tr ∧ f j = true ∧ tr.dst = some t ∧ tr.v = av
  | [], _, _, _, _, h => .inl h
  | x :: r, sl, f, t, av, h => by
    simp only [mixS] at h
    rcases mixS_mem h with h | ⟨j, tr, h1, h2, h3, h4⟩
    · by_cases hf : f 0 = true
      · simp only [hf, if_true] at h
        by_cases hd : x.dst = some t
        · rw [hd, updS_eq] at h
          exact .inr ⟨0, x, by simp, hf, hd, Option.some.inj h⟩
        · rw [updS_ne hd] at h; exact .inl h
      · simp only [hf] at h; exact .inl h
    · exact .inr ⟨j + 1, tr, by simpa using h1, h2, h3, h4⟩
theorem mixR_mem : ∀ {trs : List Tr} {rs : Nat → Option RS} {f : Nat → Bool} {id : Nat} {st : RS}, mixR rs f trs id = some st → rs id = some st ∨ ∃ j tr, trs[j]? = some tr ∧ f j = true ∧ get tr.ws id = some (some st)
  | [], _, _, _, _, h => .inl h
  | x :: r, rs, f, id, st, h => by
    simp only [mixR] at h
    rcases mixR_mem h with h | ⟨j, tr, h1, h2, h3⟩
    · by_cases hf : f 0 = true
      · simp only [hf, if_true] at h
        cases hd : get x.ws id with
        | none => rw [updR_ne hd] at h; exact .inl h
        | some q =>
          rw [updR_eq hd] at h
          exact .inr ⟨0, x, by simp, hf, by rw [hd, h]⟩
      · simp only [hf] at h; exact .inl h
    · exact .inr ⟨j + 1, tr, by simpa using h1, h2, h3⟩

/-! ### what a run shows of each operation -/

section
variable {P : Program} {T : Tabs} {M0 : Nat → Prop} {w0 : World} {ops : Array Oper}

structure NewFact (E : Env) (trs : List Tr) (i : Nat) (tr : Tr) (d : Nat) (st : RS) : Prop where
  sl : slMent d E.sl = false
  rs : rsMent d E.rs = false
  old : ∀ j x, j < i → trs[j]? = some x → (x.dst ≠ none → x.v.ment d = false) ∧ ∀ id st, get x.ws id = some (some st) → st.ment d = false
  ws : Ws.ment d tr.ws = false
  st : st.ment d = false

theorem wsMent_append {d : Nat} : ∀ {x y : Ws}, Ws.ment d (x ++ y) = false → Ws.ment d x = false ∧ Ws.ment d y = false
  | [], _, h => ⟨rfl, h⟩
  | (k, none) :: x, y, h => by
    simp only [List.cons_append, Ws.ment] at h ⊢
    exact wsMent_append h
  | (k, some r) :: x, y, h => by
    simp only [List.cons_append, Ws.ment, Bool.or_eq_false_iff] at h ⊢
    obtain ⟨h1, h2⟩ := wsMent_append h.2
    exact ⟨⟨h.1, h1⟩, h2⟩

theorem NewFact.lift {E E2 : Env} {trs : List Tr} {tr0 : Tr} {i : Nat} {tr : Tr} {d : Nat} {st : RS} (hs : Same E E2) (h : NewFact (upd E2 tr0.dst ⟨tr0.v, tr0.ws⟩) trs i tr d st) : NewFact E (tr0 :: trs) (i + 1) tr d st := by
  have h2 := wsMent_append h.rs
  have hsl := h.sl
  have h1 : (tr0.dst ≠ none → tr0.v.ment d = false) ∧ slMent d E.sl = false := by
    rw [← hs.ment d]
    simp only [upd] at hsl
    cases hd : tr0.dst with
    | none => rw [hd] at hsl; exact ⟨fun h => absurd rfl h, hsl⟩
    | some k =>
      rw [hd] at hsl
      simp only [slMent, List.any_cons, Bool.or_eq_false_iff] at hsl
      exact ⟨fun _ => hsl.1, hsl.2⟩
  refine ⟨h1.2, ?_, fun j x hj hx => ?_, h.ws, h.st⟩
  · rw [← hs.rs]; exact h2.2
  · cases j with
    | zero =>
      obtain rfl : tr0 = x := by simpa using hx
      exact ⟨h1.1, fun id st hg => wsMent_mem h2.1 (get_mem hg)⟩
    | succ j => exact h.old j x (by omega) (by simpa using hx)

theorem runs_at : ∀ {l : List Oper} {E E' : Env} {trs : List Tr}, Runs P T ops l E trs E' → l.length = trs.length ∧ get E'.sl = mixS (get E.sl) (fun _ => true) trs ∧ getR E'.rs = mixR (getR E.rs) (fun _ => true) trs ∧
    ∀ i o tr, l[i]? = some o → trs[i]? = some tr → Did P T ops o (mixS (get E.sl) (fun j => decide (j < i)) trs) (mixR (getR E.rs) (fun j => decide (j < i)) trs) tr ∧ tr.dst = o.dst ∧
      ∀ d st, NewAt tr d st → NewFact E trs i tr d st
  | [], E, E', trs, h => by cases h; exact ⟨rfl, rfl, rfl, fun i o tr h => by simp at h⟩
  | o :: l, E, E', trs, h => by
    cases h with | cons hfact hruns => ?_
    rename_i tr E1 trs
    obtain ⟨q1, q2⟩ := hfact.next
    obtain ⟨E2, hs, hdid, hn, hE1⟩ := hfact
    obtain ⟨e1, e2, e3, e4⟩ := runs_at hruns
    refine ⟨by simp [e1], by rw [e2, q1]; simp [mixS], by rw [e3, q2]; simp [mixR], fun i o' tr' h1 h2 => ?_⟩
    cases i with
    | zero =>
      obtain rfl : o = o' := by simpa using h1
      obtain rfl : tr = tr' := by simpa using h2
      refine ⟨?_, by cases hdid <;> rfl, fun d st hnew => ?_⟩
      · simp only [Nat.not_lt_zero, decide_false, mixS_none, mixR_none]
        exact hdid
      · obtain ⟨g1, g2, g3⟩ := okNew_fresh hs hn hnew
        exact ⟨g1.1, g1.2, fun j x hj => absurd hj (Nat.not_lt_zero _), g2, g3⟩
    | succ i =>
      obtain ⟨f1, f2, f3⟩ := e4 i o' tr' (by simpa using h1) (by simpa using h2)
      have c1 : mixS (get E.sl) (fun j => decide (j < i + 1)) (tr :: trs) = mixS (get E1.sl) (fun j => decide (j < i)) trs := by
        simp only [mixS, q1, Nat.zero_lt_succ, decide_true, if_true, Nat.add_lt_add_iff_right]
      have c2 : mixR (getR E.rs) (fun j => decide (j < i + 1)) (tr :: trs) = mixR (getR E1.rs) (fun j => decide (j < i)) trs := by
        simp only [mixR, q2, Nat.zero_lt_succ, decide_true, if_true, Nat.add_lt_add_iff_right]
      rw [c1, c2]
      refine ⟨f1, f2, fun d st hnew => ?_⟩
      have hf := f3 d st hnew
      rw [hE1] at hf
      exact hf.lift hs

/-! ### operations that may come up in either order -/

structure Far (x y : Tr) : Prop where
  ds : ∀ t, x.dst = some t → t ∉ y.rdS ∧ y.dst ≠ some t
  sd : ∀ t, y.dst = some t → t ∉ x.rdS
  wr : ∀ id, get x.ws id ≠ none → id ∉ y.rdR ∧ get y.ws id = none
  rw : ∀ id, get y.ws id ≠ none → id ∉ x.rdR
  n1 : ∀ d st, NewAt x d st → y.v.ment d = false ∧ Ws.ment d y.ws = false
  n2 : ∀ d st, NewAt y d st → x.v.ment d = false ∧ Ws.ment d x.ws = false

theorem Far.symm {x y : Tr} (h : Far x y) : Far y x :=
  ⟨fun t ht => ⟨h.sd t ht, fun e => (h.ds t e).2 ht⟩, fun t ht => (h.ds t ht).1,
   fun id hid => ⟨h.rw id hid, by cases hg : get x.ws id with
     | none => rfl
     | some q => exact absurd (h.wr id (by simp [hg])).2 hid⟩, fun id hid => (h.wr id hid).1, h.n2, h.n1⟩

theorem meets_false {a b : List Nat} (h : meets a b = false) : ∀ x, x ∈ a → x ∉ b := by
  intro x hx hb
  unfold meets at h
  rw [List.any_eq_false] at h
  have := h x hx
  simp only [Bool.not_eq_true, List.any_eq_false] at this
  have := this x hb
  rw [Nat.beq_refl] at this
  cases this

theorem wids_mem {ws : Ws} {id : Nat} (h : get ws id ≠ none) : id ∈ wids ws := by
  obtain ⟨q, hq⟩ := Option.ne_none_iff_exists'.1 h
  exact List.mem_map.2 ⟨_, get_mem hq, rfl⟩

theorem apart_far {x y : Tr} (h : apart x y = true) : Far x y := by
  unfold apart at h
  simp only [Bool.and_eq_true, Bool.not_eq_true'] at h
  obtain ⟨⟨⟨⟨⟨h1, h2⟩, h3⟩, h4⟩, h5⟩, h6⟩ := h
  have dm : ∀ {z : Tr} {t : Nat}, z.dst = some t → t ∈ dsts z := fun {z t} hz => by simp [dsts, hz]
  have nm : ∀ {z : Tr} {d : Nat} {st : RS}, NewAt z d st → d ∈ news z := fun {z d st} hz => by simp [news, hz.1, hz.2]
  refine ⟨fun t ht => ?_, fun t ht hx => meets_false h2 t hx (dm ht), fun id hid => ?_, fun id hid hx => meets_false h4 id hx (wids_mem hid), fun d st hn => ?_, fun d st hn => ?_⟩
  · have := meets_false h1 t (dm ht)
    exact ⟨fun hm => this (List.mem_append_left _ hm), fun hm => this (List.mem_append_right _ (dm hm))⟩
  · have := meets_false h3 id (wids_mem hid)
    refine ⟨fun hm => this (List.mem_append_left _ hm), ?_⟩
    cases hg : get y.ws id with
    | none => rfl
    | some q => exact absurd (List.mem_append_right _ (wids_mem (by simp [hg]))) this
  · rw [List.any_eq_false] at h5
    have := h5 d (nm hn)
    simpa [trMent] using this
  · rw [List.any_eq_false] at h6
    have := h6 d (nm hn)
    simpa [trMent] using this

section
variable {E : Env} {trs : List Tr} {i : Nat} {tr : Tr} {f : Nat → Bool} {o : Oper}

theorem mix_reads_S {sl : Nat → Option AV} (hi : trs[i]? = some tr) (hfi : f i = false) (hfar : ∀ j x, trs[j]? = some x → j ≠ i → f j ≠ decide (j < i) → Far x tr) (t : Nat) (ht : t ∈ tr.rdS) : mixS sl f trs t = mixS sl (fun j => decide (j < i)) trs t := by
  refine mixS_congr rfl fun j x hj hx => ?_
  by_cases hji : j = i
  · subst hji; simp [hfi]
  · by_cases hq : f j = decide (j < i)
    · exact hq
    · exact absurd ht (((hfar j x hj hji hq).ds t hx).1)
theorem mix_reads_R {rs : Nat → Option RS} (hi : trs[i]? = some tr) (hfi : f i = false) (hfar : ∀ j x, trs[j]? = some x → j ≠ i → f j ≠ decide (j < i) → Far x tr) (id : Nat) (ht : id ∈ tr.rdR) : mixR rs f trs id = mixR rs (fun j => decide (j < i)) trs id := by
  refine mixR_congr rfl fun j x hj hx => ?_
  by_cases hji : j = i
  · subst hji; simp [hfi]
  · by_cases hq : f j = decide (j < i)
    · exact hq
    · exact absurd ht (((hfar j x hj hji hq).wr id hx).1)

theorem Did.near {sl sl' : Nat → Option AV} {rs rs' : Nat → Option RS} (h : Did P T ops o sl rs tr) (hs : ∀ t ∈ tr.rdS, sl' t = sl t) (hr : ∀ id ∈ tr.rdR, rs' id = rs id) : Did P T ops o sl' rs' tr := by
  cases h with
  | go hg he =>
    refine .go ?_ (ev_local _ _ _ _ _ _ he hs hr)
    rcases hg with hg | ⟨g, want, t, h1, h2, h3, rfl⟩
    · exact .inl hg
    · exact .inr ⟨g, want, t, h1, h2, by rw [hs t ((ev_sub _ _ _ _ _ _ he).1 t List.mem_cons_self)]; exact h3, rfl⟩
  | skip hg =>
    refine .skip ?_
    obtain ⟨g, want, h1, h2, h3⟩ := hg
    rw [← hs _ List.mem_cons_self] at h3
    exact ⟨g, want, h1, h2, h3⟩

theorem mix_next_S {sl : Nat → Option AV} (hi : trs[i]? = some tr) (hfi : f i = false) (hfar : ∀ j x, trs[j]? = some x → j ≠ i → f j ≠ decide (j < i) → Far x tr) : updS (mixS sl f trs) tr.dst tr.v = mixS sl (fun j => f j || decide (j = i)) trs := by
  funext t
  by_cases hd : tr.dst = some t
  · rw [hd, updS_eq]
    refine (mixS_last hi hd (by simp) fun j x hj hx hxd => ?_).symm
    have hji : j ≠ i := by omega
    have : f j = false := by
      cases hfj : f j with
      | false => rfl
      | true => exact absurd hd ((hfar j x hx hji (by simp [hfj]; omega)).ds t hxd).2
    simp [this, hji]
  · rw [updS_ne hd]
    refine mixS_congr rfl fun j x hj hx => ?_
    by_cases hji : j = i
    · subst hji; rw [hi] at hj; obtain rfl := Option.some.inj hj; exact absurd hx hd
    · simp [hji]
theorem mix_next_R {rs : Nat → Option RS} (hi : trs[i]? = some tr) (hfi : f i = false) (hfar : ∀ j x, trs[j]? = some x → j ≠ i → f j ≠ decide (j < i) → Far x tr) : updR (mixR rs f trs) tr.ws = mixR rs (fun j => f j || decide (j = i)) trs := by
  funext id
  cases hd : get tr.ws id with
  | some q =>
    rw [updR_eq hd]
    refine (mixR_last hi hd (by simp) fun j x hj hx hxd => ?_).symm
    have hji : j ≠ i := by omega
    have : f j = false := by
      cases hfj : f j with
      | false => rfl
      | true =>
        have := ((hfar j x hx hji (by simp [hfj]; omega)).wr id hxd).2
        rw [hd] at this; cases this
    simp [this, hji]
  | none =>
    rw [updR_ne hd]
    refine mixR_congr rfl fun j x hj hx => ?_
    by_cases hji : j = i
    · subst hji; rw [hi] at hj; obtain rfl := Option.some.inj hj; exact absurd hd hx
    · simp [hji]

theorem mix_fresh (hi : trs[i]? = some tr) (hfi : f i = false) (hfar : ∀ j x, trs[j]? = some x → j ≠ i → f j ≠ decide (j < i) → Far x tr) {d : Nat} {st : RS} (hn : NewAt tr d st) (h : NewFact E trs i tr d st) : Fresh (mixS (get E.sl) f trs) (mixR (getR E.rs) f trs) d := by
  refine ⟨fun t av ht => ?_, fun id s hs => ?_⟩
  · rcases mixS_mem ht with ht | ⟨j, x, hx, hfj, hxd, rfl⟩
    · exact slMent_get h.sl ht
    · by_cases hji : j = i
      · subst hji; rw [hfi] at hfj; cases hfj
      · by_cases hlt : j < i
        · exact (h.old j x hlt hx).1 (by simp [hxd])
        · exact ((hfar j x hx hji (by simp [hfj]; omega)).n2 d st hn).1
  · rcases mixR_mem hs with hs | ⟨j, x, hx, hfj, hxd⟩
    · exact wsMent_mem h.rs (getR_mem hs)
    · by_cases hji : j = i
      · subst hji; rw [hfi] at hfj; cases hfj
      · by_cases hlt : j < i
        · exact (h.old j x hlt hx).2 id s hxd
        · exact wsMent_mem ((hfar j x hx hji (by simp [hfj]; omega)).n2 d st hn).2 (get_mem hxd)
end

/-! ### what must come first -/

/-- Edges go back alone. -/
def backGo : Nat → List Oper → Bool
  | _, [] => true
  | n, o :: r => o.after.toList.all (fun e => !Region.binds .any e || Nat.blt e.on n) && backGo (n + 1) r

theorem backGo_at : ∀ {l : List Oper} {n : Nat}, backGo n l = true → ∀ i o, l[i]? = some o → ∀ e ∈ o.after.toList, Region.binds .any e = true → e.on < n + i
  | [], _, _, i, o, h, _, _, _ => by simp at h
  | x :: r, n, hb, 0, o, h, e, he, hbi => by
    obtain rfl : x = o := by simpa using h
    simp only [backGo, Bool.and_eq_true, List.all_eq_true] at hb
    have := hb.1 e he
    rw [hbi] at this
    simpa [Nat.blt_eq] using this
  | x :: r, n, hb, i + 1, o, h, e, he, hbi => by
    simp only [backGo, Bool.and_eq_true] at hb
    have := backGo_at hb.2 i o (by simpa using h) e he hbi
    omega

theorem fold_bits {done : List Nat} {n : Nat} : ∀ {es : List Edge} {m : Nat} {i : Nat}, ((es.foldl (fun m e => match Region.binds .any e, Nat.blt e.on n with
      | true, true => m ||| (1 <<< e.on) ||| (done.getD (n - 1 - e.on) 0)
      | _, _ => m) m).testBit i = true) → m.testBit i = true ∨ ∃ e ∈ es, Region.binds .any e = true ∧ e.on < n ∧ (i = e.on ∨ (done.getD (n - 1 - e.on) 0).testBit i = true)
  | [], m, i, h => .inl h
  | e :: es, m, i, h => by
    rw [List.foldl_cons] at h
    rcases fold_bits h with h | ⟨e', he', h1, h2, h3⟩
    · split at h
      · rename_i hb hl
        simp only [Nat.testBit_or, Bool.or_eq_true] at h
        have hl' : e.on < n := by simpa [Nat.blt_eq] using hl
        rcases h with (h | h) | h
        · exact .inl h
        · refine .inr ⟨e, List.mem_cons_self, hb, hl', .inl ?_⟩
          simp only [Nat.testBit_shiftLeft, Bool.and_eq_true, decide_eq_true_eq] at h
          obtain ⟨h1, h2⟩ := h
          rcases Nat.eq_zero_or_pos (i - e.on) with hz | hz
          · omega
          · rw [Nat.testBit_one_eq_true_iff_self_eq_zero] at h2; omega
        · exact .inr ⟨e, List.mem_cons_self, hb, hl', .inr h⟩
      · exact .inl h
    · exact .inr ⟨e', List.mem_cons_of_mem _ he', h1, h2, h3⟩

theorem predsGo_at : ∀ {l : List Oper} {done : List Nat}, ∃ rest, predsGo l done = done.reverse ++ rest ∧ rest.length = l.length ∧
    ∀ k o, l[k]? = some o → ∀ i, (((done.reverse ++ rest).getD (done.length + k) 0).testBit i = true) → ∃ e ∈ o.after.toList, Region.binds .any e = true ∧ e.on < done.length + k ∧ (i = e.on ∨ ((done.reverse ++ rest).getD e.on 0).testBit i = true)
  | [], done => ⟨[], by simp [predsGo], rfl, fun k o h => by simp at h⟩
  | x :: r, done => by
    simp only [predsGo]
    generalize hm : x.after.toList.foldl (fun m e => match Region.binds .any e, Nat.blt e.on done.length with
      | true, true => m ||| (1 <<< e.on) ||| (done.getD (done.length - 1 - e.on) 0)
      | _, _ => m) 0 = m
    obtain ⟨rest, h1, h2, h3⟩ := predsGo_at (l := r) (done := m :: done)
    have hl : (m :: done).reverse ++ rest = done.reverse ++ m :: rest := by simp
    rw [hl] at h1 h3
    refine ⟨m :: rest, h1, by simp [h2], fun k o hk i hi => ?_⟩
    cases k with
    | zero =>
      obtain rfl : x = o := by simpa using hk
      have : (done.reverse ++ m :: rest).getD (done.length + 0) 0 = m := by simp [List.getD_eq_getElem?_getD]
      rw [this, ← hm] at hi
      rcases fold_bits hi with hi | ⟨e, he, b1, b2, b3⟩
      · simp at hi
      · refine ⟨e, he, b1, by omega, b3.imp_right fun h => ?_⟩
        have : (done.reverse ++ m :: rest).getD e.on 0 = done.getD (done.length - 1 - e.on) 0 := by
          simp only [List.getD_eq_getElem?_getD]
          rw [List.getElem?_append_left (by simpa using b2), List.getElem?_reverse b2]
        rw [this]; exact h
    | succ k =>
      have e1 : (m :: done).length + k = done.length + (k + 1) := by simp; omega
      have := h3 k o (by simpa using hk) i (by rw [e1]; exact hi)
      rw [e1] at this
      exact this

theorem apartAll_at {x : Tr} {i : Nat} : ∀ {r : List Tr} {ps : List Nat}, apartAll x i r ps = true → ∀ (k : Nat) (y : Tr), r[k]? = some y → ∃ p : Nat, ps[k]? = some p ∧ (p.testBit i = true ∨ apart x y = true)
  | [], _, _, k, y, h => by simp at h
  | z :: r, [], h, _, _, _ => by simp [apartAll] at h
  | z :: r, p :: ps, h, 0, y, hy => by
    obtain rfl : z = y := by simpa using hy
    simp only [apartAll, Bool.and_eq_true, Bool.or_eq_true] at h
    exact ⟨p, by simp, h.1⟩
  | z :: r, p :: ps, h, k + 1, y, hy => by
    simp only [apartAll, Bool.and_eq_true] at h
    obtain ⟨q, h1, h2⟩ := apartAll_at h.2 k y (by simpa using hy)
    exact ⟨q, by simpa using h1, h2⟩

theorem drawOkGo_at : ∀ {trs : List Tr} {ps : List Nat} {n : Nat}, drawOkGo n trs ps = true → ∀ (a b : Nat) (x y : Tr), a < b → trs[a]? = some x → trs[b]? = some y → ∃ p : Nat, ps[b]? = some p ∧ (p.testBit (n + a) = true ∨ apart x y = true)
  | [], _, _, _, a, b, x, y, _, h, _ => by simp at h
  | z :: r, [], _, h, _, _, _, _, _, _, _ => by simp [drawOkGo] at h
  | z :: r, p :: ps, n, h, 0, b, x, y, hab, hx, hy => by
    obtain rfl : z = x := by simpa using hx
    simp only [drawOkGo, Bool.and_eq_true] at h
    obtain ⟨b, rfl⟩ : ∃ c, b = c + 1 := ⟨b - 1, by omega⟩
    obtain ⟨q, h1, h2⟩ := apartAll_at h.1 b y (by simpa using hy)
    exact ⟨q, by simpa using h1, by simpa using h2⟩
  | z :: r, p :: ps, n, h, a + 1, b, x, y, hab, hx, hy => by
    simp only [drawOkGo, Bool.and_eq_true] at h
    obtain ⟨b, rfl⟩ : ∃ c, b = c + 1 := ⟨b - 1, by omega⟩
    obtain ⟨q, h1, h2⟩ := drawOkGo_at h.2 a b x y (by omega) (by simpa using hx) (by simpa using hy)
    exact ⟨q, by simpa using h1, by rw [show n + (a + 1) = n + 1 + a by omega]; exact h2⟩

/-- Closed: what must come before a listed one is listed. -/
def Closed (ops : Array Oper) (f : Nat → Bool) : Prop := ∀ j o, f j = true → ops[j]? = some o → ∀ e ∈ o.after.toList, Region.binds .any e = true → f e.on = true

theorem closed_pred {f : Nat → Bool} (hc : Closed ops f) : ∀ (j : Nat) (o : Oper), ops[j]? = some o → (∀ e ∈ o.after.toList, Region.binds .any e = true → f e.on = true) → ∀ i, ((predsGo ops.toList []).getD j 0).testBit i = true → f i = true := by
  obtain ⟨rest, h1, h2, h3⟩ := predsGo_at (l := ops.toList) (done := [])
  simp only [List.reverse_nil, List.nil_append, List.length_nil, Nat.zero_add] at h1 h3
  rw [h1]
  intro j
  induction j using Nat.strongRecOn with
  | _ j ih =>
    intro o ho hall i hi
    obtain ⟨e, he, hb, hlt, hor⟩ := h3 j o (by simpa using ho) i hi
    have hfe := hall e he hb
    rcases hor with rfl | hor
    · exact hfe
    · have hlo : e.on < ops.size := Nat.lt_trans hlt (Array.getElem?_eq_some_iff.1 ho).1
      have hoe : ops[e.on]? = some ops[e.on] := Array.getElem?_eq_getElem hlo
      exact ih e.on hlt ops[e.on] hoe (fun e' he' hb' => hc e.on _ hfe hoe e' he' hb') i hor

end

end Go.Pev
