/- A query's reading goes by what stands ahead: more tokens behind, more depth. Plain lists, no program. -/
import Derived.Test.YtjpogmomgmjmbaaN4
/-! A query's reading goes by what stands ahead: more tokens behind, more depth. Plain lists, no program. -/
namespace Go.Proofs.Ytjpogmomgmjmbaa.ParS
open LexS
set_option linter.unusedVariables false

section
variable {S : List Tk → Prop} {e : Prop} {α β : Type}
theorem choice_lt : ∀ (ws : List Bytes) (i : Nat) (ts : List Tk), 0 < i → (choice ws i ts).1 < i + ws.length
  | [], i, ts, h => by
    unfold choice
    simpa using h
  | w :: l, i, ts, h => by
    unfold choice
    split
    · simp
    · have := choice_lt l (i + 1) ts (by omega)
      simp only [List.length_cons]
      omega
def gnamesM : M (List Bytes) := fun ts2 ns2 => match sees kw_colon ts2 with
  | some _ => .ok ([], ts2, ns2)
  | none => names ts2 ns2
theorem names_nil (ns : List Nd) (r : List Bytes × List Tk × List Nd) : names [] ns ≠ .ok r := fun h => by cases h
theorem rel_gnames : Rel Quits e gnamesM gnamesM := by
  intro ts ns a ts2 ns2 h
  unfold gnamesM at h
  split at h
  · rename_i ts1 hs
    cases h
    refine ⟨Nat.le_refl _, fun us hu ns' => ⟨[], ns', ?_, fun _ y => ⟨rfl, y⟩⟩⟩
    unfold gnamesM
    rw [(sees_more (us := us) hs).1]
  · rename_i hs
    obtain ⟨l1, k1⟩ := rel_names (e := e) _ _ _ _ _ h
    refine ⟨l1, fun us hu ns' => ?_⟩
    unfold gnamesM
    rw [sees_none hs (fun x => by rw [x] at h; exact absurd h (names_nil _ _))]
    exact k1 us hu ns'
/-- What a step reads behind its word. -/
def stepF (inner cond : M Nat) (rows : Nat) : Nat → M Nat
  | 0 => M.bind cond (fun c => lay (node 2 [rows, c]))
  | 1 => M.bind names (fun l => lay { node 3 [rows] with names := l })
  | 2 => M.bind (take 2) (fun t => lay { node 4 [rows] with n := t.n })
  | 3 => M.bind gnamesM (fun l => M.bind (wants kw_colon) fun _ => M.bind aggs fun a => lay { node 5 [rows] with names := l, aggs := a })
  | 4 => M.bind (take 2) (fun t => M.bind (wants kw_by) fun _ => M.bind (take 1) fun u => lay { node 6 [rows] with n := t.n, s := u.s })
  | 5 => M.bind (wants kw_open) (fun _ => M.bind inner fun i => lay (node 7 [rows, i]))
  | 6 => M.bind (wants kw_open) (fun _ => M.bind inner fun i => lay (node 8 [rows, i]))
  | _ => M.fail
theorem step_eq (inner cond : M Nat) (rows : Nat) : stepOf inner cond rows = fun ts ns => match choice kw_steps 1 ts with
    | (0, _) => M.fail ts ns
    | (k + 1, ts1) => stepF inner cond rows k ts1 ns := by
  funext ts ns
  have hl := choice_lt kw_steps 1 ts (by decide)
  unfold stepOf
  rcases hc : choice kw_steps 1 ts with ⟨k, ts1⟩
  rw [hc] at hl
  match k, hl with
  | 0, _ => rfl
  | 1, _ => rfl
  | 2, _ => rfl
  | 3, _ => rfl
  | 4, _ => rfl
  | 5, _ => rfl
  | 6, _ => rfl
  | 7, _ => rfl
  | k + 8, hl =>
    exfalso
    simp [kw_steps] at hl
    omega
theorem rel_aggs : Rel Quits e aggs aggs := rel_many rel_agg
theorem rel_step {inner inner' cond cond' : M Nat} (hi : ∀ {e : Prop}, Rel Quits e inner inner') (hc : ∀ {e : Prop}, Rel Quits e cond cond') {rows rows' : Nat} (hr : e → rows' = rows) :
    Rel Quits e (stepOf inner cond rows) (stepOf inner' cond' rows') := by
  rw [step_eq, step_eq]
  refine rel_choice fail_nil rel_fail fun k => ?_
  match k with
  | 0 => exact rel_bind hc fun a a' => rel_lay fun x => by rw [x.2, hr x.1]
  | 1 => exact rel_bind rel_names fun a a' => rel_lay fun x => by rw [x.2, hr x.1]
  | 2 => exact rel_bind (rel_take 2) fun a a' => rel_lay fun x => by rw [x.2, hr x.1]
  | 3 => exact rel_bind rel_gnames fun a a' => rel_bind (rel_wants _) fun _ _ => rel_bind rel_aggs fun b b' => rel_lay fun x => by rw [x.2, x.1.1.2, hr x.1.1.1]
  | 4 => exact rel_bind (rel_take 2) fun a a' => rel_bind (rel_wants _) fun _ _ => rel_bind (rel_take 1) fun b b' => rel_lay fun x => by rw [x.2, x.1.1.2, hr x.1.1.1]
  | 5 => exact rel_bind (rel_wants _) fun _ _ => rel_bind hi fun b b' => rel_lay fun x => by rw [x.2, hr x.1.1]
  | 6 => exact rel_bind (rel_wants _) fun _ _ => rel_bind hi fun b b' => rel_lay fun x => by rw [x.2, hr x.1.1]
  | k + 7 => exact rel_fail
theorem stepsGo_eq (step : Nat → M Nat) (k a : Nat) : stepsGo step (k + 1) a = fun ts ns => match sees kw_bar ts with | some ts1 => M.bind (step a) (stepsGo step k) ts1 ns | none => M.pure a ts ns := by
  funext ts ns
  rw [stepsGo]
  dsimp only
  rcases sees kw_bar ts with _ | ts1 <;> rfl
theorem rel_stepsGo {step step' : Nat → M Nat} (hs : ∀ {e : Prop} (a a' : Nat), (e → a' = a) → Rel Quits e (step a) (step' a')) : ∀ (k a a' : Nat) {e : Prop}, (e → a' = a) → Rel QuitsQ e (stepsGo step k a) (stepsGo step' k a')
  | 0, a, a', e, h => rel_pure h
  | k + 1, a, a', e, h => by
    rw [stepsGo_eq, stepsGo_eq]
    exact rel_sees (S := QuitsQ) (w := kw_bar) (p := M.bind (step a) (stepsGo step k)) (p' := M.bind (step' a') (stepsGo step' k)) (q := M.pure a) (q' := M.pure a') (fun us hu => hu.2)
      (rel_bind ((hs a a' h).at fun us hu => hu.1) fun b b' => rel_stepsGo hs k b b' fun x => x.2) (rel_pure h)
theorem rel_times : Rel Quits e times times :=
  rel_sees (S := Quits) (w := kw_from) (p := M.bind (take 2) (fun f => M.bind (wants kw_to) fun _ => M.bind (take 2) fun g => M.pure (f.n, g.n)))
    (p' := M.bind (take 2) (fun f => M.bind (wants kw_to) fun _ => M.bind (take 2) fun g => M.pure (f.n, g.n))) (q := M.pure (0, 1099511627775)) (q' := M.pure (0, 1099511627775)) (fun us hu => hu.2.2.2)
    (rel_bind (rel_take 2) fun a a' => rel_bind (rel_wants _) fun _ _ => rel_bind (rel_take 2) fun b b' => rel_pure fun x => by rw [x.2, x.1.1.2]) (rel_pure fun _ => rfl)
theorem rel_queryOf {step step' : Nat → M Nat} (hs : ∀ {e : Prop} (a a' : Nat), (e → a' = a) → Rel Quits e (step a) (step' a')) : Rel QuitsQ e (queryOf step) (queryOf step') :=
  rel_bind (rel_wants _) fun _ _ => rel_bind (rel_take 1) fun t t' => rel_bind (rel_times.at fun us hu => hu.1) fun x x' => rel_bind (rel_lay fun y => by rw [y.2, y.1.2]) fun a a' => rel_stepsGo hs fuel a a' fun y => y.2
theorem rel_inner : ∀ (d c : Nat) {e : Prop}, Rel Quits e (pInner d) (pInner (d + c))
  | 0, c, e => rel_deep
  | d + 1, c, e => by
    rw [Nat.add_right_comm]
    exact rel_shut (rel_queryOf fun a a' h => rel_step (rel_inner d c) (rel_pCond d c) h)
/-- p leaves no more than there was. -/
def Short {α : Type} (p : M α) : Prop := ∀ {ts ts1 : List Tk} {ns ns1 : List Nd} {a : α}, p ts ns = .ok (a, ts1, ns1) → ts1.length ≤ ts.length
theorem Rel.shorter {p q : M α} (h : Rel S True p q) : Short p := fun hp => (h _ _ _ _ _ hp).1
end
end Go.Proofs.Ytjpogmomgmjmbaa.ParS
