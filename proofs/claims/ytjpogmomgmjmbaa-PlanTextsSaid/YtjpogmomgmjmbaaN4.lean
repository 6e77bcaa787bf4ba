/- No more nodes are laid than tokens are read. Plain lists, no program. Reading goes by what stands ahead: more tokens behind, other nodes ahead, more depth change nothing of what was read. Plain lists, no program. The walk of package parse's value. The walks of package parse's joined, both, cond. -/
import Derived.Test.YtjpogmomgmjmbaaN1
import Derived.Test.YtjpogmomgmjmbaaN3
/-! No more nodes are laid than tokens are read. Plain lists, no program. -/
namespace Go.Proofs.Ytjpogmomgmjmbaa.ParS
open LexS
set_option linter.unusedVariables false

def Cost {α : Type} (c l : Nat) (p : M α) : Prop := ∀ ts ns a ts1 ns1, p ts ns = .ok (a, ts1, ns1) → ns1.length + ts1.length + c ≤ ns.length + ts.length + l
theorem Cost.le {α : Type} {c l c' l' : Nat} {p : M α} (h : Cost c l p) (hc : c' + l ≤ c + l') : Cost c' l' p := fun ts ns a ts1 ns1 hp => by
  have := h ts ns a ts1 ns1 hp
  omega
theorem cost_bind {α β : Type} {p : M α} {f : α → M β} {c1 l1 c2 l2 : Nat} (hp : Cost c1 l1 p) (hf : ∀ a, Cost c2 l2 (f a)) : Cost (c1 + c2) (l1 + l2) (M.bind p f) := by
  intro ts ns b ts2 ns2 h
  obtain ⟨a, ts1, ns1, h1, h2⟩ := bind_ok h
  have e1 := hp _ _ _ _ _ h1
  have e2 := hf a _ _ _ _ _ h2
  omega
theorem cost_pure {α : Type} (a : α) : Cost 0 0 (M.pure a) := by
  intro ts ns b ts1 ns1 h
  cases h
  omega
theorem cost_lay (n : Nd) : Cost 0 1 (lay n) := by
  intro ts ns b ts1 ns1 h
  cases h
  simp
  omega
theorem cost_deep {α : Type} (c l : Nat) : Cost c l (M.deep : M α) := by
  intro ts ns b ts1 ns1 h
  cases h
theorem sees_len {w : Bytes} {ts ts1 : List Tk} (h : sees w ts = some ts1) : ts1.length + 1 = ts.length := by
  cases ts with
  | nil => cases h
  | cons t r =>
    rw [sees_cons] at h
    split at h
    · injection h with h
      subst h
      simp
    · cases h
theorem cost_take (k : Nat) : Cost 1 0 (take k) := by
  intro ts ns a ts1 ns1 h
  unfold take at h
  split at h
  · cases h
  · split at h
    · cases h
      simp
      omega
    · cases h
theorem cost_wants (w : Bytes) : Cost 1 0 (wants w) := by
  intro ts ns a ts1 ns1 h
  unfold wants at h
  split at h
  · rename_i ts2 hs
    cases h
    have := sees_len hs
    omega
  · cases h
theorem choice_len : ∀ {l : List Bytes} {i k : Nat} {ts ts1 : List Tk}, choice l i ts = (k, ts1) → ts1.length ≤ ts.length ∧ (k = 0 ∨ ts1.length + 1 = ts.length)
  | [], i, k, ts, ts1, h => by
    cases h
    exact ⟨Nat.le_refl _, .inl rfl⟩
  | w :: l, i, k, ts, ts1, h => by
    unfold choice at h
    split at h
    · rename_i ts2 hs
      cases h
      have := sees_len hs
      exact ⟨by omega, .inr this⟩
    · exact choice_len h
theorem cost_manyGo {α : Type} {f : M α} (hf : Cost 0 0 f) : ∀ (k : Nat) (acc : List α), Cost 0 0 (manyGo f k acc)
  | 0, acc => cost_pure acc
  | k + 1, acc => by
    intro ts ns b ts2 ns2 h
    unfold manyGo at h
    split at h
    · cases h
      omega
    · rename_i ts1 hs
      have e1 := sees_len hs
      have e2 := cost_bind hf (fun a => cost_manyGo hf k (acc ++ [a])) _ _ _ _ _ h
      omega
theorem cost_many {α : Type} {f : M α} (hf : Cost 0 0 f) : Cost 0 0 (many f) := cost_bind hf fun a ts ns b ts1 ns1 h => cost_manyGo hf _ _ _ _ _ _ _ h
theorem cost_name : Cost 0 0 name := (cost_bind (cost_take 1) fun _ => cost_pure _).le (by omega)
theorem cost_names : Cost 0 0 names := cost_many cost_name
theorem cost_agg : Cost 0 0 agg := by
  intro ts ns b ts2 ns2 h
  unfold agg at h
  split at h
  · cases h
  · rename_i ts1 hs
    have := (choice_len hs).1
    cases h
    omega
  · rename_i k ts1 hs
    have e1 := (choice_len hs).1
    have e2 := cost_bind (cost_take 1) (fun _ => cost_pure _) _ _ _ _ _ h
    omega
theorem cost_aggs : Cost 0 0 aggs := cost_many cost_agg
theorem cost_value : Cost 0 0 value := by
  intro ts ns b ts2 ns2 h
  unfold value at h
  split at h
  · rename_i ts1 hs
    have := (choice_len hs).1
    cases h
    omega
  · rename_i ts1 hs
    have := (choice_len hs).1
    cases h
    omega
  · split at h
    · cases h
    · split at h
      · cases h; simp
      · split at h
        · cases h; simp
        · cases h
theorem cost_leaf : Cost 0 0 leaf := by
  intro ts ns a ts2 ns2 h
  obtain ⟨t, ts1, ns1, h1, h2⟩ := bind_ok h
  have e1 := cost_take 1 _ _ _ _ _ h1
  split at h2
  · rename_i ts3 hs
    have e2 := sees_len hs
    have e3 := cost_bind (cost_take 3) (fun u => cost_lay _) _ _ _ _ _ h2
    omega
  · split at h2
    · cases h2
    · rename_i k ts3 hs
      have e2 := (choice_len hs).1
      have e3 := cost_bind cost_value (fun u => cost_lay _) _ _ _ _ _ h2
      omega
theorem cost_joinedGo {w : Bytes} {kind : Nat} {read : M Nat} (hr : Cost 0 0 read) : ∀ (k a : Nat), Cost 0 0 (joinedGo w kind read k a)
  | 0, a => cost_pure a
  | k + 1, a => by
    intro ts ns b ts2 ns2 h
    unfold joinedGo at h
    split at h
    · cases h
      omega
    · rename_i ts1 hs
      have e1 := sees_len hs
      have e2 := cost_bind hr (fun b => cost_bind (cost_lay (node kind [a, b])) (cost_joinedGo hr k)) _ _ _ _ _ h
      omega
theorem cost_joined {w : Bytes} {kind : Nat} {read : M Nat} (hr : Cost 0 0 read) : Cost 0 0 (joined w kind read) := cost_bind hr fun a ts ns b ts1 ns1 h => cost_joinedGo hr _ _ _ _ _ _ _ h
theorem cost_both {n : M Nat} (h : Cost 0 0 n) : Cost 0 0 (bothOf n) := cost_joined h
theorem cost_cond {n : M Nat} (h : Cost 0 0 n) : Cost 0 0 (condOf n) := cost_joined (cost_joined h)
theorem cost_shut {n : M Nat} (h : Cost 0 0 n) : Cost 0 0 (shut n) := (cost_bind h fun _ => cost_bind (cost_wants _) fun _ => cost_pure _).le (by omega)
theorem cost_notOf {p q : M Nat} (hp : Cost 0 0 p) (hq : Cost 0 0 q) : Cost 0 0 (notOf p q) := by
  intro ts ns a ts2 ns2 h
  unfold notOf at h
  split at h
  · rename_i ts1 hs
    have e1 := sees_len hs
    have e2 := cost_bind hp (fun a => cost_lay (node 13 [a])) _ _ _ _ _ h
    omega
  · split at h
    · rename_i ts1 hs
      have e1 := sees_len hs
      have e2 := hq _ _ _ _ _ h
      omega
    · exact cost_leaf _ _ _ _ _ h
theorem cost_not (d : Nat) : Cost 0 0 (pNot d) := by
  induction d with
  | zero => exact cost_notOf (cost_deep _ _) (cost_deep _ _)
  | succ d ih => exact cost_notOf ih (cost_shut (cost_cond ih))
theorem cost_pCond (d : Nat) : Cost 0 0 (pCond d) := cost_cond (cost_not d)
theorem cost_step {inner cond : M Nat} (hi : Cost 0 0 inner) (hc : Cost 0 0 cond) (rows : Nat) : Cost 0 0 (stepOf inner cond rows) := by
  intro ts ns a ts2 ns2 h
  unfold stepOf at h
  split at h
  · rename_i ts1 hs
    have e1 := (choice_len hs).2
    have e2 := cost_bind hc (fun c => cost_lay (node 2 [rows, c])) _ _ _ _ _ h
    omega
  · rename_i ts1 hs
    have e1 := (choice_len hs).2
    have e2 := cost_bind cost_names (fun l => cost_lay _) _ _ _ _ _ h
    omega
  · rename_i ts1 hs
    have e1 := (choice_len hs).2
    have e2 := cost_bind (cost_take 2) (fun l => cost_lay _) _ _ _ _ _ h
    omega
  · rename_i ts1 hs
    have e1 := (choice_len hs).2
    obtain ⟨c, ts3, ns3, h3, h4⟩ := bind_ok h
    have e3 : ns3.length + ts3.length ≤ ns.length + ts1.length := by
      split at h3
      · cases h3; omega
      · have := cost_names _ _ _ _ _ h3
        omega
    have e2 := cost_bind (cost_wants kw_colon) (fun _ => cost_bind cost_aggs fun a => cost_lay _) _ _ _ _ _ h4
    omega
  · rename_i ts1 hs
    have e1 := (choice_len hs).2
    have e2 := cost_bind (cost_take 2) (fun t => cost_bind (cost_wants kw_by) fun _ => cost_bind (cost_take 1) fun u => cost_lay _) _ _ _ _ _ h
    omega
  · rename_i ts1 hs
    have e1 := (choice_len hs).2
    have e2 := cost_bind (cost_wants kw_open) (fun _ => cost_bind hi fun i => cost_lay (node 7 [rows, i])) _ _ _ _ _ h
    omega
  · rename_i ts1 hs
    have e1 := (choice_len hs).2
    have e2 := cost_bind (cost_wants kw_open) (fun _ => cost_bind hi fun i => cost_lay (node 8 [rows, i])) _ _ _ _ _ h
    omega
  · cases h
theorem cost_stepsGo {step : Nat → M Nat} (hs : ∀ a, Cost 0 0 (step a)) : ∀ (k a : Nat), Cost 0 0 (stepsGo step k a)
  | 0, a => cost_pure a
  | k + 1, a => by
    intro ts ns b ts2 ns2 h
    unfold stepsGo at h
    split at h
    · cases h
      omega
    · rename_i ts1 he
      have e1 := sees_len he
      have e2 := cost_bind (hs a) (fun b => cost_stepsGo hs k b) _ _ _ _ _ h
      omega
theorem cost_times : Cost 0 0 times := by
  intro ts ns a ts2 ns2 h
  unfold times at h
  split at h
  · rename_i ts1 hs
    have e1 := sees_len hs
    have e2 := cost_bind (cost_take 2) (fun f => cost_bind (cost_wants kw_to) fun _ => cost_bind (cost_take 2) fun g => cost_pure (f.n, g.n)) _ _ _ _ _ h
    omega
  · cases h
    omega
theorem cost_queryOf {step : Nat → M Nat} (hs : ∀ a, Cost 0 0 (step a)) : Cost 0 0 (queryOf step) :=
  (cost_bind (cost_wants kw_fetch) fun _ => cost_bind (cost_take 1) fun t => cost_bind cost_times fun x => cost_bind (cost_lay _) fun a ts ns b ts1 ns1 h => cost_stepsGo hs _ _ _ _ _ _ _ h).le (by omega)
theorem cost_inner (d : Nat) : Cost 0 0 (pInner d) := by
  induction d with
  | zero => exact cost_deep _ _
  | succ d ih => exact cost_shut (cost_queryOf (cost_step ih (cost_pCond d)))
end Go.Proofs.Ytjpogmomgmjmbaa.ParS

/-! Reading goes by what stands ahead: more tokens behind, other nodes ahead, more depth change nothing of what was read. Plain lists, no program. -/
namespace Go.Proofs.Ytjpogmomgmjmbaa.ParS
open LexS
set_option linter.unusedVariables false

/-- q reads what p reads, whatever us stands behind (which is S, if p read all), whatever nodes were laid; if e, just so. -/
def Rel (S : List Tk → Prop) (e : Prop) {α : Type} (p q : M α) : Prop := ∀ ts ns a ts1 ns1, p ts ns = .ok (a, ts1, ns1) →
  ts1.length ≤ ts.length ∧ ∀ us, (ts1 = [] → S us) → ∀ ns', ∃ a' ns1', q (ts ++ us) ns' = .ok (a', ts1 ++ us, ns1') ∧ (e → ns' = ns → a' = a ∧ ns1' = ns1)
section
variable {S : List Tk → Prop} {e : Prop} {α β : Type}
theorem Rel.ne {p q : M α} (h : Rel S e p q) {e' : Prop} (he : e' → e) : Rel S e' p q := fun ts ns a ts1 ns1 hp =>
  ⟨(h ts ns a ts1 ns1 hp).1, fun us hu ns' => by
    obtain ⟨a', n', h1, h2⟩ := (h ts ns a ts1 ns1 hp).2 us hu ns'
    exact ⟨a', n', h1, fun x => h2 (he x)⟩⟩
theorem Rel.at {p q : M α} (h : Rel S e p q) {S' : List Tk → Prop} (hS : ∀ us, S' us → S us) : Rel S' e p q := fun ts ns a ts1 ns1 hp =>
  ⟨(h ts ns a ts1 ns1 hp).1, fun us hu ns' => (h ts ns a ts1 ns1 hp).2 us (fun x => hS us (hu x)) ns'⟩
theorem rel_bind {p q : M α} {f g : α → M β} (hp : Rel S e p q) (hf : ∀ a a', Rel S (e ∧ a' = a) (f a) (g a')) : Rel S e (M.bind p f) (M.bind q g) := by
  intro ts ns b ts2 ns2 h
  unfold M.bind at h
  split at h
  · cases h
  · rename_i a ts1 ns1 hpa
    obtain ⟨l1, k1⟩ := hp _ _ _ _ _ hpa
    obtain ⟨l2, k2⟩ := hf a a _ _ _ _ _ h
    refine ⟨Nat.le_trans l2 l1, fun us hu ns' => ?_⟩
    obtain ⟨a', n1', h1, e1⟩ := k1 us (fun x => hu (List.eq_nil_of_length_eq_zero (by rw [x] at l2; simpa using l2))) ns'
    obtain ⟨b', n2', h2, e2⟩ := (hf a a' _ _ _ _ _ h).2 us hu n1'
    refine ⟨b', n2', ?_, fun x y => ?_⟩
    · unfold M.bind
      rw [h1]
      exact h2
    · obtain ⟨ea, en⟩ := e1 x y
      exact e2 ⟨x, ea⟩ en
theorem rel_pure {a a' : α} (h : e → a' = a) : Rel S e (M.pure a) (M.pure a') := by
  intro ts ns b ts1 ns1 hp
  cases hp
  exact ⟨Nat.le_refl _, fun us _ ns' => ⟨a', ns', rfl, fun x y => ⟨h x, y⟩⟩⟩
theorem rel_lay {n n' : Nd} (h : e → n' = n) : Rel S e (lay n) (lay n') := by
  intro ts ns b ts1 ns1 hp
  cases hp
  exact ⟨Nat.le_refl _, fun us _ ns' => ⟨_, _, rfl, fun x y => by rw [h x, y]; exact ⟨rfl, rfl⟩⟩⟩
theorem rel_deep {q : M α} : Rel S e M.deep q := by
  intro ts ns b ts1 ns1 hp
  cases hp
theorem sees_more {w : Bytes} {ts ts1 us : List Tk} (h : sees w ts = some ts1) : sees w (ts ++ us) = some (ts1 ++ us) ∧ ts1.length < ts.length := by
  cases ts with
  | nil => cases h
  | cons t r =>
    rw [sees_cons] at h
    split at h
    · rename_i c
      injection h with h
      subst h
      refine ⟨?_, by simp⟩
      rw [List.cons_append, sees_cons, if_pos c]
    · cases h
theorem sees_none {w : Bytes} {ts us : List Tk} (h : sees w ts = none) (hu : ts = [] → sees w us = none) : sees w (ts ++ us) = none := by
  cases ts with
  | nil => exact hu rfl
  | cons t r =>
    rw [sees_cons] at h
    rw [List.cons_append, sees_cons]
    split at h
    · cases h
    · rename_i c
      rw [if_neg c]
theorem choice_more : ∀ {l : List Bytes} {i k : Nat} {ts ts1 : List Tk} (us : List Tk), choice l i ts = (k, ts1) → ts ≠ [] → choice l i (ts ++ us) = (k, ts1 ++ us) ∧ ts1.length ≤ ts.length
  | [], i, k, ts, ts1, us, h, _ => by
    cases h
    exact ⟨rfl, Nat.le_refl _⟩
  | w :: l, i, k, ts, ts1, us, h, hne => by
    unfold choice at h ⊢
    split at h
    · rename_i ts2 hs
      cases h
      rw [(sees_more (us := us) hs).1]
      exact ⟨rfl, Nat.le_of_lt (sees_more (us := us) hs).2⟩
    · rename_i hs
      rw [sees_none hs (fun x => absurd x hne)]
      exact choice_more us h hne
theorem choice_nil (l : List Bytes) : ∀ i, choice l i [] = (0, []) := by
  induction l with
  | nil => intro i; rfl
  | cons w l ih => intro i; exact ih _
theorem rel_take (k : Nat) : Rel S e (take k) (take k) := by
  intro ts ns b ts1 ns1 hp
  cases ts with
  | nil => cases hp
  | cons t r =>
    have ht : ∀ us n', take k ((t :: r) ++ us) n' = if t.kind = k then .ok (t, r ++ us, n') else .error ((r ++ us).length + 1, false) := fun _ _ => rfl
    have hp' : (if t.kind = k then Except.ok (t, r, ns) else Except.error (r.length + 1, false) : Except Er (Tk × List Tk × List Nd)) = .ok (b, ts1, ns1) := hp
    split at hp'
    · rename_i c
      cases hp'
      exact ⟨by simp, fun us _ ns' => ⟨_, ns', by rw [ht, if_pos c], fun _ y => ⟨rfl, y⟩⟩⟩
    · cases hp'
theorem rel_wants (w : Bytes) : Rel S e (wants w) (wants w) := by
  intro ts ns b ts1 ns1 hp
  unfold wants at hp
  split at hp
  · rename_i ts2 hs
    cases hp
    refine ⟨Nat.le_of_lt (sees_more (us := []) hs).2, fun us _ ns' => ⟨(), ns', ?_, fun _ y => ⟨rfl, y⟩⟩⟩
    unfold wants
    rw [(sees_more (us := us) hs).1]
  · cases hp
/-- A word is looked for: it is there, or it is not. -/
theorem rel_sees {w : Bytes} {p p' q q' : M α} (hw : ∀ us, S us → sees w us = none) (h1 : Rel S e p p') (h2 : Rel S e q q') :
    Rel S e (fun ts ns => match sees w ts with | some ts1 => p ts1 ns | none => q ts ns) (fun ts ns => match sees w ts with | some ts1 => p' ts1 ns | none => q' ts ns) := by
  intro ts ns a ts2 ns2 h
  dsimp only at h
  split at h
  · rename_i ts1 hs
    obtain ⟨l1, k1⟩ := h1 _ _ _ _ _ h
    refine ⟨Nat.le_trans l1 (Nat.le_of_lt (sees_more (us := []) hs).2), fun us hu ns' => ?_⟩
    dsimp only
    rw [(sees_more (us := us) hs).1]
    exact k1 us hu ns'
  · rename_i hs
    obtain ⟨l1, k1⟩ := h2 _ _ _ _ _ h
    refine ⟨l1, fun us hu ns' => ?_⟩
    dsimp only
    rw [sees_none hs (fun x => hw us (hu (List.eq_nil_of_length_eq_zero (by rw [x] at l1; simpa using l1))))]
    exact k1 us hu ns'
/-- The same where the other way needs a token. -/
theorem rel_sees' {w : Bytes} {p p' q q' : M α} (hq : ∀ ns r, q [] ns ≠ .ok r) (h1 : Rel S e p p') (h2 : Rel S e q q') :
    Rel S e (fun ts ns => match sees w ts with | some ts1 => p ts1 ns | none => q ts ns) (fun ts ns => match sees w ts with | some ts1 => p' ts1 ns | none => q' ts ns) := by
  intro ts ns a ts2 ns2 h
  dsimp only at h
  split at h
  · rename_i ts1 hs
    obtain ⟨l1, k1⟩ := h1 _ _ _ _ _ h
    refine ⟨Nat.le_trans l1 (Nat.le_of_lt (sees_more (us := []) hs).2), fun us hu ns' => ?_⟩
    dsimp only
    rw [(sees_more (us := us) hs).1]
    exact k1 us hu ns'
  · rename_i hs
    obtain ⟨l1, k1⟩ := h2 _ _ _ _ _ h
    refine ⟨l1, fun us hu ns' => ?_⟩
    dsimp only
    rw [sees_none hs (fun x => by rw [x] at h; exact absurd h (hq _ _))]
    exact k1 us hu ns'
theorem rel_choice {l : List Bytes} {f g : Nat → M α} {z z' : M α} (hz : ∀ ns r, z [] ns ≠ .ok r) (h0 : Rel S e z z') (h1 : ∀ k, Rel S e (f k) (g k)) :
    Rel S e (fun ts ns => match choice l 1 ts with | (0, _) => z ts ns | (k + 1, ts1) => f k ts1 ns) (fun ts ns => match choice l 1 ts with | (0, _) => z' ts ns | (k + 1, ts1) => g k ts1 ns) := by
  intro ts ns a ts2 ns2 h
  dsimp only at h
  have hne : ts ≠ [] := by
    rintro rfl
    rw [choice_nil] at h
    exact hz _ _ h
  split at h
  · rename_i ts1 hs
    obtain ⟨l1, k1⟩ := h0 _ _ _ _ _ h
    refine ⟨l1, fun us hu ns' => ?_⟩
    dsimp only
    rw [(choice_more us hs hne).1]
    exact k1 us hu ns'
  · rename_i k ts1 hs
    obtain ⟨l1, k1⟩ := h1 k _ _ _ _ _ h
    refine ⟨Nat.le_trans l1 (choice_more [] hs hne).2, fun us hu ns' => ?_⟩
    dsimp only
    rw [(choice_more us hs hne).1]
    exact k1 us hu ns'
theorem rel_fail {q : M α} : Rel S e M.fail q := by
  intro ts ns b ts1 ns1 hp
  cases hp
theorem fail_nil (ns : List Nd) (r : α × List Tk × List Nd) : (M.fail : M α) [] ns ≠ .ok r := fun h => by cases h
end

/-- What stands behind goes on with no word that goes on. -/
def Quits (us : List Tk) : Prop := sees kw_comma us = none ∧ sees kw_or us = none ∧ sees kw_and us = none ∧ sees kw_from us = none
def QuitsQ (us : List Tk) : Prop := Quits us ∧ sees kw_bar us = none
section
variable {e : Prop} {α : Type}
theorem rel_manyGo {f : M α} (hf : ∀ {e : Prop}, Rel Quits e f f) : ∀ (k : Nat) (acc acc' : List α) {e : Prop}, (e → acc' = acc) → Rel Quits e (manyGo f k acc) (manyGo f k acc')
  | 0, acc, acc', e, h => rel_pure h
  | k + 1, acc, acc', e, h => by
    have h1 := rel_sees (S := Quits) (e := e) (w := kw_comma) (p := M.bind f (fun a => manyGo f k (acc ++ [a]))) (p' := M.bind f (fun a => manyGo f k (acc' ++ [a]))) (q := M.pure acc) (q' := M.pure acc') (fun us hu => hu.1)
      (rel_bind hf fun a a' => rel_manyGo hf k _ _ (fun x => by rw [h x.1, x.2])) (rel_pure h)
    intro ts ns b ts1 ns1 hp
    have := h1 ts ns b ts1 ns1 (by
      rw [manyGo] at hp
      revert hp
      dsimp only
      cases sees kw_comma ts <;> exact fun x => x)
    refine ⟨this.1, fun us hu ns' => ?_⟩
    obtain ⟨a', n', h2, h3⟩ := this.2 us hu ns'
    refine ⟨a', n', ?_, h3⟩
    rw [← h2, manyGo]
    dsimp only
    cases sees kw_comma (ts ++ us) <;> rfl
theorem rel_many {f : M α} (hf : ∀ {e : Prop}, Rel Quits e f f) : Rel Quits e (many f) (many f) := rel_bind hf fun a a' => rel_manyGo hf fuel [a] [a'] (fun x => by rw [x.2])
theorem rel_name : Rel Quits e name name := rel_bind (rel_take 1) fun a a' => rel_pure fun x => by rw [x.2]
theorem rel_names : Rel Quits e names names := rel_many rel_name
def aggF : Nat → M (Nat × Bytes)
  | 0 => M.pure (1, [])
  | k + 1 => M.bind (take 1) (fun t => M.pure (k + 2, t.s))
theorem rel_agg : Rel Quits e agg agg := by
  have h1 := rel_choice (S := Quits) (e := e) (l := kw_aggs) (f := aggF) (g := aggF) (z := M.fail) (z' := M.fail) fail_nil rel_fail (fun k => by
      cases k with
      | zero => exact rel_pure fun _ => rfl
      | succ k => exact rel_bind (rel_take 1) fun a a' => rel_pure fun x => by rw [x.2])
  have e1 : agg = fun ts ns => match choice kw_aggs 1 ts with | (0, _) => M.fail ts ns | (k + 1, ts1) => aggF k ts1 ns := by
    funext ts ns
    unfold agg
    rcases choice kw_aggs 1 ts with ⟨_ | _ | k, ts1⟩ <;> rfl
  rw [e1]
  exact h1
def valueT : M Val := fun ts ns => match ts with
  | [] => .error (0, false)
  | t :: ts1 => if t.kind = 2 then .ok (⟨1, t.n, []⟩, ts1, ns) else if t.kind = 3 then .ok (⟨2, 0, t.s⟩, ts1, ns) else .error (ts1.length + 1, false)
theorem value_eq (ts : List Tk) (ns : List Nd) : value ts ns = match choice kw_bools 1 ts with
  | (1, ts1) => .ok (⟨3, 0, []⟩, ts1, ns)
  | (2, ts1) => .ok (⟨3, 1, []⟩, ts1, ns)
  | _ => valueT ts ns := rfl
theorem rel_valueT : Rel Quits e valueT valueT := by
  intro ts ns b ts1 ns1 hp
  cases ts with
  | nil => cases hp
  | cons t r =>
    have ht : ∀ us n', valueT ((t :: r) ++ us) n' = if t.kind = 2 then .ok (⟨1, t.n, []⟩, r ++ us, n') else if t.kind = 3 then .ok (⟨2, 0, t.s⟩, r ++ us, n') else .error ((r ++ us).length + 1, false) := fun _ _ => rfl
    have hp' : (if t.kind = 2 then .ok (⟨1, t.n, []⟩, r, ns) else if t.kind = 3 then .ok (⟨2, 0, t.s⟩, r, ns) else .error (r.length + 1, false) : Except Er (Val × List Tk × List Nd)) = .ok (b, ts1, ns1) := hp
    split at hp'
    · rename_i c
      cases hp'
      exact ⟨by simp, fun us _ ns' => ⟨_, ns', by rw [ht, if_pos c], fun _ y => ⟨rfl, y⟩⟩⟩
    · rename_i c
      split at hp'
      · rename_i c2
        cases hp'
        exact ⟨by simp, fun us _ ns' => ⟨_, ns', by rw [ht, if_neg c, if_pos c2], fun _ y => ⟨rfl, y⟩⟩⟩
      · cases hp'
theorem rel_value : Rel Quits e value value := by
  intro ts ns b ts1 ns1 hp
  have hne : ts ≠ [] := by
    rintro rfl
    rw [value_eq, choice_nil] at hp
    cases hp
  rcases hc : choice kw_bools 1 ts with ⟨k, t3⟩
  rw [value_eq, hc] at hp
  have hm := fun us => (choice_more us hc hne).1
  have hl := (choice_more [] hc hne).2
  have tail : valueT ts ns = .ok (b, ts1, ns1) → (∀ us n', value (ts ++ us) n' = valueT (ts ++ us) n') → ts1.length ≤ ts.length ∧ ∀ us, (ts1 = [] → Quits us) → ∀ ns', ∃ a' ns1', value (ts ++ us) ns' = .ok (a', ts1 ++ us, ns1') ∧ (e → ns' = ns → a' = b ∧ ns1' = ns1) := by
    intro h1 h2
    have := rel_valueT (e := e) ts ns b ts1 ns1 h1
    exact ⟨this.1, fun us hu ns' => by rw [h2]; exact this.2 us hu ns'⟩
  match k, hc, hp, hm with
  | 0, hc, hp, hm => exact tail hp fun us n' => by rw [value_eq, hm us]; rfl
  | 1, hc, hp, hm =>
    cases hp
    exact ⟨hl, fun us _ ns' => ⟨_, ns', by rw [value_eq, hm us]; rfl, fun _ y => ⟨rfl, y⟩⟩⟩
  | 2, hc, hp, hm =>
    cases hp
    exact ⟨hl, fun us _ ns' => ⟨_, ns', by rw [value_eq, hm us]; rfl, fun _ y => ⟨rfl, y⟩⟩⟩
  | k + 3, hc, hp, hm => exact tail hp fun us n' => by rw [value_eq, hm us]; rfl
theorem rel_leaf : Rel Quits e leaf leaf := by
  refine rel_bind (rel_take 1) fun t t' => ?_
  have h1 : Rel Quits (e ∧ t' = t) (fun ts ns => match choice kw_signs 1 ts with
    | (0, _) => M.fail ts ns
    | (k + 1, ts1) => M.bind value (fun v => lay { node 14 [] with s := t.s, n := ((k + 1 : Nat) : Int), v := v }) ts1 ns) (fun ts ns => match choice kw_signs 1 ts with
    | (0, _) => M.fail ts ns
    | (k + 1, ts1) => M.bind value (fun v => lay { node 14 [] with s := t'.s, n := ((k + 1 : Nat) : Int), v := v }) ts1 ns) :=
    rel_choice (f := fun k => M.bind value (fun v => lay { node 14 [] with s := t.s, n := ((k + 1 : Nat) : Int), v := v })) (g := fun k => M.bind value (fun v => lay { node 14 [] with s := t'.s, n := ((k + 1 : Nat) : Int), v := v })) fail_nil rel_fail
      (fun k => rel_bind rel_value fun v v' => rel_lay fun x => by rw [x.1.2, x.2])
  exact rel_sees' (w := kw_has) (p := M.bind (take 3) (fun u => lay { node 15 [] with s := t.s, v := ⟨2, 0, u.s⟩ })) (p' := M.bind (take 3) (fun u => lay { node 15 [] with s := t'.s, v := ⟨2, 0, u.s⟩ }))
    (fun ns r h => by
      dsimp only at h
      rw [choice_nil] at h
      cases h) (rel_bind (rel_take 3) fun u u' => rel_lay fun x => by rw [x.1.2, x.2]) h1
theorem rel_joinedGo {w : Bytes} {kind : Nat} {p q : M Nat} (hw : w = kw_or ∨ w = kw_and) (h : ∀ {e : Prop}, Rel Quits e p q) : ∀ (k a a' : Nat) {e : Prop}, (e → a' = a) → Rel Quits e (joinedGo w kind p k a) (joinedGo w kind q k a')
  | 0, a, a', e, hh => rel_pure hh
  | k + 1, a, a', e, hh => by
    have h1 := rel_sees (S := Quits) (e := e) (w := w) (p := M.bind p (fun b => M.bind (lay (node kind [a, b])) (joinedGo w kind p k))) (p' := M.bind q (fun b => M.bind (lay (node kind [a', b])) (joinedGo w kind q k))) (q := M.pure a) (q' := M.pure a')
      (fun us hu => (by rcases hw with rfl | rfl; exact hu.2.1; exact hu.2.2.1))
      (rel_bind h fun b b' => rel_bind (rel_lay fun x => by rw [hh x.1, x.2]) fun c c' => rel_joinedGo hw h k _ _ (fun x => x.2)) (rel_pure hh)
    intro ts ns b ts1 ns1 hp
    have := h1 ts ns b ts1 ns1 (by
      rw [joinedGo] at hp
      revert hp
      dsimp only
      cases sees w ts <;> exact fun x => x)
    refine ⟨this.1, fun us hu ns' => ?_⟩
    obtain ⟨a', n', h2, h3⟩ := this.2 us hu ns'
    refine ⟨a', n', ?_, h3⟩
    rw [← h2, joinedGo]
    dsimp only
    cases sees w (ts ++ us) <;> rfl
theorem rel_joined {w : Bytes} {kind : Nat} {p q : M Nat} (hw : w = kw_or ∨ w = kw_and) (h : ∀ {e : Prop}, Rel Quits e p q) : Rel Quits e (joined w kind p) (joined w kind q) :=
  rel_bind h fun a a' => rel_joinedGo hw h fuel a a' fun x => x.2
theorem rel_cond {p q : M Nat} (h : ∀ {e : Prop}, Rel Quits e p q) : Rel Quits e (condOf p) (condOf q) := rel_joined (.inl rfl) (rel_joined (.inr rfl) h)
theorem rel_shut {S : List Tk → Prop} {p q : M Nat} (h : Rel S e p q) : Rel Quits e (shut p) (shut q) := by
  intro ts ns b ts2 ns2 hp
  rcases hpa : p ts ns with er | ⟨a, ts1, ns1⟩
  · unfold shut M.bind at hp
    rw [hpa] at hp
    cases hp
  · obtain ⟨l1, k1⟩ := h _ _ _ _ _ hpa
    rcases hw : wants kw_shut ts1 ns1 with er | ⟨u, ts3, ns3⟩
    · unfold shut M.bind at hp
      rw [hpa] at hp
      dsimp only at hp
      rw [hw] at hp
      cases hp
    · unfold shut M.bind at hp
      rw [hpa] at hp
      dsimp only at hp
      rw [hw] at hp
      cases hp
      have hne : ts1 ≠ [] := by
        rintro rfl
        cases hw
      obtain ⟨l3, k3⟩ := rel_wants (S := Quits) (e := True) kw_shut _ _ _ _ _ hw
      refine ⟨Nat.le_trans l3 l1, fun us hu ns' => ?_⟩
      obtain ⟨a', n1', h1, e1⟩ := k1 us (fun x => absurd x hne) ns'
      obtain ⟨_, n3', h3, e3⟩ := k3 us hu n1'
      refine ⟨a', n3', ?_, fun x y => ⟨(e1 x y).1, (e3 trivial (e1 x y).2).2⟩⟩
      unfold shut M.bind
      rw [h1]
      dsimp only
      rw [h3]
      rfl
theorem rel_notOf {p p' q q' : M Nat} (h1 : Rel Quits e p p') (h2 : Rel Quits e q q') : Rel Quits e (notOf p q) (notOf p' q') :=
  rel_sees' (w := kw_not) (p := M.bind p (fun a => lay (node 13 [a]))) (p' := M.bind p' (fun a => lay (node 13 [a])))
    (q := fun ts ns => match sees kw_open ts with | some ts1 => q ts1 ns | none => leaf ts ns) (q' := fun ts ns => match sees kw_open ts with | some ts1 => q' ts1 ns | none => leaf ts ns) (fun ns r h => by cases h)
    (rel_bind h1 fun a a' => rel_lay fun x => by rw [x.2]) (rel_sees' (w := kw_open) (fun ns r h => by cases h) h2 rel_leaf)
/-- With as much depth, or more. -/
theorem rel_not : ∀ (d c : Nat) {e : Prop}, Rel Quits e (pNot d) (pNot (d + c))
  | 0, c, e => by
    rw [Nat.zero_add]
    cases c with
    | zero => exact rel_notOf rel_deep rel_deep
    | succ c => exact rel_notOf rel_deep rel_deep
  | d + 1, c, e => by
    rw [Nat.add_right_comm]
    exact rel_notOf (rel_not d c) (rel_shut (rel_cond (rel_not d c)))
theorem rel_pCond (d c : Nat) : Rel Quits e (pCond d) (pCond (d + c)) := rel_cond (rel_not d c)
end
end Go.Proofs.Ytjpogmomgmjmbaa.ParS

/-! The walk of package parse's value. -/
namespace Go.Proofs.Ytjpogmomgmjmbaa
open Go.RowKit LexS ParS BigFrame
set_option maxHeartbeats 4000000
set_option linter.unusedVariables false
set_option linter.unusedSimpArgs false
attribute [local go_sem] field_tok1 field_tok2
attribute [local go_sem] World.cell?_alloc_some cell_drewN_new free_drewN_new cell_drew_new free_drew_new

/-- A value, as cells. -/
abbrev valA (v : Val) : Array Value := #[.int .i64 (v.kind : Int), .int .i64 v.n, .string (BA v.s), .int .i64 0, .int .i64 0, .int .i64 0, .int .i64 0, .int .i64 0, .int .i64 0, .int .i64 0, .int .i64 0]
abbrev zeroVal : Array Value := #[.int .i64 0, .int .i64 0, .string ⟨#[]⟩, .int .i64 0, .int .i64 0, .int .i64 0, .int .i64 0, .int .i64 0, .int .i64 0, .int .i64 0, .int .i64 0]
theorem take_ok {k : Nat} {t : Tk} {ts1 : List Tk} {ns : List Nd} (h : t.kind = k) : take k (t :: ts1) ns = .ok (t, ts1, ns) := by
  have e : take k (t :: ts1) ns = if t.kind = k then .ok (t, ts1, ns) else .error (ts1.length + 1, false) := rfl
  rw [e, if_pos h]
theorem take_bad {k : Nat} {ts : List Tk} {ns : List Nd} (h : ∀ t ts1, ts = t :: ts1 → t.kind ≠ k) : take k ts ns = .error (ts.length, false) := by
  cases ts with
  | nil => rfl
  | cons t ts1 =>
    have e : take k (t :: ts1) ns = if t.kind = k then .ok (t, ts1, ns) else .error (ts1.length + 1, false) := rfl
    rw [e, if_neg (h t ts1 rfl)]
    rfl
def putVal (w : World) (b : Nat) (v : Val) : World := ((((((((((w.setCell ⟨b, 0, none⟩ (.int .i64 (v.kind : Int))).setCell ⟨b, 1, none⟩ (.int .i64 v.n)).setCell ⟨b, 2, none⟩ (.string (BA v.s))).setCell ⟨b, 3, none⟩ (.int .i64 0)).setCell ⟨b, 4, none⟩ (.int .i64 0)).setCell ⟨b, 5, none⟩ (.int .i64 0)).setCell ⟨b, 6, none⟩ (.int .i64 0)).setCell ⟨b, 7, none⟩ (.int .i64 0)).setCell ⟨b, 8, none⟩ (.int .i64 0)).setCell ⟨b, 9, none⟩ (.int .i64 0)).setCell ⟨b, 10, none⟩ (.int .i64 0)
theorem putVal_blk {w : World} {b : Nat} {v : Val} {c0 c1 c2 c3 c4 c5 c6 c7 c8 c9 c10 : Value} (h : Blk w b 38 #[c0, c1, c2, c3, c4, c5, c6, c7, c8, c9, c10]) : Blk (putVal w b v) b 38 (valA v) := by
  replace h := h.put 0 (.int .i64 (v.kind : Int))
  simp only [List.setIfInBounds_toArray, List.set_cons_zero, List.set_cons_succ] at h
  replace h := h.put 1 (.int .i64 v.n)
  simp only [List.setIfInBounds_toArray, List.set_cons_zero, List.set_cons_succ] at h
  replace h := h.put 2 (.string (BA v.s))
  simp only [List.setIfInBounds_toArray, List.set_cons_zero, List.set_cons_succ] at h
  replace h := h.put 3 (.int .i64 0)
  simp only [List.setIfInBounds_toArray, List.set_cons_zero, List.set_cons_succ] at h
  replace h := h.put 4 (.int .i64 0)
  simp only [List.setIfInBounds_toArray, List.set_cons_zero, List.set_cons_succ] at h
  replace h := h.put 5 (.int .i64 0)
  simp only [List.setIfInBounds_toArray, List.set_cons_zero, List.set_cons_succ] at h
  replace h := h.put 6 (.int .i64 0)
  simp only [List.setIfInBounds_toArray, List.set_cons_zero, List.set_cons_succ] at h
  replace h := h.put 7 (.int .i64 0)
  simp only [List.setIfInBounds_toArray, List.set_cons_zero, List.set_cons_succ] at h
  replace h := h.put 8 (.int .i64 0)
  simp only [List.setIfInBounds_toArray, List.set_cons_zero, List.set_cons_succ] at h
  replace h := h.put 9 (.int .i64 0)
  simp only [List.setIfInBounds_toArray, List.set_cons_zero, List.set_cons_succ] at h
  replace h := h.put 10 (.int .i64 0)
  simp only [List.setIfInBounds_toArray, List.set_cons_zero, List.set_cons_succ] at h
  exact h
theorem putVal_far {w : World} {b g : Nat} {v : Val} {t : TypeId} {cs : Array Value} (h : Blk w g t cs) (hg : g ≠ b) : Blk (putVal w b v) g t cs :=
  ((((((((((h.far hg _).far hg _).far hg _).far hg _).far hg _).far hg _).far hg _).far hg _).far hg _).far hg _).far hg _
theorem putVal_mv {w W : World} {r b : Nat} {v : Val} (h : Mv r W w) (hb : W.heap.size ≤ b) : Mv r W (putVal w b v) :=
  ((((((((((h.far hb _ _).far hb _ _).far hb _ _).far hb _ _).far hb _ _).far hb _ _).far hb _ _).far hb _ _).far hb _ _).far hb _ _).far hb _ _
section
variable {base r deep : Nat} {tv nv nv' : Value} {T : List Tok} {ts ts1 : List Tk} {ns : List Nd} {W W' : World}
theorem valA_read {f : Func} {q g : Nat} {tmps : Array Value} {w : World} (hf : f.results = #[.cell q 38]) (ht : tmps[q]?.getD undef = .pointer (some ⟨g, 0, none⟩)) (v : Val) (h : Blk w g 38 (valA v)) : (results f tmps).run Try.prog w = .ok (.agg (valA v)) w := by
  have h0 := h.cell 0
  have h1 := h.cell 1
  have h2 := h.cell 2
  have h3 := h.cell 3
  have h4 := h.cell 4
  have h5 := h.cell 5
  have h6 := h.cell 6
  have h7 := h.cell 7
  have h8 := h.cell 8
  have h9 := h.cell 9
  have h10 := h.cell 10
  simp [results, hf, go_sem, ht, h0, h1, h2, h3, h4, h5, h6, h7, h8, h9, h10]
end
end Go.Proofs.Ytjpogmomgmjmbaa

/-! The walks of package parse's joined, both, cond. -/
namespace Go.Proofs.Ytjpogmomgmjmbaa
open Go.RowKit LexS ParS BigFrame
set_option maxHeartbeats 4000000
set_option linter.unusedVariables false
set_option linter.unusedSimpArgs false
attribute [local go_sem] field_tok1 field_tok2
attribute [local go_sem] World.cell?_alloc_some cell_drewN_new free_drewN_new cell_drew_new free_drew_new

/-- p lays no more than it reads, and goes by what stands ahead. -/
def Nice (p : M Nat) : Prop := Cost 0 0 p ∧ ∀ {e : Prop}, Rel Quits e p p
theorem Nice.short {p : M Nat} (h : Nice p) {ts ts1 : List Tk} {ns ns1 : List Nd} {a : Nat} (hp : p ts ns = .ok (a, ts1, ns1)) : ts1.length ≤ ts.length := ((h.2 (e := True)) _ _ _ _ _ hp).1
theorem nice_both {n : M Nat} (h : Nice n) : Nice (bothOf n) := ⟨cost_both h.1, rel_joined (.inr rfl) h.2⟩
theorem nice_cond {n : M Nat} (h : Nice n) : Nice (condOf n) := ⟨cost_cond h.1, rel_cond h.2⟩
theorem nice_not (d : Nat) : Nice (pNot d) := ⟨cost_not d, rel_not d 0⟩
theorem own_blk {W : World} {base g n : Nat} {e : TypeId} {cs : List Value} (h : Blk W g e cs.toArray) (hb : base ≤ g) (hn : cs.length = n) (hm : n ≤ 1000) : W.ownsRow base e 1 (.slice (some ⟨g, 0, none⟩) n n) n cs := by
  refine ⟨by omega, .inr ⟨g, n, cs.toArray, rfl, hb, h, Nat.le_refl _, by unfold maxLen; omega, by simp [hn], ?_⟩⟩
  simp [← hn]
/-- A node that names others. -/
def ndM (kind : Nat) (l : List Nat) (g : Nat) : NodeM := ⟨node kind l, .slice (some ⟨g, 0, none⟩) l.length l.length, .slice none 0 0, .slice none 0 0⟩
theorem nil_row {W : World} {base size : Nat} {e : TypeId} : W.ownsRow base e size (.slice none 0 0) 0 [] := World.ownsRow_nil W base e size
theorem ndM_ok {W : World} {base kind g : Nat} {l : List Nat} (h : Blk W g 3 (intsL l).toArray) (hb : base ≤ g) (hl : l.length ≤ 1000) : MOk W base (ndM kind l g) :=
  ⟨own_blk h hb (by simp [intsL, ndM, node]) hl, nil_row, nil_row⟩
section
variable {w : Bytes} {kind : Nat} {read : M Nat} {f a b : Nat} {ts ts1 ts2 : List Tk} {ns ns1 ns2 : List Nd} {er : Er}
theorem joinedGo_none (h : sees w ts = none) : joinedGo w kind read (f + 1) a ts ns = .ok (a, ts, ns) := by
  unfold joinedGo
  rw [h]
theorem joinedGo_some (h : sees w ts = some ts1) (hr : read ts1 ns = .ok (b, ts2, ns2)) : joinedGo w kind read (f + 1) a ts ns = joinedGo w kind read f ns2.length ts2 (ns2 ++ [node kind [a, b]]) := by
  rw [joinedGo]
  dsimp only
  rw [h]
  unfold M.bind lay
  dsimp only
  rw [hr]
theorem joinedGo_bad (h : sees w ts = some ts1) (hr : read ts1 ns = .error er) : joinedGo w kind read (f + 1) a ts ns = .error er := by
  rw [joinedGo]
  dsimp only
  rw [h]
  unfold M.bind
  dsimp only
  rw [hr]
end
section
variable {base r deep : Nat} {tv nv nv' : Value} {T : List Tok} {ts ts1 : List Tk} {ns : List Nd} {W W' : World}
end
end Go.Proofs.Ytjpogmomgmjmbaa
