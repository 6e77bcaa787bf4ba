/- No more nodes are laid than tokens are read. Plain lists, no program. -/
import Derived.Test.YtlonkcmkgmbkcaaDoorParT
namespace Go.Proofs.YtlonkcmkgmbkcaaDoor.ParS
open LexS
set_option linter.unusedVariables false

def Cost {α : Type} (c l : Nat) (p : M α) : Prop := ∀ ts ns a ts1 ns1, p ts ns = .ok (a, ts1, ns1) → ns1.length + ts1.length + c ≤ ns.length + ts.length + l
theorem Cost.le {α : Type} {c l c' l' : Nat} {p : M α} (h : Cost c l p) (hc : c' + l ≤ c + l') : Cost c' l' p := fun ts ns a ts1 ns1 hp => by
  have := h ts ns a ts1 ns1 hp
  omega
theorem cost_bind {α β : Type} {p : M α} {f : α → M β} {c1 l1 c2 l2 : Nat} (hp : Cost c1 l1 p) (hf : ∀ a, Cost c2 l2 (f a)) : Cost (c1 + c2) (l1 + l2) (M.bind p f) := by
  intro ts ns b ts2 ns2 h
  obtain ⟨a, ts1, ns1, h1, h2⟩ := bind_ok h
  have e1 := hp _ _ _ _ _ h1
  have e2 := hf a _ _ _ _ _ h2
  omega
theorem cost_pure {α : Type} (a : α) : Cost 0 0 (M.pure a) := by
  intro ts ns b ts1 ns1 h
  cases h
  omega
theorem cost_lay (n : Nd) : Cost 0 1 (lay n) := by
  intro ts ns b ts1 ns1 h
  cases h
  simp
  omega
theorem cost_deep {α : Type} (c l : Nat) : Cost c l (M.deep : M α) := by
  intro ts ns b ts1 ns1 h
  cases h
theorem sees_len {w : Bytes} {ts ts1 : List Tk} (h : sees w ts = some ts1) : ts1.length + 1 = ts.length := by
  cases ts with
  | nil => cases h
  | cons t r =>
    rw [sees_cons] at h
    split at h
    · injection h with h
      subst h
      simp
    · cases h
theorem cost_take (k : Nat) : Cost 1 0 (take k) := by
  intro ts ns a ts1 ns1 h
  unfold take at h
  split at h
  · cases h
  · split at h
    · cases h
      simp
      omega
    · cases h
theorem cost_wants (w : Bytes) : Cost 1 0 (wants w) := by
  intro ts ns a ts1 ns1 h
  unfold wants at h
  split at h
  · rename_i ts2 hs
    cases h
    have := sees_len hs
    omega
  · cases h
theorem choice_len : ∀ {l : List Bytes} {i k : Nat} {ts ts1 : List Tk}, choice l i ts = (k, ts1) → ts1.length ≤ ts.length ∧ (k = 0 ∨ ts1.length + 1 = ts.length)
  | [], i, k, ts, ts1, h => by
    cases h
    exact ⟨Nat.le_refl _, .inl rfl⟩
  | w :: l, i, k, ts, ts1, h => by
    unfold choice at h
    split at h
    · rename_i ts2 hs
      cases h
      have := sees_len hs
      exact ⟨by omega, .inr this⟩
    · exact choice_len h
theorem cost_manyGo {α : Type} {f : M α} (hf : Cost 0 0 f) : ∀ (k : Nat) (acc : List α), Cost 0 0 (manyGo f k acc)
  | 0, acc => cost_pure acc
  | k + 1, acc => by
    intro ts ns b ts2 ns2 h
    unfold manyGo at h
    split at h
    · cases h
      omega
    · rename_i ts1 hs
      have e1 := sees_len hs
      have e2 := cost_bind hf (fun a => cost_manyGo hf k (acc ++ [a])) _ _ _ _ _ h
      omega
theorem cost_many {α : Type} {f : M α} (hf : Cost 0 0 f) : Cost 0 0 (many f) := cost_bind hf fun a ts ns b ts1 ns1 h => cost_manyGo hf _ _ _ _ _ _ _ h
theorem cost_name : Cost 0 0 name := (cost_bind (cost_take 1) fun _ => cost_pure _).le (by omega)
theorem cost_names : Cost 0 0 names := cost_many cost_name
theorem cost_agg : Cost 0 0 agg := by
  intro ts ns b ts2 ns2 h
  unfold agg at h
  split at h
  · cases h
  · rename_i ts1 hs
    have := (choice_len hs).1
    cases h
    omega
  · rename_i k ts1 hs
    have e1 := (choice_len hs).1
    have e2 := cost_bind (cost_take 1) (fun _ => cost_pure _) _ _ _ _ _ h
    omega
theorem cost_aggs : Cost 0 0 aggs := cost_many cost_agg
theorem cost_value : Cost 0 0 value := by
  intro ts ns b ts2 ns2 h
  unfold value at h
  split at h
  · rename_i ts1 hs
    have := (choice_len hs).1
    cases h
    omega
  · rename_i ts1 hs
    have := (choice_len hs).1
    cases h
    omega
  · split at h
    · cases h
    · split at h
      · cases h; simp
      · split at h
        · cases h; simp
        · cases h
theorem cost_leaf : Cost 0 0 leaf := by
  intro ts ns a ts2 ns2 h
  obtain ⟨t, ts1, ns1, h1, h2⟩ := bind_ok h
  have e1 := cost_take 1 _ _ _ _ _ h1
  split at h2
  · rename_i ts3 hs
    have e2 := sees_len hs
    have e3 := cost_bind (cost_take 3) (fun u => cost_lay _) _ _ _ _ _ h2
    omega
  · split at h2
    · cases h2
    · rename_i k ts3 hs
      have e2 := (choice_len hs).1
      have e3 := cost_bind cost_value (fun u => cost_lay _) _ _ _ _ _ h2
      omega
theorem cost_joinedGo {w : Bytes} {kind : Nat} {read : M Nat} (hr : Cost 0 0 read) : ∀ (k a : Nat), Cost 0 0 (joinedGo w kind read k a)
  | 0, a => cost_pure a
  | k + 1, a => by
    intro ts ns b ts2 ns2 h
    unfold joinedGo at h
    split at h
    · cases h
      omega
    · rename_i ts1 hs
      have e1 := sees_len hs
      have e2 := cost_bind hr (fun b => cost_bind (cost_lay (node kind [a, b])) (cost_joinedGo hr k)) _ _ _ _ _ h
      omega
theorem cost_joined {w : Bytes} {kind : Nat} {read : M Nat} (hr : Cost 0 0 read) : Cost 0 0 (joined w kind read) := cost_bind hr fun a ts ns b ts1 ns1 h => cost_joinedGo hr _ _ _ _ _ _ _ h
theorem cost_both {n : M Nat} (h : Cost 0 0 n) : Cost 0 0 (bothOf n) := cost_joined h
theorem cost_cond {n : M Nat} (h : Cost 0 0 n) : Cost 0 0 (condOf n) := cost_joined (cost_joined h)
theorem cost_shut {n : M Nat} (h : Cost 0 0 n) : Cost 0 0 (shut n) := (cost_bind h fun _ => cost_bind (cost_wants _) fun _ => cost_pure _).le (by omega)
theorem cost_notOf {p q : M Nat} (hp : Cost 0 0 p) (hq : Cost 0 0 q) : Cost 0 0 (notOf p q) := by
  intro ts ns a ts2 ns2 h
  unfold notOf at h
  split at h
  · rename_i ts1 hs
    have e1 := sees_len hs
    have e2 := cost_bind hp (fun a => cost_lay (node 13 [a])) _ _ _ _ _ h
    omega
  · split at h
    · rename_i ts1 hs
      have e1 := sees_len hs
      have e2 := hq _ _ _ _ _ h
      omega
    · exact cost_leaf _ _ _ _ _ h
theorem cost_not (d : Nat) : Cost 0 0 (pNot d) := by
  induction d with
  | zero => exact cost_notOf (cost_deep _ _) (cost_deep _ _)
  | succ d ih => exact cost_notOf ih (cost_shut (cost_cond ih))
theorem cost_pCond (d : Nat) : Cost 0 0 (pCond d) := cost_cond (cost_not d)
theorem cost_pBoth (d : Nat) : Cost 0 0 (pBoth d) := cost_both (cost_not d)
theorem cost_step {inner cond : M Nat} (hi : Cost 0 0 inner) (hc : Cost 0 0 cond) (rows : Nat) : Cost 0 0 (stepOf inner cond rows) := by
  intro ts ns a ts2 ns2 h
  unfold stepOf at h
  split at h
  · rename_i ts1 hs
    have e1 := (choice_len hs).2
    have e2 := cost_bind hc (fun c => cost_lay (node 2 [rows, c])) _ _ _ _ _ h
    omega
  · rename_i ts1 hs
    have e1 := (choice_len hs).2
    have e2 := cost_bind cost_names (fun l => cost_lay _) _ _ _ _ _ h
    omega
  · rename_i ts1 hs
    have e1 := (choice_len hs).2
    have e2 := cost_bind (cost_take 2) (fun l => cost_lay _) _ _ _ _ _ h
    omega
  · rename_i ts1 hs
    have e1 := (choice_len hs).2
    obtain ⟨c, ts3, ns3, h3, h4⟩ := bind_ok h
    have e3 : ns3.length + ts3.length ≤ ns.length + ts1.length := by
      split at h3
      · cases h3; omega
      · have := cost_names _ _ _ _ _ h3
        omega
    have e2 := cost_bind (cost_wants kw_colon) (fun _ => cost_bind cost_aggs fun a => cost_lay _) _ _ _ _ _ h4
    omega
  · rename_i ts1 hs
    have e1 := (choice_len hs).2
    have e2 := cost_bind (cost_take 2) (fun t => cost_bind (cost_wants kw_by) fun _ => cost_bind (cost_take 1) fun u => cost_lay _) _ _ _ _ _ h
    omega
  · rename_i ts1 hs
    have e1 := (choice_len hs).2
    have e2 := cost_bind (cost_wants kw_open) (fun _ => cost_bind hi fun i => cost_lay (node 7 [rows, i])) _ _ _ _ _ h
    omega
  · rename_i ts1 hs
    have e1 := (choice_len hs).2
    have e2 := cost_bind (cost_wants kw_open) (fun _ => cost_bind hi fun i => cost_lay (node 8 [rows, i])) _ _ _ _ _ h
    omega
  · cases h
theorem cost_stepsGo {step : Nat → M Nat} (hs : ∀ a, Cost 0 0 (step a)) : ∀ (k a : Nat), Cost 0 0 (stepsGo step k a)
  | 0, a => cost_pure a
  | k + 1, a => by
    intro ts ns b ts2 ns2 h
    unfold stepsGo at h
    split at h
    · cases h
      omega
    · rename_i ts1 he
      have e1 := sees_len he
      have e2 := cost_bind (hs a) (fun b => cost_stepsGo hs k b) _ _ _ _ _ h
      omega
theorem cost_times : Cost 0 0 times := by
  intro ts ns a ts2 ns2 h
  unfold times at h
  split at h
  · rename_i ts1 hs
    have e1 := sees_len hs
    have e2 := cost_bind (cost_take 2) (fun f => cost_bind (cost_wants kw_to) fun _ => cost_bind (cost_take 2) fun g => cost_pure (f.n, g.n)) _ _ _ _ _ h
    omega
  · cases h
    omega
theorem cost_queryOf {step : Nat → M Nat} (hs : ∀ a, Cost 0 0 (step a)) : Cost 0 0 (queryOf step) :=
  (cost_bind (cost_wants kw_fetch) fun _ => cost_bind (cost_take 1) fun t => cost_bind cost_times fun x => cost_bind (cost_lay _) fun a ts ns b ts1 ns1 h => cost_stepsGo hs _ _ _ _ _ _ _ h).le (by omega)
theorem cost_inner (d : Nat) : Cost 0 0 (pInner d) := by
  induction d with
  | zero => exact cost_deep _ _
  | succ d ih => exact cost_shut (cost_queryOf (cost_step ih (cost_pCond d)))
end Go.Proofs.YtlonkcmkgmbkcaaDoor.ParS
