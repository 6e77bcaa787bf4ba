/- Several texts of the proof, joined. -/
import Derived.Test.YtnaehhpikhlppaaGreatDoorD4
set_option maxHeartbeats 4000000
set_option linter.unusedVariables false
set_option linter.unusedSimpArgs false
namespace Go.Proofs.YtnaehhpikhlppaaGreatDoor.ParS
open LexS

/-- q reads what p reads, whatever us stands behind (which is S, if p read all), whatever nodes were laid; if e, just so. -/
def Rel (S : List Tk → Prop) (e : Prop) {α : Type} (p q : M α) : Prop := ∀ ts ns a ts1 ns1, p ts ns = .ok (a, ts1, ns1) →
  ts1.length ≤ ts.length ∧ ∀ us, (ts1 = [] → S us) → ∀ ns', ∃ a' ns1', q (ts ++ us) ns' = .ok (a', ts1 ++ us, ns1') ∧ (e → ns' = ns → a' = a ∧ ns1' = ns1)
section
variable {S : List Tk → Prop} {e : Prop} {α β : Type}
theorem Rel.at {p q : M α} (h : Rel S e p q) {S' : List Tk → Prop} (hS : ∀ us, S' us → S us) : Rel S' e p q := fun ts ns a ts1 ns1 hp =>
  ⟨(h ts ns a ts1 ns1 hp).1, fun us hu ns' => (h ts ns a ts1 ns1 hp).2 us (fun x => hS us (hu x)) ns'⟩
theorem rel_bind {p q : M α} {f g : α → M β} (hp : Rel S e p q) (hf : ∀ a a', Rel S (e ∧ a' = a) (f a) (g a')) : Rel S e (M.bind p f) (M.bind q g) := by
  intro ts ns b ts2 ns2 h
  unfold M.bind at h
  split at h
  · cases h
  · rename_i a ts1 ns1 hpa
    obtain ⟨l1, k1⟩ := hp _ _ _ _ _ hpa
    obtain ⟨l2, k2⟩ := hf a a _ _ _ _ _ h
    refine ⟨Nat.le_trans l2 l1, fun us hu ns' => ?_⟩
    obtain ⟨a', n1', h1, e1⟩ := k1 us (fun x => hu (List.eq_nil_of_length_eq_zero (by rw [x] at l2; simpa using l2))) ns'
    obtain ⟨b', n2', h2, e2⟩ := (hf a a' _ _ _ _ _ h).2 us hu n1'
    refine ⟨b', n2', ?_, fun x y => ?_⟩
    · unfold M.bind
      rw [h1]
      exact h2
    · obtain ⟨ea, en⟩ := e1 x y
      exact e2 ⟨x, ea⟩ en
theorem rel_pure {a a' : α} (h : e → a' = a) : Rel S e (M.pure a) (M.pure a') := by
  intro ts ns b ts1 ns1 hp
  cases hp
  exact ⟨Nat.le_refl _, fun us _ ns' => ⟨a', ns', rfl, fun x y => ⟨h x, y⟩⟩⟩
theorem rel_lay {n n' : Nd} (h : e → n' = n) : Rel S e (lay n) (lay n') := by
  intro ts ns b ts1 ns1 hp
  cases hp
  exact ⟨Nat.le_refl _, fun us _ ns' => ⟨_, _, rfl, fun x y => by rw [h x, y]; exact ⟨rfl, rfl⟩⟩⟩
theorem rel_deep {q : M α} : Rel S e M.deep q := by
  intro ts ns b ts1 ns1 hp
  cases hp
theorem sees_more {w : Bytes} {ts ts1 us : List Tk} (h : sees w ts = some ts1) : sees w (ts ++ us) = some (ts1 ++ us) ∧ ts1.length < ts.length := by
  cases ts with
  | nil => cases h
  | cons t r =>
    rw [sees_cons] at h
    split at h
    · rename_i c
      injection h with h
      subst h
      refine ⟨?_, by simp⟩
      rw [List.cons_append, sees_cons, if_pos c]
    · cases h
theorem sees_none {w : Bytes} {ts us : List Tk} (h : sees w ts = none) (hu : ts = [] → sees w us = none) : sees w (ts ++ us) = none := by
  cases ts with
  | nil => exact hu rfl
  | cons t r =>
    rw [sees_cons] at h
    rw [List.cons_append, sees_cons]
    split at h
    · cases h
    · rename_i c
      rw [if_neg c]
theorem choice_more : ∀ {l : List Bytes} {i k : Nat} {ts ts1 : List Tk} (us : List Tk), choice l i ts = (k, ts1) → ts ≠ [] → choice l i (ts ++ us) = (k, ts1 ++ us) ∧ ts1.length ≤ ts.length
  | [], i, k, ts, ts1, us, h, _ => by
    cases h
    exact ⟨rfl, Nat.le_refl _⟩
  | w :: l, i, k, ts, ts1, us, h, hne => by
    unfold choice at h ⊢
    split at h
    · rename_i ts2 hs
      cases h
      rw [(sees_more (us := us) hs).1]
      exact ⟨rfl, Nat.le_of_lt (sees_more (us := us) hs).2⟩
    · rename_i hs
      rw [sees_none hs (fun x => absurd x hne)]
      exact choice_more us h hne
theorem choice_nil (l : List Bytes) : ∀ i, choice l i [] = (0, []) := by
  induction l with
  | nil => intro i; rfl
  | cons w l ih => intro i; exact ih _
theorem rel_take (k : Nat) : Rel S e (take k) (take k) := by
  intro ts ns b ts1 ns1 hp
  cases ts with
  | nil => cases hp
  | cons t r =>
    have ht : ∀ us n', take k ((t :: r) ++ us) n' = if t.kind = k then .ok (t, r ++ us, n') else .error ((r ++ us).length + 1, false) := fun _ _ => rfl
    have hp' : (if t.kind = k then Except.ok (t, r, ns) else Except.error (r.length + 1, false) : Except Er (Tk × List Tk × List Nd)) = .ok (b, ts1, ns1) := hp
    split at hp'
    · rename_i c
      cases hp'
      exact ⟨by simp, fun us _ ns' => ⟨_, ns', by rw [ht, if_pos c], fun _ y => ⟨rfl, y⟩⟩⟩
    · cases hp'
theorem rel_wants (w : Bytes) : Rel S e (wants w) (wants w) := by
  intro ts ns b ts1 ns1 hp
  unfold wants at hp
  split at hp
  · rename_i ts2 hs
    cases hp
    refine ⟨Nat.le_of_lt (sees_more (us := []) hs).2, fun us _ ns' => ⟨(), ns', ?_, fun _ y => ⟨rfl, y⟩⟩⟩
    unfold wants
    rw [(sees_more (us := us) hs).1]
  · cases hp
/-- A word is looked for: it is there, or it is not. -/
theorem rel_sees {w : Bytes} {p p' q q' : M α} (hw : ∀ us, S us → sees w us = none) (h1 : Rel S e p p') (h2 : Rel S e q q') :
    Rel S e (fun ts ns => match sees w ts with | some ts1 => p ts1 ns | none => q ts ns) (fun ts ns => match sees w ts with | some ts1 => p' ts1 ns | none => q' ts ns) := by
  intro ts ns a ts2 ns2 h
  dsimp only at h
  split at h
  · rename_i ts1 hs
    obtain ⟨l1, k1⟩ := h1 _ _ _ _ _ h
    refine ⟨Nat.le_trans l1 (Nat.le_of_lt (sees_more (us := []) hs).2), fun us hu ns' => ?_⟩
    dsimp only
    rw [(sees_more (us := us) hs).1]
    exact k1 us hu ns'
  · rename_i hs
    obtain ⟨l1, k1⟩ := h2 _ _ _ _ _ h
    refine ⟨l1, fun us hu ns' => ?_⟩
    dsimp only
    rw [sees_none hs (fun x => hw us (hu (List.eq_nil_of_length_eq_zero (by rw [x] at l1; simpa using l1))))]
    exact k1 us hu ns'
/-- The same where the other way needs a token. -/
theorem rel_sees' {w : Bytes} {p p' q q' : M α} (hq : ∀ ns r, q [] ns ≠ .ok r) (h1 : Rel S e p p') (h2 : Rel S e q q') :
    Rel S e (fun ts ns => match sees w ts with | some ts1 => p ts1 ns | none => q ts ns) (fun ts ns => match sees w ts with | some ts1 => p' ts1 ns | none => q' ts ns) := by
  intro ts ns a ts2 ns2 h
  dsimp only at h
  split at h
  · rename_i ts1 hs
    obtain ⟨l1, k1⟩ := h1 _ _ _ _ _ h
    refine ⟨Nat.le_trans l1 (Nat.le_of_lt (sees_more (us := []) hs).2), fun us hu ns' => ?_⟩
    dsimp only
    rw [(sees_more (us := us) hs).1]
    exact k1 us hu ns'
  · rename_i hs
    obtain ⟨l1, k1⟩ := h2 _ _ _ _ _ h
    refine ⟨l1, fun us hu ns' => ?_⟩
    dsimp only
    rw [sees_none hs (fun x => by rw [x] at h; exact absurd h (hq _ _))]
    exact k1 us hu ns'
theorem rel_choice {l : List Bytes} {f g : Nat → M α} {z z' : M α} (hz : ∀ ns r, z [] ns ≠ .ok r) (h0 : Rel S e z z') (h1 : ∀ k, Rel S e (f k) (g k)) :
    Rel S e (fun ts ns => match choice l 1 ts with | (0, _) => z ts ns | (k + 1, ts1) => f k ts1 ns) (fun ts ns => match choice l 1 ts with | (0, _) => z' ts ns | (k + 1, ts1) => g k ts1 ns) := by
  intro ts ns a ts2 ns2 h
  dsimp only at h
  have hne : ts ≠ [] := by
    rintro rfl
    rw [choice_nil] at h
    exact hz _ _ h
  split at h
  · rename_i ts1 hs
    obtain ⟨l1, k1⟩ := h0 _ _ _ _ _ h
    refine ⟨l1, fun us hu ns' => ?_⟩
    dsimp only
    rw [(choice_more us hs hne).1]
    exact k1 us hu ns'
  · rename_i k ts1 hs
    obtain ⟨l1, k1⟩ := h1 k _ _ _ _ _ h
    refine ⟨Nat.le_trans l1 (choice_more [] hs hne).2, fun us hu ns' => ?_⟩
    dsimp only
    rw [(choice_more us hs hne).1]
    exact k1 us hu ns'
theorem rel_fail {q : M α} : Rel S e M.fail q := by
  intro ts ns b ts1 ns1 hp
  cases hp
theorem fail_nil (ns : List Nd) (r : α × List Tk × List Nd) : (M.fail : M α) [] ns ≠ .ok r := fun h => by cases h
end

/-- What stands behind goes on with no word that goes on. -/
def Quits (us : List Tk) : Prop := sees kw_comma us = none ∧ sees kw_or us = none ∧ sees kw_and us = none ∧ sees kw_from us = none
def QuitsQ (us : List Tk) : Prop := Quits us ∧ sees kw_bar us = none
section
variable {e : Prop} {α : Type}
theorem rel_manyGo {f : M α} (hf : ∀ {e : Prop}, Rel Quits e f f) : ∀ (k : Nat) (acc acc' : List α) {e : Prop}, (e → acc' = acc) → Rel Quits e (manyGo f k acc) (manyGo f k acc')
  | 0, acc, acc', e, h => rel_pure h
  | k + 1, acc, acc', e, h => by
    have h1 := rel_sees (S := Quits) (e := e) (w := kw_comma) (p := M.bind f (fun a => manyGo f k (acc ++ [a]))) (p' := M.bind f (fun a => manyGo f k (acc' ++ [a]))) (q := M.pure acc) (q' := M.pure acc') (fun us hu => hu.1)
      (rel_bind hf fun a a' => rel_manyGo hf k _ _ (fun x => by rw [h x.1, x.2])) (rel_pure h)
    intro ts ns b ts1 ns1 hp
    have := h1 ts ns b ts1 ns1 (by
      rw [manyGo] at hp
      revert hp
      dsimp only
      cases sees kw_comma ts <;> exact fun x => x)
    refine ⟨this.1, fun us hu ns' => ?_⟩
    obtain ⟨a', n', h2, h3⟩ := this.2 us hu ns'
    refine ⟨a', n', ?_, h3⟩
    rw [← h2, manyGo]
    dsimp only
    cases sees kw_comma (ts ++ us) <;> rfl
theorem rel_many {f : M α} (hf : ∀ {e : Prop}, Rel Quits e f f) : Rel Quits e (many f) (many f) := rel_bind hf fun a a' => rel_manyGo hf fuel [a] [a'] (fun x => by rw [x.2])
theorem rel_name : Rel Quits e name name := rel_bind (rel_take 1) fun a a' => rel_pure fun x => by rw [x.2]
theorem rel_names : Rel Quits e names names := rel_many rel_name
def aggF : Nat → M (Nat × Bytes)
  | 0 => M.pure (1, [])
  | k + 1 => M.bind (take 1) (fun t => M.pure (k + 2, t.s))
theorem rel_agg : Rel Quits e agg agg := by
  have h1 := rel_choice (S := Quits) (e := e) (l := kw_aggs) (f := aggF) (g := aggF) (z := M.fail) (z' := M.fail) fail_nil rel_fail (fun k => by
      cases k with
      | zero => exact rel_pure fun _ => rfl
      | succ k => exact rel_bind (rel_take 1) fun a a' => rel_pure fun x => by rw [x.2])
  have e1 : agg = fun ts ns => match choice kw_aggs 1 ts with | (0, _) => M.fail ts ns | (k + 1, ts1) => aggF k ts1 ns := by
    funext ts ns
    unfold agg
    rcases choice kw_aggs 1 ts with ⟨_ | _ | k, ts1⟩ <;> rfl
  rw [e1]
  exact h1
def valueT : M Val := fun ts ns => match ts with
  | [] => .error (0, false)
  | t :: ts1 => if t.kind = 2 then .ok (⟨1, t.n, []⟩, ts1, ns) else if t.kind = 3 then .ok (⟨2, 0, t.s⟩, ts1, ns) else .error (ts1.length + 1, false)
theorem value_eq (ts : List Tk) (ns : List Nd) : value ts ns = match choice kw_bools 1 ts with
  | (1, ts1) => .ok (⟨3, 0, []⟩, ts1, ns)
  | (2, ts1) => .ok (⟨3, 1, []⟩, ts1, ns)
  | _ => valueT ts ns := rfl
theorem rel_valueT : Rel Quits e valueT valueT := by
  intro ts ns b ts1 ns1 hp
  cases ts with
  | nil => cases hp
  | cons t r =>
    have ht : ∀ us n', valueT ((t :: r) ++ us) n' = if t.kind = 2 then .ok (⟨1, t.n, []⟩, r ++ us, n') else if t.kind = 3 then .ok (⟨2, 0, t.s⟩, r ++ us, n') else .error ((r ++ us).length + 1, false) := fun _ _ => rfl
    have hp' : (if t.kind = 2 then .ok (⟨1, t.n, []⟩, r, ns) else if t.kind = 3 then .ok (⟨2, 0, t.s⟩, r, ns) else .error (r.length + 1, false) : Except Er (Val × List Tk × List Nd)) = .ok (b, ts1, ns1) := hp
    split at hp'
    · rename_i c
      cases hp'
      exact ⟨by simp, fun us _ ns' => ⟨_, ns', by rw [ht, if_pos c], fun _ y => ⟨rfl, y⟩⟩⟩
    · rename_i c
      split at hp'
      · rename_i c2
        cases hp'
        exact ⟨by simp, fun us _ ns' => ⟨_, ns', by rw [ht, if_neg c, if_pos c2], fun _ y => ⟨rfl, y⟩⟩⟩
      · cases hp'
theorem rel_value : Rel Quits e value value := by
  intro ts ns b ts1 ns1 hp
  have hne : ts ≠ [] := by
    rintro rfl
    rw [value_eq, choice_nil] at hp
    cases hp
  rcases hc : choice kw_bools 1 ts with ⟨k, t3⟩
  rw [value_eq, hc] at hp
  have hm := fun us => (choice_more us hc hne).1
  have hl := (choice_more [] hc hne).2
  have tail : valueT ts ns = .ok (b, ts1, ns1) → (∀ us n', value (ts ++ us) n' = valueT (ts ++ us) n') → ts1.length ≤ ts.length ∧ ∀ us, (ts1 = [] → Quits us) → ∀ ns', ∃ a' ns1', value (ts ++ us) ns' = .ok (a', ts1 ++ us, ns1') ∧ (e → ns' = ns → a' = b ∧ ns1' = ns1) := by
    intro h1 h2
    have := rel_valueT (e := e) ts ns b ts1 ns1 h1
    exact ⟨this.1, fun us hu ns' => by rw [h2]; exact this.2 us hu ns'⟩
  match k, hc, hp, hm with
  | 0, hc, hp, hm => exact tail hp fun us n' => by rw [value_eq, hm us]; rfl
  | 1, hc, hp, hm =>
    cases hp
    exact ⟨hl, fun us _ ns' => ⟨_, ns', by rw [value_eq, hm us]; rfl, fun _ y => ⟨rfl, y⟩⟩⟩
  | 2, hc, hp, hm =>
    cases hp
    exact ⟨hl, fun us _ ns' => ⟨_, ns', by rw [value_eq, hm us]; rfl, fun _ y => ⟨rfl, y⟩⟩⟩
  | k + 3, hc, hp, hm => exact tail hp fun us n' => by rw [value_eq, hm us]; rfl
theorem rel_leaf : Rel Quits e leaf leaf := by
  refine rel_bind (rel_take 1) fun t t' => ?_
  have h1 : Rel Quits (e ∧ t' = t) (fun ts ns => match choice kw_signs 1 ts with
    | (0, _) => M.fail ts ns
    | (k + 1, ts1) => M.bind value (fun v => lay { node 14 [] with s := t.s, n := ((k + 1 : Nat) : Int), v := v }) ts1 ns) (fun ts ns => match choice kw_signs 1 ts with
    | (0, _) => M.fail ts ns
    | (k + 1, ts1) => M.bind value (fun v => lay { node 14 [] with s := t'.s, n := ((k + 1 : Nat) : Int), v := v }) ts1 ns) :=
    rel_choice (f := fun k => M.bind value (fun v => lay { node 14 [] with s := t.s, n := ((k + 1 : Nat) : Int), v := v })) (g := fun k => M.bind value (fun v => lay { node 14 [] with s := t'.s, n := ((k + 1 : Nat) : Int), v := v })) fail_nil rel_fail
      (fun k => rel_bind rel_value fun v v' => rel_lay fun x => by rw [x.1.2, x.2])
  exact rel_sees' (w := kw_has) (p := M.bind (take 3) (fun u => lay { node 15 [] with s := t.s, v := ⟨2, 0, u.s⟩ })) (p' := M.bind (take 3) (fun u => lay { node 15 [] with s := t'.s, v := ⟨2, 0, u.s⟩ }))
    (fun ns r h => by
      dsimp only at h
      rw [choice_nil] at h
      cases h) (rel_bind (rel_take 3) fun u u' => rel_lay fun x => by rw [x.1.2, x.2]) h1
theorem rel_joinedGo {w : Bytes} {kind : Nat} {p q : M Nat} (hw : w = kw_or ∨ w = kw_and) (h : ∀ {e : Prop}, Rel Quits e p q) : ∀ (k a a' : Nat) {e : Prop}, (e → a' = a) → Rel Quits e (joinedGo w kind p k a) (joinedGo w kind q k a')
  | 0, a, a', e, hh => rel_pure hh
  | k + 1, a, a', e, hh => by
    have h1 := rel_sees (S := Quits) (e := e) (w := w) (p := M.bind p (fun b => M.bind (lay (node kind [a, b])) (joinedGo w kind p k))) (p' := M.bind q (fun b => M.bind (lay (node kind [a', b])) (joinedGo w kind q k))) (q := M.pure a) (q' := M.pure a')
      (fun us hu => (by rcases hw with rfl | rfl; exact hu.2.1; exact hu.2.2.1))
      (rel_bind h fun b b' => rel_bind (rel_lay fun x => by rw [hh x.1, x.2]) fun c c' => rel_joinedGo hw h k _ _ (fun x => x.2)) (rel_pure hh)
    intro ts ns b ts1 ns1 hp
    have := h1 ts ns b ts1 ns1 (by
      rw [joinedGo] at hp
      revert hp
      dsimp only
      cases sees w ts <;> exact fun x => x)
    refine ⟨this.1, fun us hu ns' => ?_⟩
    obtain ⟨a', n', h2, h3⟩ := this.2 us hu ns'
    refine ⟨a', n', ?_, h3⟩
    rw [← h2, joinedGo]
    dsimp only
    cases sees w (ts ++ us) <;> rfl
theorem rel_joined {w : Bytes} {kind : Nat} {p q : M Nat} (hw : w = kw_or ∨ w = kw_and) (h : ∀ {e : Prop}, Rel Quits e p q) : Rel Quits e (joined w kind p) (joined w kind q) :=
  rel_bind h fun a a' => rel_joinedGo hw h fuel a a' fun x => x.2
theorem rel_cond {p q : M Nat} (h : ∀ {e : Prop}, Rel Quits e p q) : Rel Quits e (condOf p) (condOf q) := rel_joined (.inl rfl) (rel_joined (.inr rfl) h)
theorem rel_shut {S : List Tk → Prop} {p q : M Nat} (h : Rel S e p q) : Rel Quits e (shut p) (shut q) := by
  intro ts ns b ts2 ns2 hp
  rcases hpa : p ts ns with er | ⟨a, ts1, ns1⟩
  · unfold shut M.bind at hp
    rw [hpa] at hp
    cases hp
  · obtain ⟨l1, k1⟩ := h _ _ _ _ _ hpa
    rcases hw : wants kw_shut ts1 ns1 with er | ⟨u, ts3, ns3⟩
    · unfold shut M.bind at hp
      rw [hpa] at hp
      dsimp only at hp
      rw [hw] at hp
      cases hp
    · unfold shut M.bind at hp
      rw [hpa] at hp
      dsimp only at hp
      rw [hw] at hp
      cases hp
      have hne : ts1 ≠ [] := by
        rintro rfl
        cases hw
      obtain ⟨l3, k3⟩ := rel_wants (S := Quits) (e := True) kw_shut _ _ _ _ _ hw
      refine ⟨Nat.le_trans l3 l1, fun us hu ns' => ?_⟩
      obtain ⟨a', n1', h1, e1⟩ := k1 us (fun x => absurd x hne) ns'
      obtain ⟨_, n3', h3, e3⟩ := k3 us hu n1'
      refine ⟨a', n3', ?_, fun x y => ⟨(e1 x y).1, (e3 trivial (e1 x y).2).2⟩⟩
      unfold shut M.bind
      rw [h1]
      dsimp only
      rw [h3]
      rfl
theorem rel_notOf {p p' q q' : M Nat} (h1 : Rel Quits e p p') (h2 : Rel Quits e q q') : Rel Quits e (notOf p q) (notOf p' q') :=
  rel_sees' (w := kw_not) (p := M.bind p (fun a => lay (node 13 [a]))) (p' := M.bind p' (fun a => lay (node 13 [a])))
    (q := fun ts ns => match sees kw_open ts with | some ts1 => q ts1 ns | none => leaf ts ns) (q' := fun ts ns => match sees kw_open ts with | some ts1 => q' ts1 ns | none => leaf ts ns) (fun ns r h => by cases h)
    (rel_bind h1 fun a a' => rel_lay fun x => by rw [x.2]) (rel_sees' (w := kw_open) (fun ns r h => by cases h) h2 rel_leaf)
/-- With as much depth, or more. -/
theorem rel_not : ∀ (d c : Nat) {e : Prop}, Rel Quits e (pNot d) (pNot (d + c))
  | 0, c, e => by
    rw [Nat.zero_add]
    cases c with
    | zero => exact rel_notOf rel_deep rel_deep
    | succ c => exact rel_notOf rel_deep rel_deep
  | d + 1, c, e => by
    rw [Nat.add_right_comm]
    exact rel_notOf (rel_not d c) (rel_shut (rel_cond (rel_not d c)))
theorem rel_pCond (d c : Nat) : Rel Quits e (pCond d) (pCond (d + c)) := rel_cond (rel_not d c)
end
end Go.Proofs.YtnaehhpikhlppaaGreatDoor.ParS
