/- The walks of package parse's not, and what it opens. -/
import Derived.Test.YtlonkcmkgmbkcaaDoorRdF
namespace Go.Proofs.YtlonkcmkgmbkcaaDoor
open Go.RowKit LexS ParS BigFrame
set_option maxHeartbeats 4000000
set_option linter.unusedVariables false
set_option linter.unusedSimpArgs false
attribute [local go_sem] field_tok1 field_tok2
attribute [local go_sem] World.cell?_alloc_some cell_drewN_new free_drewN_new cell_drew_new free_drew_new

section
variable {p : M Nat} {a : Nat} {ts ts1 ts2 : List Tk} {ns ns1 : List Nd} {er : Er}
theorem shut_err (h : p ts ns = .error er) : shut p ts ns = .error er := by
  unfold shut M.bind
  rw [h]
theorem shut_bad (h : p ts ns = .ok (a, ts1, ns1)) (h2 : sees kw_shut ts1 = none) : shut p ts ns = .error (ts1.length, false) := by
  unfold shut M.bind wants
  rw [h]
  dsimp only
  rw [h2]
theorem shut_ok (h : p ts ns = .ok (a, ts1, ns1)) (h2 : sees kw_shut ts1 = some ts2) : shut p ts ns = .ok (a, ts2, ns1) := by
  unfold shut M.bind wants
  rw [h]
  dsimp only
  rw [h2]
  rfl
end
/-- A closure over the reader reads what p reads. -/
def ReadsC (K : FuncId) (p : M Nat) (deep : Nat) : Prop := ∀ (base r bx : Nat) (tv nv : Value) (T : List Tok) (ts : List Tk) (ns : List Nd) (W : World), RS base r tv T deep ts ns nv W → base ≤ W.heap.size → ns.length + ts.length ≤ 5000 → Blk W bx 62 #[RP r] → bx ≠ r → base ≤ bx →
  Calls Tryd.prog K #[.pointer (some ⟨bx, 0, none⟩)] W (PostN base r tv T deep nv W (p ts ns))
theorem bx_apart {base r deep bx : Nat} {tv nv : Value} {T : List Tok} {ts : List Tk} {ns : List Nd} {W : World} (h : RS base r tv T deep ts ns nv W) (hb : Blk W bx 62 #[RP r]) : nv.ownBlock ≠ some bx := fun e => by
  obtain ⟨_, cur, hc⟩ := h.nodes.block e
  have := block_types hc hb
  cases this
section
variable {base r deep : Nat} {tv nv nv' : Value} {T : List Tok} {ts ts1 : List Tk} {ns : List Nd} {W W' : World}
set_option maxRecDepth 100000 in
theorem cond_c {q : M Nat} (hq : Reads 31 q deep) : ReadsC 88 (shut q) deep := by
  intro base r bx tv nv T ts ns W h hbase hB hbx hne hbb
  have c0 : W.cell? ⟨bx, 0, none⟩ = some (RP r) := hbx.cell 0
  have HI := Lib.hid (hq _ _ _ _ _ _ _ _ h hbase hB)
  have HX := Lib.hid (And.intro hbx (bx_apart h hbx))
  clear h hbx
  go_enter Tryd.func88, Tryd.ntmps88
  go_wp2_with fail
  refine HI.out.mono ?_
  rintro e w1 hp
  rcases hr : q ts ns with ⟨k, long⟩ | ⟨a, ts1, ns1⟩
  · rw [hr] at hp
    obtain ⟨rfl, nv1, s1⟩ := hp
    have HF := Lib.hid (And.intro (shut_err hr) s1)
    clear hr s1
    unfold Bad
    go_wp2_with fail
    exact ⟨rfl, by rw [HF.out.1]; exact ⟨rfl, _, HF.out.2⟩⟩
  · rw [hr] at hp
    obtain ⟨nv1, rfl, h1, s1⟩ := hp
    have c0 : w1.cell? ⟨bx, 0, none⟩ = some (RP r) := (s1.blk HX.out.1 hne HX.out.2).cell 0
    rcases hs : sees kw_shut ts1 with _ | ts2
    · have HF := Lib.hid (And.intro (shut_bad hr hs) s1)
      have HW := Lib.hid (wants_no h1 hs)
      clear hr hs s1 h1
      go_wp2_with fail
      refine HW.out.mono ?_
      rintro e w2 ⟨rfl, m2⟩
      have HM := Lib.hid (HF.out.2.trans (m2.stp _))
      clear m2
      unfold Bad
      go_wp2_with fail
      exact ⟨rfl, by rw [HF.out.1]; exact ⟨rfl, _, HM.out⟩⟩
    · have HF := Lib.hid (And.intro (shut_ok hr hs) s1)
      have HW := Lib.hid (wants_yes h1 hs)
      clear hr hs s1 h1
      go_wp2_with fail
      refine HW.out.mono ?_
      rintro e w2 ⟨rfl, h2, m2⟩
      have HM := Lib.hid (And.intro h2 (HF.out.2.trans (m2.stp _)))
      clear h2 m2
      go_wp2_with fail
      exact bodyPost_ret (results_tmp rfl _ _ _) rfl (by rw [HF.out.1]; exact ⟨_, rfl, HM.out⟩)
set_option maxRecDepth 100000 in
theorem query_c {q : M Nat} (hq : Reads 47 q deep) : ReadsC 104 (shut q) deep := by
  intro base r bx tv nv T ts ns W h hbase hB hbx hne hbb
  have c0 : W.cell? ⟨bx, 0, none⟩ = some (RP r) := hbx.cell 0
  have HI := Lib.hid (hq _ _ _ _ _ _ _ _ h hbase hB)
  have HX := Lib.hid (And.intro hbx (bx_apart h hbx))
  clear h hbx
  go_enter Tryd.func104, Tryd.ntmps104
  go_wp2_with fail
  refine HI.out.mono ?_
  rintro e w1 hp
  rcases hr : q ts ns with ⟨k, long⟩ | ⟨a, ts1, ns1⟩
  · rw [hr] at hp
    obtain ⟨rfl, nv1, s1⟩ := hp
    have HF := Lib.hid (And.intro (shut_err hr) s1)
    clear hr s1
    unfold Bad
    go_wp2_with fail
    exact ⟨rfl, by rw [HF.out.1]; exact ⟨rfl, _, HF.out.2⟩⟩
  · rw [hr] at hp
    obtain ⟨nv1, rfl, h1, s1⟩ := hp
    have c0 : w1.cell? ⟨bx, 0, none⟩ = some (RP r) := (s1.blk HX.out.1 hne HX.out.2).cell 0
    rcases hs : sees kw_shut ts1 with _ | ts2
    · have HF := Lib.hid (And.intro (shut_bad hr hs) s1)
      have HW := Lib.hid (wants_no h1 hs)
      clear hr hs s1 h1
      go_wp2_with fail
      refine HW.out.mono ?_
      rintro e w2 ⟨rfl, m2⟩
      have HM := Lib.hid (HF.out.2.trans (m2.stp _))
      clear m2
      unfold Bad
      go_wp2_with fail
      exact ⟨rfl, by rw [HF.out.1]; exact ⟨rfl, _, HM.out⟩⟩
    · have HF := Lib.hid (And.intro (shut_ok hr hs) s1)
      have HW := Lib.hid (wants_yes h1 hs)
      clear hr hs s1 h1
      go_wp2_with fail
      refine HW.out.mono ?_
      rintro e w2 ⟨rfl, h2, m2⟩
      have HM := Lib.hid (And.intro h2 (HF.out.2.trans (m2.stp _)))
      clear h2 m2
      go_wp2_with fail
      exact bodyPost_ret (results_tmp rfl _ _ _) rfl (by rw [HF.out.1]; exact ⟨_, rfl, HM.out⟩)
end
/-- within, with not itself; with a closure over the reader. -/
def WithN (p : M Nat) (deep : Nat) : Prop := ∀ (base r : Nat) (tv nv : Value) (T : List Tok) (ts : List Tk) (ns : List Nd) (W : World), RS base r tv T deep ts ns nv W → base ≤ W.heap.size → ns.length + ts.length ≤ 5000 → ts.length + 1 ≤ T.length →
  Calls Tryd.prog 87 #[RP r, .func (.func 68) #[RP r] #[]] W (PostN base r tv T deep nv W (p ts ns))
def WithC (K : FuncId) (p : M Nat) (deep : Nat) : Prop := ∀ (base r bx : Nat) (tv nv : Value) (T : List Tok) (ts : List Tk) (ns : List Nd) (W : World), RS base r tv T deep ts ns nv W → base ≤ W.heap.size → ns.length + ts.length ≤ 5000 → ts.length + 1 ≤ T.length → Blk W bx 62 #[RP r] → bx ≠ r → base ≤ bx →
  Calls Tryd.prog 87 #[RP r, .func (.func K) #[] #[.pointer (some ⟨bx, 0, none⟩)]] W (PostN base r tv T deep nv W (p ts ns))
theorem deep_post {base r deep : Nat} {tv nv : Value} {T : List Tok} {ts : List Tk} {ns : List Nd} {W : World} {e : Ending} {w' : World} (h : e = Bad T (ts.length + 1) true ∧ W = w') : PostN base r tv T deep nv W ((M.deep : M Nat) ts ns) e w' := by
  obtain ⟨rfl, rfl⟩ := h
  exact ⟨rfl, nv, Stp.refl _ _ _⟩
theorem withN_deep {deep : Nat} (hd : deep = 16) : WithN M.deep deep := fun base r tv nv T ts ns W h hb hB ht => (within_deep h (by omega) (by omega) ht).mono fun e w' hp => deep_post hp
theorem withC_deep {K : FuncId} {deep : Nat} (hd : deep = 16) : WithC K M.deep deep := fun base r bx tv nv T ts ns W h hb hB ht _ _ _ => (within_deep h (by omega) (by omega) ht).mono fun e w' hp => deep_post hp
theorem withN_go {p : M Nat} {deep : Nat} (hd : deep < 16) (hr : Reads 68 p (deep + 1)) : WithN p deep := fun base r tv nv T ts ns W h hb hB ht =>
  within_not h hd fun W1 h1 hs => hr _ _ _ _ _ _ _ _ h1 (Nat.le_trans hb hs) hB
theorem withC_cond {p : M Nat} {deep : Nat} (hd : deep < 16) (hr : ReadsC 88 p (deep + 1)) : WithC 88 p deep := fun base r bx tv nv T ts ns W h hb hB ht hbx hne hbb =>
  within_cond h hd hbx hne fun W1 h1 hs hx => hr _ _ _ _ _ _ _ _ _ h1 (Nat.le_trans hb hs) hB hx hne hbb
theorem withC_query {p : M Nat} {deep : Nat} (hd : deep < 16) (hr : ReadsC 104 p (deep + 1)) : WithC 104 p deep := fun base r bx tv nv T ts ns W h hb hB ht hbx hne hbb =>
  within_query h hd hbx hne fun W1 h1 hs hx => hr _ _ _ _ _ _ _ _ _ h1 (Nat.le_trans hb hs) hB hx hne hbb
end Go.Proofs.YtlonkcmkgmbkcaaDoor
