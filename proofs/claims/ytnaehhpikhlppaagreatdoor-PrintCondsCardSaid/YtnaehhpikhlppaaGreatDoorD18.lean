/- Several texts of the proof, joined. -/
import Derived.Test.YtnaehhpikhlppaaGreatDoorD11
import Derived.Test.YtnaehhpikhlppaaGreatDoorD17
set_option maxHeartbeats 4000000
set_option linter.unusedVariables false
set_option linter.unusedSimpArgs false
namespace Go.Proofs.YtnaehhpikhlppaaGreatDoor.ParS
open LexS

theorem lexT_tx {s : Bytes} (h : LexT (tx s)) : s.length ≤ 64 := by
  rcases lexT_cases h with ⟨_, h1⟩ | ⟨h1, _⟩
  · exact h1
  · exact absurd rfl (h1 34 (by show (34 : UInt8) ∈ (34 :: (s.flatMap esc ++ [34]) : Bytes); simp)).2
theorem lexT_nm {n : Int} (h : LexT (nm n)) : -9223372036854775808 ≤ n ∧ n ≤ 9223372036854775807 := by
  obtain ⟨h1, c, r, h2, _⟩ := h
  rw [h2] at h1
  unfold oneS at h1
  dsimp only at h1
  have kind : ∀ (t : Tok) (k m : Nat), (t, k) = ((⟨(nm n).kind, (nm n).s, (nm n).n, 0⟩ : Tok), m) → t.kind = 2 ∧ t.n = n := by
    intro t k m e
    have := (Prod.mk.inj e).1
    subst this
    exact ⟨rfl, rfl⟩
  by_cases hl : letterB c = true
  · rw [if_pos hl] at h1
    split at h1
    · have := (kind _ _ _ h1).1
      cases this
    · have := (kind _ _ _ h1).1
      cases this
  · rw [if_neg hl] at h1
    by_cases hq : c.toNat = 34
    · rw [if_pos hq] at h1
      rcases hx : textS (c :: r) with _ | ⟨s, k⟩
      · rw [hx] at h1
        have := (kind _ _ _ h1).1
        cases this
      · rw [hx] at h1
        have := (kind _ _ _ h1).1
        cases this
    · rw [if_neg hq] at h1
      by_cases hd : digitB c = true ∨ (c.toNat = 45 ∧ r.head?.map digitB = some true)
      · rw [if_pos hd] at h1
        rcases hx : numberS (c :: r) with _ | ⟨v, k⟩
        · rw [hx] at h1
          have := (kind _ _ _ h1).1
          cases this
        · rw [hx] at h1
          have e := (kind _ _ _ h1).2
          unfold numberS at hx
          split at hx
          · rename_i v' ha
            split at hx
            · simp only [Option.some.injEq, Prod.mk.injEq] at hx
              obtain ⟨rfl, rfl⟩ := hx
              have e2 : v' = n := e
              subst e2
              exact Lib.atoiAll_bounds ha
            · cases hx
          · cases hx
      · rw [if_neg hd] at h1
        split at h1
        · have := (kind _ _ _ h1).1
          cases this
        · have := (kind _ _ _ h1).1
          cases this
theorem gap_len (p t : Tk) : (gapT p t).length ≤ 1 := by
  unfold gapT
  split <;> simp
theorem spellR_len : ∀ (l : List Tk) (p : Tk), (∀ t ∈ l, LexT t) → (spellR p l).length ≤ 131 * l.length
  | [], _, _ => Nat.zero_le _
  | t :: r, p, h => by
    have h1 := spellR_len r t fun x hx => h x (by simp [hx])
    have h2 := lexT_small (h t (by simp))
    have h3 := gap_len p t
    show (gapT p t ++ oneT t ++ spellR t r).length ≤ _
    simp only [List.length_append, List.length_cons]
    omega
theorem spell_len {l : List Tk} (h : ∀ t ∈ l, LexT t) : (spell l).length ≤ 131 * l.length := by
  cases l with
  | nil => exact Nat.zero_le _
  | cons t r =>
    have h1 := spellR_len r t fun x hx => h x (by simp [hx])
    have h2 := lexT_small (h t (by simp))
    show (oneT t ++ spellR t r).length ≤ _
    simp only [List.length_append, List.length_cons]
    omega
/-- A condition that may be written. -/
structure CondIn (w : Nat) (c : Cd) : Prop where
  ok : c.Ok
  lex : ∀ t ∈ c.tok w, LexT t
  few : (c.tok w).length ≤ 1024
theorem brk_sub {rank wanted : Nat} {l : List Tk} : l.length ≤ (brk rank wanted l).length ∧ ∀ t ∈ l, t ∈ brk rank wanted l := by
  unfold brk
  split
  · exact ⟨by simp; omega, fun t ht => by simp [ht]⟩
  · exact ⟨Nat.le_refl _, fun t ht => ht⟩
section
variable {w : Nat} {c a b : Cd}
theorem CondIn.base (h : CondIn w c) : CondIn 0 c := by
  obtain ⟨h1, h2⟩ := brk_sub (rank := c.rank) (wanted := w) (l := c.body)
  refine ⟨h.ok, fun t ht => h.lex t ?_, ?_⟩
  · rw [Cd.tok0] at ht
    exact h2 t ht
  · rw [Cd.tok0]
    exact Nat.le_trans h1 h.few
theorem CondIn.inNot (h : CondIn w (.not c)) : CondIn 3 c := by
  have h := h.base
  have e : Cd.tok 0 (.not c) = [wd kw_not] ++ c.tok 3 := by rw [Cd.tok0]; rfl
  refine ⟨h.ok, fun t ht => h.lex t (by rw [e]; simp [ht]), ?_⟩
  have := h.few
  rw [e] at this
  simp at this
  omega
theorem CondIn.inAnd (h : CondIn w (.and a b)) : CondIn 2 a ∧ CondIn 3 b := by
  have h := h.base
  have e : Cd.tok 0 (.and a b) = a.tok 2 ++ [wd kw_and] ++ b.tok 3 := by rw [Cd.tok0]; rfl
  have hf := h.few
  rw [e] at hf
  simp at hf
  exact ⟨⟨h.ok.1, fun t ht => h.lex t (by rw [e]; simp [ht]), by omega⟩, ⟨h.ok.2, fun t ht => h.lex t (by rw [e]; simp [ht]), by omega⟩⟩
theorem CondIn.inOr (h : CondIn w (.or a b)) : CondIn 1 a ∧ CondIn 2 b := by
  have h := h.base
  have e : Cd.tok 0 (.or a b) = a.tok 1 ++ [wd kw_or] ++ b.tok 2 := by rw [Cd.tok0]; rfl
  have hf := h.few
  rw [e] at hf
  simp at hf
  exact ⟨⟨h.ok.1, fun t ht => h.lex t (by rw [e]; simp [ht]), by omega⟩, ⟨h.ok.2, fun t ht => h.lex t (by rw [e]; simp [ht]), by omega⟩⟩
theorem CondIn.len (h : CondIn w c) : (c.textB w).length ≤ 134144 := by
  rw [← (cond_text h.ok w).2]
  have := spell_len h.lex
  have := h.few
  omega
theorem CondIn.inHas {s t : Bytes} (h : CondIn w (.has s t)) : s.length ≤ 130 ∧ t.length ≤ 64 := by
  have h := h.base
  have e : Cd.tok 0 (.has s t) = [wd s, wd kw_has, tx t] := by rw [Cd.tok0]; rfl
  exact ⟨lexT_small (t := wd s) (h.lex _ (by rw [e]; simp)), lexT_tx (h.lex _ (by rw [e]; simp))⟩
theorem CondIn.inCmp {s : Bytes} {n : Nat} {v : Val} (h : CondIn w (.cmp s n v)) : s.length ≤ 130 ∧ 1 ≤ n ∧ n ≤ 6 ∧ ValOk v ∧ (-9223372036854775808 ≤ v.n ∧ v.n ≤ 9223372036854775807) ∧ v.s.length ≤ 64 := by
  have h := h.base
  obtain ⟨_, h1, h2, hv⟩ := h.ok
  have e : Cd.tok 0 (.cmp s n v) = [wd s, sg (signW n)] ++ valT v := by rw [Cd.tok0]; rfl
  have hs := lexT_small (t := wd s) (h.lex _ (by rw [e]; simp))
  have hl : ∀ t ∈ valT v, LexT t := fun t ht => h.lex t (by rw [e]; simp [ht])
  refine ⟨hs, h1, h2, hv, ?_⟩
  obtain ⟨k, m, x⟩ := v
  unfold ValOk at hv
  dsimp only at hv ⊢
  rcases hv with ⟨rfl, rfl⟩ | ⟨rfl, rfl⟩ | ⟨rfl, rfl, hm⟩
  · exact ⟨lexT_nm (hl _ (by show nm m ∈ [nm m]; simp)), Nat.zero_le _⟩
  · exact ⟨by omega, lexT_tx (hl _ (by show tx x ∈ [tx x]; simp))⟩
  · exact ⟨by omega, Nat.zero_le _⟩
end
end Go.Proofs.YtnaehhpikhlppaaGreatDoor.ParS

namespace Go.Proofs.YtnaehhpikhlppaaGreatDoor
open Go.RowKit LexS ParS BigFrame
attribute [local go_sem] field_tok1 field_tok2
attribute [local go_sem] World.cell?_alloc_some cell_drewN_new free_drewN_new cell_drew_new free_drew_new

/-- What a reader's function answers that lays nodes. -/
def PostN (base r : Nat) (tv : Value) (T : List Tok) (deep : Nat) (nv : Value) (W : World) (x : Except Er (Nat × List Tk × List Nd)) (e : Ending) (W' : World) : Prop := match x with
  | .error (k, long) => e = Bad T k long ∧ ∃ nv', Stp r nv W nv' W'
  | .ok (a, ts1, ns1) => ∃ nv', e = .returned (.int .i64 (a : Int)) ∧ RS base r tv T deep ts1 ns1 nv' W' ∧ Stp r nv W nv' W'
/-- p lays no more than it reads, and goes by what stands ahead. -/
def Nice (p : M Nat) : Prop := Cost 0 0 p ∧ ∀ {e : Prop}, Rel Quits e p p
theorem Nice.short {p : M Nat} (h : Nice p) {ts ts1 : List Tk} {ns ns1 : List Nd} {a : Nat} (hp : p ts ns = .ok (a, ts1, ns1)) : ts1.length ≤ ts.length := ((h.2 (e := True)) _ _ _ _ _ hp).1
theorem nice_both {n : M Nat} (h : Nice n) : Nice (bothOf n) := ⟨cost_both h.1, rel_joined (.inr rfl) h.2⟩
theorem nice_cond {n : M Nat} (h : Nice n) : Nice (condOf n) := ⟨cost_cond h.1, rel_cond h.2⟩
theorem nice_not (d : Nat) : Nice (pNot d) := ⟨cost_not d, rel_not d 0⟩
/-- Function K reads what p reads. -/
def Reads (K : FuncId) (p : M Nat) (deep : Nat) : Prop := ∀ (base r : Nat) (tv nv : Value) (T : List Tok) (ts : List Tk) (ns : List Nd) (W : World), RS base r tv T deep ts ns nv W → base ≤ W.heap.size → ns.length + ts.length ≤ 5000 →
  Calls Tryz.prog K #[RP r] W (PostN base r tv T deep nv W (p ts ns))
theorem own_blk {W : World} {base g n : Nat} {e : TypeId} {cs : List Value} (h : Blk W g e cs.toArray) (hb : base ≤ g) (hn : cs.length = n) (hm : n ≤ 1000) : W.ownsRow base e 1 (.slice (some ⟨g, 0, none⟩) n n) n cs := by
  refine ⟨by omega, .inr ⟨g, n, cs.toArray, rfl, hb, h, Nat.le_refl _, by unfold maxLen; omega, by simp [hn], ?_⟩⟩
  simp [← hn]
/-- A node that names others. -/
def ndM (kind : Nat) (l : List Nat) (g : Nat) : NodeM := ⟨node kind l, .slice (some ⟨g, 0, none⟩) l.length l.length, .slice none 0 0, .slice none 0 0⟩
theorem nil_row {W : World} {base size : Nat} {e : TypeId} : W.ownsRow base e size (.slice none 0 0) 0 [] := World.ownsRow_nil W base e size
theorem ndM_ok {W : World} {base kind g : Nat} {l : List Nat} (h : Blk W g 3 (intsL l).toArray) (hb : base ≤ g) (hl : l.length ≤ 1000) : MOk W base (ndM kind l g) :=
  ⟨own_blk h hb (by simp [intsL, ndM, node]) hl, nil_row, nil_row⟩
section
variable {w : Bytes} {kind : Nat} {read : M Nat} {f a b : Nat} {ts ts1 ts2 : List Tk} {ns ns1 ns2 : List Nd} {er : Er}
theorem joined_ok' (h : read ts ns = .ok (a, ts1, ns1)) : joined w kind read ts ns = joinedGo w kind read fuel a ts1 ns1 := by
  unfold joined M.bind
  rw [h]
theorem joined_err (h : read ts ns = .error er) : joined w kind read ts ns = .error er := by
  unfold joined M.bind
  rw [h]
theorem joinedGo_none (h : sees w ts = none) : joinedGo w kind read (f + 1) a ts ns = .ok (a, ts, ns) := by
  unfold joinedGo
  rw [h]
theorem joinedGo_some (h : sees w ts = some ts1) (hr : read ts1 ns = .ok (b, ts2, ns2)) : joinedGo w kind read (f + 1) a ts ns = joinedGo w kind read f ns2.length ts2 (ns2 ++ [node kind [a, b]]) := by
  rw [joinedGo]
  dsimp only
  rw [h]
  unfold M.bind lay
  dsimp only
  rw [hr]
theorem joinedGo_bad (h : sees w ts = some ts1) (hr : read ts1 ns = .error er) : joinedGo w kind read (f + 1) a ts ns = .error er := by
  rw [joinedGo]
  dsimp only
  rw [h]
  unfold M.bind
  dsimp only
  rw [hr]
end
/-- How it stands at the head of a round. -/
structure JK (base r deep : Nat) (tv nv : Value) (T : List Tok) (W : World) (w : Bytes) (kind : Nat) (read : M Nat) (ts : List Tk) (ns : List Nd) (f a : Nat) (ts1 : List Tk) (ns1 : List Nd) (nv1 : Value) (W1 : World) : Prop where
  eq : joined w kind read ts ns = joinedGo w kind read f a ts1 ns1
  fl : ts1.length < f
  rs : RS base r tv T deep ts1 ns1 nv1 W1
  st : Stp r nv W nv1 W1
  bd : ns1.length + ts1.length ≤ ns.length + ts.length
section
variable {base r deep : Nat} {tv nv nv' : Value} {T : List Tok} {ts ts1 : List Tk} {ns : List Nd} {W W' : World}
set_option maxRecDepth 100000 in
theorem joined_not {w : Bytes} {kind : Nat} {read : M Nat} (hread : Reads 190 read deep) (hcost : Nice read) (h : RS base r tv T deep ts ns nv W) (hbase : base ≤ W.heap.size) (hB : ns.length + ts.length ≤ 5000) :
    Calls Tryz.prog 169 #[RP r, .string (BA w), .int .i64 (kind : Int), .func (.func 190) #[RP r] #[]] W (PostN base r tv T deep nv W (joined w kind read ts ns)) := by
  have HR := Lib.hid hread
  have HC := Lib.hid hcost
  have H := Lib.hid h
  clear hread hcost h
  go_enter Tryz.func169, Tryz.ntmps169
  go_wp2_with fail
  refine (HR.out _ _ _ _ _ _ _ _ H.out hbase hB).mono ?_
  rintro e w1 hp
  rcases hr : read ts ns with ⟨k, long⟩ | ⟨a, ts1, ns1⟩
  · rw [hr] at hp
    obtain ⟨rfl, nv1, s1⟩ := hp
    have HF := Lib.hid (joined_err (w := w) (kind := kind) hr)
    have S1 := Lib.hid s1
    clear hr s1
    unfold Bad
    go_wp2_with fail
    exact ⟨rfl, by rw [HF.out]; exact ⟨rfl, _, S1.out⟩⟩
  · rw [hr] at hp
    obtain ⟨nv1, rfl, h1, s1⟩ := hp
    have hc1 := HC.out.1 _ _ _ _ _ hr
    have hsh := HC.out.short hr
    have HJ := Lib.hid (show JK base r deep tv nv T W w kind read ts ns fuel a ts1 ns1 nv1 w1 from ⟨joined_ok' hr, by have h2 := h1.short; have h3 := h1.few; unfold fuel; omega, h1, s1, by omega⟩)
    clear hr h1 s1 hc1 hsh
    go_wp2_with fail
    go_loopg [9] (ts1.length + 2) (fun gk c wr => ∃ f a2 ts2 ns2 nv2, ts2.length < gk ∧ c = .int .i64 ((a2 : Nat) : Int) ∧ JK base r deep tv nv T W w kind read ts ns f a2 ts2 ns2 nv2 wr)
    case atStart => exact ⟨_, _, _, _, _, by omega, rfl, HJ.out⟩
    case round =>
      obtain ⟨f, a2, ts2, ns2, nv2, hgk, rfl, hj⟩ := hrel
      have hbd := hj.bd
      have hfl := hj.fl
      obtain ⟨f1, rfl⟩ : ∃ f1, f = f1 + 1 := ⟨f - 1, by omega⟩
      have HK := Lib.hid hj
      clear hj HJ
      rcases hs : sees w ts2 with _ | ts3
      · have HE := Lib.hid (show joined w kind read ts ns = .ok (a2, ts2, ns2) by rw [HK.out.eq, joinedGo_none hs])
        have HS := Lib.hid (sees_no HK.out.rs hs)
        clear hs
        go_wp2_with fail
        refine HS.out.mono ?_
        rintro e w2 ⟨rfl, h2, m2⟩
        have HF := Lib.hid (And.intro h2 (HK.out.st.trans (m2.stp _)))
        clear h2 m2
        go_wp2_with fail
        exact bodyPost_ret (results_tmp rfl _ _ _) rfl (by rw [HE.out]; exact ⟨_, rfl, HF.out⟩)
      · have hl3 := sees_len hs
        have HS := Lib.hid (sees_yes HK.out.rs hs)
        have HSE := Lib.hid hs
        clear hs
        go_wp2_with fail
        refine HS.out.mono ?_
        rintro e w2 ⟨rfl, h2, m2⟩
        have S2 := Lib.hid (HK.out.st.trans (m2.stp _))
        have H2 := Lib.hid h2
        have hb2 : base ≤ w2.heap.size := Nat.le_trans hbase S2.out.size
        clear h2 m2
        go_wp2_with fail
        refine (HR.out _ _ _ _ _ _ _ _ H2.out hb2 (by omega)).mono ?_
        rintro e w3 hp
        rcases hr : read ts3 ns2 with ⟨k, long⟩ | ⟨b, ts4, ns4⟩
        · rw [hr] at hp
          obtain ⟨rfl, nv3, s3⟩ := hp
          have HE := Lib.hid (show joined w kind read ts ns = .error (k, long) by rw [HK.out.eq, joinedGo_bad HSE.out hr])
          have S3 := Lib.hid (S2.out.trans s3)
          clear hr s3
          unfold Bad
          go_wp2_with fail
          exact ⟨rfl, by rw [HE.out]; exact ⟨rfl, _, S3.out⟩⟩
        · rw [hr] at hp
          obtain ⟨nv3, rfl, h3, s3⟩ := hp
          have hc3 := HC.out.1 _ _ _ _ _ hr
          have hsh := HC.out.short hr
          have HE := Lib.hid (show joined w kind read ts ns = joinedGo w kind read f1 ns4.length ts4 (ns4 ++ [node kind [a2, b]]) by rw [HK.out.eq, joinedGo_some HSE.out hr])
          have S3 := Lib.hid (S2.out.trans s3)
          have hb3 : base ≤ w3.heap.size := Nat.le_trans hbase S3.out.size
          have hbw : Below w3.heap.size w3 (w3.alloc (.cells #[.int .i64 (a2 : Int), .int .i64 (b : Int)] 3)) := (Below.refl _ _).alloc (Nat.le_refl _) _
          have HL := Lib.hid (lay_any (ndM kind [a2, b] w3.heap.size) (h3.kept hbw) (ndM_ok (Blk.new w3 _ _) hb3 (by simp)) (by omega) (Nat.le_trans hb3 hbw.size))
          have S4 := Lib.hid (S3.out.trans (Stp.of (r := r) hbw))
          clear hr h3 s3 hbw
          go_wp2_with fail
          refine HL.out.mono ?_
          rintro e w4 ⟨nv4, rfl, h4, s4⟩
          have HN := Lib.hid (show JK base r deep tv nv T W w kind read ts ns f1 ns4.length ts4 (ns4 ++ [node kind [a2, b]]) nv4 w4 from ⟨HE.out, by omega, h4, S4.out.trans s4, by simp only [List.length_append, List.length_singleton]; omega⟩)
          clear h4 s4
          go_wp2_with fail
          go_roundg (ts2.length)
          case measure => omega
          case rel => exact ⟨f1, _, ts4, _, _, by omega, rfl, HN.out⟩
set_option maxRecDepth 100000 in
theorem joined_both {w : Bytes} {kind : Nat} {read : M Nat} (hread : Reads 170 read deep) (hcost : Nice read) (h : RS base r tv T deep ts ns nv W) (hbase : base ≤ W.heap.size) (hB : ns.length + ts.length ≤ 5000) :
    Calls Tryz.prog 169 #[RP r, .string (BA w), .int .i64 (kind : Int), .func (.func 170) #[RP r] #[]] W (PostN base r tv T deep nv W (joined w kind read ts ns)) := by
  have HR := Lib.hid hread
  have HC := Lib.hid hcost
  have H := Lib.hid h
  clear hread hcost h
  go_enter Tryz.func169, Tryz.ntmps169
  go_wp2_with fail
  refine (HR.out _ _ _ _ _ _ _ _ H.out hbase hB).mono ?_
  rintro e w1 hp
  rcases hr : read ts ns with ⟨k, long⟩ | ⟨a, ts1, ns1⟩
  · rw [hr] at hp
    obtain ⟨rfl, nv1, s1⟩ := hp
    have HF := Lib.hid (joined_err (w := w) (kind := kind) hr)
    have S1 := Lib.hid s1
    clear hr s1
    unfold Bad
    go_wp2_with fail
    exact ⟨rfl, by rw [HF.out]; exact ⟨rfl, _, S1.out⟩⟩
  · rw [hr] at hp
    obtain ⟨nv1, rfl, h1, s1⟩ := hp
    have hc1 := HC.out.1 _ _ _ _ _ hr
    have hsh := HC.out.short hr
    have HJ := Lib.hid (show JK base r deep tv nv T W w kind read ts ns fuel a ts1 ns1 nv1 w1 from ⟨joined_ok' hr, by have h2 := h1.short; have h3 := h1.few; unfold fuel; omega, h1, s1, by omega⟩)
    clear hr h1 s1 hc1 hsh
    go_wp2_with fail
    go_loopg [9] (ts1.length + 2) (fun gk c wr => ∃ f a2 ts2 ns2 nv2, ts2.length < gk ∧ c = .int .i64 ((a2 : Nat) : Int) ∧ JK base r deep tv nv T W w kind read ts ns f a2 ts2 ns2 nv2 wr)
    case atStart => exact ⟨_, _, _, _, _, by omega, rfl, HJ.out⟩
    case round =>
      obtain ⟨f, a2, ts2, ns2, nv2, hgk, rfl, hj⟩ := hrel
      have hbd := hj.bd
      have hfl := hj.fl
      obtain ⟨f1, rfl⟩ : ∃ f1, f = f1 + 1 := ⟨f - 1, by omega⟩
      have HK := Lib.hid hj
      clear hj HJ
      rcases hs : sees w ts2 with _ | ts3
      · have HE := Lib.hid (show joined w kind read ts ns = .ok (a2, ts2, ns2) by rw [HK.out.eq, joinedGo_none hs])
        have HS := Lib.hid (sees_no HK.out.rs hs)
        clear hs
        go_wp2_with fail
        refine HS.out.mono ?_
        rintro e w2 ⟨rfl, h2, m2⟩
        have HF := Lib.hid (And.intro h2 (HK.out.st.trans (m2.stp _)))
        clear h2 m2
        go_wp2_with fail
        exact bodyPost_ret (results_tmp rfl _ _ _) rfl (by rw [HE.out]; exact ⟨_, rfl, HF.out⟩)
      · have hl3 := sees_len hs
        have HS := Lib.hid (sees_yes HK.out.rs hs)
        have HSE := Lib.hid hs
        clear hs
        go_wp2_with fail
        refine HS.out.mono ?_
        rintro e w2 ⟨rfl, h2, m2⟩
        have S2 := Lib.hid (HK.out.st.trans (m2.stp _))
        have H2 := Lib.hid h2
        have hb2 : base ≤ w2.heap.size := Nat.le_trans hbase S2.out.size
        clear h2 m2
        go_wp2_with fail
        refine (HR.out _ _ _ _ _ _ _ _ H2.out hb2 (by omega)).mono ?_
        rintro e w3 hp
        rcases hr : read ts3 ns2 with ⟨k, long⟩ | ⟨b, ts4, ns4⟩
        · rw [hr] at hp
          obtain ⟨rfl, nv3, s3⟩ := hp
          have HE := Lib.hid (show joined w kind read ts ns = .error (k, long) by rw [HK.out.eq, joinedGo_bad HSE.out hr])
          have S3 := Lib.hid (S2.out.trans s3)
          clear hr s3
          unfold Bad
          go_wp2_with fail
          exact ⟨rfl, by rw [HE.out]; exact ⟨rfl, _, S3.out⟩⟩
        · rw [hr] at hp
          obtain ⟨nv3, rfl, h3, s3⟩ := hp
          have hc3 := HC.out.1 _ _ _ _ _ hr
          have hsh := HC.out.short hr
          have HE := Lib.hid (show joined w kind read ts ns = joinedGo w kind read f1 ns4.length ts4 (ns4 ++ [node kind [a2, b]]) by rw [HK.out.eq, joinedGo_some HSE.out hr])
          have S3 := Lib.hid (S2.out.trans s3)
          have hb3 : base ≤ w3.heap.size := Nat.le_trans hbase S3.out.size
          have hbw : Below w3.heap.size w3 (w3.alloc (.cells #[.int .i64 (a2 : Int), .int .i64 (b : Int)] 3)) := (Below.refl _ _).alloc (Nat.le_refl _) _
          have HL := Lib.hid (lay_any (ndM kind [a2, b] w3.heap.size) (h3.kept hbw) (ndM_ok (Blk.new w3 _ _) hb3 (by simp)) (by omega) (Nat.le_trans hb3 hbw.size))
          have S4 := Lib.hid (S3.out.trans (Stp.of (r := r) hbw))
          clear hr h3 s3 hbw
          go_wp2_with fail
          refine HL.out.mono ?_
          rintro e w4 ⟨nv4, rfl, h4, s4⟩
          have HN := Lib.hid (show JK base r deep tv nv T W w kind read ts ns f1 ns4.length ts4 (ns4 ++ [node kind [a2, b]]) nv4 w4 from ⟨HE.out, by omega, h4, S4.out.trans s4, by simp only [List.length_append, List.length_singleton]; omega⟩)
          clear h4 s4
          go_wp2_with fail
          go_roundg (ts2.length)
          case measure => omega
          case rel => exact ⟨f1, _, ts4, _, _, by omega, rfl, HN.out⟩
theorem hmfA : ∀ (fn : Fn) (first cap : Array Value) (w : World), (Instr.makeFunc fn first cap).run Tryz.prog w = .ok (.func fn first cap) w := fun _ _ _ _ => rfl
theorem both_reads {n : M Nat} (hn : Reads 190 n deep) (hc : Nice n) : Reads 170 (bothOf n) deep := by
  intro base r tv nv T ts ns W h hbase hB
  have hmf := hmfA
  have HJ := Lib.hid (joined_not (w := kw_and) (kind := 11) hn hc h hbase hB)
  clear h
  go_enter Tryz.func170, Tryz.ntmps170
  go_wp2_with fail
  refine HJ.out.mono ?_
  rintro e w1 hp
  rcases hr : joined kw_and 11 n ts ns with ⟨k, long⟩ | ⟨a, ts1, ns1⟩
  · rw [hr] at hp
    obtain ⟨rfl, nv1, s1⟩ := hp
    have HF := Lib.hid (And.intro hr s1)
    clear hr s1
    unfold Bad
    go_wp2_with fail
    exact ⟨rfl, by show PostN base r tv T deep nv W (joined kw_and 11 n ts ns) _ _; rw [HF.out.1]; exact ⟨rfl, _, HF.out.2⟩⟩
  · rw [hr] at hp
    obtain ⟨nv1, rfl, h1, s1⟩ := hp
    have HF := Lib.hid (And.intro hr (And.intro h1 s1))
    clear hr h1 s1
    go_wp2_with fail
    exact bodyPost_ret (results_tmp rfl _ _ _) rfl (by show PostN base r tv T deep nv W (joined kw_and 11 n ts ns) _ _; rw [HF.out.1]; exact ⟨_, rfl, HF.out.2⟩)
theorem cond_reads {n : M Nat} (hn : Reads 190 n deep) (hc : Nice n) : Reads 144 (condOf n) deep := by
  intro base r tv nv T ts ns W h hbase hB
  have hmf := hmfA
  have HJ := Lib.hid (joined_both (w := kw_or) (kind := 12) (both_reads hn hc) (nice_both hc) h hbase hB)
  clear h
  go_enter Tryz.func144, Tryz.ntmps144
  go_wp2_with fail
  refine HJ.out.mono ?_
  rintro e w1 hp
  rcases hr : joined kw_or 12 (bothOf n) ts ns with ⟨k, long⟩ | ⟨a, ts1, ns1⟩
  · rw [hr] at hp
    obtain ⟨rfl, nv1, s1⟩ := hp
    have HF := Lib.hid (And.intro hr s1)
    clear hr s1
    unfold Bad
    go_wp2_with fail
    exact ⟨rfl, by show PostN base r tv T deep nv W (joined kw_or 12 (bothOf n) ts ns) _ _; rw [HF.out.1]; exact ⟨rfl, _, HF.out.2⟩⟩
  · rw [hr] at hp
    obtain ⟨nv1, rfl, h1, s1⟩ := hp
    have HF := Lib.hid (And.intro hr (And.intro h1 s1))
    clear hr h1 s1
    go_wp2_with fail
    exact bodyPost_ret (results_tmp rfl _ _ _) rfl (by show PostN base r tv T deep nv W (joined kw_or 12 (bothOf n) ts ns) _ _; rw [HF.out.1]; exact ⟨_, rfl, HF.out.2⟩)
end
end Go.Proofs.YtnaehhpikhlppaaGreatDoor

namespace Go.Proofs.YtnaehhpikhlppaaGreatDoor
open Go.RowKit LexS ParS BigFrame
attribute [local go_sem] field_tok1 field_tok2
attribute [local go_sem] World.cell?_alloc_some cell_drewN_new free_drewN_new cell_drew_new free_drew_new

/-! Boxes of the call's own, as lists -/
def setMany (l : List Value) : Nat → List Value → List Value
  | _, [] => l
  | o, v :: r => setMany (l.set o v) (o + 1) r
section
variable {W : World} {b : Nat} {t : TypeId} {l : List Value}
theorem box_put (h : Blk W b t l.toArray) (i : Nat) (v : Value) : Blk (W.setCell ⟨b, i, none⟩ v) b t (l.set i v).toArray := by
  have := h.put i v
  rwa [List.setIfInBounds_toArray] at this
theorem box_puts : ∀ (vs : List Value) {W : World} {l : List Value} (o : Nat), Blk W b t l.toArray → Blk (W.setCells b o vs) b t (setMany l o vs).toArray
  | [], W, l, o, h => h
  | v :: r, W, l, o, h => box_puts r (o + 1) (box_put h o v)
theorem box_range (h : Blk W b t l.toArray) : W.rangeAt b 0 l := by
  intro j v hj
  rw [Nat.zero_add, h.cell j]
  simpa using hj
theorem box_there {o n : Nat} (h : Blk W b t l.toArray) (hn : o + n ≤ l.length) : W.there b o n := fun j hj => by
  refine ⟨?_, h.free _⟩
  rw [h.cell]
  have : o + j < l.length := by omega
  simp [this]
theorem far_puts {g : Nat} {u : TypeId} {cs : Array Value} (hg : g ≠ b) : ∀ (vs : List Value) {W : World} (o : Nat), Blk W g u cs → Blk (W.setCells b o vs) g u cs
  | [], W, o, h => h
  | v :: r, W, o, h => far_puts hg r (o + 1) (h.far hg v)
theorem mv_puts {r : Nat} {W0 : World} (hb : W0.heap.size ≤ b) : ∀ (vs : List Value) {W : World} (o : Nat), Mv r W0 W → Mv r W0 (W.setCells b o vs)
  | [], W, o, h => h
  | v :: s, W, o, h => mv_puts hb s (o + 1) (h.far hb o v)
end
theorem lay_any' {base r deep : Nat} {tv nv : Value} {T : List Tok} {ts : List Tk} {ns : List Nd} {W : World} (m : NodeM) (h : RS base r tv T deep ts ns nv W) (hm : MOk W base m) (hn : ns.length ≤ 100000) (hbase : base ≤ W.heap.size) :
    Calls Tryz.prog 106 #[RP r, .agg m.cells.toArray] W fun e W' => ∃ nv', e = .returned (.int .i64 (ns.length : Int)) ∧ RS base r tv T deep ts (ns ++ [m.node]) nv' W' ∧ Stp r nv W nv' W' := lay_any m h hm hn hbase
theorem one_nd (kd : Nat) (s : Bytes) (n fr to_ : Int) (v : Val) {lv nv av : Value} (h1 : lv.oneCell' = true) (h2 : nv.oneCell' = true) (h3 : av.oneCell' = true) (l : List Nat) (nm : List Bytes) (ag : List (Nat × Bytes)) :
    (NodeM.cells ⟨⟨kd, s, n, fr, to_, v, l, nm, ag⟩, lv, nv, av⟩).toArray.all (·.oneCell') = true := by
  refine all_oneCell_toArray ?_
  intro u hu
  simp only [NodeM.cells, List.mem_cons, List.not_mem_nil, or_false] at hu
  rcases hu with rfl | rfl | rfl | rfl | rfl | rfl | rfl | rfl | rfl | rfl | rfl | rfl | rfl | rfl | rfl | rfl | rfl | rfl | rfl
  all_goals first | rfl | assumption
/-- A new box of a node, with what is stored into it. -/
theorem nd_new (W : World) (m : NodeM) : Blk ((W.alloc (.cells zeroNd 42)).setCells W.heap.size 0 m.cells) W.heap.size 42 m.cells.toArray :=
  box_puts m.cells (l := zeroNd.toList) 0 (Blk.new W _ _)
theorem nd_there (W : World) : (W.alloc (.cells zeroNd 42)).there W.heap.size 0 19 := box_there (l := zeroNd.toList) (Blk.new W _ _) (by decide)
section
variable {base r deep : Nat} {tv nv nv' : Value} {T : List Tok} {ts ts1 : List Tk} {ns : List Nd} {W W' : World}
/-- Too much is open. -/
theorem within_deep {fv : Value} (h : RS base r tv T deep ts ns nv W) (hd : 16 ≤ deep) (hd2 : deep ≤ 100) (ht : ts.length + 1 ≤ T.length) :
    Calls Tryz.prog 174 #[RP r, fv] W fun e W' => e = Bad T (ts.length + 1) true ∧ W = W' := by
  have hfew := h.few
  obtain ⟨i, hi⟩ : ∃ i, i = T.length - ts.length := ⟨_, rfl⟩
  have c1 : W.cell? ⟨r, 1, none⟩ = some (.int .i64 (i : Int)) := by rw [hi]; exact h.box.cell 1
  have c2 : W.cell? ⟨r, 2, none⟩ = some (.int .i64 (deep : Int)) := h.box.cell 2
  have q1 : (16 : Int) ≤ (deep : Int) := by omega
  have q2 : decide ((16 : Int) ≤ (deep : Int)) = true := decide_eq_true q1
  have HB := Lib.hid (show Bad T (ts.length + 1) true = .panicked [{ v := .iface 145 (.agg #[.int .i64 ((i : Int) - 1), .int .i64 2]), recovered := false }] by
    unfold Bad
    rw [show ((T.length - (ts.length + 1) : Nat) : Int) = (i : Int) - 1 by omega]
    rfl)
  have hi1 : 1 ≤ i := by omega
  have hi2 : i ≤ 1024 := by omega
  clear hi h
  go_enter Tryz.func174, Tryz.ntmps174
  go_wp2_with fail
  exact ⟨rfl, HB.out.symm, rfl⟩
/-- Something that is opened: a call at one more depth. -/
theorem within_mid (h : RS base r tv T deep ts ns nv W) : RS base r tv T (deep + 1) ts ns nv (W.setCell ⟨r, 2, none⟩ (.int .i64 ((deep : Int) + 1))) ∧ Stp r nv W nv (W.setCell ⟨r, 2, none⟩ (.int .i64 ((deep : Int) + 1))) :=
  ⟨h.deeper (by omega), (Stp.refl r nv W).set 2 _⟩
theorem within_not {p : M Nat} (h : RS base r tv T deep ts ns nv W) (hd : deep < 16)
    (hr : ∀ W1 : World, RS base r tv T (deep + 1) ts ns nv W1 → W.heap.size ≤ W1.heap.size → Calls Tryz.prog 190 #[RP r] W1 (PostN base r tv T (deep + 1) nv W1 (p ts ns))) :
    Calls Tryz.prog 174 #[RP r, .func (.func 190) #[RP r] #[]] W (PostN base r tv T deep nv W (p ts ns)) := by
  have c2 : W.cell? ⟨r, 2, none⟩ = some (.int .i64 (deep : Int)) := h.box.cell 2
  have f2 := h.box.free 2
  have q1 : ¬ (16 : Int) ≤ (deep : Int) := by omega
  have q2 : decide ((16 : Int) ≤ (deep : Int)) = false := decide_eq_false q1
  have hm := within_mid h
  have HM := Lib.hid hm
  have HR := Lib.hid (hr _ hm.1 hm.2.size)
  clear hm hr h
  go_enter Tryz.func174, Tryz.ntmps174
  go_wp2_with fail
  refine HR.out.mono ?_
  rintro e w1 hp
  rcases hpr : p ts ns with ⟨k, long⟩ | ⟨a, ts1, ns1⟩
  · rw [hpr] at hp
    obtain ⟨rfl, nv1, s1⟩ := hp
    have HF := Lib.hid (And.intro hpr (HM.out.2.trans s1))
    clear hpr s1
    unfold Bad
    go_wp2_with fail
    exact ⟨rfl, by first | exact ⟨rfl, _, HF.out.2⟩ | (rw [HF.out.1]; exact ⟨rfl, _, HF.out.2⟩)⟩
  · rw [hpr] at hp
    obtain ⟨nv1, rfl, h1, s1⟩ := hp
    have c2 : w1.cell? ⟨r, 2, none⟩ = some (.int .i64 ((deep : Int) + 1)) := h1.box.cell 2
    have f2 := h1.box.free 2
    have HF := Lib.hid (And.intro hpr (And.intro (h1.deeper (d2 := deep) (a := (deep : Int)) rfl) ((HM.out.2.trans s1).set 2 (.int .i64 (deep : Int)))))
    have v1 : IntKind.i64.wrap ((deep : Int) + 1 - 1) = (deep : Int) := by rw [show ((deep : Int) + 1 - 1) = (deep : Int) by omega]; exact IntWalk.i64_in _ (by omega)
    have v2 : ((deep : Int) + 1 - 1) = (deep : Int) := by omega
    clear hpr h1 s1
    go_wp2_with fail
    exact bodyPost_ret (results_tmp rfl _ _ _) rfl (by first | exact ⟨_, rfl, HF.out.2⟩ | (rw [HF.out.1]; exact ⟨_, rfl, HF.out.2⟩))
theorem within_cond {p : M Nat} {bx : Nat} (h : RS base r tv T deep ts ns nv W) (hd : deep < 16) (hbx : Blk W bx 112 #[RP r]) (hne : bx ≠ r)
    (hr : ∀ W1 : World, RS base r tv T (deep + 1) ts ns nv W1 → W.heap.size ≤ W1.heap.size → Blk W1 bx 112 #[RP r] → Calls Tryz.prog 206 #[.pointer (some ⟨bx, 0, none⟩)] W1 (PostN base r tv T (deep + 1) nv W1 (p ts ns))) :
    Calls Tryz.prog 174 #[RP r, .func (.func 206) #[] #[.pointer (some ⟨bx, 0, none⟩)]] W (PostN base r tv T deep nv W (p ts ns)) := by
  have c2 : W.cell? ⟨r, 2, none⟩ = some (.int .i64 (deep : Int)) := h.box.cell 2
  have f2 := h.box.free 2
  have q1 : ¬ (16 : Int) ≤ (deep : Int) := by omega
  have q2 : decide ((16 : Int) ≤ (deep : Int)) = false := decide_eq_false q1
  have hm := within_mid h
  have HM := Lib.hid hm
  have HR := Lib.hid (hr _ hm.1 hm.2.size (hbx.far hne _))
  clear hm hr h
  go_enter Tryz.func174, Tryz.ntmps174
  go_wp2_with fail
  refine HR.out.mono ?_
  rintro e w1 hp
  rcases hpr : p ts ns with ⟨k, long⟩ | ⟨a, ts1, ns1⟩
  · rw [hpr] at hp
    obtain ⟨rfl, nv1, s1⟩ := hp
    have HF := Lib.hid (And.intro hpr (HM.out.2.trans s1))
    clear hpr s1
    unfold Bad
    go_wp2_with fail
    exact ⟨rfl, by first | exact ⟨rfl, _, HF.out.2⟩ | (rw [HF.out.1]; exact ⟨rfl, _, HF.out.2⟩)⟩
  · rw [hpr] at hp
    obtain ⟨nv1, rfl, h1, s1⟩ := hp
    have c2 : w1.cell? ⟨r, 2, none⟩ = some (.int .i64 ((deep : Int) + 1)) := h1.box.cell 2
    have f2 := h1.box.free 2
    have HF := Lib.hid (And.intro hpr (And.intro (h1.deeper (d2 := deep) (a := (deep : Int)) rfl) ((HM.out.2.trans s1).set 2 (.int .i64 (deep : Int)))))
    have v1 : IntKind.i64.wrap ((deep : Int) + 1 - 1) = (deep : Int) := by rw [show ((deep : Int) + 1 - 1) = (deep : Int) by omega]; exact IntWalk.i64_in _ (by omega)
    have v2 : ((deep : Int) + 1 - 1) = (deep : Int) := by omega
    clear hpr h1 s1
    go_wp2_with fail
    exact bodyPost_ret (results_tmp rfl _ _ _) rfl (by first | exact ⟨_, rfl, HF.out.2⟩ | (rw [HF.out.1]; exact ⟨_, rfl, HF.out.2⟩))
theorem within_query {p : M Nat} {bx : Nat} (h : RS base r tv T deep ts ns nv W) (hd : deep < 16) (hbx : Blk W bx 112 #[RP r]) (hne : bx ≠ r)
    (hr : ∀ W1 : World, RS base r tv T (deep + 1) ts ns nv W1 → W.heap.size ≤ W1.heap.size → Blk W1 bx 112 #[RP r] → Calls Tryz.prog 175 #[.pointer (some ⟨bx, 0, none⟩)] W1 (PostN base r tv T (deep + 1) nv W1 (p ts ns))) :
    Calls Tryz.prog 174 #[RP r, .func (.func 175) #[] #[.pointer (some ⟨bx, 0, none⟩)]] W (PostN base r tv T deep nv W (p ts ns)) := by
  have c2 : W.cell? ⟨r, 2, none⟩ = some (.int .i64 (deep : Int)) := h.box.cell 2
  have f2 := h.box.free 2
  have q1 : ¬ (16 : Int) ≤ (deep : Int) := by omega
  have q2 : decide ((16 : Int) ≤ (deep : Int)) = false := decide_eq_false q1
  have hm := within_mid h
  have HM := Lib.hid hm
  have HR := Lib.hid (hr _ hm.1 hm.2.size (hbx.far hne _))
  clear hm hr h
  go_enter Tryz.func174, Tryz.ntmps174
  go_wp2_with fail
  refine HR.out.mono ?_
  rintro e w1 hp
  rcases hpr : p ts ns with ⟨k, long⟩ | ⟨a, ts1, ns1⟩
  · rw [hpr] at hp
    obtain ⟨rfl, nv1, s1⟩ := hp
    have HF := Lib.hid (And.intro hpr (HM.out.2.trans s1))
    clear hpr s1
    unfold Bad
    go_wp2_with fail
    exact ⟨rfl, by first | exact ⟨rfl, _, HF.out.2⟩ | (rw [HF.out.1]; exact ⟨rfl, _, HF.out.2⟩)⟩
  · rw [hpr] at hp
    obtain ⟨nv1, rfl, h1, s1⟩ := hp
    have c2 : w1.cell? ⟨r, 2, none⟩ = some (.int .i64 ((deep : Int) + 1)) := h1.box.cell 2
    have f2 := h1.box.free 2
    have HF := Lib.hid (And.intro hpr (And.intro (h1.deeper (d2 := deep) (a := (deep : Int)) rfl) ((HM.out.2.trans s1).set 2 (.int .i64 (deep : Int)))))
    have v1 : IntKind.i64.wrap ((deep : Int) + 1 - 1) = (deep : Int) := by rw [show ((deep : Int) + 1 - 1) = (deep : Int) by omega]; exact IntWalk.i64_in _ (by omega)
    have v2 : ((deep : Int) + 1 - 1) = (deep : Int) := by omega
    clear hpr h1 s1
    go_wp2_with fail
    exact bodyPost_ret (results_tmp rfl _ _ _) rfl (by first | exact ⟨_, rfl, HF.out.2⟩ | (rw [HF.out.1]; exact ⟨_, rfl, HF.out.2⟩))
end
end Go.Proofs.YtnaehhpikhlppaaGreatDoor
