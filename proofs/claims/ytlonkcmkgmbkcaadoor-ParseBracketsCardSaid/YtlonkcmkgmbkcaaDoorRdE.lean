/- The walks of package parse's joined, both, cond. -/
import Derived.Test.YtlonkcmkgmbkcaaDoorRdD
namespace Go.Proofs.YtlonkcmkgmbkcaaDoor
open Go.RowKit LexS ParS BigFrame
set_option maxHeartbeats 4000000
set_option linter.unusedVariables false
set_option linter.unusedSimpArgs false
attribute [local go_sem] field_tok1 field_tok2
attribute [local go_sem] World.cell?_alloc_some cell_drewN_new free_drewN_new cell_drew_new free_drew_new

/-- What a reader's function answers that lays nodes. -/
def PostN (base r : Nat) (tv : Value) (T : List Tok) (deep : Nat) (nv : Value) (W : World) (x : Except Er (Nat × List Tk × List Nd)) (e : Ending) (W' : World) : Prop := match x with
  | .error (k, long) => e = Bad T k long ∧ ∃ nv', Stp r nv W nv' W'
  | .ok (a, ts1, ns1) => ∃ nv', e = .returned (.int .i64 (a : Int)) ∧ RS base r tv T deep ts1 ns1 nv' W' ∧ Stp r nv W nv' W'
/-- p lays no more than it reads, and goes by what stands ahead. -/
def Nice (p : M Nat) : Prop := Cost 0 0 p ∧ ∀ {e : Prop}, Rel Quits e p p
theorem Nice.short {p : M Nat} (h : Nice p) {ts ts1 : List Tk} {ns ns1 : List Nd} {a : Nat} (hp : p ts ns = .ok (a, ts1, ns1)) : ts1.length ≤ ts.length := ((h.2 (e := True)) _ _ _ _ _ hp).1
theorem nice_both {n : M Nat} (h : Nice n) : Nice (bothOf n) := ⟨cost_both h.1, rel_joined (.inr rfl) h.2⟩
theorem nice_cond {n : M Nat} (h : Nice n) : Nice (condOf n) := ⟨cost_cond h.1, rel_cond h.2⟩
theorem nice_not (d : Nat) : Nice (pNot d) := ⟨cost_not d, rel_not d 0⟩
/-- Function K reads what p reads. -/
def Reads (K : FuncId) (p : M Nat) (deep : Nat) : Prop := ∀ (base r : Nat) (tv nv : Value) (T : List Tok) (ts : List Tk) (ns : List Nd) (W : World), RS base r tv T deep ts ns nv W → base ≤ W.heap.size → ns.length + ts.length ≤ 5000 →
  Calls Tryd.prog K #[RP r] W (PostN base r tv T deep nv W (p ts ns))
theorem own_blk {W : World} {base g n : Nat} {e : TypeId} {cs : List Value} (h : Blk W g e cs.toArray) (hb : base ≤ g) (hn : cs.length = n) (hm : n ≤ 1000) : W.ownsRow base e 1 (.slice (some ⟨g, 0, none⟩) n n) n cs := by
  refine ⟨by omega, .inr ⟨g, n, cs.toArray, rfl, hb, h, Nat.le_refl _, by unfold maxLen; omega, by simp [hn], ?_⟩⟩
  simp [← hn]
/-- A node that names others. -/
def ndM (kind : Nat) (l : List Nat) (g : Nat) : NodeM := ⟨node kind l, .slice (some ⟨g, 0, none⟩) l.length l.length, .slice none 0 0, .slice none 0 0⟩
theorem nil_row {W : World} {base size : Nat} {e : TypeId} : W.ownsRow base e size (.slice none 0 0) 0 [] := World.ownsRow_nil W base e size
theorem ndM_ok {W : World} {base kind g : Nat} {l : List Nat} (h : Blk W g 3 (intsL l).toArray) (hb : base ≤ g) (hl : l.length ≤ 1000) : MOk W base (ndM kind l g) :=
  ⟨own_blk h hb (by simp [intsL, ndM, node]) hl, nil_row, nil_row⟩
section
variable {w : Bytes} {kind : Nat} {read : M Nat} {f a b : Nat} {ts ts1 ts2 : List Tk} {ns ns1 ns2 : List Nd} {er : Er}
theorem joined_ok' (h : read ts ns = .ok (a, ts1, ns1)) : joined w kind read ts ns = joinedGo w kind read fuel a ts1 ns1 := by
  unfold joined M.bind
  rw [h]
theorem joined_err (h : read ts ns = .error er) : joined w kind read ts ns = .error er := by
  unfold joined M.bind
  rw [h]
theorem joinedGo_none (h : sees w ts = none) : joinedGo w kind read (f + 1) a ts ns = .ok (a, ts, ns) := by
  unfold joinedGo
  rw [h]
theorem joinedGo_some (h : sees w ts = some ts1) (hr : read ts1 ns = .ok (b, ts2, ns2)) : joinedGo w kind read (f + 1) a ts ns = joinedGo w kind read f ns2.length ts2 (ns2 ++ [node kind [a, b]]) := by
  rw [joinedGo]
  dsimp only
  rw [h]
  unfold M.bind lay
  dsimp only
  rw [hr]
theorem joinedGo_bad (h : sees w ts = some ts1) (hr : read ts1 ns = .error er) : joinedGo w kind read (f + 1) a ts ns = .error er := by
  rw [joinedGo]
  dsimp only
  rw [h]
  unfold M.bind
  dsimp only
  rw [hr]
end
/-- How it stands at the head of a round. -/
structure JK (base r deep : Nat) (tv nv : Value) (T : List Tok) (W : World) (w : Bytes) (kind : Nat) (read : M Nat) (ts : List Tk) (ns : List Nd) (f a : Nat) (ts1 : List Tk) (ns1 : List Nd) (nv1 : Value) (W1 : World) : Prop where
  eq : joined w kind read ts ns = joinedGo w kind read f a ts1 ns1
  fl : ts1.length < f
  rs : RS base r tv T deep ts1 ns1 nv1 W1
  st : Stp r nv W nv1 W1
  bd : ns1.length + ts1.length ≤ ns.length + ts.length
section
variable {base r deep : Nat} {tv nv nv' : Value} {T : List Tok} {ts ts1 : List Tk} {ns : List Nd} {W W' : World}
set_option maxRecDepth 100000 in
theorem joined_not {w : Bytes} {kind : Nat} {read : M Nat} (hread : Reads 68 read deep) (hcost : Nice read) (h : RS base r tv T deep ts ns nv W) (hbase : base ≤ W.heap.size) (hB : ns.length + ts.length ≤ 5000) :
    Calls Tryd.prog 50 #[RP r, .string (BA w), .int .i64 (kind : Int), .func (.func 68) #[RP r] #[]] W (PostN base r tv T deep nv W (joined w kind read ts ns)) := by
  have HR := Lib.hid hread
  have HC := Lib.hid hcost
  have H := Lib.hid h
  clear hread hcost h
  go_enter Tryd.func50, Tryd.ntmps50
  go_wp2_with fail
  refine (HR.out _ _ _ _ _ _ _ _ H.out hbase hB).mono ?_
  rintro e w1 hp
  rcases hr : read ts ns with ⟨k, long⟩ | ⟨a, ts1, ns1⟩
  · rw [hr] at hp
    obtain ⟨rfl, nv1, s1⟩ := hp
    have HF := Lib.hid (joined_err (w := w) (kind := kind) hr)
    have S1 := Lib.hid s1
    clear hr s1
    unfold Bad
    go_wp2_with fail
    exact ⟨rfl, by rw [HF.out]; exact ⟨rfl, _, S1.out⟩⟩
  · rw [hr] at hp
    obtain ⟨nv1, rfl, h1, s1⟩ := hp
    have hc1 := HC.out.1 _ _ _ _ _ hr
    have hsh := HC.out.short hr
    have HJ := Lib.hid (show JK base r deep tv nv T W w kind read ts ns fuel a ts1 ns1 nv1 w1 from ⟨joined_ok' hr, by have h2 := h1.short; have h3 := h1.few; unfold fuel; omega, h1, s1, by omega⟩)
    clear hr h1 s1 hc1 hsh
    go_wp2_with fail
    go_loopg [9] (ts1.length + 2) (fun gk c wr => ∃ f a2 ts2 ns2 nv2, ts2.length < gk ∧ c = .int .i64 ((a2 : Nat) : Int) ∧ JK base r deep tv nv T W w kind read ts ns f a2 ts2 ns2 nv2 wr)
    case atStart => exact ⟨_, _, _, _, _, by omega, rfl, HJ.out⟩
    case round =>
      obtain ⟨f, a2, ts2, ns2, nv2, hgk, rfl, hj⟩ := hrel
      have hbd := hj.bd
      have hfl := hj.fl
      obtain ⟨f1, rfl⟩ : ∃ f1, f = f1 + 1 := ⟨f - 1, by omega⟩
      have HK := Lib.hid hj
      clear hj HJ
      rcases hs : sees w ts2 with _ | ts3
      · have HE := Lib.hid (show joined w kind read ts ns = .ok (a2, ts2, ns2) by rw [HK.out.eq, joinedGo_none hs])
        have HS := Lib.hid (sees_no HK.out.rs hs)
        clear hs
        go_wp2_with fail
        refine HS.out.mono ?_
        rintro e w2 ⟨rfl, h2, m2⟩
        have HF := Lib.hid (And.intro h2 (HK.out.st.trans (m2.stp _)))
        clear h2 m2
        go_wp2_with fail
        exact bodyPost_ret (results_tmp rfl _ _ _) rfl (by rw [HE.out]; exact ⟨_, rfl, HF.out⟩)
      · have hl3 := sees_len hs
        have HS := Lib.hid (sees_yes HK.out.rs hs)
        have HSE := Lib.hid hs
        clear hs
        go_wp2_with fail
        refine HS.out.mono ?_
        rintro e w2 ⟨rfl, h2, m2⟩
        have S2 := Lib.hid (HK.out.st.trans (m2.stp _))
        have H2 := Lib.hid h2
        have hb2 : base ≤ w2.heap.size := Nat.le_trans hbase S2.out.size
        clear h2 m2
        go_wp2_with fail
        refine (HR.out _ _ _ _ _ _ _ _ H2.out hb2 (by omega)).mono ?_
        rintro e w3 hp
        rcases hr : read ts3 ns2 with ⟨k, long⟩ | ⟨b, ts4, ns4⟩
        · rw [hr] at hp
          obtain ⟨rfl, nv3, s3⟩ := hp
          have HE := Lib.hid (show joined w kind read ts ns = .error (k, long) by rw [HK.out.eq, joinedGo_bad HSE.out hr])
          have S3 := Lib.hid (S2.out.trans s3)
          clear hr s3
          unfold Bad
          go_wp2_with fail
          exact ⟨rfl, by rw [HE.out]; exact ⟨rfl, _, S3.out⟩⟩
        · rw [hr] at hp
          obtain ⟨nv3, rfl, h3, s3⟩ := hp
          have hc3 := HC.out.1 _ _ _ _ _ hr
          have hsh := HC.out.short hr
          have HE := Lib.hid (show joined w kind read ts ns = joinedGo w kind read f1 ns4.length ts4 (ns4 ++ [node kind [a2, b]]) by rw [HK.out.eq, joinedGo_some HSE.out hr])
          have S3 := Lib.hid (S2.out.trans s3)
          have hb3 : base ≤ w3.heap.size := Nat.le_trans hbase S3.out.size
          have hbw : Below w3.heap.size w3 (w3.alloc (.cells #[.int .i64 (a2 : Int), .int .i64 (b : Int)] 3)) := (Below.refl _ _).alloc (Nat.le_refl _) _
          have HL := Lib.hid (lay_any (ndM kind [a2, b] w3.heap.size) (h3.kept hbw) (ndM_ok (Blk.new w3 _ _) hb3 (by simp)) (by omega) (Nat.le_trans hb3 hbw.size))
          have S4 := Lib.hid (S3.out.trans (Stp.of (r := r) hbw))
          clear hr h3 s3 hbw
          go_wp2_with fail
          refine HL.out.mono ?_
          rintro e w4 ⟨nv4, rfl, h4, s4⟩
          have HN := Lib.hid (show JK base r deep tv nv T W w kind read ts ns f1 ns4.length ts4 (ns4 ++ [node kind [a2, b]]) nv4 w4 from ⟨HE.out, by omega, h4, S4.out.trans s4, by simp only [List.length_append, List.length_singleton]; omega⟩)
          clear h4 s4
          go_wp2_with fail
          go_roundg (ts2.length)
          case measure => omega
          case rel => exact ⟨f1, _, ts4, _, _, by omega, rfl, HN.out⟩
set_option maxRecDepth 100000 in
theorem joined_both {w : Bytes} {kind : Nat} {read : M Nat} (hread : Reads 51 read deep) (hcost : Nice read) (h : RS base r tv T deep ts ns nv W) (hbase : base ≤ W.heap.size) (hB : ns.length + ts.length ≤ 5000) :
    Calls Tryd.prog 50 #[RP r, .string (BA w), .int .i64 (kind : Int), .func (.func 51) #[RP r] #[]] W (PostN base r tv T deep nv W (joined w kind read ts ns)) := by
  have HR := Lib.hid hread
  have HC := Lib.hid hcost
  have H := Lib.hid h
  clear hread hcost h
  go_enter Tryd.func50, Tryd.ntmps50
  go_wp2_with fail
  refine (HR.out _ _ _ _ _ _ _ _ H.out hbase hB).mono ?_
  rintro e w1 hp
  rcases hr : read ts ns with ⟨k, long⟩ | ⟨a, ts1, ns1⟩
  · rw [hr] at hp
    obtain ⟨rfl, nv1, s1⟩ := hp
    have HF := Lib.hid (joined_err (w := w) (kind := kind) hr)
    have S1 := Lib.hid s1
    clear hr s1
    unfold Bad
    go_wp2_with fail
    exact ⟨rfl, by rw [HF.out]; exact ⟨rfl, _, S1.out⟩⟩
  · rw [hr] at hp
    obtain ⟨nv1, rfl, h1, s1⟩ := hp
    have hc1 := HC.out.1 _ _ _ _ _ hr
    have hsh := HC.out.short hr
    have HJ := Lib.hid (show JK base r deep tv nv T W w kind read ts ns fuel a ts1 ns1 nv1 w1 from ⟨joined_ok' hr, by have h2 := h1.short; have h3 := h1.few; unfold fuel; omega, h1, s1, by omega⟩)
    clear hr h1 s1 hc1 hsh
    go_wp2_with fail
    go_loopg [9] (ts1.length + 2) (fun gk c wr => ∃ f a2 ts2 ns2 nv2, ts2.length < gk ∧ c = .int .i64 ((a2 : Nat) : Int) ∧ JK base r deep tv nv T W w kind read ts ns f a2 ts2 ns2 nv2 wr)
    case atStart => exact ⟨_, _, _, _, _, by omega, rfl, HJ.out⟩
    case round =>
      obtain ⟨f, a2, ts2, ns2, nv2, hgk, rfl, hj⟩ := hrel
      have hbd := hj.bd
      have hfl := hj.fl
      obtain ⟨f1, rfl⟩ : ∃ f1, f = f1 + 1 := ⟨f - 1, by omega⟩
      have HK := Lib.hid hj
      clear hj HJ
      rcases hs : sees w ts2 with _ | ts3
      · have HE := Lib.hid (show joined w kind read ts ns = .ok (a2, ts2, ns2) by rw [HK.out.eq, joinedGo_none hs])
        have HS := Lib.hid (sees_no HK.out.rs hs)
        clear hs
        go_wp2_with fail
        refine HS.out.mono ?_
        rintro e w2 ⟨rfl, h2, m2⟩
        have HF := Lib.hid (And.intro h2 (HK.out.st.trans (m2.stp _)))
        clear h2 m2
        go_wp2_with fail
        exact bodyPost_ret (results_tmp rfl _ _ _) rfl (by rw [HE.out]; exact ⟨_, rfl, HF.out⟩)
      · have hl3 := sees_len hs
        have HS := Lib.hid (sees_yes HK.out.rs hs)
        have HSE := Lib.hid hs
        clear hs
        go_wp2_with fail
        refine HS.out.mono ?_
        rintro e w2 ⟨rfl, h2, m2⟩
        have S2 := Lib.hid (HK.out.st.trans (m2.stp _))
        have H2 := Lib.hid h2
        have hb2 : base ≤ w2.heap.size := Nat.le_trans hbase S2.out.size
        clear h2 m2
        go_wp2_with fail
        refine (HR.out _ _ _ _ _ _ _ _ H2.out hb2 (by omega)).mono ?_
        rintro e w3 hp
        rcases hr : read ts3 ns2 with ⟨k, long⟩ | ⟨b, ts4, ns4⟩
        · rw [hr] at hp
          obtain ⟨rfl, nv3, s3⟩ := hp
          have HE := Lib.hid (show joined w kind read ts ns = .error (k, long) by rw [HK.out.eq, joinedGo_bad HSE.out hr])
          have S3 := Lib.hid (S2.out.trans s3)
          clear hr s3
          unfold Bad
          go_wp2_with fail
          exact ⟨rfl, by rw [HE.out]; exact ⟨rfl, _, S3.out⟩⟩
        · rw [hr] at hp
          obtain ⟨nv3, rfl, h3, s3⟩ := hp
          have hc3 := HC.out.1 _ _ _ _ _ hr
          have hsh := HC.out.short hr
          have HE := Lib.hid (show joined w kind read ts ns = joinedGo w kind read f1 ns4.length ts4 (ns4 ++ [node kind [a2, b]]) by rw [HK.out.eq, joinedGo_some HSE.out hr])
          have S3 := Lib.hid (S2.out.trans s3)
          have hb3 : base ≤ w3.heap.size := Nat.le_trans hbase S3.out.size
          have hbw : Below w3.heap.size w3 (w3.alloc (.cells #[.int .i64 (a2 : Int), .int .i64 (b : Int)] 3)) := (Below.refl _ _).alloc (Nat.le_refl _) _
          have HL := Lib.hid (lay_any (ndM kind [a2, b] w3.heap.size) (h3.kept hbw) (ndM_ok (Blk.new w3 _ _) hb3 (by simp)) (by omega) (Nat.le_trans hb3 hbw.size))
          have S4 := Lib.hid (S3.out.trans (Stp.of (r := r) hbw))
          clear hr h3 s3 hbw
          go_wp2_with fail
          refine HL.out.mono ?_
          rintro e w4 ⟨nv4, rfl, h4, s4⟩
          have HN := Lib.hid (show JK base r deep tv nv T W w kind read ts ns f1 ns4.length ts4 (ns4 ++ [node kind [a2, b]]) nv4 w4 from ⟨HE.out, by omega, h4, S4.out.trans s4, by simp only [List.length_append, List.length_singleton]; omega⟩)
          clear h4 s4
          go_wp2_with fail
          go_roundg (ts2.length)
          case measure => omega
          case rel => exact ⟨f1, _, ts4, _, _, by omega, rfl, HN.out⟩
theorem hmfA : ∀ (fn : Fn) (first cap : Array Value) (w : World), (Instr.makeFunc fn first cap).run Tryd.prog w = .ok (.func fn first cap) w := fun _ _ _ _ => rfl
theorem both_reads {n : M Nat} (hn : Reads 68 n deep) (hc : Nice n) : Reads 51 (bothOf n) deep := by
  intro base r tv nv T ts ns W h hbase hB
  have hmf := hmfA
  have HJ := Lib.hid (joined_not (w := kw_and) (kind := 11) hn hc h hbase hB)
  clear h
  go_enter Tryd.func51, Tryd.ntmps51
  go_wp2_with fail
  refine HJ.out.mono ?_
  rintro e w1 hp
  rcases hr : joined kw_and 11 n ts ns with ⟨k, long⟩ | ⟨a, ts1, ns1⟩
  · rw [hr] at hp
    obtain ⟨rfl, nv1, s1⟩ := hp
    have HF := Lib.hid (And.intro hr s1)
    clear hr s1
    unfold Bad
    go_wp2_with fail
    exact ⟨rfl, by show PostN base r tv T deep nv W (joined kw_and 11 n ts ns) _ _; rw [HF.out.1]; exact ⟨rfl, _, HF.out.2⟩⟩
  · rw [hr] at hp
    obtain ⟨nv1, rfl, h1, s1⟩ := hp
    have HF := Lib.hid (And.intro hr (And.intro h1 s1))
    clear hr h1 s1
    go_wp2_with fail
    exact bodyPost_ret (results_tmp rfl _ _ _) rfl (by show PostN base r tv T deep nv W (joined kw_and 11 n ts ns) _ _; rw [HF.out.1]; exact ⟨_, rfl, HF.out.2⟩)
theorem cond_reads {n : M Nat} (hn : Reads 68 n deep) (hc : Nice n) : Reads 31 (condOf n) deep := by
  intro base r tv nv T ts ns W h hbase hB
  have hmf := hmfA
  have HJ := Lib.hid (joined_both (w := kw_or) (kind := 12) (both_reads hn hc) (nice_both hc) h hbase hB)
  clear h
  go_enter Tryd.func31, Tryd.ntmps31
  go_wp2_with fail
  refine HJ.out.mono ?_
  rintro e w1 hp
  rcases hr : joined kw_or 12 (bothOf n) ts ns with ⟨k, long⟩ | ⟨a, ts1, ns1⟩
  · rw [hr] at hp
    obtain ⟨rfl, nv1, s1⟩ := hp
    have HF := Lib.hid (And.intro hr s1)
    clear hr s1
    unfold Bad
    go_wp2_with fail
    exact ⟨rfl, by show PostN base r tv T deep nv W (joined kw_or 12 (bothOf n) ts ns) _ _; rw [HF.out.1]; exact ⟨rfl, _, HF.out.2⟩⟩
  · rw [hr] at hp
    obtain ⟨nv1, rfl, h1, s1⟩ := hp
    have HF := Lib.hid (And.intro hr (And.intro h1 s1))
    clear hr h1 s1
    go_wp2_with fail
    exact bodyPost_ret (results_tmp rfl _ _ _) rfl (by show PostN base r tv T deep nv W (joined kw_or 12 (bothOf n) ts ns) _ _; rw [HF.out.1]; exact ⟨_, rfl, HF.out.2⟩)
end
end Go.Proofs.YtlonkcmkgmbkcaaDoor

