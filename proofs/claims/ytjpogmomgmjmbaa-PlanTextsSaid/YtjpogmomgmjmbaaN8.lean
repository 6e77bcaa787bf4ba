/- The walks of package parse's within, not. The walk of package parse's not. The walk of package parse's not where nothing is opened. The walk of the reference's reader's not: where there is an error, a 'not', a bracket. -/
import Derived.Test.YtjpogmomgmjmbaaN4
import Derived.Test.YtjpogmomgmjmbaaN7
import Derived.Deep.Cut
/-! The walks of package parse's within, not. -/
namespace Go.Proofs.Ytjpogmomgmjmbaa
open Go.RowKit LexS ParS BigFrame
set_option maxHeartbeats 4000000
set_option linter.unusedVariables false
set_option linter.unusedSimpArgs false
attribute [local go_sem] field_tok1 field_tok2
attribute [local go_sem] World.cell?_alloc_some cell_drewN_new free_drewN_new cell_drew_new free_drew_new

/-! Boxes of the call's own, as lists -/
def setMany (l : List Value) : Nat → List Value → List Value
  | _, [] => l
  | o, v :: r => setMany (l.set o v) (o + 1) r
section
variable {W : World} {b : Nat} {t : TypeId} {l : List Value}
theorem box_put (h : Blk W b t l.toArray) (i : Nat) (v : Value) : Blk (W.setCell ⟨b, i, none⟩ v) b t (l.set i v).toArray := by
  have := h.put i v
  rwa [List.setIfInBounds_toArray] at this
theorem box_puts : ∀ (vs : List Value) {W : World} {l : List Value} (o : Nat), Blk W b t l.toArray → Blk (W.setCells b o vs) b t (setMany l o vs).toArray
  | [], W, l, o, h => h
  | v :: r, W, l, o, h => box_puts r (o + 1) (box_put h o v)
theorem box_range (h : Blk W b t l.toArray) : W.rangeAt b 0 l := by
  intro j v hj
  rw [Nat.zero_add, h.cell j]
  simpa using hj
theorem box_there {o n : Nat} (h : Blk W b t l.toArray) (hn : o + n ≤ l.length) : W.there b o n := fun j hj => by
  refine ⟨?_, h.free _⟩
  rw [h.cell]
  have : o + j < l.length := by omega
  simp [this]
theorem mv_puts {r : Nat} {W0 : World} (hb : W0.heap.size ≤ b) : ∀ (vs : List Value) {W : World} (o : Nat), Mv r W0 W → Mv r W0 (W.setCells b o vs)
  | [], W, o, h => h
  | v :: s, W, o, h => mv_puts hb s (o + 1) (h.far hb o v)
end
theorem one_nd (kd : Nat) (s : Bytes) (n fr to_ : Int) (v : Val) {lv nv av : Value} (h1 : lv.oneCell' = true) (h2 : nv.oneCell' = true) (h3 : av.oneCell' = true) (l : List Nat) (nm : List Bytes) (ag : List (Nat × Bytes)) :
    (NodeM.cells ⟨⟨kd, s, n, fr, to_, v, l, nm, ag⟩, lv, nv, av⟩).toArray.all (·.oneCell') = true := by
  refine all_oneCell_toArray ?_
  intro u hu
  simp only [NodeM.cells, List.mem_cons, List.not_mem_nil, or_false] at hu
  rcases hu with rfl | rfl | rfl | rfl | rfl | rfl | rfl | rfl | rfl | rfl | rfl | rfl | rfl | rfl | rfl | rfl | rfl | rfl | rfl
  all_goals first | rfl | assumption
/-- A new box of a node, with what is stored into it. -/
theorem nd_new (W : World) (m : NodeM) : Blk ((W.alloc (.cells zeroNd 43)).setCells W.heap.size 0 m.cells) W.heap.size 43 m.cells.toArray :=
  box_puts m.cells (l := zeroNd.toList) 0 (Blk.new W _ _)
theorem nd_there (W : World) : (W.alloc (.cells zeroNd 43)).there W.heap.size 0 19 := box_there (l := zeroNd.toList) (Blk.new W _ _) (by decide)
section
variable {base r deep : Nat} {tv nv nv' : Value} {T : List Tok} {ts ts1 : List Tk} {ns : List Nd} {W W' : World}
end
end Go.Proofs.Ytjpogmomgmjmbaa

/-! The walk of package parse's not. -/
namespace Go.Proofs.Ytjpogmomgmjmbaa
open Go.RowKit LexS ParS BigFrame
set_option maxHeartbeats 4000000
set_option linter.unusedVariables false
set_option linter.unusedSimpArgs false
attribute [local go_sem] field_tok1 field_tok2
attribute [local go_sem] World.cell?_alloc_some cell_drewN_new free_drewN_new cell_drew_new free_drew_new

section
variable {p q : M Nat} {a : Nat} {ts ts1 ts2 ts3 : List Tk} {ns ns1 ns2 : List Nd} {er : Er} {t u : Tk} {k : Nat} {v : Val}
theorem bind_eq {α β : Type} {p : M α} {f : α → M β} {a : α} (h : p ts ns = .ok (a, ts1, ns1)) : M.bind p f ts ns = f a ts1 ns1 := by
  unfold M.bind
  rw [h]
theorem notOf_open (h : sees kw_not ts = none) (h2 : sees kw_open ts = some ts1) : notOf p q ts ns = q ts1 ns := by
  unfold notOf
  rw [h]
  dsimp only
  rw [h2]
theorem notOf_leaf (h : sees kw_not ts = none) (h2 : sees kw_open ts = none) : notOf p q ts ns = leaf ts ns := by
  unfold notOf
  rw [h]
  dsimp only
  rw [h2]
theorem leaf_bad (h : ∀ t ts1, ts = t :: ts1 → t.kind ≠ 1) : leaf ts ns = .error (ts.length, false) := by
  unfold leaf M.bind
  rw [take_bad h]
theorem leaf_word (ht : ts = t :: ts1) (hk : t.kind = 1) : leaf ts ns = (match sees kw_has ts1 with
  | some ts2 => M.bind (take 3) (fun u => lay { node 15 [] with s := t.s, v := ⟨2, 0, u.s⟩ }) ts2 ns
  | none => match choice kw_signs 1 ts1 with
    | (0, _) => .error (ts1.length, false)
    | (k + 1, ts2) => M.bind value (fun v => lay { node 14 [] with s := t.s, n := ((k + 1 : Nat) : Int), v := v }) ts2 ns) := by
  exact bind_eq (by rw [ht]; exact take_ok hk)
theorem leaf_sign_bad (ht : ts = t :: ts1) (hk : t.kind = 1) (h : sees kw_has ts1 = none) (h3 : choice kw_signs 1 ts1 = (0, ts2)) : leaf ts ns = .error (ts1.length, false) := by
  rw [leaf_word ht hk, h]
  dsimp only
  rw [h3]
theorem leaf_cmp_err (ht : ts = t :: ts1) (hk : t.kind = 1) (h : sees kw_has ts1 = none) (h3 : choice kw_signs 1 ts1 = (k + 1, ts2)) (hv : value ts2 ns = .error er) : leaf ts ns = .error er := by
  rw [leaf_word ht hk, h]
  dsimp only
  rw [h3]
  dsimp only
  unfold M.bind
  rw [hv]
theorem leaf_cmp (ht : ts = t :: ts1) (hk : t.kind = 1) (h : sees kw_has ts1 = none) (h3 : choice kw_signs 1 ts1 = (k + 1, ts2)) (hv : value ts2 ns = .ok (v, ts3, ns2)) :
    leaf ts ns = .ok (ns2.length, ts3, ns2 ++ [{ node 14 [] with s := t.s, n := ((k + 1 : Nat) : Int), v := v }]) := by
  rw [leaf_word ht hk, h]
  dsimp only
  rw [h3]
  dsimp only
  unfold M.bind
  rw [hv]
  rfl
end
section
variable {base r deep : Nat} {tv nv nv' : Value} {T : List Tok} {ts ts1 : List Tk} {ns : List Nd} {W W' : World}
end
end Go.Proofs.Ytjpogmomgmjmbaa

/-! The walk of package parse's not where nothing is opened. -/
namespace Go.Proofs.Ytjpogmomgmjmbaa
open Go.RowKit LexS ParS BigFrame
set_option maxHeartbeats 4000000
set_option linter.unusedVariables false
set_option linter.unusedSimpArgs false
attribute [local go_sem] field_tok1 field_tok2
attribute [local go_sem] World.cell?_alloc_some cell_drewN_new free_drewN_new cell_drew_new free_drew_new

theorem sizeVal : (Try.prog.info? 38).map (·.size) = some 11 := by kernel_rfl
theorem valA_one (v : Val) : (valA v).all (·.oneCell') = true := by simp [valA, Value.oneCell']
/-- A leaf's node. -/
abbrev leafM (kd : Nat) (s : Bytes) (n : Int) (v : Val) : NodeM := ⟨{ node kd [] with s := s, n := n, v := v }, .slice none 0 0, .slice none 0 0, .slice none 0 0⟩
theorem leafM_ok (W : World) (base kd : Nat) (s : Bytes) (n : Int) (v : Val) : MOk W base (leafM kd s n v) := ⟨nil_row, nil_row, nil_row⟩
theorem leafM_one (kd : Nat) (s : Bytes) (n : Int) (v : Val) : (leafM kd s n v).cells.toArray.all (·.oneCell') = true := one_nd kd s n 0 0 v rfl rfl rfl [] [] []
section
variable {base r deep : Nat} {tv nv nv' : Value} {T : List Tok} {ts ts1 ts2 : List Tk} {ns : List Nd} {W W' : World}
theorem below_puts {B b : Nat} {W0 : World} (hb : B ≤ b) : ∀ (vs : List Value) {W : World} (o : Nat), Below B W0 W → Below B W0 (W.setCells b o vs)
  | [], W, o, h => h
  | v :: r, W, o, h => below_puts hb r (o + 1) (h.setCell hb v)
theorem nd_stored {w3 w4 : World} {m : NodeM} (hw : (w3.alloc (.cells zeroNd 43)).setCells w3.heap.size 0 m.cells = w4) : Below w3.heap.size w3 w4 ∧ Blk w4 w3.heap.size 43 m.cells.toArray := by
  subst hw
  exact ⟨below_puts (Nat.le_refl _) _ _ ((Below.refl _ _).alloc (Nat.le_refl _) _), nd_new w3 m⟩
theorem val_stored {w6 w7 : World} {b kd : Nat} {s : Bytes} {n : Int} {v0 v : Val} (hb : Blk w6 b 43 (leafM kd s n v0).cells.toArray) (hw : w6.setCells b 5 (valA v).toList = w7) : Blk w7 b 43 (leafM kd s n v).cells.toArray := by
  subst hw
  exact box_puts _ 5 hb
theorem kind_stored {w6 : World} {b kd k2 : Nat} {s : Bytes} {n : Int} {v : Val} (hb : Blk w6 b 43 (leafM kd s n v).cells.toArray) : Blk (w6.setCell ⟨b, 0, none⟩ (.int .i64 (k2 : Int))) b 43 (leafM k2 s n v).cells.toArray := box_put hb 0 _
theorem n_stored {w6 : World} {b kd : Nat} {s : Bytes} {n n2 : Int} {v : Val} (hb : Blk w6 b 43 (leafM kd s n v).cells.toArray) : Blk (w6.setCell ⟨b, 2, none⟩ (.int .i64 n2)) b 43 (leafM kd s n2 v).cells.toArray := box_put hb 2 _
end
end Go.Proofs.Ytjpogmomgmjmbaa

/-! The walk of the reference's reader's not: where there is an error, a 'not', a bracket. -/
namespace Go.Proofs.Ytjpogmomgmjmbaa
open Go.RowKit LexS ParS BigFrame
set_option maxHeartbeats 4000000
set_option linter.unusedVariables false
set_option linter.unusedSimpArgs false
attribute [local go_sem] World.cell?_alloc_some cell_drewN_new free_drewN_new cell_drew_new free_drew_new

section
variable {base r deep d2 : Nat} {tv nv nv' nv1 : Value} {T : List Tok} {st st2 : RSt} {ts ts1 : List Tk} {ns : List Nd} {W W' Wk w1 w2 W1 : World}
theorem rnot_bad (p : M Nat) (deep : Nat) : ReadsR false 56 p deep := by
  intro base r tv nv T st W h hbase hB hsure
  obtain ⟨⟨k, long⟩, rfl⟩ : ∃ e, st = .error e := by
    rcases hsure with h | h
    · cases h
    · exact h
  have c3 : W.cell? ⟨r, 3, none⟩ = some (.int .i64 (codeOf long : Int)) := h.box.cell 3
  have hc := codeOf_ne long
  obtain ⟨c, hcc⟩ : ∃ c, c = codeOf long := ⟨_, rfl⟩
  rw [← hcc] at c3 hc
  have q1 : ((c : Int) != 0) = true := by rw [bne_iff_ne]; omega
  have q2 : ¬ (c : Int) = 0 := by omega
  have H := Lib.hid h
  clear h hc hcc hsure hB
  go_enter Try.func56, Try.ntmps56
  go_wp2_with fail
  go_ret
  exact ⟨nv, 0, rfl, (fun a ts ns e => by cases e), H.out, Stp.refl _ _ _⟩
theorem sure_deeper (deep : Nat) (st : RSt) : Sure (decide (deep < 16)) (deeperR deep st) := by
  rcases st with e | ⟨ts, ns⟩
  · exact .inr ⟨e, rfl⟩
  · unfold deeperR
    by_cases h : deep < 16
    · exact .inl (decide_eq_true h)
    · dsimp only
      rw [if_neg h]
      exact .inr ⟨_, rfl⟩
theorem room_deeper {deep : Nat} {st : RSt} (h : Room st) : Room (deeperR deep st) := by
  rcases st with e | ⟨ts, ns⟩
  · exact h
  · unfold deeperR
    dsimp only
    split
    · exact h
    · exact fun ts ns e => by cases e
theorem seesR_cons {w : Bytes} {t : Tk} : seesR w (.ok (t :: ts1, ns)) = isW w t := isS_cons w t ts1
/-- One thing less is open. -/
theorem RF.leave (h : RF base r tv T (deep + 1) st nv W) : RF base r tv T deep st nv (W.setCell ⟨r, 4, none⟩ (.int .i64 (deep : Int))) := h.depth rfl
set_option maxRecDepth 100000 in
theorem rnot_not {p : M Nat} {t : Tk} (hn : ReadsR (decide (deep < 16)) 56 p (deep + 1)) (hp : Nice p) (hd : deep ≤ 100) (h : RF base r tv T deep (.ok (t :: ts1, ns)) nv W) (hbase : base ≤ W.heap.size) (hB : Room (.ok (t :: ts1, ns))) (ht : isW kw_not t = true) :
    Calls Try.prog 56 #[RP r] W (PostR base r tv T deep nv W (thenX (goP p (deeperR deep (.ok (ts1, ns)))) fun a => lay (node 13 [a]))) := by
  have hsee := sees_r kw_not h
  rw [seesR_cons, ht, show nextR kw_not (.ok (t :: ts1, ns)) = .ok (ts1, ns) by show (Except.ok ((sees kw_not (t :: ts1)).getD _, ns) : RSt) = _; rw [sees_cons, ht]; rfl] at hsee
  have hroom : Room (.ok (ts1, ns)) := fun ts' ns' e => by
    cases e
    have := hB _ _ rfl
    simp only [List.length_cons] at this
    omega
  have hlt : ts1.length < T.length := by
    have : (t :: ts1).length ≤ T.length := h.left
    simp only [List.length_cons] at this
    omega
  have c3 : W.cell? ⟨r, 3, none⟩ = some (.int .i64 0) := h.box.cell 3
  have HS := Lib.hid hsee
  have HN := Lib.hid hn
  have HP := Lib.hid (And.intro hp hroom)
  have HLT := Lib.hid hlt
  clear hsee hn hp hroom hlt h hB ht
  go_enter Try.func56, Try.ntmps56
  go_wp2_with fail
  refine HS.out.mono ?_
  rintro e w2 ⟨rfl, h2, m2⟩
  have HD := Lib.hid (deeper_r h2 hd (fun ts ns e => by cases e; exact HLT.out))
  have S2 := Lib.hid (m2.stp nv)
  clear h2 m2 c3
  go_wp2_with fail
  refine HD.out.mono ?_
  rintro e w3 ⟨rfl, h3, m3⟩
  have S3 := Lib.hid (S2.out.trans (m3.stp nv))
  have H3 := Lib.hid h3
  have hb3 : base ≤ w3.heap.size := Nat.le_trans hbase S3.out.size
  clear h3 m3
  go_wp2_with fail
  refine (HN.out _ _ _ _ _ _ _ H3.out hb3 (room_deeper HP.out.2) (sure_deeper _ _)).mono ?_
  rintro e w4 ⟨nv4, i4, rfl, hi4, h4, s4⟩
  have hbx := h4.box.cell 4
  have c4 : w4.cell? ⟨r, 4, none⟩ = some (.int .i64 ((deep : Int) + 1)) := hbx
  have f4 := h4.box.free 4
  have v4 : IntKind.i64.wrap ((deep : Int) + 1 - 1) = (deep : Int) := by rw [IntWalk.i64_in _ (by omega)]; omega
  have v5 : IntKind.i64.wrap (deep : Int) = (deep : Int) := IntWalk.i64_in _ (by omega)
  obtain ⟨w5, hw5⟩ : ∃ w5, w5 = w4.setCell ⟨r, 4, none⟩ (.int .i64 (deep : Int)) := ⟨_, rfl⟩
  have h5 : RF base r tv T deep (stOf (goP p (deeperR deep (.ok (ts1, ns))))) nv4 w5 := by rw [hw5]; exact h4.leave
  have s5 : Stp r nv W nv4 w5 := by rw [hw5]; exact (S3.out.trans s4).set 4 _
  have hroom := HP.out.1.room (room_deeper (deep := deep) HP.out.2)
  have HL := Lib.hid (lay_names (l := [i4]) (kind := 13) (f := fun a => [a]) h5 (Nat.le_trans hbase s5.size) (by simp) (fun b ts ns e => by
    have := hroom ts ns (by rw [e]; rfl)
    omega) (fun b ts ns e => by rw [hi4 b ts ns e]; rfl))
  have S5 := Lib.hid s5
  have HW5 := Lib.hid hw5
  clear hbx hi4 h4 s4 h5 s5 hroom hw5
  go_upto_region 7 with (fail)
  rw [show w4.setCell ⟨r, 4, none⟩ (.int .i64 (deep : Int)) = w5 from HW5.out.symm]
  go_wp2_with fail
  refine HL.out.mono ?_
  rintro e w6 ⟨nv6, i6, rfl, hi6, h6, s6⟩
  have HE := Lib.hid (And.intro hi6 (And.intro h6 (S5.out.trans s6)))
  clear hi6 h6 s6
  go_wp2_with fail
  exact bodyPost_ret (results_tmp rfl _ _ _) rfl ⟨_, _, rfl, HE.out⟩
theorem shut_run (y : XN) : stOf (thenX y fun a => M.bind (wants kw_shut) fun _ => M.pure a) = run (wants kw_shut) (stOf y) := by
  rcases y with er | ⟨a, ts, ns⟩
  · rfl
  · show stOf (M.bind (wants kw_shut) (fun _ => M.pure a) ts ns) = stOf (wants kw_shut ts ns)
    unfold M.bind
    rcases wants kw_shut ts ns with er | ⟨u, ts2, ns2⟩ <;> rfl
theorem shut_index {y : XN} {a : Nat} (h : thenX y (fun a => M.bind (wants kw_shut) fun _ => M.pure a) = .ok (a, ts, ns)) : ∃ ts' ns', y = .ok (a, ts', ns') := by
  rcases y with er | ⟨b, ts2, ns2⟩
  · cases h
  · have h' : M.bind (wants kw_shut) (fun _ => M.pure b) ts2 ns2 = .ok (a, ts, ns) := h
    obtain ⟨_, ts3, ns3, _, h2⟩ := bind_ok h'
    cases h2
    exact ⟨_, _, rfl⟩
set_option maxRecDepth 100000 in
theorem rnot_open {p : M Nat} {t : Tk} (hn : ReadsR (decide (deep < 16)) 49 p (deep + 1)) (hp : Nice p) (hd : deep ≤ 100) (h : RF base r tv T deep (.ok (t :: ts1, ns)) nv W) (hbase : base ≤ W.heap.size) (hB : Room (.ok (t :: ts1, ns))) (hnt : isW kw_not t = false) (ht : isW kw_open t = true) :
    Calls Try.prog 56 #[RP r] W (PostR base r tv T deep nv W (thenX (goP p (deeperR deep (.ok (ts1, ns)))) fun a => M.bind (wants kw_shut) fun _ => M.pure a)) := by
  have hsee := sees_r kw_not h
  have hs0 : seesR kw_not (.ok (t :: ts1, ns)) = false := by rw [seesR_cons, hnt]
  rw [hs0, seesR_no hs0] at hsee
  have hroom : Room (.ok (ts1, ns)) := fun ts' ns' e => by
    cases e
    have := hB _ _ rfl
    simp only [List.length_cons] at this
    omega
  have hlt : ts1.length < T.length := by
    have : (t :: ts1).length ≤ T.length := h.left
    simp only [List.length_cons] at this
    omega
  have c3 : W.cell? ⟨r, 3, none⟩ = some (.int .i64 0) := h.box.cell 3
  have HS := Lib.hid hsee
  have HN := Lib.hid hn
  have HP := Lib.hid (And.intro hp hroom)
  have HLT := Lib.hid hlt
  have HT := Lib.hid ht
  clear hsee hn hp hroom hlt h hB ht hs0 hnt
  go_enter Try.func56, Try.ntmps56
  go_wp2_with fail
  refine HS.out.mono ?_
  rintro e w1 ⟨rfl, h1, m1⟩
  have hsee := sees_r kw_open h1
  rw [seesR_cons, HT.out, show nextR kw_open (.ok (t :: ts1, ns)) = .ok (ts1, ns) by show (Except.ok ((sees kw_open (t :: ts1)).getD _, ns) : RSt) = _; rw [sees_cons, HT.out]; rfl] at hsee
  have HS2 := Lib.hid hsee
  have S1 := Lib.hid (m1.stp nv)
  clear h1 m1 hsee c3
  go_wp2_with fail
  refine HS2.out.mono ?_
  rintro e w2 ⟨rfl, h2, m2⟩
  have HD := Lib.hid (deeper_r h2 hd (fun ts ns e => by cases e; exact HLT.out))
  have S2 := Lib.hid (S1.out.trans (m2.stp nv))
  clear h2 m2
  go_wp2_with fail
  refine HD.out.mono ?_
  rintro e w3 ⟨rfl, h3, m3⟩
  have S3 := Lib.hid (S2.out.trans (m3.stp nv))
  have H3 := Lib.hid h3
  have hb3 : base ≤ w3.heap.size := Nat.le_trans hbase S3.out.size
  clear h3 m3
  go_wp2_with fail
  refine (HN.out _ _ _ _ _ _ _ H3.out hb3 (room_deeper HP.out.2) (sure_deeper _ _)).mono ?_
  rintro e w4 ⟨nv4, i4, rfl, hi4, h4, s4⟩
  have HI4 := Lib.hid hi4
  have S4 := Lib.hid (S3.out.trans s4)
  have HW := Lib.hid (wants_r kw_shut h4)
  clear hi4 h4 s4
  go_wp2_with fail
  refine HW.out.mono ?_
  rintro e w5 ⟨rfl, h5, m5⟩
  rw [← shut_run] at h5
  have hbx := h5.box.cell 4
  have c4 : w5.cell? ⟨r, 4, none⟩ = some (.int .i64 ((deep : Int) + 1)) := hbx
  have f4 := h5.box.free 4
  have v4 : IntKind.i64.wrap ((deep : Int) + 1 - 1) = (deep : Int) := by rw [IntWalk.i64_in _ (by omega)]; omega
  have v5 : IntKind.i64.wrap (deep : Int) = (deep : Int) := IntWalk.i64_in _ (by omega)
  have HE := Lib.hid (And.intro h5.leave ((S4.out.trans (m5.stp nv4)).set 4 (.int .i64 (deep : Int))))
  clear hbx h5 m5
  go_wp2_with fail
  exact bodyPost_ret (results_tmp rfl _ _ _) rfl ⟨_, _, rfl, (fun a ts ns e => by
    obtain ⟨ts', ns', e2⟩ := shut_index e
    exact HI4.out a ts' ns' e2), HE.out⟩
end
end Go.Proofs.Ytjpogmomgmjmbaa
