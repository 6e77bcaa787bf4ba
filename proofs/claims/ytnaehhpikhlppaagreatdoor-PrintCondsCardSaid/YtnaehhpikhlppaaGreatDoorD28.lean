/- Several texts of the proof, joined. -/
import Derived.Test.YtnaehhpikhlppaaGreatDoorD27
set_option maxHeartbeats 4000000
set_option linter.unusedVariables false
set_option linter.unusedSimpArgs false
namespace Go.Proofs.YtnaehhpikhlppaaGreatDoor
open Go.RowKit LexS ParS BigFrame

theorem textB_low {c : Cd} {w : Nat} (h : w ≤ c.rank) : c.textB w = c.bodyB := by
  unfold Cd.textB brkB
  rw [if_neg (by omega)]
theorem body_len {w : Nat} {c : Cd} (h : CondIn w c) : c.bodyB.length ≤ 134144 := by
  have := h.base.len
  rwa [textB_low (Nat.zero_le _)] at this
/-- A condition's call writes its text. -/
def Writes (ns : List Nd) (g cap i wanted : Nat) (t : Bytes) : Prop := ∀ W, NR W (.slice (some ⟨g, 0, none⟩) ns.length cap) ns → PW W → Calls Tryz.prog 32 #[.agg #[.slice (some ⟨g, 0, none⟩) ns.length cap], .int .i64 (i : Int), .int .i64 (wanted : Int)] W (CondP W t)
theorem writes_any {ns : List Nd} {g cap i wanted rank : Nat} {nd : Nd} {t : Bytes} (hr1 : 1 ≤ rank) (hi : ns[i]? = some nd) (hk : (if nd.kind = 12 then 1 else if nd.kind = 11 then 2 else 3 : Nat) = rank) (hl : t.length ≤ 134144)
    (body : ∀ w, w ≤ rank → Writes ns g cap i w t) : Writes ns g cap i wanted (brkB rank wanted t) := by
  unfold brkB
  by_cases h : rank < wanted
  · rw [if_pos h]
    exact fun W hn hp => cond_brk wanted h hr1 hi hk hn hp hl (body 0 (Nat.zero_le _))
  · rw [if_neg h]
    exact body wanted (by omega)
theorem cond_any (ns : List Nd) (g cap : Nat) : ∀ (c : Cd) (b wanted : Nat), CondIn wanted c → wanted ≤ 3 → At ns b (c.flat b) → Writes ns g cap (b + c.len - 1) wanted (c.textB wanted)
  | .cmp s n v, b, wanted, h, hw, ha => by
    obtain ⟨hs, n1, n2, hv, hvn, hvs⟩ := h.inCmp
    rw [textB_low hw]
    exact fun W hn hp => cond_cmp wanted hw ha.one hn hp hs n1 n2 hv hvn hvs
  | .has s t, b, wanted, h, hw, ha => by
    obtain ⟨hs, ht⟩ := h.inHas
    rw [textB_low hw]
    exact fun W hn hp => cond_has wanted hw ha.one hn hp hs ht
  | .not c, b, wanted, h, hw, ha => by
    have h2 := h.inNot
    have ih := cond_any ns g cap c b 3 h2 (Nat.le_refl _) ha.left
    have hi := ha.right.one
    rw [Cd.flat_len] at hi
    rw [textB_low hw]
    exact fun W hn hp => cond_not wanted hw hi hn hp h2.len ih
  | .and x y, b, wanted, h, hw, ha => by
    obtain ⟨h1, h2⟩ := h.inAnd
    have ih1 := cond_any ns g cap x b 2 h1 (by omega) ha.left.left
    have ha2 := ha.left.right
    rw [Cd.flat_len] at ha2
    have ih2 := cond_any ns g cap y (b + x.len) 3 h2 (Nat.le_refl _) ha2
    have hi := ha.right.one
    rw [List.length_append, Cd.flat_len, Cd.flat_len, ← Nat.add_assoc] at hi
    have e : b + Cd.len (.and x y) - 1 = b + x.len + y.len := by show b + (x.len + y.len + 1) - 1 = _; omega
    rw [e]
    exact writes_any (rank := 2) (by omega) hi rfl (body_len h) fun w hw2 W hn hp => cond_and w hw2 hi hn hp h1.len h2.len ih1 ih2
  | .or x y, b, wanted, h, hw, ha => by
    obtain ⟨h1, h2⟩ := h.inOr
    have ih1 := cond_any ns g cap x b 1 h1 (by omega) ha.left.left
    have ha2 := ha.left.right
    rw [Cd.flat_len] at ha2
    have ih2 := cond_any ns g cap y (b + x.len) 2 h2 (by omega) ha2
    have hi := ha.right.one
    rw [List.length_append, Cd.flat_len, Cd.flat_len, ← Nat.add_assoc] at hi
    have e : b + Cd.len (.or x y) - 1 = b + x.len + y.len := by show b + (x.len + y.len + 1) - 1 = _; omega
    rw [e]
    exact writes_any (rank := 1) (by omega) hi rfl (body_len h) fun w hw2 W hn hp => cond_or w hw2 hi hn hp h1.len h2.len ih1 ih2
end Go.Proofs.YtnaehhpikhlppaaGreatDoor

namespace Go.Proofs.YtnaehhpikhlppaaGreatDoor
open Go.RowKit LexS ParS BigFrame

section
variable {w W : World} {nb : Nat} {nv : Value} {ns : List Nd} {m : NodeM} {nd : Nd} {g cap i : Nat}
theorem CK.c3 (h : CK w nb nv ns m W) (hm : m.node = nd) : W.cell? ⟨nb, 3, none⟩ = some (.int .i64 nd.from_) := by subst hm; exact h.nd.cell 3
theorem CK.c4 (h : CK w nb nv ns m W) (hm : m.node = nd) : W.cell? ⟨nb, 4, none⟩ = some (.int .i64 nd.to_) := by subst hm; exact h.nd.cell 4
set_option maxRecDepth 100000 in
theorem rows_all {s : Bytes} (hi : ns[i]? = some { node 1 [] with s := s, from_ := 0, to_ := 1099511627775 }) (hn : NR w (.slice (some ⟨g, 0, none⟩) ns.length cap) ns) (hp : PW w) (hs : s.length ≤ 130) :
    Calls Tryz.prog 45 #[.agg #[.slice (some ⟨g, 0, none⟩) ns.length cap], .int .i64 (i : Int)] w (CondP w ([102, 101, 116, 99, 104, 32] ++ s)) := by
  obtain ⟨m, b, hm, hmk, hr, _, hml⟩ := nr_rangeP hn hi
  have hlt : i < ns.length := (List.getElem?_eq_some_iff.1 hi).1
  simp only [maxLen] at hml
  have a0 : (0 : Int) ≤ (i : Int) := by omega
  have a1 : (i : Int) < (ns.length : Int) := by omega
  have hone := hmk.onesP
  have HR := Lib.hid (range_kept (W' := boxed w (.slice (some ⟨g, 0, none⟩) ns.length cap)) ((Below.refl _ _).alloc (Nat.le_refl _) _) hr)
  have hth := CK.there w (.slice (some ⟨g, 0, none⟩) ns.length cap)
  have HS := Lib.hid (fun w4 h4 => CK.start (w4 := w4) hp hn hmk h4)
  have HM := Lib.hid hm
  have z1 : ((BA s).size : Int) ≤ 130 := by rw [text_size]; omega
  have v1 : ¬ 9223372036854775807 < 6 + s.length := by omega
  clear hi hn hp hm hmk hr hml
  go_enter Tryz.func45, Tryz.ntmps45
  go_wp2_with (first
    | (refine wpList_load_mid (by rfl) 42 (.tmp 14) (by rfl) g (i * 19) (by rfl) m.cells _ HR.out undNode (by rfl) sizeNode ?_)
    | (refine wpList_store_mid (by rfl) 42 (.tmp 5) (.tmp 15) (by rfl) (w.heap.size + 1) 0 m.cells.toArray (by rfl) (by rfl) hth sizeNode hone ?_
       generalize hw4 : World.setCells _ _ _ _ = w4
       have hc := HS.out w4 hw4
       have k0 := hc.c0 HM.out
       have c1 := hc.c1 HM.out
       have c3 := hc.c3 HM.out
       have c4 := hc.c4 HM.out
       dsimp only [node] at k0 c1 c3 c4
       have HC := Lib.hid hc
       clear hw4 hth hone hc))
  exact bodyPost_ret (results_tmp rfl _ _ _) rfl ⟨by show Ending.returned (Value.string ((⟨#[102, 101, 116, 99, 104, 32]⟩ : ByteArray) ++ BA s)) = _; exact congrArg (fun x => Ending.returned (Value.string x)) (cat2 [102, 101, 116, 99, 104, 32] s), HC.out.below⟩
theorem cat_fetch (s F T : Bytes) : (⟨#[102, 101, 116, 99, 104, 32]⟩ : ByteArray) ++ BA s ++ ((⟨#[32, 102, 114, 111, 109, 32]⟩ : ByteArray) ++ BA F ++ ⟨#[32, 116, 111, 32]⟩ ++ BA T) = BA ([102, 101, 116, 99, 104, 32] ++ s ++ ([32, 102, 114, 111, 109, 32] ++ F ++ [32, 116, 111, 32] ++ T)) := by
  rw [show (⟨#[102, 101, 116, 99, 104, 32]⟩ : ByteArray) = BA [102, 101, 116, 99, 104, 32] from rfl, show (⟨#[32, 102, 114, 111, 109, 32]⟩ : ByteArray) = BA [32, 102, 114, 111, 109, 32] from rfl, show (⟨#[32, 116, 111, 32]⟩ : ByteArray) = BA [32, 116, 111, 32] from rfl]
  simp only [cat2]
set_option maxRecDepth 100000 in
theorem rows_from {s : Bytes} {f t : Int} (hf : f ≠ 0) (hi : ns[i]? = some { node 1 [] with s := s, from_ := f, to_ := t }) (hn : NR w (.slice (some ⟨g, 0, none⟩) ns.length cap) ns) (hp : PW w) (hs : s.length ≤ 130) (f0 : -9223372036854775808 ≤ f) (f1 : f ≤ 9223372036854775807) (t0 : -9223372036854775808 ≤ t) (t1 : t ≤ 9223372036854775807) :
    Calls Tryz.prog 45 #[.agg #[.slice (some ⟨g, 0, none⟩) ns.length cap], .int .i64 (i : Int)] w (CondP w ([102, 101, 116, 99, 104, 32] ++ s ++ ([32, 102, 114, 111, 109, 32] ++ Lib.itoa f ++ [32, 116, 111, 32] ++ Lib.itoa t))) := by
  obtain ⟨m, b, hm, hmk, hr, _, hml⟩ := nr_rangeP hn hi
  have hlt : i < ns.length := (List.getElem?_eq_some_iff.1 hi).1
  simp only [maxLen] at hml
  have a0 : (0 : Int) ≤ (i : Int) := by omega
  have a1 : (i : Int) < (ns.length : Int) := by omega
  have hone := hmk.onesP
  have HR := Lib.hid (range_kept (W' := boxed w (.slice (some ⟨g, 0, none⟩) ns.length cap)) ((Below.refl _ _).alloc (Nat.le_refl _) _) hr)
  have hth := CK.there w (.slice (some ⟨g, 0, none⟩) ns.length cap)
  have HS := Lib.hid (fun w4 h4 => CK.start (w4 := w4) hp hn hmk h4)
  have HM := Lib.hid hm
  have z1 : ((BA s).size : Int) ≤ 130 := by rw [text_size]; omega
  have v1 : ¬ 9223372036854775807 < 6 + s.length := by omega
  have kf := itoa_b f f0 f1
  have kt := itoa_b t t0 t1
  have lf := (itoa_small f f0 f1).1
  have lt := (itoa_small t t0 t1).1
  obtain ⟨F, hF⟩ : ∃ F, F = Lib.itoa f := ⟨_, rfl⟩
  obtain ⟨T, hT⟩ : ∃ T, T = Lib.itoa t := ⟨_, rfl⟩
  rw [← hF] at kf lf ⊢
  rw [← hT] at kt lt ⊢
  have KF := Lib.hid kf
  have KT := Lib.hid kt
  have v2 : ¬ 9223372036854775807 < 6 + F.length := by omega
  have v3 : ¬ 9223372036854775807 < 6 + F.length + 4 := by omega
  have v4 : ¬ 9223372036854775807 < 6 + F.length + 4 + T.length := by omega
  have v5 : ¬ 9223372036854775807 < 6 + s.length + (6 + F.length + 4 + T.length) := by omega
  clear hF hT kf kt
  have g1 : (f != 0) = true := bne_iff_ne.2 hf
  clear hi hn hp hm hmk hr hml
  go_enter Tryz.func45, Tryz.ntmps45
  go_wp2_with (first
    | (refine wpList_load_mid (by rfl) 42 (.tmp 14) (by rfl) g (i * 19) (by rfl) m.cells _ HR.out undNode (by rfl) sizeNode ?_)
    | (refine wpList_store_mid (by rfl) 42 (.tmp 5) (.tmp 15) (by rfl) (w.heap.size + 1) 0 m.cells.toArray (by rfl) (by rfl) hth sizeNode hone ?_
       generalize hw4 : World.setCells _ _ _ _ = w4
       have hc := HS.out w4 hw4
       have k0 := hc.c0 HM.out
       have c1 := hc.c1 HM.out
       have c3 := hc.c3 HM.out
       have c4 := hc.c4 HM.out
       dsimp only [node] at k0 c1 c3 c4
       have HC := Lib.hid hc
       clear hw4 hth hone hc))
  have hk3 := HC.out.drew
  clear k0 c1
  go_region_held3 (fun w' => w'.cell? ⟨w.heap.size + 1, 3, none⟩ = some (.int .i64 f) ∧ w'.cell? ⟨w.heap.size + 1, 4, none⟩ = some (.int .i64 t))
    (go_keep)
    (first | (go_at_call 89; (with_reducible refine (KF.out _ (CK.gw (by assumption))).mono ?_); rintro e w9 ⟨rfl, hb1⟩; have hk3 := CK.kept (by assumption) hb1; have c3 := hk3.c3 HM.out; have c4 := hk3.c4 HM.out; dsimp only [node] at c3 c4; clear hb1)
           | (go_at_call 89; (with_reducible refine (KT.out _ (CK.gw (by assumption))).mono ?_); rintro e w9 ⟨rfl, hb1⟩; have hk3 := CK.kept (by assumption) hb1; have c3 := hk3.c3 HM.out; have c4 := hk3.c4 HM.out; dsimp only [node] at c3 c4; clear hb1))
  all_goals go_wp2_with fail
  all_goals exact bodyPost_ret (results_tmp rfl _ _ _) rfl ⟨by show Ending.returned (Value.string ((⟨#[102, 101, 116, 99, 104, 32]⟩ : ByteArray) ++ BA s ++ ((⟨#[32, 102, 114, 111, 109, 32]⟩ : ByteArray) ++ BA F ++ ⟨#[32, 116, 111, 32]⟩ ++ BA T))) = _; exact congrArg (fun x => Ending.returned (Value.string x)) (cat_fetch s F T), hk3.below⟩
set_option maxRecDepth 100000 in
theorem rows_to {s : Bytes} {t : Int} (hf : t ≠ 1099511627775) (hi : ns[i]? = some { node 1 [] with s := s, from_ := 0, to_ := t }) (hn : NR w (.slice (some ⟨g, 0, none⟩) ns.length cap) ns) (hp : PW w) (hs : s.length ≤ 130) (t0 : -9223372036854775808 ≤ t) (t1 : t ≤ 9223372036854775807) :
    Calls Tryz.prog 45 #[.agg #[.slice (some ⟨g, 0, none⟩) ns.length cap], .int .i64 (i : Int)] w (CondP w ([102, 101, 116, 99, 104, 32] ++ s ++ ([32, 102, 114, 111, 109, 32] ++ Lib.itoa 0 ++ [32, 116, 111, 32] ++ Lib.itoa t))) := by
  obtain ⟨m, b, hm, hmk, hr, _, hml⟩ := nr_rangeP hn hi
  have hlt : i < ns.length := (List.getElem?_eq_some_iff.1 hi).1
  simp only [maxLen] at hml
  have a0 : (0 : Int) ≤ (i : Int) := by omega
  have a1 : (i : Int) < (ns.length : Int) := by omega
  have hone := hmk.onesP
  have HR := Lib.hid (range_kept (W' := boxed w (.slice (some ⟨g, 0, none⟩) ns.length cap)) ((Below.refl _ _).alloc (Nat.le_refl _) _) hr)
  have hth := CK.there w (.slice (some ⟨g, 0, none⟩) ns.length cap)
  have HS := Lib.hid (fun w4 h4 => CK.start (w4 := w4) hp hn hmk h4)
  have HM := Lib.hid hm
  have z1 : ((BA s).size : Int) ≤ 130 := by rw [text_size]; omega
  have v1 : ¬ 9223372036854775807 < 6 + s.length := by omega
  have kf := itoa_b 0 (by omega) (by omega)
  have kt := itoa_b t t0 t1
  have lf := (itoa_small 0 (by omega) (by omega)).1
  have lt := (itoa_small t t0 t1).1
  obtain ⟨F, hF⟩ : ∃ F, F = Lib.itoa 0 := ⟨_, rfl⟩
  obtain ⟨T, hT⟩ : ∃ T, T = Lib.itoa t := ⟨_, rfl⟩
  rw [← hF] at kf lf ⊢
  rw [← hT] at kt lt ⊢
  have KF := Lib.hid kf
  have KT := Lib.hid kt
  have v2 : ¬ 9223372036854775807 < 6 + F.length := by omega
  have v3 : ¬ 9223372036854775807 < 6 + F.length + 4 := by omega
  have v4 : ¬ 9223372036854775807 < 6 + F.length + 4 + T.length := by omega
  have v5 : ¬ 9223372036854775807 < 6 + s.length + (6 + F.length + 4 + T.length) := by omega
  clear hF hT kf kt
  have g1 : (t != 1099511627775) = true := bne_iff_ne.2 hf
  clear hi hn hp hm hmk hr hml
  go_enter Tryz.func45, Tryz.ntmps45
  go_wp2_with (first
    | (refine wpList_load_mid (by rfl) 42 (.tmp 14) (by rfl) g (i * 19) (by rfl) m.cells _ HR.out undNode (by rfl) sizeNode ?_)
    | (refine wpList_store_mid (by rfl) 42 (.tmp 5) (.tmp 15) (by rfl) (w.heap.size + 1) 0 m.cells.toArray (by rfl) (by rfl) hth sizeNode hone ?_
       generalize hw4 : World.setCells _ _ _ _ = w4
       have hc := HS.out w4 hw4
       have k0 := hc.c0 HM.out
       have c1 := hc.c1 HM.out
       have c3 := hc.c3 HM.out
       have c4 := hc.c4 HM.out
       dsimp only [node] at k0 c1 c3 c4
       have HC := Lib.hid hc
       clear hw4 hth hone hc))
  have hk3 := HC.out.drew
  clear k0 c1
  go_region_held3 (fun w' => w'.cell? ⟨w.heap.size + 1, 3, none⟩ = some (.int .i64 0) ∧ w'.cell? ⟨w.heap.size + 1, 4, none⟩ = some (.int .i64 t))
    (go_keep)
    (first | (go_at_call 89; (with_reducible refine (KF.out _ (CK.gw (by assumption))).mono ?_); rintro e w9 ⟨rfl, hb1⟩; have hk3 := CK.kept (by assumption) hb1; have c3 := hk3.c3 HM.out; have c4 := hk3.c4 HM.out; dsimp only [node] at c3 c4; clear hb1)
           | (go_at_call 89; (with_reducible refine (KT.out _ (CK.gw (by assumption))).mono ?_); rintro e w9 ⟨rfl, hb1⟩; have hk3 := CK.kept (by assumption) hb1; have c3 := hk3.c3 HM.out; have c4 := hk3.c4 HM.out; dsimp only [node] at c3 c4; clear hb1))
  all_goals go_wp2_with fail
  all_goals exact bodyPost_ret (results_tmp rfl _ _ _) rfl ⟨by show Ending.returned (Value.string ((⟨#[102, 101, 116, 99, 104, 32]⟩ : ByteArray) ++ BA s ++ ((⟨#[32, 102, 114, 111, 109, 32]⟩ : ByteArray) ++ BA F ++ ⟨#[32, 116, 111, 32]⟩ ++ BA T))) = _; exact congrArg (fun x => Ending.returned (Value.string x)) (cat_fetch s F T), hk3.below⟩
end
end Go.Proofs.YtnaehhpikhlppaaGreatDoor

namespace Go.Proofs.YtnaehhpikhlppaaGreatDoor
open Go.RowKit LexS ParS BigFrame

section
variable {w W : World} {nb : Nat} {nv : Value} {ns : List Nd} {m : NodeM} {nd : Nd} {g cap i : Nat}
/-- A query's call writes its text. -/
def WritesQ (ns : List Nd) (g cap i : Nat) (t : Bytes) : Prop := ∀ W, NR W (.slice (some ⟨g, 0, none⟩) ns.length cap) ns → PW W → Calls Tryz.prog 45 #[.agg #[.slice (some ⟨g, 0, none⟩) ns.length cap], .int .i64 (i : Int)] W (CondP W t)
theorem cat_where (t u : Bytes) : BA t ++ (⟨#[32, 124, 32]⟩ : ByteArray) ++ ⟨#[119, 104, 101, 114, 101, 32]⟩ ++ BA u = BA (t ++ [32, 124, 32] ++ [119, 104, 101, 114, 101, 32] ++ u) := by
  rw [show (⟨#[32, 124, 32]⟩ : ByteArray) = BA [32, 124, 32] from rfl, show (⟨#[119, 104, 101, 114, 101, 32]⟩ : ByteArray) = BA [119, 104, 101, 114, 101, 32] from rfl]
  simp only [cat2]
set_option maxRecDepth 100000 in
theorem rows_where {a c : Nat} {t u : Bytes} (hi : ns[i]? = some (node 2 [a, c])) (hl : t.length ≤ 134144) (hl2 : u.length ≤ 134144) (rec : WritesQ ns g cap a t) (rec2 : Writes ns g cap c 0 u) : WritesQ ns g cap i (t ++ [32, 124, 32] ++ [119, 104, 101, 114, 101, 32] ++ u) := by
  intro w hn hp
  obtain ⟨m, b, hm, hmk, hr, _, hml⟩ := nr_rangeP hn hi
  have hlt : i < ns.length := (List.getElem?_eq_some_iff.1 hi).1
  simp only [maxLen] at hml
  have a0 : (0 : Int) ≤ (i : Int) := by omega
  have a1 : (i : Int) < (ns.length : Int) := by omega
  have hone := hmk.onesP
  have HR := Lib.hid (range_kept (W' := boxed w (.slice (some ⟨g, 0, none⟩) ns.length cap)) ((Below.refl _ _).alloc (Nat.le_refl _) _) hr)
  have hth := CK.there w (.slice (some ⟨g, 0, none⟩) ns.length cap)
  have HS := Lib.hid (fun w4 h4 => CK.start (w4 := w4) hp hn hmk h4)
  have HM := Lib.hid hm
  obtain ⟨gl, cl, hlv, hg0⟩ := rows_of (k := 0) (x := a) hmk hm rfl
  obtain ⟨gl', cl', hlv', hg1⟩ := rows_of (k := 1) (x := c) hmk hm rfl
  obtain rfl : gl = gl' := by
    rw [hlv] at hlv'
    injection hlv' with e1 _ _
    injection e1 with e1
    injection e1
  have hgk : ∀ W', Below w.heap.size w W' → W'.cell? ⟨gl, 0, none⟩ = some (.int .i64 (a : Int)) ∧ W'.cell? ⟨gl, 1, none⟩ = some (.int .i64 (c : Int)) := fun W' hb => ⟨keepc hb hg0, keepc hb hg1⟩
  have HG := Lib.hid hgk
  have hlv : m.lv = .slice (some ⟨gl, 0, none⟩) 2 cl := hlv
  have HL := Lib.hid hlv
  unfold WritesQ at rec
  unfold Writes at rec2
  have rec2 : ∀ W, NR W (.slice (some ⟨g, 0, none⟩) ns.length cap) ns → PW W → Calls Tryz.prog 32 #[.agg #[.slice (some ⟨g, 0, none⟩) ns.length cap], .int .i64 (c : Int), .int .i64 0] W (CondP W u) := rec2
  have HREC := Lib.hid rec
  have HREC2 := Lib.hid rec2
  have v1 : ¬ 9223372036854775807 < t.length + 3 := by omega
  have v2 : ¬ 9223372036854775807 < t.length + 3 + 6 := by omega
  have v3 : ¬ 9223372036854775807 < t.length + 3 + 6 + u.length := by omega
  have v4 : ¬ 9223372036854775807 < t.length + 3 + 6 + u.length + 1 := by omega
  clear hi hn hp hm hmk hr hml rec rec2 hlv hg0 hgk hlv' hg1
  go_enter Tryz.func45, Tryz.ntmps45
  go_wp2_with (first
    | (refine wpList_load_mid (by rfl) 42 (.tmp 14) (by rfl) g (i * 19) (by rfl) m.cells _ HR.out undNode (by rfl) sizeNode ?_)
    | (refine wpList_store_mid (by rfl) 42 (.tmp 5) (.tmp 15) (by rfl) (w.heap.size + 1) 0 m.cells.toArray (by rfl) (by rfl) hth sizeNode hone ?_
       generalize hw4 : World.setCells _ _ _ _ = w4
       have hc := HS.out w4 hw4
       have k0 := hc.c0 HM.out
       have x0 : w4.cell? ⟨w.heap.size, 0, none⟩ = some (.slice (some ⟨g, 0, none⟩) ns.length cap) := hc.box.cell 0
       have x6 : w4.cell? ⟨w.heap.size + 1, 16, none⟩ = some (.slice (some ⟨gl, 0, none⟩) 2 cl) := hc.c6.trans (congrArg some HL.out)
       obtain ⟨x7, x8⟩ := HG.out w4 hc.below
       have xs : w4.cell? ⟨1, 2, none⟩ = some (.string ⟨#[119, 104, 101, 114, 101, 32]⟩) := hc.pw.steps 2 (by omega)
       dsimp only [node] at k0
       have HC := Lib.hid hc
       clear hw4 hth hone hc))
  have hk3 := HC.out.drew
  go_region_held3 (fun w' => w'.cell? ⟨w.heap.size, 0, none⟩ = some (.slice (some ⟨g, 0, none⟩) ns.length cap) ∧ w'.cell? ⟨w.heap.size + 1, 16, none⟩ = some (.slice (some ⟨gl, 0, none⟩) 2 cl) ∧ w'.cell? ⟨gl, 0, none⟩ = some (.int .i64 (a : Int)) ∧ w'.cell? ⟨w.heap.size + 1, 0, none⟩ = some (.int .i64 2) ∧ w'.cell? ⟨1, 2, none⟩ = some (.string ⟨#[119, 104, 101, 114, 101, 32]⟩))
    (go_keep)
    (first | (go_at_call 45; (with_reducible refine (HREC.out _ (CK.nr (by assumption)) (CK.pw (by assumption))).mono ?_); rintro e w9 ⟨rfl, hb1⟩; have hk3 := CK.kept (by assumption) hb1; have k0 := hk3.c0 HM.out; have x0 : w9.cell? ⟨w.heap.size, 0, none⟩ = some (.slice (some ⟨g, 0, none⟩) ns.length cap) := hk3.box.cell 0; have x6 : w9.cell? ⟨w.heap.size + 1, 16, none⟩ = some (.slice (some ⟨gl, 0, none⟩) 2 cl) := hk3.c6.trans (congrArg some HL.out); obtain ⟨x7, x8⟩ := HG.out w9 hk3.below; have xs : w9.cell? ⟨1, 2, none⟩ = some (.string ⟨#[119, 104, 101, 114, 101, 32]⟩) := hk3.pw.steps 2 (by omega); dsimp only [node] at k0; clear hb1))
  go_wp2_with fail
  have hk3 := hk3.drew
  clear k0 xs x7
  go_region_held3 (fun w' => w'.cell? ⟨w.heap.size, 0, none⟩ = some (.slice (some ⟨g, 0, none⟩) ns.length cap) ∧ w'.cell? ⟨w.heap.size + 1, 16, none⟩ = some (.slice (some ⟨gl, 0, none⟩) 2 cl) ∧ w'.cell? ⟨gl, 1, none⟩ = some (.int .i64 (c : Int)))
    (go_keep)
    (first | (go_at_call 32; (with_reducible refine (HREC2.out _ (CK.nr (by assumption)) (CK.pw (by assumption))).mono ?_); rintro e w9 ⟨rfl, hb1⟩; have hk3 := CK.kept (by assumption) hb1; have x0 : w9.cell? ⟨w.heap.size, 0, none⟩ = some (.slice (some ⟨g, 0, none⟩) ns.length cap) := hk3.box.cell 0; have x6 : w9.cell? ⟨w.heap.size + 1, 16, none⟩ = some (.slice (some ⟨gl, 0, none⟩) 2 cl) := hk3.c6.trans (congrArg some HL.out); have x8 := (HG.out w9 hk3.below).2; clear hb1))
  go_wp2_with fail
  exact bodyPost_ret (results_tmp rfl _ _ _) rfl ⟨by show Ending.returned (Value.string (BA t ++ (⟨#[32, 124, 32]⟩ : ByteArray) ++ ⟨#[119, 104, 101, 114, 101, 32]⟩ ++ BA u)) = _; exact congrArg (fun x => Ending.returned (Value.string x)) (cat_where t u), hk3.below⟩
theorem cat_join (t u : Bytes) : BA t ++ (⟨#[32, 124, 32]⟩ : ByteArray) ++ ⟨#[106, 111, 105, 110, 32, 40]⟩ ++ BA u ++ ⟨#[41]⟩ = BA (t ++ [32, 124, 32] ++ [106, 111, 105, 110, 32, 40] ++ u ++ [41]) := by
  rw [show (⟨#[32, 124, 32]⟩ : ByteArray) = BA [32, 124, 32] from rfl, show (⟨#[106, 111, 105, 110, 32, 40]⟩ : ByteArray) = BA [106, 111, 105, 110, 32, 40] from rfl, show (⟨#[41]⟩ : ByteArray) = BA [41] from rfl]
  simp only [cat2]
set_option maxRecDepth 100000 in
theorem rows_join {a c : Nat} {t u : Bytes} (hi : ns[i]? = some (node 7 [a, c])) (hl : t.length ≤ 134144) (hl2 : u.length ≤ 134144) (rec : WritesQ ns g cap a t) (rec2 : WritesQ ns g cap c u) : WritesQ ns g cap i (t ++ [32, 124, 32] ++ [106, 111, 105, 110, 32, 40] ++ u ++ [41]) := by
  intro w hn hp
  obtain ⟨m, b, hm, hmk, hr, _, hml⟩ := nr_rangeP hn hi
  have hlt : i < ns.length := (List.getElem?_eq_some_iff.1 hi).1
  simp only [maxLen] at hml
  have a0 : (0 : Int) ≤ (i : Int) := by omega
  have a1 : (i : Int) < (ns.length : Int) := by omega
  have hone := hmk.onesP
  have HR := Lib.hid (range_kept (W' := boxed w (.slice (some ⟨g, 0, none⟩) ns.length cap)) ((Below.refl _ _).alloc (Nat.le_refl _) _) hr)
  have hth := CK.there w (.slice (some ⟨g, 0, none⟩) ns.length cap)
  have HS := Lib.hid (fun w4 h4 => CK.start (w4 := w4) hp hn hmk h4)
  have HM := Lib.hid hm
  obtain ⟨gl, cl, hlv, hg0⟩ := rows_of (k := 0) (x := a) hmk hm rfl
  obtain ⟨gl', cl', hlv', hg1⟩ := rows_of (k := 1) (x := c) hmk hm rfl
  obtain rfl : gl = gl' := by
    rw [hlv] at hlv'
    injection hlv' with e1 _ _
    injection e1 with e1
    injection e1
  have hgk : ∀ W', Below w.heap.size w W' → W'.cell? ⟨gl, 0, none⟩ = some (.int .i64 (a : Int)) ∧ W'.cell? ⟨gl, 1, none⟩ = some (.int .i64 (c : Int)) := fun W' hb => ⟨keepc hb hg0, keepc hb hg1⟩
  have HG := Lib.hid hgk
  have hlv : m.lv = .slice (some ⟨gl, 0, none⟩) 2 cl := hlv
  have HL := Lib.hid hlv
  unfold WritesQ at rec
  unfold WritesQ at rec2
  have HREC := Lib.hid rec
  have HREC2 := Lib.hid rec2
  have v1 : ¬ 9223372036854775807 < t.length + 3 := by omega
  have v2 : ¬ 9223372036854775807 < t.length + 3 + 6 := by omega
  have v3 : ¬ 9223372036854775807 < t.length + 3 + 6 + u.length := by omega
  have v4 : ¬ 9223372036854775807 < t.length + 3 + 6 + u.length + 1 := by omega
  clear hi hn hp hm hmk hr hml rec rec2 hlv hg0 hgk hlv' hg1
  go_enter Tryz.func45, Tryz.ntmps45
  go_wp2_with (first
    | (refine wpList_load_mid (by rfl) 42 (.tmp 14) (by rfl) g (i * 19) (by rfl) m.cells _ HR.out undNode (by rfl) sizeNode ?_)
    | (refine wpList_store_mid (by rfl) 42 (.tmp 5) (.tmp 15) (by rfl) (w.heap.size + 1) 0 m.cells.toArray (by rfl) (by rfl) hth sizeNode hone ?_
       generalize hw4 : World.setCells _ _ _ _ = w4
       have hc := HS.out w4 hw4
       have k0 := hc.c0 HM.out
       have x0 : w4.cell? ⟨w.heap.size, 0, none⟩ = some (.slice (some ⟨g, 0, none⟩) ns.length cap) := hc.box.cell 0
       have x6 : w4.cell? ⟨w.heap.size + 1, 16, none⟩ = some (.slice (some ⟨gl, 0, none⟩) 2 cl) := hc.c6.trans (congrArg some HL.out)
       obtain ⟨x7, x8⟩ := HG.out w4 hc.below
       have xs : w4.cell? ⟨1, 7, none⟩ = some (.string ⟨#[106, 111, 105, 110, 32, 40]⟩) := hc.pw.steps 7 (by omega)
       dsimp only [node] at k0
       have HC := Lib.hid hc
       clear hw4 hth hone hc))
  have hk3 := HC.out.drew
  go_region_held3 (fun w' => w'.cell? ⟨w.heap.size, 0, none⟩ = some (.slice (some ⟨g, 0, none⟩) ns.length cap) ∧ w'.cell? ⟨w.heap.size + 1, 16, none⟩ = some (.slice (some ⟨gl, 0, none⟩) 2 cl) ∧ w'.cell? ⟨gl, 0, none⟩ = some (.int .i64 (a : Int)) ∧ w'.cell? ⟨w.heap.size + 1, 0, none⟩ = some (.int .i64 7) ∧ w'.cell? ⟨1, 7, none⟩ = some (.string ⟨#[106, 111, 105, 110, 32, 40]⟩))
    (go_keep)
    (first | (go_at_call 45; (with_reducible refine (HREC.out _ (CK.nr (by assumption)) (CK.pw (by assumption))).mono ?_); rintro e w9 ⟨rfl, hb1⟩; have hk3 := CK.kept (by assumption) hb1; have k0 := hk3.c0 HM.out; have x0 : w9.cell? ⟨w.heap.size, 0, none⟩ = some (.slice (some ⟨g, 0, none⟩) ns.length cap) := hk3.box.cell 0; have x6 : w9.cell? ⟨w.heap.size + 1, 16, none⟩ = some (.slice (some ⟨gl, 0, none⟩) 2 cl) := hk3.c6.trans (congrArg some HL.out); obtain ⟨x7, x8⟩ := HG.out w9 hk3.below; have xs : w9.cell? ⟨1, 7, none⟩ = some (.string ⟨#[106, 111, 105, 110, 32, 40]⟩) := hk3.pw.steps 7 (by omega); dsimp only [node] at k0; clear hb1))
  go_wp2_with fail
  have hk3 := hk3.drew
  clear k0 xs x7
  go_region_held3 (fun w' => w'.cell? ⟨w.heap.size, 0, none⟩ = some (.slice (some ⟨g, 0, none⟩) ns.length cap) ∧ w'.cell? ⟨w.heap.size + 1, 16, none⟩ = some (.slice (some ⟨gl, 0, none⟩) 2 cl) ∧ w'.cell? ⟨gl, 1, none⟩ = some (.int .i64 (c : Int)))
    (go_keep)
    (first | (go_at_call 45; (with_reducible refine (HREC2.out _ (CK.nr (by assumption)) (CK.pw (by assumption))).mono ?_); rintro e w9 ⟨rfl, hb1⟩; have hk3 := CK.kept (by assumption) hb1; have x0 : w9.cell? ⟨w.heap.size, 0, none⟩ = some (.slice (some ⟨g, 0, none⟩) ns.length cap) := hk3.box.cell 0; have x6 : w9.cell? ⟨w.heap.size + 1, 16, none⟩ = some (.slice (some ⟨gl, 0, none⟩) 2 cl) := hk3.c6.trans (congrArg some HL.out); have x8 := (HG.out w9 hk3.below).2; clear hb1))
  go_wp2_with fail
  exact bodyPost_ret (results_tmp rfl _ _ _) rfl ⟨by show Ending.returned (Value.string (BA t ++ (⟨#[32, 124, 32]⟩ : ByteArray) ++ ⟨#[106, 111, 105, 110, 32, 40]⟩ ++ BA u ++ ⟨#[41]⟩)) = _; exact congrArg (fun x => Ending.returned (Value.string x)) (cat_join t u), hk3.below⟩
theorem cat_union (t u : Bytes) : BA t ++ (⟨#[32, 124, 32]⟩ : ByteArray) ++ ⟨#[117, 110, 105, 111, 110, 32, 40]⟩ ++ BA u ++ ⟨#[41]⟩ = BA (t ++ [32, 124, 32] ++ [117, 110, 105, 111, 110, 32, 40] ++ u ++ [41]) := by
  rw [show (⟨#[32, 124, 32]⟩ : ByteArray) = BA [32, 124, 32] from rfl, show (⟨#[117, 110, 105, 111, 110, 32, 40]⟩ : ByteArray) = BA [117, 110, 105, 111, 110, 32, 40] from rfl, show (⟨#[41]⟩ : ByteArray) = BA [41] from rfl]
  simp only [cat2]
set_option maxRecDepth 100000 in
theorem rows_union {a c : Nat} {t u : Bytes} (hi : ns[i]? = some (node 8 [a, c])) (hl : t.length ≤ 134144) (hl2 : u.length ≤ 134144) (rec : WritesQ ns g cap a t) (rec2 : WritesQ ns g cap c u) : WritesQ ns g cap i (t ++ [32, 124, 32] ++ [117, 110, 105, 111, 110, 32, 40] ++ u ++ [41]) := by
  intro w hn hp
  obtain ⟨m, b, hm, hmk, hr, _, hml⟩ := nr_rangeP hn hi
  have hlt : i < ns.length := (List.getElem?_eq_some_iff.1 hi).1
  simp only [maxLen] at hml
  have a0 : (0 : Int) ≤ (i : Int) := by omega
  have a1 : (i : Int) < (ns.length : Int) := by omega
  have hone := hmk.onesP
  have HR := Lib.hid (range_kept (W' := boxed w (.slice (some ⟨g, 0, none⟩) ns.length cap)) ((Below.refl _ _).alloc (Nat.le_refl _) _) hr)
  have hth := CK.there w (.slice (some ⟨g, 0, none⟩) ns.length cap)
  have HS := Lib.hid (fun w4 h4 => CK.start (w4 := w4) hp hn hmk h4)
  have HM := Lib.hid hm
  obtain ⟨gl, cl, hlv, hg0⟩ := rows_of (k := 0) (x := a) hmk hm rfl
  obtain ⟨gl', cl', hlv', hg1⟩ := rows_of (k := 1) (x := c) hmk hm rfl
  obtain rfl : gl = gl' := by
    rw [hlv] at hlv'
    injection hlv' with e1 _ _
    injection e1 with e1
    injection e1
  have hgk : ∀ W', Below w.heap.size w W' → W'.cell? ⟨gl, 0, none⟩ = some (.int .i64 (a : Int)) ∧ W'.cell? ⟨gl, 1, none⟩ = some (.int .i64 (c : Int)) := fun W' hb => ⟨keepc hb hg0, keepc hb hg1⟩
  have HG := Lib.hid hgk
  have hlv : m.lv = .slice (some ⟨gl, 0, none⟩) 2 cl := hlv
  have HL := Lib.hid hlv
  unfold WritesQ at rec
  unfold WritesQ at rec2
  have HREC := Lib.hid rec
  have HREC2 := Lib.hid rec2
  have v1 : ¬ 9223372036854775807 < t.length + 3 := by omega
  have v2 : ¬ 9223372036854775807 < t.length + 3 + 7 := by omega
  have v3 : ¬ 9223372036854775807 < t.length + 3 + 7 + u.length := by omega
  have v4 : ¬ 9223372036854775807 < t.length + 3 + 7 + u.length + 1 := by omega
  clear hi hn hp hm hmk hr hml rec rec2 hlv hg0 hgk hlv' hg1
  go_enter Tryz.func45, Tryz.ntmps45
  go_wp2_with (first
    | (refine wpList_load_mid (by rfl) 42 (.tmp 14) (by rfl) g (i * 19) (by rfl) m.cells _ HR.out undNode (by rfl) sizeNode ?_)
    | (refine wpList_store_mid (by rfl) 42 (.tmp 5) (.tmp 15) (by rfl) (w.heap.size + 1) 0 m.cells.toArray (by rfl) (by rfl) hth sizeNode hone ?_
       generalize hw4 : World.setCells _ _ _ _ = w4
       have hc := HS.out w4 hw4
       have k0 := hc.c0 HM.out
       have x0 : w4.cell? ⟨w.heap.size, 0, none⟩ = some (.slice (some ⟨g, 0, none⟩) ns.length cap) := hc.box.cell 0
       have x6 : w4.cell? ⟨w.heap.size + 1, 16, none⟩ = some (.slice (some ⟨gl, 0, none⟩) 2 cl) := hc.c6.trans (congrArg some HL.out)
       obtain ⟨x7, x8⟩ := HG.out w4 hc.below
       have xs : w4.cell? ⟨1, 8, none⟩ = some (.string ⟨#[117, 110, 105, 111, 110, 32, 40]⟩) := hc.pw.steps 8 (by omega)
       dsimp only [node] at k0
       have HC := Lib.hid hc
       clear hw4 hth hone hc))
  have hk3 := HC.out.drew
  go_region_held3 (fun w' => w'.cell? ⟨w.heap.size, 0, none⟩ = some (.slice (some ⟨g, 0, none⟩) ns.length cap) ∧ w'.cell? ⟨w.heap.size + 1, 16, none⟩ = some (.slice (some ⟨gl, 0, none⟩) 2 cl) ∧ w'.cell? ⟨gl, 0, none⟩ = some (.int .i64 (a : Int)) ∧ w'.cell? ⟨w.heap.size + 1, 0, none⟩ = some (.int .i64 8) ∧ w'.cell? ⟨1, 8, none⟩ = some (.string ⟨#[117, 110, 105, 111, 110, 32, 40]⟩))
    (go_keep)
    (first | (go_at_call 45; (with_reducible refine (HREC.out _ (CK.nr (by assumption)) (CK.pw (by assumption))).mono ?_); rintro e w9 ⟨rfl, hb1⟩; have hk3 := CK.kept (by assumption) hb1; have k0 := hk3.c0 HM.out; have x0 : w9.cell? ⟨w.heap.size, 0, none⟩ = some (.slice (some ⟨g, 0, none⟩) ns.length cap) := hk3.box.cell 0; have x6 : w9.cell? ⟨w.heap.size + 1, 16, none⟩ = some (.slice (some ⟨gl, 0, none⟩) 2 cl) := hk3.c6.trans (congrArg some HL.out); obtain ⟨x7, x8⟩ := HG.out w9 hk3.below; have xs : w9.cell? ⟨1, 8, none⟩ = some (.string ⟨#[117, 110, 105, 111, 110, 32, 40]⟩) := hk3.pw.steps 8 (by omega); dsimp only [node] at k0; clear hb1))
  go_wp2_with fail
  have hk3 := hk3.drew
  clear k0 xs x7
  go_region_held3 (fun w' => w'.cell? ⟨w.heap.size, 0, none⟩ = some (.slice (some ⟨g, 0, none⟩) ns.length cap) ∧ w'.cell? ⟨w.heap.size + 1, 16, none⟩ = some (.slice (some ⟨gl, 0, none⟩) 2 cl) ∧ w'.cell? ⟨gl, 1, none⟩ = some (.int .i64 (c : Int)))
    (go_keep)
    (first | (go_at_call 45; (with_reducible refine (HREC2.out _ (CK.nr (by assumption)) (CK.pw (by assumption))).mono ?_); rintro e w9 ⟨rfl, hb1⟩; have hk3 := CK.kept (by assumption) hb1; have x0 : w9.cell? ⟨w.heap.size, 0, none⟩ = some (.slice (some ⟨g, 0, none⟩) ns.length cap) := hk3.box.cell 0; have x6 : w9.cell? ⟨w.heap.size + 1, 16, none⟩ = some (.slice (some ⟨gl, 0, none⟩) 2 cl) := hk3.c6.trans (congrArg some HL.out); have x8 := (HG.out w9 hk3.below).2; clear hb1))
  go_wp2_with fail
  exact bodyPost_ret (results_tmp rfl _ _ _) rfl ⟨by show Ending.returned (Value.string (BA t ++ (⟨#[32, 124, 32]⟩ : ByteArray) ++ ⟨#[117, 110, 105, 111, 110, 32, 40]⟩ ++ BA u ++ ⟨#[41]⟩)) = _; exact congrArg (fun x => Ending.returned (Value.string x)) (cat_union t u), hk3.below⟩
end
end Go.Proofs.YtnaehhpikhlppaaGreatDoor
