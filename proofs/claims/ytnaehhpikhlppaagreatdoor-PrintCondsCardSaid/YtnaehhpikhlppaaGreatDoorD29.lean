/- Several texts of the proof, joined. -/
import Derived.Test.YtnaehhpikhlppaaGreatDoorD28
import Derived.Test.YtnaehhpikhlppaaGreatDoorD18
import Derived.Lib.Join
set_option maxHeartbeats 4000000
set_option linter.unusedVariables false
set_option linter.unusedSimpArgs false
namespace Go.Proofs.YtnaehhpikhlppaaGreatDoor
open Go.RowKit LexS ParS BigFrame

section
variable {w W : World} {nb : Nat} {nv : Value} {ns : List Nd} {m : NodeM} {nd : Nd} {g cap i : Nat}
theorem cat_align (t X : Bytes) : BA t ++ (⟨#[32, 124, 32]⟩ : ByteArray) ++ ⟨#[97, 108, 105, 103, 110, 32]⟩ ++ BA X = BA (t ++ [32, 124, 32] ++ [97, 108, 105, 103, 110, 32] ++ X) := by
  rw [show (⟨#[32, 124, 32]⟩ : ByteArray) = BA [32, 124, 32] from rfl, show (⟨#[97, 108, 105, 103, 110, 32]⟩ : ByteArray) = BA [97, 108, 105, 103, 110, 32] from rfl]
  simp only [cat2]
set_option maxRecDepth 100000 in
theorem rows_align {a : Nat} {t : Bytes} {x : Int} (hi : ns[i]? = some { node 4 [a] with n := x }) (hl : t.length ≤ 134144) (x0' : -9223372036854775808 ≤ x) (x1' : x ≤ 9223372036854775807) (rec : WritesQ ns g cap a t) : WritesQ ns g cap i (t ++ [32, 124, 32] ++ [97, 108, 105, 103, 110, 32] ++ Lib.itoa x) := by
  intro w hn hp
  obtain ⟨m, b, hm, hmk, hr, _, hml⟩ := nr_rangeP hn hi
  have hlt : i < ns.length := (List.getElem?_eq_some_iff.1 hi).1
  simp only [maxLen] at hml
  have a0 : (0 : Int) ≤ (i : Int) := by omega
  have a1 : (i : Int) < (ns.length : Int) := by omega
  have hone := hmk.onesP
  have HR := Lib.hid (range_kept (W' := boxed w (.slice (some ⟨g, 0, none⟩) ns.length cap)) ((Below.refl _ _).alloc (Nat.le_refl _) _) hr)
  have hth := CK.there w (.slice (some ⟨g, 0, none⟩) ns.length cap)
  have HS := Lib.hid (fun w4 h4 => CK.start (w4 := w4) hp hn hmk h4)
  have HM := Lib.hid hm
  obtain ⟨gl, cl, hlv, hg0⟩ := rows_of (k := 0) (x := a) hmk hm rfl
  have hgk : ∀ W', Below w.heap.size w W' → W'.cell? ⟨gl, 0, none⟩ = some (.int .i64 (a : Int)) := fun W' hb => keepc hb hg0
  have HG := Lib.hid hgk
  have hlv : m.lv = .slice (some ⟨gl, 0, none⟩) 1 cl := hlv
  have HL := Lib.hid hlv
  unfold WritesQ at rec
  have HREC := Lib.hid rec
  have kx := itoa_b x x0' x1'
  have lx := (itoa_small x x0' x1').1
  obtain ⟨X, hX⟩ : ∃ X, X = Lib.itoa x := ⟨_, rfl⟩
  rw [← hX] at kx lx ⊢
  have KX := Lib.hid kx
  have v1 : ¬ 9223372036854775807 < t.length + 3 := by omega
  have v2 : ¬ 9223372036854775807 < t.length + 3 + 6 := by omega
  have v3 : ¬ 9223372036854775807 < t.length + 3 + 6 + X.length := by omega
  have v4 : ¬ 9223372036854775807 < t.length + 3 + 6 + X.length + 4 := by omega
  clear hX kx
  clear hi hn hp hm hmk hr hml rec hlv hg0 hgk
  go_enter Tryz.func45, Tryz.ntmps45
  go_wp2_with (first
    | (refine wpList_load_mid (by rfl) 42 (.tmp 14) (by rfl) g (i * 19) (by rfl) m.cells _ HR.out undNode (by rfl) sizeNode ?_)
    | (refine wpList_store_mid (by rfl) 42 (.tmp 5) (.tmp 15) (by rfl) (w.heap.size + 1) 0 m.cells.toArray (by rfl) (by rfl) hth sizeNode hone ?_
       generalize hw4 : World.setCells _ _ _ _ = w4
       have hc := HS.out w4 hw4
       have k0 := hc.c0 HM.out
       have x0 : w4.cell? ⟨w.heap.size, 0, none⟩ = some (.slice (some ⟨g, 0, none⟩) ns.length cap) := hc.box.cell 0
       have x6 : w4.cell? ⟨w.heap.size + 1, 16, none⟩ = some (.slice (some ⟨gl, 0, none⟩) 1 cl) := hc.c6.trans (congrArg some HL.out)
       have x7 := HG.out w4 hc.below
       have c1 := hc.c1 HM.out
       have c2 := hc.c2 HM.out
       have xs : w4.cell? ⟨1, 4, none⟩ = some (.string ⟨#[97, 108, 105, 103, 110, 32]⟩) := hc.pw.steps 4 (by omega)
       dsimp only [node] at k0 c1 c2
       have HC := Lib.hid hc
       clear hw4 hth hone hc))
  have hk3 := HC.out.drew
  go_region_held3 (fun w' => w'.cell? ⟨w.heap.size, 0, none⟩ = some (.slice (some ⟨g, 0, none⟩) ns.length cap) ∧ w'.cell? ⟨w.heap.size + 1, 16, none⟩ = some (.slice (some ⟨gl, 0, none⟩) 1 cl) ∧ w'.cell? ⟨gl, 0, none⟩ = some (.int .i64 (a : Int)) ∧ w'.cell? ⟨w.heap.size + 1, 0, none⟩ = some (.int .i64 4) ∧ w'.cell? ⟨1, 4, none⟩ = some (.string ⟨#[97, 108, 105, 103, 110, 32]⟩))
    (go_keep)
    (first | (go_at_call 45; (with_reducible refine (HREC.out _ (CK.nr (by assumption)) (CK.pw (by assumption))).mono ?_); rintro e w9 ⟨rfl, hb1⟩; have hk3 := CK.kept (by assumption) hb1; have k0 := hk3.c0 HM.out; have x0 : w9.cell? ⟨w.heap.size, 0, none⟩ = some (.slice (some ⟨g, 0, none⟩) ns.length cap) := hk3.box.cell 0; have x6 : w9.cell? ⟨w.heap.size + 1, 16, none⟩ = some (.slice (some ⟨gl, 0, none⟩) 1 cl) := hk3.c6.trans (congrArg some HL.out); have x7 := HG.out w9 hk3.below; have c1 := hk3.c1 HM.out; have c2 := hk3.c2 HM.out; have xs : w9.cell? ⟨1, 4, none⟩ = some (.string ⟨#[97, 108, 105, 103, 110, 32]⟩) := hk3.pw.steps 4 (by omega); dsimp only [node] at k0 c1 c2; clear hb1))
  go_wp2_with fail
  refine (KX.out _ hk3.gw).mono ?_
  rintro e w8 ⟨rfl, hb1⟩
  have hk3 := hk3.kept hb1
  clear hb1 k0 x0 x6 x7 xs c1 c2
  go_wp2_with fail
  exact bodyPost_ret (results_tmp rfl _ _ _) rfl ⟨by show Ending.returned (Value.string (BA t ++ (⟨#[32, 124, 32]⟩ : ByteArray) ++ ⟨#[97, 108, 105, 103, 110, 32]⟩ ++ BA X)) = _; exact congrArg (fun x => Ending.returned (Value.string x)) (cat_align t X), hk3.below⟩
theorem cat_top (t s X : Bytes) : BA t ++ (⟨#[32, 124, 32]⟩ : ByteArray) ++ ⟨#[116, 111, 112, 32]⟩ ++ BA X ++ ⟨#[32, 98, 121, 32]⟩ ++ BA s = BA (t ++ [32, 124, 32] ++ [116, 111, 112, 32] ++ X ++ [32, 98, 121, 32] ++ s) := by
  rw [show (⟨#[32, 124, 32]⟩ : ByteArray) = BA [32, 124, 32] from rfl, show (⟨#[116, 111, 112, 32]⟩ : ByteArray) = BA [116, 111, 112, 32] from rfl, show (⟨#[32, 98, 121, 32]⟩ : ByteArray) = BA [32, 98, 121, 32] from rfl]
  simp only [cat2]
set_option maxRecDepth 100000 in
theorem rows_top {a : Nat} {t s : Bytes} {x : Int} (hi : ns[i]? = some { node 6 [a] with n := x, s := s }) (hl : t.length ≤ 134144) (hs : s.length ≤ 130) (x0' : -9223372036854775808 ≤ x) (x1' : x ≤ 9223372036854775807) (rec : WritesQ ns g cap a t) : WritesQ ns g cap i (t ++ [32, 124, 32] ++ [116, 111, 112, 32] ++ Lib.itoa x ++ [32, 98, 121, 32] ++ s) := by
  intro w hn hp
  obtain ⟨m, b, hm, hmk, hr, _, hml⟩ := nr_rangeP hn hi
  have hlt : i < ns.length := (List.getElem?_eq_some_iff.1 hi).1
  simp only [maxLen] at hml
  have a0 : (0 : Int) ≤ (i : Int) := by omega
  have a1 : (i : Int) < (ns.length : Int) := by omega
  have hone := hmk.onesP
  have HR := Lib.hid (range_kept (W' := boxed w (.slice (some ⟨g, 0, none⟩) ns.length cap)) ((Below.refl _ _).alloc (Nat.le_refl _) _) hr)
  have hth := CK.there w (.slice (some ⟨g, 0, none⟩) ns.length cap)
  have HS := Lib.hid (fun w4 h4 => CK.start (w4 := w4) hp hn hmk h4)
  have HM := Lib.hid hm
  obtain ⟨gl, cl, hlv, hg0⟩ := rows_of (k := 0) (x := a) hmk hm rfl
  have hgk : ∀ W', Below w.heap.size w W' → W'.cell? ⟨gl, 0, none⟩ = some (.int .i64 (a : Int)) := fun W' hb => keepc hb hg0
  have HG := Lib.hid hgk
  have hlv : m.lv = .slice (some ⟨gl, 0, none⟩) 1 cl := hlv
  have HL := Lib.hid hlv
  unfold WritesQ at rec
  have HREC := Lib.hid rec
  have kx := itoa_b x x0' x1'
  have lx := (itoa_small x x0' x1').1
  obtain ⟨X, hX⟩ : ∃ X, X = Lib.itoa x := ⟨_, rfl⟩
  rw [← hX] at kx lx ⊢
  have KX := Lib.hid kx
  have v1 : ¬ 9223372036854775807 < t.length + 3 := by omega
  have v2 : ¬ 9223372036854775807 < t.length + 3 + 4 := by omega
  have v3 : ¬ 9223372036854775807 < t.length + 3 + 4 + X.length := by omega
  have v4 : ¬ 9223372036854775807 < t.length + 3 + 4 + X.length + 4 := by omega
  have v5 : ¬ 9223372036854775807 < t.length + 3 + 4 + X.length + 4 + s.length := by omega
  clear hX kx
  clear hi hn hp hm hmk hr hml rec hlv hg0 hgk
  go_enter Tryz.func45, Tryz.ntmps45
  go_wp2_with (first
    | (refine wpList_load_mid (by rfl) 42 (.tmp 14) (by rfl) g (i * 19) (by rfl) m.cells _ HR.out undNode (by rfl) sizeNode ?_)
    | (refine wpList_store_mid (by rfl) 42 (.tmp 5) (.tmp 15) (by rfl) (w.heap.size + 1) 0 m.cells.toArray (by rfl) (by rfl) hth sizeNode hone ?_
       generalize hw4 : World.setCells _ _ _ _ = w4
       have hc := HS.out w4 hw4
       have k0 := hc.c0 HM.out
       have x0 : w4.cell? ⟨w.heap.size, 0, none⟩ = some (.slice (some ⟨g, 0, none⟩) ns.length cap) := hc.box.cell 0
       have x6 : w4.cell? ⟨w.heap.size + 1, 16, none⟩ = some (.slice (some ⟨gl, 0, none⟩) 1 cl) := hc.c6.trans (congrArg some HL.out)
       have x7 := HG.out w4 hc.below
       have c1 := hc.c1 HM.out
       have c2 := hc.c2 HM.out
       have xs : w4.cell? ⟨1, 6, none⟩ = some (.string ⟨#[116, 111, 112, 32]⟩) := hc.pw.steps 6 (by omega)
       dsimp only [node] at k0 c1 c2
       have HC := Lib.hid hc
       clear hw4 hth hone hc))
  have hk3 := HC.out.drew
  go_region_held3 (fun w' => w'.cell? ⟨w.heap.size, 0, none⟩ = some (.slice (some ⟨g, 0, none⟩) ns.length cap) ∧ w'.cell? ⟨w.heap.size + 1, 16, none⟩ = some (.slice (some ⟨gl, 0, none⟩) 1 cl) ∧ w'.cell? ⟨gl, 0, none⟩ = some (.int .i64 (a : Int)) ∧ w'.cell? ⟨w.heap.size + 1, 0, none⟩ = some (.int .i64 6) ∧ w'.cell? ⟨1, 6, none⟩ = some (.string ⟨#[116, 111, 112, 32]⟩))
    (go_keep)
    (first | (go_at_call 45; (with_reducible refine (HREC.out _ (CK.nr (by assumption)) (CK.pw (by assumption))).mono ?_); rintro e w9 ⟨rfl, hb1⟩; have hk3 := CK.kept (by assumption) hb1; have k0 := hk3.c0 HM.out; have x0 : w9.cell? ⟨w.heap.size, 0, none⟩ = some (.slice (some ⟨g, 0, none⟩) ns.length cap) := hk3.box.cell 0; have x6 : w9.cell? ⟨w.heap.size + 1, 16, none⟩ = some (.slice (some ⟨gl, 0, none⟩) 1 cl) := hk3.c6.trans (congrArg some HL.out); have x7 := HG.out w9 hk3.below; have c1 := hk3.c1 HM.out; have c2 := hk3.c2 HM.out; have xs : w9.cell? ⟨1, 6, none⟩ = some (.string ⟨#[116, 111, 112, 32]⟩) := hk3.pw.steps 6 (by omega); dsimp only [node] at k0 c1 c2; clear hb1))
  go_wp2_with fail
  have hk3 := hk3.drew
  clear k0 xs x7 x0 x6
  go_region_held3 (fun w' => w'.cell? ⟨w.heap.size + 1, 2, none⟩ = some (.int .i64 x) ∧ w'.cell? ⟨w.heap.size + 1, 1, none⟩ = some (.string (BA s)))
    (go_keep)
    (first | (go_at_call 89; (with_reducible refine (KX.out _ (CK.gw (by assumption))).mono ?_); rintro e w9 ⟨rfl, hb1⟩; have hk3 := CK.kept (by assumption) hb1; have c1 := hk3.c1 HM.out; have c2 := hk3.c2 HM.out; dsimp only [node] at c1 c2; clear hb1))
  go_wp2_with fail
  exact bodyPost_ret (results_tmp rfl _ _ _) rfl ⟨by show Ending.returned (Value.string (BA t ++ (⟨#[32, 124, 32]⟩ : ByteArray) ++ ⟨#[116, 111, 112, 32]⟩ ++ BA X ++ ⟨#[32, 98, 121, 32]⟩ ++ BA s)) = _; exact congrArg (fun x => Ending.returned (Value.string x)) (cat_top t s X), hk3.below⟩
end
end Go.Proofs.YtnaehhpikhlppaaGreatDoor

namespace Go.Proofs.YtnaehhpikhlppaaGreatDoor.ParS
open LexS

/-- A query that may be written. -/
structure QueryIn (q : Qr) : Prop where
  ok : q.Ok
  lex : ∀ t ∈ q.tok, LexT t
  few : q.tok.length ≤ 1024
theorem QueryIn.len {q : Qr} (h : QueryIn q) : q.textB.length ≤ 134144 := by
  rw [← (query_mid q h.ok).2]
  have := spell_len h.lex
  have := h.few
  omega
theorem sep_mem {l : List (List Tk)} {x : List Tk} (h : x ∈ l) : ∀ t ∈ x, t ∈ sep l := by
  intro t ht
  cases l with
  | nil => cases h
  | cons a r =>
    show t ∈ a ++ r.flatMap fun y => sg kw_comma :: y
    rcases List.mem_cons.1 h with rfl | h
    · simp [ht]
    · refine List.mem_append_right _ (List.mem_flatMap.2 ⟨x, h, by simp [ht]⟩)
theorem join_sep (l : List Bytes) : Lib.join l [44, 32] = sepB l := by
  cases l with
  | nil => rfl
  | cons x r =>
    rw [Lib.join_cons]
    show _ = x ++ r.flatMap fun y => 44 :: 32 :: y
    rw [List.flatMap_def]
    rfl
section
variable {q r : Qr} {c : Cd} {l : List Bytes} {g : List (Nat × Bytes)} {n f t : Int} {s : Bytes}
theorem QueryIn.inWhere (h : QueryIn (.where_ q c)) : QueryIn q ∧ CondIn 0 c := by
  have e : Qr.tok (.where_ q c) = q.tok ++ [sg kw_bar, wd (stepW 2)] ++ c.tok 0 := rfl
  have hf := h.few
  rw [e] at hf
  simp at hf
  exact ⟨⟨h.ok.1, fun t ht => h.lex t (by rw [e]; simp [ht]), by omega⟩, ⟨h.ok.2, fun t ht => h.lex t (by rw [e]; simp [ht]), by omega⟩⟩
theorem QueryIn.inJoin (h : QueryIn (.join q r)) : QueryIn q ∧ QueryIn r := by
  have e : Qr.tok (.join q r) = q.tok ++ [sg kw_bar, wd (stepW 7), sg kw_open] ++ r.tok ++ [sg kw_shut] := rfl
  have hf := h.few
  rw [e] at hf
  simp at hf
  exact ⟨⟨h.ok.1, fun t ht => h.lex t (by rw [e]; simp [ht]), by omega⟩, ⟨h.ok.2, fun t ht => h.lex t (by rw [e]; simp [ht]), by omega⟩⟩
theorem QueryIn.inUnion (h : QueryIn (.union q r)) : QueryIn q ∧ QueryIn r := by
  have e : Qr.tok (.union q r) = q.tok ++ [sg kw_bar, wd (stepW 8), sg kw_open] ++ r.tok ++ [sg kw_shut] := rfl
  have hf := h.few
  rw [e] at hf
  simp at hf
  exact ⟨⟨h.ok.1, fun t ht => h.lex t (by rw [e]; simp [ht]), by omega⟩, ⟨h.ok.2, fun t ht => h.lex t (by rw [e]; simp [ht]), by omega⟩⟩
theorem QueryIn.inFetch (h : QueryIn (.fetch s f t)) : s.length ≤ 130 ∧ (f ≠ 0 ∨ t ≠ 1099511627775 → -9223372036854775808 ≤ f ∧ f ≤ 9223372036854775807 ∧ -9223372036854775808 ≤ t ∧ t ≤ 9223372036854775807) := by
  refine ⟨lexT_small (t := wd s) (h.lex _ (by simp [Qr.tok])), fun hne => ?_⟩
  have e : Qr.tok (.fetch s f t) = [wd kw_fetch, wd s] ++ [wd kw_from, nm f, wd kw_to, nm t] := by
    unfold Qr.tok
    rw [if_neg (by omega)]
  have h1 := lexT_nm (h.lex (nm f) (by rw [e]; simp))
  have h2 := lexT_nm (h.lex (nm t) (by rw [e]; simp))
  exact ⟨h1.1, h1.2, h2.1, h2.2⟩
theorem QueryIn.inKeep (h : QueryIn (.keep q l)) : QueryIn q ∧ l ≠ [] ∧ l.length ≤ 1024 ∧ ∀ s ∈ l, s.length ≤ 130 := by
  have e : Qr.tok (.keep q l) = q.tok ++ [sg kw_bar, wd (stepW 3)] ++ namesT l := rfl
  have hf := h.few
  rw [e] at hf
  simp at hf
  have h1 := names_len l
  refine ⟨⟨h.ok.1, fun t ht => h.lex t (by rw [e]; simp [ht]), by omega⟩, h.ok.2, by omega, fun s hs => lexT_small (t := wd s) (h.lex _ ?_)⟩
  rw [e]
  exact List.mem_append_right _ (sep_mem (List.mem_map.2 ⟨s, hs, rfl⟩) _ (by simp))
theorem QueryIn.inAlign (h : QueryIn (.align q n)) : QueryIn q ∧ -9223372036854775808 ≤ n ∧ n ≤ 9223372036854775807 := by
  have e : Qr.tok (.align q n) = q.tok ++ [sg kw_bar, wd (stepW 4), nm n] := rfl
  have hf := h.few
  rw [e] at hf
  simp at hf
  exact ⟨⟨h.ok, fun t ht => h.lex t (by rw [e]; simp [ht]), by omega⟩, lexT_nm (h.lex (nm n) (by rw [e]; simp))⟩
theorem QueryIn.inTop (h : QueryIn (.top q n s)) : QueryIn q ∧ s.length ≤ 130 ∧ -9223372036854775808 ≤ n ∧ n ≤ 9223372036854775807 := by
  have e : Qr.tok (.top q n s) = q.tok ++ [sg kw_bar, wd (stepW 6), nm n, wd kw_by, wd s] := rfl
  have hf := h.few
  rw [e] at hf
  simp at hf
  exact ⟨⟨h.ok, fun t ht => h.lex t (by rw [e]; simp [ht]), by omega⟩, lexT_small (t := wd s) (h.lex _ (by rw [e]; simp)), lexT_nm (h.lex (nm n) (by rw [e]; simp))⟩
theorem QueryIn.inGroup (h : QueryIn (.group q l g)) : QueryIn q ∧ l.length ≤ 1024 ∧ (∀ s ∈ l, s.length ≤ 130) ∧ g ≠ [] ∧ g.length ≤ 1024 ∧ ∀ a ∈ g, AggOk a ∧ a.2.length ≤ 130 := by
  have e : Qr.tok (.group q l g) = q.tok ++ [sg kw_bar, wd (stepW 5)] ++ namesT l ++ [sg kw_colon] ++ aggsT g := rfl
  have hf := h.few
  rw [e] at hf
  simp at hf
  have h1 := names_len l
  have h2 := aggs_len g
  refine ⟨⟨h.ok.1, fun t ht => h.lex t (by rw [e]; simp [ht]), by omega⟩, by omega, fun s hs => lexT_small (t := wd s) (h.lex _ ?_), h.ok.2.2.1, by omega, fun a ha => ⟨h.ok.2.2.2 a ha, ?_⟩⟩
  · have : wd s ∈ namesT l := sep_mem (List.mem_map.2 ⟨s, hs, rfl⟩) _ (by simp)
    rw [e]
    simp [this]
  · have hm : ∀ t ∈ aggT a, LexT t := fun t ht => h.lex t (by
      have : t ∈ aggsT g := sep_mem (List.mem_map.2 ⟨a, ha, rfl⟩) _ ht
      rw [e]
      simp [this])
    rcases h.ok.2.2.2 a ha with rfl | ⟨h5, h6⟩
    · exact Nat.zero_le _
    · unfold aggT at hm
      rw [if_neg (by omega)] at hm
      exact lexT_small (t := wd a.2) (hm _ (by simp))
end
/-- What is known of each node of a query that may be written. -/
structure NdIn (nd : Nd) : Prop where
  names : ∀ s ∈ nd.names, LexT (wd s)
  own : nd.kind = 1 ∨ nd.kind = 6 ∨ nd.kind = 14 ∨ nd.kind = 15 → LexT (wd nd.s)
  aggs : ∀ a ∈ nd.aggs, AggOk a ∧ (a.1 ≠ 1 → LexT (wd a.2))
  val : nd.v = ⟨0, 0, []⟩ ∨ (ValOk nd.v ∧ (-9223372036854775808 ≤ nd.v.n ∧ nd.v.n ≤ 9223372036854775807) ∧ nd.v.s.length ≤ 64)
  sign : nd.kind = 14 → 1 ≤ nd.n ∧ nd.n ≤ 6
  few : nd.names.length ≤ 1024 ∧ nd.aggs.length ≤ 1024
theorem ndIn_node {k : Nat} {l : List Nat} (h : k ≠ 1 ∧ k ≠ 6 ∧ k ≠ 14 ∧ k ≠ 15) : NdIn (node k l) :=
  ⟨fun s hs => by (cases hs), fun h' => by have : k = 1 ∨ k = 6 ∨ k = 14 ∨ k = 15 := h'; omega, fun a ha => by (cases ha), .inl rfl, fun h' => by have : k = 14 := h'; omega, Nat.zero_le _, Nat.zero_le _⟩
theorem CondIn.nds : ∀ {c : Cd} {w : Nat}, CondIn w c → ∀ (b : Nat), ∀ nd ∈ c.flat b, NdIn nd
  | .cmp s n v, w, h, b, nd, hm => by
    obtain ⟨_, n1, n2, hv, hvn, hvs⟩ := h.inCmp
    have hw : LexT (wd s) := h.base.lex _ (by simp [Cd.tok0, Cd.body])
    have e : nd = { node 14 [] with s := s, n := (n : Int), v := v } := by simpa [Cd.flat] using hm
    subst e
    exact ⟨fun s hs => by (cases hs), fun _ => hw, fun a ha => by (cases ha), .inr ⟨hv, hvn, hvs⟩, fun _ => ⟨by show (1 : Int) ≤ (n : Int); omega, by show (n : Int) ≤ 6; omega⟩, Nat.zero_le _, Nat.zero_le _⟩
  | .has s t, w, h, b, nd, hm => by
    obtain ⟨_, ht⟩ := h.inHas
    have hw : LexT (wd s) := h.base.lex _ (by simp [Cd.tok0, Cd.body])
    have e : nd = { node 15 [] with s := s, v := ⟨2, 0, t⟩ } := by simpa [Cd.flat] using hm
    subst e
    exact ⟨fun s hs => by (cases hs), fun _ => hw, fun a ha => by (cases ha), .inr ⟨.inr (.inl ⟨rfl, rfl⟩), ⟨by show (_ : Int) ≤ 0; omega, by show (0 : Int) ≤ _; omega⟩, ht⟩, fun h' => by have : (15 : Nat) = 14 := h'; omega, Nat.zero_le _, Nat.zero_le _⟩
  | .not c, w, h, b, nd, hm => by
    rcases List.mem_append.1 hm with hm | hm
    · exact h.inNot.nds b nd hm
    · rw [List.mem_singleton] at hm
      subst hm
      exact ndIn_node (by omega)
  | .and x y, w, h, b, nd, hm => by
    rcases List.mem_append.1 hm with hm | hm
    · rcases List.mem_append.1 hm with hm | hm
      · exact h.inAnd.1.nds b nd hm
      · exact h.inAnd.2.nds _ nd hm
    · rw [List.mem_singleton] at hm
      subst hm
      exact ndIn_node (by omega)
  | .or x y, w, h, b, nd, hm => by
    rcases List.mem_append.1 hm with hm | hm
    · rcases List.mem_append.1 hm with hm | hm
      · exact h.inOr.1.nds b nd hm
      · exact h.inOr.2.nds _ nd hm
    · rw [List.mem_singleton] at hm
      subst hm
      exact ndIn_node (by omega)
theorem names_lex {l : List Bytes} {X : List Tk} (h : ∀ t ∈ X, LexT t) (hs : ∀ t ∈ namesT l, t ∈ X) : ∀ s ∈ l, LexT (wd s) := fun s hm => h _ (hs _ (sep_mem (List.mem_map.2 ⟨s, hm, rfl⟩) _ (by simp)))
theorem QueryIn.nds : ∀ {q : Qr}, QueryIn q → ∀ (b : Nat), ∀ nd ∈ q.flat b, NdIn nd
  | .fetch s f t, h, b, nd, hm => by
    have hw : LexT (wd s) := h.lex _ (by simp [Qr.tok])
    have e : nd = { node 1 [] with s := s, from_ := f, to_ := t } := by simpa [Qr.flat] using hm
    subst e
    exact ⟨fun s hs => by (cases hs), fun _ => hw, fun a ha => by (cases ha), .inl rfl, fun h' => by have : (1 : Nat) = 14 := h'; omega, Nat.zero_le _, Nat.zero_le _⟩
  | .where_ q c, h, b, nd, hm => by
    rcases List.mem_append.1 hm with hm | hm
    · rcases List.mem_append.1 hm with hm | hm
      · exact h.inWhere.1.nds b nd hm
      · exact h.inWhere.2.nds _ nd hm
    · rw [List.mem_singleton] at hm
      subst hm
      exact ndIn_node (by omega)
  | .keep q l, h, b, nd, hm => by
    rcases List.mem_append.1 hm with hm | hm
    · exact h.inKeep.1.nds b nd hm
    · rw [List.mem_singleton] at hm
      subst hm
      exact ⟨names_lex h.lex fun t ht => by simp [Qr.tok, ht], fun h' => by have : (3 : Nat) = 1 ∨ (3 : Nat) = 6 ∨ (3 : Nat) = 14 ∨ (3 : Nat) = 15 := h'; omega, fun a ha => by (cases ha), .inl rfl, fun h' => by have : (3 : Nat) = 14 := h'; omega, h.inKeep.2.2.1, Nat.zero_le _⟩
  | .align q n, h, b, nd, hm => by
    rcases List.mem_append.1 hm with hm | hm
    · exact h.inAlign.1.nds b nd hm
    · rw [List.mem_singleton] at hm
      subst hm
      exact ⟨fun s hs => by (cases hs), fun h' => by have : (4 : Nat) = 1 ∨ (4 : Nat) = 6 ∨ (4 : Nat) = 14 ∨ (4 : Nat) = 15 := h'; omega, fun a ha => by (cases ha), .inl rfl, fun h' => by have : (4 : Nat) = 14 := h'; omega, Nat.zero_le _, Nat.zero_le _⟩
  | .group q l g, h, b, nd, hm => by
    obtain ⟨h1, h2, _, _, h4, h5⟩ := h.inGroup
    rcases List.mem_append.1 hm with hm | hm
    · exact h1.nds b nd hm
    · rw [List.mem_singleton] at hm
      subst hm
      refine ⟨names_lex h.lex fun t ht => by simp [Qr.tok, ht], fun h' => by have : (5 : Nat) = 1 ∨ (5 : Nat) = 6 ∨ (5 : Nat) = 14 ∨ (5 : Nat) = 15 := h'; omega, fun a ha => ⟨(h5 a ha).1, fun hne => ?_⟩, .inl rfl, fun h' => by have : (5 : Nat) = 14 := h'; omega, h2, h4⟩
      have : ∀ t ∈ aggT a, t ∈ aggsT g := fun t ht => sep_mem (List.mem_map.2 ⟨a, ha, rfl⟩) _ ht
      refine h.lex _ ?_
      have := this (wd a.2) (by unfold aggT; rw [if_neg hne]; simp)
      simp [Qr.tok, this]
  | .top q n s, h, b, nd, hm => by
    have hw : LexT (wd s) := h.lex _ (by simp [Qr.tok])
    rcases List.mem_append.1 hm with hm | hm
    · exact h.inTop.1.nds b nd hm
    · rw [List.mem_singleton] at hm
      subst hm
      exact ⟨fun s hs => by (cases hs), fun _ => hw, fun a ha => by (cases ha), .inl rfl, fun h' => by have : (6 : Nat) = 14 := h'; omega, Nat.zero_le _, Nat.zero_le _⟩
  | .join q r, h, b, nd, hm => by
    rcases List.mem_append.1 hm with hm | hm
    · rcases List.mem_append.1 hm with hm | hm
      · exact h.inJoin.1.nds b nd hm
      · exact h.inJoin.2.nds _ nd hm
    · rw [List.mem_singleton] at hm
      subst hm
      exact ndIn_node (by omega)
  | .union q r, h, b, nd, hm => by
    rcases List.mem_append.1 hm with hm | hm
    · rcases List.mem_append.1 hm with hm | hm
      · exact h.inUnion.1.nds b nd hm
      · exact h.inUnion.2.nds _ nd hm
    · rw [List.mem_singleton] at hm
      subst hm
      exact ndIn_node (by omega)
end Go.Proofs.YtnaehhpikhlppaaGreatDoor.ParS

namespace Go.Proofs.YtnaehhpikhlppaaGreatDoor
open Go.RowKit LexS ParS BigFrame

section
variable {w W : World} {nb : Nat} {nv : Value} {ns : List Nd} {m : NodeM} {nd : Nd} {g cap i : Nat}
theorem CK.c17 (h : CK w nb nv ns m W) : W.cell? ⟨nb, 17, none⟩ = some m.nv := h.nd.cell 17
theorem CK.c18 (h : CK w nb nv ns m W) : W.cell? ⟨nb, 18, none⟩ = some m.av := h.nd.cell 18
theorem flatc_len : ∀ r : List Bytes, r.length ≤ (r.flatMap fun y => 44 :: 32 :: y).length
  | [] => Nat.zero_le _
  | y :: r => by
    have := flatc_len r
    simp only [List.flatMap_cons, List.length_append, List.length_cons]
    omega
theorem sepB_len (l : List Bytes) : l.length ≤ (sepB l).length + 1 := by
  cases l with
  | nil => exact Nat.zero_le _
  | cons x r =>
    have := flatc_len r
    show r.length + 1 ≤ (x ++ r.flatMap fun y => 44 :: 32 :: y).length + 1
    rw [List.length_append]
    omega
/-- Texts that lie in a row are joined. -/
theorem join_row {W0 : World} {b : Nat} {v : Value} {l : List Bytes} (h : W0.ownsRow b 9 1 v l.length (strsL l)) (hl : (sepB l).length ≤ 134144) (W : World) (hb : Below W0.heap.size W0 W) :
    Calls Tryz.prog 90 #[v, .string ⟨#[44, 32]⟩] W fun e w' => e = .returned (.string (BA (sepB l))) ∧ Below W.heap.size W w' := by
  obtain ⟨p, c, rfl, h1, h2, h3⟩ := row_cells h
  simp only [maxLen] at h2
  have hln := sepB_len l
  have hd : (l.map BA).map (·.data.toList) = l := by
    rw [List.map_map]
    conv => rhs; rw [← List.map_id l]
    exact List.map_congr_left fun s _ => text_list s
  by_cases h0 : l.length = 0
  · obtain rfl : l = [] := List.eq_nil_of_length_eq_zero h0
    exact (Tryz.strings_Join_none p c _ W).mono fun e w' ⟨he, hw⟩ => ⟨he, hw ▸ Below.refl _ _⟩
  · obtain ⟨g, rfl, hg⟩ := h3 (by omega)
    have hj := Tryz.strings_Join g 0 c (l.map BA) ⟨#[44, 32]⟩ W (fun j x hx => by
      rw [List.getElem?_map] at hx
      rcases hy : l[j]? with _ | y
      · rw [hy] at hx; cases hx
      · rw [hy] at hx
        injection hx with hx
        subst hx
        rw [Nat.zero_add]
        exact keepc hb (hg j _ (strsL_get hy))) (by
      have : W0.cell? ⟨g, 0, none⟩ = some (.string (BA (l[0]'(by omega)))) := hg 0 _ (strsL_get (List.getElem?_eq_getElem (by omega)))
      have := keepc hb this
      exact World.block_lt_of_cell? W _ this) (by rw [List.length_map]; omega) (by rw [List.length_map]; omega) (by rw [hd]; show (Lib.join l [44, 32]).length ≤ _; rw [join_sep]; omega)
    rw [List.length_map, hd] at hj
    rw [show (Lib.join l (⟨#[44, 32]⟩ : ByteArray).data.toList) = sepB l from join_sep l] at hj
    exact hj
theorem cat_keep (t X : Bytes) : BA t ++ (⟨#[32, 124, 32]⟩ : ByteArray) ++ ⟨#[107, 101, 101, 112, 32]⟩ ++ BA X = BA (t ++ [32, 124, 32] ++ [107, 101, 101, 112, 32] ++ X) := by
  rw [show (⟨#[32, 124, 32]⟩ : ByteArray) = BA [32, 124, 32] from rfl, show (⟨#[107, 101, 101, 112, 32]⟩ : ByteArray) = BA [107, 101, 101, 112, 32] from rfl]
  simp only [cat2]
set_option maxRecDepth 100000 in
theorem rows_keep {a : Nat} {t : Bytes} {l : List Bytes} (hi : ns[i]? = some { node 3 [a] with names := l }) (hl : t.length ≤ 134144) (hl2 : (sepB l).length ≤ 134144) (rec : WritesQ ns g cap a t) : WritesQ ns g cap i (t ++ [32, 124, 32] ++ [107, 101, 101, 112, 32] ++ sepB l) := by
  intro w hn hp
  obtain ⟨m, b, hm, hmk, hr, _, hml⟩ := nr_rangeP hn hi
  have hlt : i < ns.length := (List.getElem?_eq_some_iff.1 hi).1
  simp only [maxLen] at hml
  have a0 : (0 : Int) ≤ (i : Int) := by omega
  have a1 : (i : Int) < (ns.length : Int) := by omega
  have hone := hmk.onesP
  have HR := Lib.hid (range_kept (W' := boxed w (.slice (some ⟨g, 0, none⟩) ns.length cap)) ((Below.refl _ _).alloc (Nat.le_refl _) _) hr)
  have hth := CK.there w (.slice (some ⟨g, 0, none⟩) ns.length cap)
  have HS := Lib.hid (fun w4 h4 => CK.start (w4 := w4) hp hn hmk h4)
  have HM := Lib.hid hm
  obtain ⟨gl, cl, hlv, hg0⟩ := rows_of (k := 0) (x := a) hmk hm rfl
  have hgk : ∀ W', Below w.heap.size w W' → W'.cell? ⟨gl, 0, none⟩ = some (.int .i64 (a : Int)) := fun W' hb => keepc hb hg0
  have HG := Lib.hid hgk
  have hlv : m.lv = .slice (some ⟨gl, 0, none⟩) 1 cl := hlv
  have HL := Lib.hid hlv
  have hnm : m.node.names = l := by rw [hm]
  have hnr := hmk.names
  rw [hnm] at hnr
  have hj := join_row hnr hl2
  obtain ⟨pn, cn, hnv, _, _, _⟩ := row_cells hnr
  rw [hnv] at hj
  have HNV := Lib.hid hnv
  have HJ := Lib.hid hj
  unfold WritesQ at rec
  have HREC := Lib.hid rec
  obtain ⟨X, hX⟩ : ∃ X, X = sepB l := ⟨_, rfl⟩
  rw [← hX] at hl2 ⊢
  have HX := Lib.hid hX
  have v1 : ¬ 9223372036854775807 < t.length + 3 := by omega
  have v2 : ¬ 9223372036854775807 < t.length + 3 + 5 := by omega
  have v3 : ¬ 9223372036854775807 < t.length + 3 + 5 + X.length := by omega
  clear hX hnm hnr hj hnv
  clear hi hn hp hm hmk hr hml rec hlv hg0 hgk
  go_enter Tryz.func45, Tryz.ntmps45
  go_wp2_with (first
    | (refine wpList_load_mid (by rfl) 42 (.tmp 14) (by rfl) g (i * 19) (by rfl) m.cells _ HR.out undNode (by rfl) sizeNode ?_)
    | (refine wpList_store_mid (by rfl) 42 (.tmp 5) (.tmp 15) (by rfl) (w.heap.size + 1) 0 m.cells.toArray (by rfl) (by rfl) hth sizeNode hone ?_
       generalize hw4 : World.setCells _ _ _ _ = w4
       have hc := HS.out w4 hw4
       have k0 := hc.c0 HM.out
       have x0 : w4.cell? ⟨w.heap.size, 0, none⟩ = some (.slice (some ⟨g, 0, none⟩) ns.length cap) := hc.box.cell 0
       have x6 : w4.cell? ⟨w.heap.size + 1, 16, none⟩ = some (.slice (some ⟨gl, 0, none⟩) 1 cl) := hc.c6.trans (congrArg some HL.out)
       have x7 := HG.out w4 hc.below
       have x17 : w4.cell? ⟨w.heap.size + 1, 17, none⟩ = some (.slice pn l.length cn) := hc.c17.trans (congrArg some HNV.out)
       have xs : w4.cell? ⟨1, 3, none⟩ = some (.string ⟨#[107, 101, 101, 112, 32]⟩) := hc.pw.steps 3 (by omega)
       dsimp only [node] at k0
       have HC := Lib.hid hc
       clear hw4 hth hone hc))
  have hk3 := HC.out.drew
  go_region_held3 (fun w' => w'.cell? ⟨w.heap.size, 0, none⟩ = some (.slice (some ⟨g, 0, none⟩) ns.length cap) ∧ w'.cell? ⟨w.heap.size + 1, 16, none⟩ = some (.slice (some ⟨gl, 0, none⟩) 1 cl) ∧ w'.cell? ⟨gl, 0, none⟩ = some (.int .i64 (a : Int)) ∧ w'.cell? ⟨w.heap.size + 1, 0, none⟩ = some (.int .i64 3) ∧ w'.cell? ⟨1, 3, none⟩ = some (.string ⟨#[107, 101, 101, 112, 32]⟩))
    (go_keep)
    (first | (go_at_call 45; (with_reducible refine (HREC.out _ (CK.nr (by assumption)) (CK.pw (by assumption))).mono ?_); rintro e w9 ⟨rfl, hb1⟩; have hk3 := CK.kept (by assumption) hb1; have k0 := hk3.c0 HM.out; have x0 : w9.cell? ⟨w.heap.size, 0, none⟩ = some (.slice (some ⟨g, 0, none⟩) ns.length cap) := hk3.box.cell 0; have x6 : w9.cell? ⟨w.heap.size + 1, 16, none⟩ = some (.slice (some ⟨gl, 0, none⟩) 1 cl) := hk3.c6.trans (congrArg some HL.out); have x7 := HG.out w9 hk3.below; have x17 : w9.cell? ⟨w.heap.size + 1, 17, none⟩ = some (.slice pn l.length cn) := hk3.c17.trans (congrArg some HNV.out); have xs : w9.cell? ⟨1, 3, none⟩ = some (.string ⟨#[107, 101, 101, 112, 32]⟩) := hk3.pw.steps 3 (by omega); dsimp only [node] at k0; clear hb1))
  go_wp2_with fail
  refine (HJ.out _ hk3.below).mono ?_
  rintro e w8 ⟨rfl, hb1⟩
  rw [← HX.out]
  have hk3 := hk3.kept hb1
  clear hb1 k0 x0 x6 x7 xs x17
  go_wp2_with fail
  exact bodyPost_ret (results_tmp rfl _ _ _) rfl ⟨by show Ending.returned (Value.string (BA t ++ (⟨#[32, 124, 32]⟩ : ByteArray) ++ ⟨#[107, 101, 101, 112, 32]⟩ ++ BA X)) = _; exact congrArg (fun x => Ending.returned (Value.string x)) (cat_keep t X), hk3.below⟩
end
end Go.Proofs.YtnaehhpikhlppaaGreatDoor
