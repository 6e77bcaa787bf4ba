/- Several texts of the proof, joined. -/
import Derived.Test.YtnaehhpikhlppaaGreatDoorE24
set_option maxHeartbeats 4000000
set_option maxRecDepth 100000
set_option linter.unusedVariables false
set_option linter.unusedSimpArgs false
namespace Go.Proofs.YtnaehhpikhlppaaGreatDoor
open Go.RowKit LexS ParS BigFrame
attribute [local go_sem] World.cell?_alloc_some
theorem strs_box {w4 w5:World} {cs:Array Value} (h:w4.alloc (.cells cs 9)=w5):Below w4.heap.size w4 w5∧Blk w5 w4.heap.size 9 cs:=by
 subst h
 exact ⟨(Below.refl _ _).alloc (Nat.le_refl _) _,Blk.new w4 9 cs⟩
def LineC (ns:List Nd) (g cap i wanted:Nat) (toks:List Tk):Prop := ∀ (w0 W:World) (lv:Value) (T:List Tk),NR w0 (.slice (some ⟨g,0,none⟩) ns.length cap) ns→LN w0 (.slice (some ⟨g,0,none⟩) ns.length cap) lv T W→T.length+toks.length≤1100 →
 Calls Tryz.prog 95 #[RP w0.heap.size,.int .i64 (i:Int),.int .i64 (wanted:Int)] W (LNP w0 (.slice (some ⟨g,0,none⟩) ns.length cap) lv (T++toks) W)
section
variable {ns:List Nd} {g cap i:Nat}
theorem lcond_brk {rank:Nat} {nd:Nd} {toks:List Tk} (wanted:Nat) (hw:rank<wanted) (hi:ns[i]?=some nd) (hk:(if nd.kind=12 then 1 else if nd.kind=11 then 2 else 3:Nat)=rank) (rec:LineC ns g cap i 0 toks):LineC ns g cap i wanted ([sg kw_open]++toks++[sg kw_shut]):=by
 intro w0 W lv T hn h hT
 obtain ⟨m,b,hm,hmk,hr,_,hml⟩:=nr_rangeP (h.nodes hn) hi
 have hlt:i<ns.length:=(List.getElem?_eq_some_iff.1 hi).1
 simp only [maxLen] at hml
 have a0:(0:Int)≤(i:Int):=by omega
 have a1:(i:Int)<(ns.length:Int):=by omega
 have a2:¬ (i:Int)<0:=by omega
 have a2':decide ((i:Int)<0)=false:=decide_eq_false a2
 have hone:=hmk.onesP
 have HR:=Lib.hid hr
 have hth:=nd_there W
 have HS:=Lib.hid (fun w4 h4=>nd_stored (w3:=W) (w4:=w4) (m:=m) h4)
 have HM:=Lib.hid hm
 have HN:=Lib.hid hn
 have HI:=Lib.hid hi
 have H0:=Lib.hid h
 have c0:W.cell? ⟨w0.heap.size,0,none⟩=some (.slice (some ⟨g,0,none⟩) ns.length cap):=h.box.cell 0
 have c2:W.cell? ⟨w0.heap.size,2,none⟩=some (.bool false):=h.box.cell 2
 unfold LineC at rec
 have HREC:=Lib.hid rec
 have hl2:T.length+(toks.length+2)≤1100:=by simp at hT;omega
 have w0_:decide ((rank:Int)<(wanted:Int))=true:=decide_eq_true (by omega)
 have w1_:(rank:Int)<(wanted:Int):=by omega
 have HK9:=Lib.hid hk
 clear rec hT hk
 clear hi hn hm hmk hr h hml
 go_enter Tryz.func95,Tryz.ntmps95
 go_wp2_with (first
  | (refine wpList_load_mid (by rfl) 42 (.tmp 22) (by rfl) g (i*19) (by rfl) m.cells _ HR.out undNode (by rfl) sizeNode ?_)
  | (refine wpList_store_mid (by rfl) 42 (.tmp 6) (.tmp 23) (by rfl) W.heap.size 0 m.cells.toArray (by rfl) (by rfl) hth sizeNode hone ?_
     generalize hw4:World.setCells _ _ _ _=w4
     obtain ⟨hb4,hk4⟩:=HS.out w4 hw4
     have H4:=Lib.hid (H0.out.kept hb4)
     have K4:=Lib.hid hk4
     have S4:=Lib.hid (show Stp w0.heap.size lv W lv w4 from Stp.of hb4)
     clear hw4 hb4 hk4 hth hone c0 c2))
 have hrk:Calls Tryz.prog 130 #[RP w0.heap.size,.int .i64 (i:Int)] w4 fun e W'=>e=.returned (.int .i64 ((rank:Nat):Int))∧W'=w4:=by have h9:=rank_r H4.out HN.out HI.out;rw [HK9.out] at h9;exact h9
 refine hrk.mono ?_
 rintro e w5 ⟨rfl,rfl⟩
 clear hrk
 go_wp2_with fail
 refine (sign_r kw_open H4.out (by omega)).mono ?_
 rintro e w6 ⟨rfl,lv6,h6,s6⟩
 have H6:=Lib.hid h6
 have S6:=Lib.hid (Stp.trans S4.out s6)
 have K6:=Lib.hid (H4.out.keep s6 K4.out (by decide) (by decide))
 clear h6 s6
 go_wp2_with fail
 refine (HREC.out _ _ _ _ HN.out H6.out (by rw [List.length_append];simp;omega)).mono ?_
 rintro e w7 ⟨rfl,lv7,h7,s7⟩
 have H7:=Lib.hid h7
 have S7:=Lib.hid (Stp.trans S6.out s7)
 have K7:=Lib.hid (H6.out.keep s7 K6.out (by decide) (by decide))
 clear h7 s7
 go_wp2_with fail
 refine (sign_r kw_shut H7.out (by rw [List.length_append,List.length_append];simp;omega)).mono ?_
 rintro e w8 ⟨rfl,lv8,h8,s8⟩
 have H8:=Lib.hid h8
 have S8:=Lib.hid (Stp.trans S7.out s8)
 clear h8 s8
 go_wp2_with fail
 exact bodyPost_ret (v:=.tuple #[]) (results_none rfl _ _ _) rfl ⟨rfl,lv8,by have h9:=H8.out;simp only [List.append_assoc,List.cons_append,List.nil_append] at h9 ⊢;exact h9,S8.out⟩
theorem lcond_not {a:Nat} {toks:List Tk} (wanted:Nat) (hw:wanted≤3) (hi:ns[i]?=some (node 13 [a])) (hx:a<i) (rec:LineC ns g cap a 3 toks):LineC ns g cap i wanted ([wd kw_not]++toks):=by
 intro w0 W lv T hn h hT
 obtain ⟨m,b,hm,hmk,hr,_,hml⟩:=nr_rangeP (h.nodes hn) hi
 have hlt:i<ns.length:=(List.getElem?_eq_some_iff.1 hi).1
 simp only [maxLen] at hml
 have a0:(0:Int)≤(i:Int):=by omega
 have a1:(i:Int)<(ns.length:Int):=by omega
 have a2:¬ (i:Int)<0:=by omega
 have a2':decide ((i:Int)<0)=false:=decide_eq_false a2
 have hone:=hmk.onesP
 have HR:=Lib.hid hr
 have hth:=nd_there W
 have HS:=Lib.hid (fun w4 h4=>nd_stored (w3:=W) (w4:=w4) (m:=m) h4)
 have HM:=Lib.hid hm
 have HN:=Lib.hid hn
 have HI:=Lib.hid hi
 have H0:=Lib.hid h
 have c0:W.cell? ⟨w0.heap.size,0,none⟩=some (.slice (some ⟨g,0,none⟩) ns.length cap):=h.box.cell 0
 have c2:W.cell? ⟨w0.heap.size,2,none⟩=some (.bool false):=h.box.cell 2
 have w0_:decide ((3:Int)<(wanted:Int))=false:=decide_eq_false (by omega)
 have w1_:¬ (3:Int)<(wanted:Int):=by omega
 unfold LineC at rec
 have HREC:=Lib.hid rec
 have hl2:T.length+(toks.length+1)≤1100:=by simp at hT;omega
 have HX:=Lib.hid hx
 clear rec hT hx
 clear hi hn hm hmk hr h hml
 go_enter Tryz.func95,Tryz.ntmps95
 go_wp2_with (first
  | (refine wpList_load_mid (by rfl) 42 (.tmp 22) (by rfl) g (i*19) (by rfl) m.cells _ HR.out undNode (by rfl) sizeNode ?_)
  | (refine wpList_store_mid (by rfl) 42 (.tmp 6) (.tmp 23) (by rfl) W.heap.size 0 m.cells.toArray (by rfl) (by rfl) hth sizeNode hone ?_
     generalize hw4:World.setCells _ _ _ _=w4
     obtain ⟨hb4,hk4⟩:=HS.out w4 hw4
     have H4:=Lib.hid (H0.out.kept hb4)
     have K4:=Lib.hid hk4
     have S4:=Lib.hid (show Stp w0.heap.size lv W lv w4 from Stp.of hb4)
     clear hw4 hb4 hk4 hth hone c0 c2))
 have hrk:Calls Tryz.prog 130 #[RP w0.heap.size,.int .i64 (i:Int)] w4 fun e W'=>e=.returned (.int .i64 ((3:Nat):Int))∧W'=w4:=rank_r H4.out HN.out HI.out
 refine hrk.mono ?_
 rintro e w5 ⟨rfl,rfl⟩
 clear hrk
 obtain ⟨w6,hw6⟩:∃ w6,w5.alloc (.cells #[.string ⟨#[]⟩,.string ⟨#[61]⟩,.string ⟨#[33,61]⟩,.string ⟨#[60]⟩,.string ⟨#[60,61]⟩,.string ⟨#[62]⟩,.string ⟨#[62,61]⟩] 9)=w6:=⟨_,rfl⟩
 obtain ⟨hb6,hx6⟩:=strs_box hw6
 have H6:=Lib.hid (H4.out.kept hb6)
 have K6:=Lib.hid (K4.out.kept hb6)
 have S6:=Lib.hid (Stp.trans S4.out (Stp.of hb6))
 have X6:=Lib.hid hx6
 have k0:w6.cell? ⟨W.heap.size,0,none⟩=some (.int .i64 (13:Int)):=by have:=K6.out.cell 0;rw [show m.cells.toArray[0]?=some (.int .i64 (m.node.kind:Int)) from rfl,HM.out] at this;exact this
 have k5:w5.cell? ⟨W.heap.size,0,none⟩=some (.int .i64 (13:Int)):=by have:=K4.out.cell 0;rw [show m.cells.toArray[0]?=some (.int .i64 (m.node.kind:Int)) from rfl,HM.out] at this;exact this
 have HW6:=Lib.hid hw6
 clear hw6 hb6 hx6
 go_wp2_with fail
 rw [HW6.out]
 clear k5
 refine (word_r kw_not H6.out (by omega)).mono ?_
 rintro e w7 ⟨rfl,lv7,h7,s7⟩
 have H7:=Lib.hid h7
 have S7:=Lib.hid (Stp.trans S6.out s7)
 clear h7 s7
 go_wp2_with fail
 refine (below_r (k:=0) (x:=a) H7.out (by rw [List.length_append];simp;omega) HN.out HI.out rfl HX.out).mono ?_
 rintro e w8 ⟨rfl,rfl⟩
 go_wp2_with fail
 refine (HREC.out _ _ _ _ HN.out H7.out (by rw [List.length_append];simp;omega)).mono ?_
 rintro e w9 ⟨rfl,lv9,h9,s9⟩
 have H9:=Lib.hid h9
 have S9:=Lib.hid (Stp.trans S7.out s9)
 clear h9 s9
 go_wp2_with fail
 exact bodyPost_end (v:=.tuple #[]) (results_none rfl _ _ _) rfl ⟨rfl,lv9,by have h9:=H9.out;simp only [List.append_assoc,List.cons_append,List.nil_append] at h9 ⊢;exact h9,S9.out⟩
theorem lcond_and {a c:Nat} {t1 t2:List Tk} (wanted:Nat) (hw:wanted≤2) (hi:ns[i]?=some (node 11 [a,c])) (hx:a<i) (hy:c<i) (rec:LineC ns g cap a 2 t1) (rec2:LineC ns g cap c 3 t2):LineC ns g cap i wanted (t1++[wd kw_and]++t2):=by
 intro w0 W lv T hn h hT
 obtain ⟨m,b,hm,hmk,hr,_,hml⟩:=nr_rangeP (h.nodes hn) hi
 have hlt:i<ns.length:=(List.getElem?_eq_some_iff.1 hi).1
 simp only [maxLen] at hml
 have a0:(0:Int)≤(i:Int):=by omega
 have a1:(i:Int)<(ns.length:Int):=by omega
 have a2:¬ (i:Int)<0:=by omega
 have a2':decide ((i:Int)<0)=false:=decide_eq_false a2
 have hone:=hmk.onesP
 have HR:=Lib.hid hr
 have hth:=nd_there W
 have HS:=Lib.hid (fun w4 h4=>nd_stored (w3:=W) (w4:=w4) (m:=m) h4)
 have HM:=Lib.hid hm
 have HN:=Lib.hid hn
 have HI:=Lib.hid hi
 have H0:=Lib.hid h
 have c0:W.cell? ⟨w0.heap.size,0,none⟩=some (.slice (some ⟨g,0,none⟩) ns.length cap):=h.box.cell 0
 have c2:W.cell? ⟨w0.heap.size,2,none⟩=some (.bool false):=h.box.cell 2
 have w0_:decide ((2:Int)<(wanted:Int))=false:=decide_eq_false (by omega)
 have w1_:¬ (2:Int)<(wanted:Int):=by omega
 unfold LineC at rec rec2
 have HREC:=Lib.hid rec
 have HREC2:=Lib.hid rec2
 have hl2:T.length+(t1.length+t2.length+1)≤1100:=by simp at hT;omega
 have HX:=Lib.hid (And.intro hx hy)
 have ew:IntKind.i64.wrap 3=3:=by decide
 have ew2:IntKind.i64.wrap (2+1)=3:=by decide
 clear rec rec2 hT hx hy
 clear hi hn hm hmk hr h hml
 go_enter Tryz.func95,Tryz.ntmps95
 go_wp2_with (first
  | (refine wpList_load_mid (by rfl) 42 (.tmp 22) (by rfl) g (i*19) (by rfl) m.cells _ HR.out undNode (by rfl) sizeNode ?_)
  | (refine wpList_store_mid (by rfl) 42 (.tmp 6) (.tmp 23) (by rfl) W.heap.size 0 m.cells.toArray (by rfl) (by rfl) hth sizeNode hone ?_
     generalize hw4:World.setCells _ _ _ _=w4
     obtain ⟨hb4,hk4⟩:=HS.out w4 hw4
     have H4:=Lib.hid (H0.out.kept hb4)
     have K4:=Lib.hid hk4
     have S4:=Lib.hid (show Stp w0.heap.size lv W lv w4 from Stp.of hb4)
     clear hw4 hb4 hk4 hth hone c0 c2))
 have hrk:Calls Tryz.prog 130 #[RP w0.heap.size,.int .i64 (i:Int)] w4 fun e W'=>e=.returned (.int .i64 ((2:Nat):Int))∧W'=w4:=rank_r H4.out HN.out HI.out
 refine hrk.mono ?_
 rintro e w5 ⟨rfl,rfl⟩
 clear hrk
 obtain ⟨w6,hw6⟩:∃ w6,w5.alloc (.cells #[.string ⟨#[]⟩,.string ⟨#[61]⟩,.string ⟨#[33,61]⟩,.string ⟨#[60]⟩,.string ⟨#[60,61]⟩,.string ⟨#[62]⟩,.string ⟨#[62,61]⟩] 9)=w6:=⟨_,rfl⟩
 obtain ⟨hb6,hx6⟩:=strs_box hw6
 have H6:=Lib.hid (H4.out.kept hb6)
 have K6:=Lib.hid (K4.out.kept hb6)
 have S6:=Lib.hid (Stp.trans S4.out (Stp.of hb6))
 have X6:=Lib.hid hx6
 have k0:w6.cell? ⟨W.heap.size,0,none⟩=some (.int .i64 (11:Int)):=by have:=K6.out.cell 0;rw [show m.cells.toArray[0]?=some (.int .i64 (m.node.kind:Int)) from rfl,HM.out] at this;exact this
 have k5:w5.cell? ⟨W.heap.size,0,none⟩=some (.int .i64 (11:Int)):=by have:=K4.out.cell 0;rw [show m.cells.toArray[0]?=some (.int .i64 (m.node.kind:Int)) from rfl,HM.out] at this;exact this
 have HW6:=Lib.hid hw6
 clear hw6 hb6 hx6
 go_wp2_with fail
 rw [HW6.out]
 clear k5
 refine (below_r (k:=0) (x:=a) H6.out (by omega) HN.out HI.out rfl HX.out.1).mono ?_
 rintro e w7 ⟨rfl,rfl⟩
 go_wp2_with fail
 refine (HREC.out _ _ _ _ HN.out H6.out (by omega)).mono ?_
 rintro e w8 ⟨rfl,lv8,h8,s8⟩
 have H8:=Lib.hid h8
 have S8:=Lib.hid (Stp.trans S6.out s8)
 have K8:=Lib.hid (H6.out.keep s8 K6.out (by decide) (by decide))
 have k8:w8.cell? ⟨W.heap.size,0,none⟩=some (.int .i64 11):=by have:=K8.out.cell 0;rw [show m.cells.toArray[0]?=some (.int .i64 (m.node.kind:Int)) from rfl,HM.out] at this;exact this
 clear h8 s8
 clear k0
 go_wp2_with fail
 refine (word_r kw_and H8.out (by rw [List.length_append];omega)).mono ?_
 rintro e w9 ⟨rfl,lv9,h9,s9⟩
 have H9:=Lib.hid h9
 have S9:=Lib.hid (Stp.trans S8.out s9)
 clear h9 s9
 clear k8
 go_wp2_with fail
 refine (below_r (k:=1) (x:=c) H9.out (by rw [List.length_append,List.length_append];simp;omega) HN.out HI.out rfl HX.out.2).mono ?_
 rintro e w10 ⟨rfl,rfl⟩
 go_wp2_with fail
 refine (HREC2.out _ _ _ _ HN.out H9.out (by rw [List.length_append,List.length_append];simp;omega)).mono ?_
 rintro e w11 ⟨rfl,lv11,h11,s11⟩
 have H11:=Lib.hid h11
 have S11:=Lib.hid (Stp.trans S9.out s11)
 clear h11 s11
 go_wp2_with fail
 exact bodyPost_end (v:=.tuple #[]) (results_none rfl _ _ _) rfl ⟨rfl,lv11,by have h9:=H11.out;simp only [List.append_assoc,List.cons_append,List.nil_append] at h9 ⊢;exact h9,S11.out⟩
theorem lcond_or {a c:Nat} {t1 t2:List Tk} (wanted:Nat) (hw:wanted≤1) (hi:ns[i]?=some (node 12 [a,c])) (hx:a<i) (hy:c<i) (rec:LineC ns g cap a 1 t1) (rec2:LineC ns g cap c 2 t2):LineC ns g cap i wanted (t1++[wd kw_or]++t2):=by
 intro w0 W lv T hn h hT
 obtain ⟨m,b,hm,hmk,hr,_,hml⟩:=nr_rangeP (h.nodes hn) hi
 have hlt:i<ns.length:=(List.getElem?_eq_some_iff.1 hi).1
 simp only [maxLen] at hml
 have a0:(0:Int)≤(i:Int):=by omega
 have a1:(i:Int)<(ns.length:Int):=by omega
 have a2:¬ (i:Int)<0:=by omega
 have a2':decide ((i:Int)<0)=false:=decide_eq_false a2
 have hone:=hmk.onesP
 have HR:=Lib.hid hr
 have hth:=nd_there W
 have HS:=Lib.hid (fun w4 h4=>nd_stored (w3:=W) (w4:=w4) (m:=m) h4)
 have HM:=Lib.hid hm
 have HN:=Lib.hid hn
 have HI:=Lib.hid hi
 have H0:=Lib.hid h
 have c0:W.cell? ⟨w0.heap.size,0,none⟩=some (.slice (some ⟨g,0,none⟩) ns.length cap):=h.box.cell 0
 have c2:W.cell? ⟨w0.heap.size,2,none⟩=some (.bool false):=h.box.cell 2
 have w0_:decide ((1:Int)<(wanted:Int))=false:=decide_eq_false (by omega)
 have w1_:¬ (1:Int)<(wanted:Int):=by omega
 unfold LineC at rec rec2
 have HREC:=Lib.hid rec
 have HREC2:=Lib.hid rec2
 have hl2:T.length+(t1.length+t2.length+1)≤1100:=by simp at hT;omega
 have HX:=Lib.hid (And.intro hx hy)
 have ew:IntKind.i64.wrap 2=2:=by decide
 have ew2:IntKind.i64.wrap (1+1)=2:=by decide
 clear rec rec2 hT hx hy
 clear hi hn hm hmk hr h hml
 go_enter Tryz.func95,Tryz.ntmps95
 go_wp2_with (first
  | (refine wpList_load_mid (by rfl) 42 (.tmp 22) (by rfl) g (i*19) (by rfl) m.cells _ HR.out undNode (by rfl) sizeNode ?_)
  | (refine wpList_store_mid (by rfl) 42 (.tmp 6) (.tmp 23) (by rfl) W.heap.size 0 m.cells.toArray (by rfl) (by rfl) hth sizeNode hone ?_
     generalize hw4:World.setCells _ _ _ _=w4
     obtain ⟨hb4,hk4⟩:=HS.out w4 hw4
     have H4:=Lib.hid (H0.out.kept hb4)
     have K4:=Lib.hid hk4
     have S4:=Lib.hid (show Stp w0.heap.size lv W lv w4 from Stp.of hb4)
     clear hw4 hb4 hk4 hth hone c0 c2))
 have hrk:Calls Tryz.prog 130 #[RP w0.heap.size,.int .i64 (i:Int)] w4 fun e W'=>e=.returned (.int .i64 ((1:Nat):Int))∧W'=w4:=rank_r H4.out HN.out HI.out
 refine hrk.mono ?_
 rintro e w5 ⟨rfl,rfl⟩
 clear hrk
 obtain ⟨w6,hw6⟩:∃ w6,w5.alloc (.cells #[.string ⟨#[]⟩,.string ⟨#[61]⟩,.string ⟨#[33,61]⟩,.string ⟨#[60]⟩,.string ⟨#[60,61]⟩,.string ⟨#[62]⟩,.string ⟨#[62,61]⟩] 9)=w6:=⟨_,rfl⟩
 obtain ⟨hb6,hx6⟩:=strs_box hw6
 have H6:=Lib.hid (H4.out.kept hb6)
 have K6:=Lib.hid (K4.out.kept hb6)
 have S6:=Lib.hid (Stp.trans S4.out (Stp.of hb6))
 have X6:=Lib.hid hx6
 have k0:w6.cell? ⟨W.heap.size,0,none⟩=some (.int .i64 (12:Int)):=by have:=K6.out.cell 0;rw [show m.cells.toArray[0]?=some (.int .i64 (m.node.kind:Int)) from rfl,HM.out] at this;exact this
 have k5:w5.cell? ⟨W.heap.size,0,none⟩=some (.int .i64 (12:Int)):=by have:=K4.out.cell 0;rw [show m.cells.toArray[0]?=some (.int .i64 (m.node.kind:Int)) from rfl,HM.out] at this;exact this
 have HW6:=Lib.hid hw6
 clear hw6 hb6 hx6
 go_wp2_with fail
 rw [HW6.out]
 clear k5
 refine (below_r (k:=0) (x:=a) H6.out (by omega) HN.out HI.out rfl HX.out.1).mono ?_
 rintro e w7 ⟨rfl,rfl⟩
 go_wp2_with fail
 refine (HREC.out _ _ _ _ HN.out H6.out (by omega)).mono ?_
 rintro e w8 ⟨rfl,lv8,h8,s8⟩
 have H8:=Lib.hid h8
 have S8:=Lib.hid (Stp.trans S6.out s8)
 have K8:=Lib.hid (H6.out.keep s8 K6.out (by decide) (by decide))
 have k8:w8.cell? ⟨W.heap.size,0,none⟩=some (.int .i64 12):=by have:=K8.out.cell 0;rw [show m.cells.toArray[0]?=some (.int .i64 (m.node.kind:Int)) from rfl,HM.out] at this;exact this
 clear h8 s8
 clear k0
 go_wp2_with fail
 refine (word_r kw_or H8.out (by rw [List.length_append];omega)).mono ?_
 rintro e w9 ⟨rfl,lv9,h9,s9⟩
 have H9:=Lib.hid h9
 have S9:=Lib.hid (Stp.trans S8.out s9)
 clear h9 s9
 clear k8
 go_wp2_with fail
 refine (below_r (k:=1) (x:=c) H9.out (by rw [List.length_append,List.length_append];simp;omega) HN.out HI.out rfl HX.out.2).mono ?_
 rintro e w10 ⟨rfl,rfl⟩
 go_wp2_with fail
 refine (HREC2.out _ _ _ _ HN.out H9.out (by rw [List.length_append,List.length_append];simp;omega)).mono ?_
 rintro e w11 ⟨rfl,lv11,h11,s11⟩
 have H11:=Lib.hid h11
 have S11:=Lib.hid (Stp.trans S9.out s11)
 clear h11 s11
 go_wp2_with fail
 exact bodyPost_end (v:=.tuple #[]) (results_none rfl _ _ _) rfl ⟨rfl,lv11,by have h9:=H11.out;simp only [List.append_assoc,List.cons_append,List.nil_append] at h9 ⊢;exact h9,S11.out⟩
theorem lcond_cmp {s:Bytes} {n:Nat} {v:Val} (wanted:Nat) (hw:wanted≤3) (hi:ns[i]?=some {node 14 [] with s:=s,n:=(n:Int),v:=v}) (n1:1≤n) (n2:n≤6) (hv:ValOk v):LineC ns g cap i wanted ([wd s,sg (signW n)]++valT v):=by
 intro w0 W lv T hn h hT
 obtain ⟨m,b,hm,hmk,hr,_,hml⟩:=nr_rangeP (h.nodes hn) hi
 have hlt:i<ns.length:=(List.getElem?_eq_some_iff.1 hi).1
 simp only [maxLen] at hml
 have a0:(0:Int)≤(i:Int):=by omega
 have a1:(i:Int)<(ns.length:Int):=by omega
 have a2:¬ (i:Int)<0:=by omega
 have a2':decide ((i:Int)<0)=false:=decide_eq_false a2
 have hone:=hmk.onesP
 have HR:=Lib.hid hr
 have hth:=nd_there W
 have HS:=Lib.hid (fun w4 h4=>nd_stored (w3:=W) (w4:=w4) (m:=m) h4)
 have HM:=Lib.hid hm
 have HN:=Lib.hid hn
 have HI:=Lib.hid hi
 have H0:=Lib.hid h
 have c0:W.cell? ⟨w0.heap.size,0,none⟩=some (.slice (some ⟨g,0,none⟩) ns.length cap):=h.box.cell 0
 have c2:W.cell? ⟨w0.heap.size,2,none⟩=some (.bool false):=h.box.cell 2
 have w0_:decide ((3:Int)<(wanted:Int))=false:=decide_eq_false (by omega)
 have w1_:¬ (3:Int)<(wanted:Int):=by omega
 have hl2:T.length+((valT v).length+2)≤1100:=by simp at hT;omega
 have HV:=Lib.hid hv
 have b1:(1:Int)≤(n:Int):=by omega
 have b2:(n:Int)≤6:=by omega
 have b3:¬ (n:Int)<1:=by omega
 have b3':decide ((n:Int)<1)=false:=decide_eq_false b3
 have b4:¬ (6:Int)<(n:Int):=by omega
 have b4':decide ((6:Int)<(n:Int))=false:=decide_eq_false b4
 have b5:(0:Int)≤(n:Int):=by omega
 have b6:(n:Int)<7:=by omega
 have HSG:=Lib.hid (show (#[.string ⟨#[]⟩,.string ⟨#[61]⟩,.string ⟨#[33,61]⟩,.string ⟨#[60]⟩,.string ⟨#[60,61]⟩,.string ⟨#[62]⟩,.string ⟨#[62,61]⟩]:Array Value)[n]?=some (.string (BA (signW n))) by
  have:n=1∨n=2∨n=3∨n=4∨n=5∨n=6:=by omega
  rcases this with rfl | rfl | rfl | rfl | rfl | rfl<;>rfl)
 clear hT hv
 clear hi hn hm hmk hr h hml
 go_enter Tryz.func95,Tryz.ntmps95
 go_wp2_with (first
  | (refine wpList_load_mid (by rfl) 42 (.tmp 22) (by rfl) g (i*19) (by rfl) m.cells _ HR.out undNode (by rfl) sizeNode ?_)
  | (refine wpList_store_mid (by rfl) 42 (.tmp 6) (.tmp 23) (by rfl) W.heap.size 0 m.cells.toArray (by rfl) (by rfl) hth sizeNode hone ?_
     generalize hw4:World.setCells _ _ _ _=w4
     obtain ⟨hb4,hk4⟩:=HS.out w4 hw4
     have H4:=Lib.hid (H0.out.kept hb4)
     have K4:=Lib.hid hk4
     have S4:=Lib.hid (show Stp w0.heap.size lv W lv w4 from Stp.of hb4)
     clear hw4 hb4 hk4 hth hone c0 c2))
 have hrk:Calls Tryz.prog 130 #[RP w0.heap.size,.int .i64 (i:Int)] w4 fun e W'=>e=.returned (.int .i64 ((3:Nat):Int))∧W'=w4:=rank_r H4.out HN.out HI.out
 refine hrk.mono ?_
 rintro e w5 ⟨rfl,rfl⟩
 clear hrk
 obtain ⟨w6,hw6⟩:∃ w6,w5.alloc (.cells #[.string ⟨#[]⟩,.string ⟨#[61]⟩,.string ⟨#[33,61]⟩,.string ⟨#[60]⟩,.string ⟨#[60,61]⟩,.string ⟨#[62]⟩,.string ⟨#[62,61]⟩] 9)=w6:=⟨_,rfl⟩
 obtain ⟨hb6,hx6⟩:=strs_box hw6
 have H6:=Lib.hid (H4.out.kept hb6)
 have K6:=Lib.hid (K4.out.kept hb6)
 have S6:=Lib.hid (Stp.trans S4.out (Stp.of hb6))
 have X6:=Lib.hid hx6
 have k0:w6.cell? ⟨W.heap.size,0,none⟩=some (.int .i64 (14:Int)):=by have:=K6.out.cell 0;rw [show m.cells.toArray[0]?=some (.int .i64 (m.node.kind:Int)) from rfl,HM.out] at this;exact this
 have k5:w5.cell? ⟨W.heap.size,0,none⟩=some (.int .i64 (14:Int)):=by have:=K4.out.cell 0;rw [show m.cells.toArray[0]?=some (.int .i64 (m.node.kind:Int)) from rfl,HM.out] at this;exact this
 have x1:w5.cell? ⟨W.heap.size,1,none⟩=some (.string (BA s)):=by have:=K4.out.cell 1;rw [show m.cells.toArray[1]?=some (.string (BA m.node.s)) from rfl,HM.out] at this;exact this
 have HW6:=Lib.hid hw6
 clear hw6 hb6 hx6
 go_wp2_with fail
 rw [HW6.out]
 clear k5
 refine (word_r s H6.out (by omega)).mono ?_
 rintro e w7 ⟨rfl,lv7,h7,s7⟩
 have H7:=Lib.hid h7
 have S7:=Lib.hid (Stp.trans S6.out s7)
 have K7:=Lib.hid (H6.out.keep s7 K6.out (by decide) (by decide))
 have X7:=Lib.hid (H6.out.keep s7 X6.out (by decide) (by decide))
 have x2:w7.cell? ⟨W.heap.size,2,none⟩=some (.int .i64 (n:Int)):=by have:=K7.out.cell 2;rw [show m.cells.toArray[2]?=some (.int .i64 m.node.n) from rfl,HM.out] at this;exact this
 have xs:w7.cell? ⟨w5.heap.size,n,none⟩=some (.string (BA (signW n))):=(X7.out.cell n).trans HSG.out
 clear h7 s7
 clear k0 x1
 go_wp2_with fail
 refine (sign_r (signW n) H7.out (by rw [List.length_append];simp;omega)).mono ?_
 rintro e w8 ⟨rfl,lv8,h8,s8⟩
 have H8:=Lib.hid h8
 have S8:=Lib.hid (Stp.trans S7.out s8)
 have K8:=Lib.hid (H7.out.keep s8 K7.out (by decide) (by decide))
 have d8_5:w8.cell? ⟨W.heap.size,5,none⟩=some (.int .i64 (v.kind:Int)):=by have:=K8.out.cell 5;rw [show m.cells.toArray[5]?=some (.int .i64 (m.node.v.kind:Int)) from rfl,HM.out] at this;exact this
 have d8_6:w8.cell? ⟨W.heap.size,6,none⟩=some (.int .i64 v.n):=by have:=K8.out.cell 6;rw [show m.cells.toArray[6]?=some (.int .i64 m.node.v.n) from rfl,HM.out] at this;exact this
 have d8_7:w8.cell? ⟨W.heap.size,7,none⟩=some (.string (BA v.s)):=by have:=K8.out.cell 7;rw [show m.cells.toArray[7]?=some (.string (BA m.node.v.s)) from rfl,HM.out] at this;exact this
 have d8_8:w8.cell? ⟨W.heap.size,8,none⟩=some (.int .i64 0):=K8.out.cell 8
 have d8_9:w8.cell? ⟨W.heap.size,9,none⟩=some (.int .i64 0):=K8.out.cell 9
 have d8_10:w8.cell? ⟨W.heap.size,10,none⟩=some (.int .i64 0):=K8.out.cell 10
 have d8_11:w8.cell? ⟨W.heap.size,11,none⟩=some (.int .i64 0):=K8.out.cell 11
 have d8_12:w8.cell? ⟨W.heap.size,12,none⟩=some (.int .i64 0):=K8.out.cell 12
 have d8_13:w8.cell? ⟨W.heap.size,13,none⟩=some (.int .i64 0):=K8.out.cell 13
 have d8_14:w8.cell? ⟨W.heap.size,14,none⟩=some (.int .i64 0):=K8.out.cell 14
 have d8_15:w8.cell? ⟨W.heap.size,15,none⟩=some (.int .i64 0):=K8.out.cell 15
 clear h8 s8
 clear x2 xs
 go_wp2_with fail
 refine (lvalue_r HV.out H8.out (by rw [List.length_append,List.length_append];simp;omega)).mono ?_
 rintro e w9 ⟨rfl,lv9,h9,s9⟩
 have H9:=Lib.hid h9
 have S9:=Lib.hid (Stp.trans S8.out s9)
 clear h9 s9
 go_wp2_with fail
 exact bodyPost_end (v:=.tuple #[]) (results_none rfl _ _ _) rfl ⟨rfl,lv9,by have h9:=H9.out;simp only [List.append_assoc,List.cons_append,List.nil_append] at h9 ⊢;exact h9,S9.out⟩
theorem lcond_has {so s:Bytes} (wanted:Nat) (hw:wanted≤3) (hi:ns[i]?=some {node 15 [] with s:=so,v:=⟨2,0,s⟩}):LineC ns g cap i wanted ([wd so,wd kw_has,tx s]):=by
 intro w0 W lv T hn h hT
 obtain ⟨m,b,hm,hmk,hr,_,hml⟩:=nr_rangeP (h.nodes hn) hi
 have hlt:i<ns.length:=(List.getElem?_eq_some_iff.1 hi).1
 simp only [maxLen] at hml
 have a0:(0:Int)≤(i:Int):=by omega
 have a1:(i:Int)<(ns.length:Int):=by omega
 have a2:¬ (i:Int)<0:=by omega
 have a2':decide ((i:Int)<0)=false:=decide_eq_false a2
 have hone:=hmk.onesP
 have HR:=Lib.hid hr
 have hth:=nd_there W
 have HS:=Lib.hid (fun w4 h4=>nd_stored (w3:=W) (w4:=w4) (m:=m) h4)
 have HM:=Lib.hid hm
 have HN:=Lib.hid hn
 have HI:=Lib.hid hi
 have H0:=Lib.hid h
 have c0:W.cell? ⟨w0.heap.size,0,none⟩=some (.slice (some ⟨g,0,none⟩) ns.length cap):=h.box.cell 0
 have c2:W.cell? ⟨w0.heap.size,2,none⟩=some (.bool false):=h.box.cell 2
 have w0_:decide ((3:Int)<(wanted:Int))=false:=decide_eq_false (by omega)
 have w1_:¬ (3:Int)<(wanted:Int):=by omega
 have hl2:T.length+3≤1100:=by simp at hT;omega
 clear hT
 clear hi hn hm hmk hr h hml
 go_enter Tryz.func95,Tryz.ntmps95
 go_wp2_with (first
  | (refine wpList_load_mid (by rfl) 42 (.tmp 22) (by rfl) g (i*19) (by rfl) m.cells _ HR.out undNode (by rfl) sizeNode ?_)
  | (refine wpList_store_mid (by rfl) 42 (.tmp 6) (.tmp 23) (by rfl) W.heap.size 0 m.cells.toArray (by rfl) (by rfl) hth sizeNode hone ?_
     generalize hw4:World.setCells _ _ _ _=w4
     obtain ⟨hb4,hk4⟩:=HS.out w4 hw4
     have H4:=Lib.hid (H0.out.kept hb4)
     have K4:=Lib.hid hk4
     have S4:=Lib.hid (show Stp w0.heap.size lv W lv w4 from Stp.of hb4)
     clear hw4 hb4 hk4 hth hone c0 c2))
 have hrk:Calls Tryz.prog 130 #[RP w0.heap.size,.int .i64 (i:Int)] w4 fun e W'=>e=.returned (.int .i64 ((3:Nat):Int))∧W'=w4:=rank_r H4.out HN.out HI.out
 refine hrk.mono ?_
 rintro e w5 ⟨rfl,rfl⟩
 clear hrk
 obtain ⟨w6,hw6⟩:∃ w6,w5.alloc (.cells #[.string ⟨#[]⟩,.string ⟨#[61]⟩,.string ⟨#[33,61]⟩,.string ⟨#[60]⟩,.string ⟨#[60,61]⟩,.string ⟨#[62]⟩,.string ⟨#[62,61]⟩] 9)=w6:=⟨_,rfl⟩
 obtain ⟨hb6,hx6⟩:=strs_box hw6
 have H6:=Lib.hid (H4.out.kept hb6)
 have K6:=Lib.hid (K4.out.kept hb6)
 have S6:=Lib.hid (Stp.trans S4.out (Stp.of hb6))
 have X6:=Lib.hid hx6
 have k0:w6.cell? ⟨W.heap.size,0,none⟩=some (.int .i64 (15:Int)):=by have:=K6.out.cell 0;rw [show m.cells.toArray[0]?=some (.int .i64 (m.node.kind:Int)) from rfl,HM.out] at this;exact this
 have k5:w5.cell? ⟨W.heap.size,0,none⟩=some (.int .i64 (15:Int)):=by have:=K4.out.cell 0;rw [show m.cells.toArray[0]?=some (.int .i64 (m.node.kind:Int)) from rfl,HM.out] at this;exact this
 have x1:w5.cell? ⟨W.heap.size,1,none⟩=some (.string (BA so)):=by have:=K4.out.cell 1;rw [show m.cells.toArray[1]?=some (.string (BA m.node.s)) from rfl,HM.out] at this;exact this
 have HW6:=Lib.hid hw6
 clear hw6 hb6 hx6
 go_wp2_with fail
 rw [HW6.out]
 clear k5
 refine (word_r so H6.out (by omega)).mono ?_
 rintro e w7 ⟨rfl,lv7,h7,s7⟩
 have H7:=Lib.hid h7
 have S7:=Lib.hid (Stp.trans S6.out s7)
 have K7:=Lib.hid (H6.out.keep s7 K6.out (by decide) (by decide))
 clear h7 s7
 clear k0 x1
 go_wp2_with fail
 refine (word_r kw_has H7.out (by rw [List.length_append];simp;omega)).mono ?_
 rintro e w8 ⟨rfl,lv8,h8,s8⟩
 have H8:=Lib.hid h8
 have S8:=Lib.hid (Stp.trans S7.out s8)
 have K8:=Lib.hid (H7.out.keep s8 K7.out (by decide) (by decide))
 clear h8 s8
 have HNE:=Lib.hid (show lv8.ownBlock≠some W.heap.size from fun e=>by
  obtain ⟨cur,hc⟩:=row_block H8.out.row e
  have:=block_types hc K8.out
  revert this
  decide)
 have cb:w8.cell? ⟨W.heap.size,7,none⟩=some (.string (BA s)):=by have:=K8.out.cell 7;rw [show m.cells.toArray[7]?=some (.string (BA m.node.v.s)) from rfl,HM.out] at this;exact this
 have c1:w8.cell? ⟨w0.heap.size,1,none⟩=some lv8:=H8.out.box.cell 1
 obtain ⟨TO,hTO⟩:∃ TO,TO=T:=⟨_,rfl⟩
 rw [← hTO] at H8 hl2
 have hgoal:TO=T:=hTO
 obtain ⟨T8,hT8⟩:∃ T8,T8=TO++[wd so]++[wd kw_has]:=⟨_,rfl⟩
 rw [← hT8] at H8
 have hl8:T8.length≤1100:=by rw [hT8];simp;omega
 have HTT:=Lib.hid hT8
 have HTO:=Lib.hid hTO
 obtain ⟨o,c,rfl⟩:=row_slice H8.out.row
 have H1:=H8
 clear hTO hgoal hT8 H8
 go_wp2_with fail
 obtain ⟨Wk,hWk⟩:∃ Wk,Wk=(w8.alloc (.cells #[.int .i64 3,.string (BA s),.int .i64 0,.int .i64 0] 65)).drew:=⟨_,rfl⟩
 have hbk:Below w8.heap.size w8 Wk:=by rw [hWk];exact ((Below.refl _ _).alloc (Nat.le_refl _) _).drew
 have HBK:=Lib.hid hbk
 have HRA:=Lib.hid (own_kept H1.out.row hbk)
 have hS0:w8.drew.cell? ⟨w0.heap.size,1,none⟩=some (.slice o T8.length c)∧w8.drew.cell? ⟨W.heap.size,7,none⟩=some (.string (BA s)):=⟨c1,cb⟩
 have hS1:Wk.cell? ⟨w0.heap.size,1,none⟩=some (.slice o T8.length c)∧Wk.cell? ⟨W.heap.size,7,none⟩=some (.string (BA s)):=⟨keepc hbk c1,keepc hbk cb⟩
 have c3b:=hS1.1
 have f3b:Wk.frozen? ⟨w0.heap.size,1,none⟩=false:=(H1.out.kept hbk).box.free 1
 have HN:=Lib.hid (show ∀ (j:Nat) u,(tokA (un (tx s))).toList[j]?=some u→Wk.cell? ((⟨w8.heap.size,0,none⟩:Addr).add j)=some u by
  intro j u hu
  rw [hWk]
  exact blk_cells (Blk.new w8 65 #[.int .i64 3,.string (BA s),.int .i64 0,.int .i64 0]).drew j u hu)
 have hr2:w0.heap.size<Wk.heap.size:=Nat.lt_of_lt_of_le H1.out.box.lt hbk.size
 have hmx:T8.length+1≤maxLen:=by unfold maxLen;omega
 have hby:(T8.length+1)*40≤140737488355328:=by omega
 have HWK:=Lib.hid hWk
 obtain ⟨i0,hi0,hz0,hz1,hz2⟩:=info_parts tok_info
 clear hWk hbk
 rw [show (#[{dst:=some 111,op:=Op.move (Operand.tmp 0),type:=103,pos := "ref.go:111",after:=#[],guard:=none},{dst:=some 112,op:=Op.move (Operand.tmp 0),type:=103,pos := "ref.go:111",after:=#[],guard:=none},{dst:=some 113,op:=Op.nilCheck (Operand.tmp 112),type:=0,pos := "ref.go:111",after:=#[⟨1,.data⟩],guard:=none},{dst:=some 114,op:=Op.fieldAddr 105 (Operand.tmp 113) 1,type:=0,pos := "ref.go:111",after:=#[⟨2,.data⟩],guard:=none},{dst:=some 115,op:=Op.load 43 (Operand.tmp 114),type:=43,pos := "ref.go:111",after:=#[⟨3,.data⟩],guard:=none},{dst:=some 116,op:=Op.fieldAddr 42 (Operand.tmp 6) 5,type:=0,pos := "ref.go:111",after:=#[],guard:=none},{dst:=some 117,op:=Op.fieldAddr 37 (Operand.tmp 116) 2,type:=0,pos := "ref.go:111",after:=#[⟨5,.data⟩],guard:=none},{dst:=some 118,op:=Op.load 9 (Operand.tmp 117),type:=9,pos := "ref.go:111",after:=#[⟨6,.data⟩],guard:=none},{dst:=some 119,op:=Op.build 65 #[(0,Operand.const (Go.Value.int Go.IntKind.i64 3)),(1,Operand.tmp 118)],type:=65,pos := "ref.go:111",after:=#[⟨7,.data⟩],guard:=none},{dst:=some 120,op:=Op.buildSlice 43 1 #[(0,Operand.tmp 119)],type:=43,pos := "ref.go:111",after:=#[⟨8,.data⟩],guard:=none},{dst:=some 121,op:=Op.call {callee:=Callee.builtin Go.Builtin.append,args:=#[Operand.tmp 115,Operand.tmp 120],argTypes:=#[43,43]},type:=43,pos := "ref.go:111",after:=#[⟨4,.data⟩,⟨9,.data⟩],guard:=none},{dst:=some 122,op:=Op.nilCheck (Operand.tmp 111),type:=0,pos := "ref.go:111",after:=#[⟨0,.data⟩,⟨0,.phase⟩,⟨1,.phase⟩,⟨2,.phase⟩,⟨3,.phase⟩,⟨4,.phase⟩,⟨5,.phase⟩,⟨6,.phase⟩,⟨7,.phase⟩,⟨8,.phase⟩,⟨9,.phase⟩,⟨10,.phase⟩],guard:=none},{dst:=some 123,op:=Op.fieldAddr 105 (Operand.tmp 122) 1,type:=0,pos := "ref.go:111",after:=#[⟨11,.data⟩,⟨0,.phase⟩,⟨1,.phase⟩,⟨2,.phase⟩,⟨3,.phase⟩,⟨4,.phase⟩,⟨5,.phase⟩,⟨6,.phase⟩,⟨7,.phase⟩,⟨8,.phase⟩,⟨9,.phase⟩,⟨10,.phase⟩],guard:=none},{dst:=none,op:=Op.store 43 (Operand.tmp 123) (Operand.tmp 121),type:=0,pos := "ref.go:111",after:=#[⟨12,.data⟩,⟨10,.data⟩,⟨10,.chain⟩,⟨0,.phase⟩,⟨1,.phase⟩,⟨2,.phase⟩,⟨3,.phase⟩,⟨4,.phase⟩,⟨5,.phase⟩,⟨6,.phase⟩,⟨7,.phase⟩,⟨8,.phase⟩,⟨9,.phase⟩,⟨10,.phase⟩],guard:=none}]:Array Oper)=Array.push #[{dst:=some 111,op:=Op.move (Operand.tmp 0),type:=103,pos := "ref.go:111",after:=#[],guard:=none},{dst:=some 112,op:=Op.move (Operand.tmp 0),type:=103,pos := "ref.go:111",after:=#[],guard:=none},{dst:=some 113,op:=Op.nilCheck (Operand.tmp 112),type:=0,pos := "ref.go:111",after:=#[⟨1,.data⟩],guard:=none},{dst:=some 114,op:=Op.fieldAddr 105 (Operand.tmp 113) 1,type:=0,pos := "ref.go:111",after:=#[⟨2,.data⟩],guard:=none},{dst:=some 115,op:=Op.load 43 (Operand.tmp 114),type:=43,pos := "ref.go:111",after:=#[⟨3,.data⟩],guard:=none},{dst:=some 116,op:=Op.fieldAddr 42 (Operand.tmp 6) 5,type:=0,pos := "ref.go:111",after:=#[],guard:=none},{dst:=some 117,op:=Op.fieldAddr 37 (Operand.tmp 116) 2,type:=0,pos := "ref.go:111",after:=#[⟨5,.data⟩],guard:=none},{dst:=some 118,op:=Op.load 9 (Operand.tmp 117),type:=9,pos := "ref.go:111",after:=#[⟨6,.data⟩],guard:=none},{dst:=some 119,op:=Op.build 65 #[(0,Operand.const (Go.Value.int Go.IntKind.i64 3)),(1,Operand.tmp 118)],type:=65,pos := "ref.go:111",after:=#[⟨7,.data⟩],guard:=none},{dst:=some 120,op:=Op.buildSlice 43 1 #[(0,Operand.tmp 119)],type:=43,pos := "ref.go:111",after:=#[⟨8,.data⟩],guard:=none},{dst:=some 121,op:=Op.call {callee:=Callee.builtin Go.Builtin.append,args:=#[Operand.tmp 115,Operand.tmp 120],argTypes:=#[43,43]},type:=43,pos := "ref.go:111",after:=#[⟨4,.data⟩,⟨9,.data⟩],guard:=none},{dst:=some 122,op:=Op.nilCheck (Operand.tmp 111),type:=0,pos := "ref.go:111",after:=#[⟨0,.data⟩,⟨0,.phase⟩,⟨1,.phase⟩,⟨2,.phase⟩,⟨3,.phase⟩,⟨4,.phase⟩,⟨5,.phase⟩,⟨6,.phase⟩,⟨7,.phase⟩,⟨8,.phase⟩,⟨9,.phase⟩,⟨10,.phase⟩],guard:=none},{dst:=some 123,op:=Op.fieldAddr 105 (Operand.tmp 122) 1,type:=0,pos := "ref.go:111",after:=#[⟨11,.data⟩,⟨0,.phase⟩,⟨1,.phase⟩,⟨2,.phase⟩,⟨3,.phase⟩,⟨4,.phase⟩,⟨5,.phase⟩,⟨6,.phase⟩,⟨7,.phase⟩,⟨8,.phase⟩,⟨9,.phase⟩,⟨10,.phase⟩],guard:=none}] {dst:=none,op:=Op.store 43 (Operand.tmp 123) (Operand.tmp 121),type:=0,pos := "ref.go:111",after:=#[⟨12,.data⟩,⟨10,.data⟩,⟨10,.chain⟩,⟨0,.phase⟩,⟨1,.phase⟩,⟨2,.phase⟩,⟨3,.phase⟩,⟨4,.phase⟩,⟨5,.phase⟩,⟨6,.phase⟩,⟨7,.phase⟩,⟨8,.phase⟩,⟨9,.phase⟩,⟨10,.phase⟩],guard:=none} from rfl]
 refine wp_region_last (S:=fun w'=>w'.cell? ⟨w0.heap.size,1,none⟩=some (.slice o T8.length c)∧w'.cell? ⟨W.heap.size,7,none⟩=some (.string (BA s))) (by kernel_rfl) (by kernel_rfl) hS0 (fun hHeld=>?_)
 refine wpAnyH_take (i:=0) (oi:={dst:=some 111,op:=Op.move (Operand.tmp 0),type:=103,pos := "ref.go:111",after:=#[],guard:=none}) (v := ?v1) rfl (by kernel_rfl) (by kernel_rfl) (by kernel_rfl) (fun _ _ _ h=>h) (Or.inl ⟨by rfl,?hy1⟩) (by assumption) ?rest1
 case hy1 =>
  intro w hSw
  (try dsimp only at hSw)
  go_simp
  try with_reducible rfl
 try simp only [Act.put,List.setIfInBounds_toArray,List.set_cons_zero,List.set_cons_succ]
 refine wpAnyH_take (i:=1) (oi:={dst:=some 112,op:=Op.move (Operand.tmp 0),type:=103,pos := "ref.go:111",after:=#[],guard:=none}) (v := ?v2) rfl (by kernel_rfl) (by kernel_rfl) (by kernel_rfl) (fun _ _ _ h=>h) (Or.inl ⟨by rfl,?hy2⟩) (by assumption) ?rest2
 case hy2 =>
  intro w hSw
  (try dsimp only at hSw)
  go_simp
  try with_reducible rfl
 try simp only [Act.put,List.setIfInBounds_toArray,List.set_cons_zero,List.set_cons_succ]
 refine wpAnyH_take (i:=2) (oi:={dst:=some 113,op:=Op.nilCheck (Operand.tmp 112),type:=0,pos := "ref.go:111",after:=#[⟨1,.data⟩],guard:=none}) (v := ?v3) rfl (by kernel_rfl) (by kernel_rfl) (by kernel_rfl) (fun _ _ _ h=>h) (Or.inl ⟨by rfl,?hy3⟩) (by assumption) ?rest3
 case hy3 =>
  intro w hSw
  (try dsimp only at hSw)
  go_simp
  try with_reducible rfl
 try simp only [Act.put,List.setIfInBounds_toArray,List.set_cons_zero,List.set_cons_succ]
 refine wpAnyH_take (i:=3) (oi:={dst:=some 114,op:=Op.fieldAddr 105 (Operand.tmp 113) 1,type:=0,pos := "ref.go:111",after:=#[⟨2,.data⟩],guard:=none}) (v := ?v4) rfl (by kernel_rfl) (by kernel_rfl) (by kernel_rfl) (fun _ _ _ h=>h) (Or.inl ⟨by rfl,?hy4⟩) (by assumption) ?rest4
 case hy4 =>
  intro w hSw
  (try dsimp only at hSw)
  go_simp
  try with_reducible rfl
 try simp only [Act.put,List.setIfInBounds_toArray,List.set_cons_zero,List.set_cons_succ]
 refine wpAnyH_take (i:=4) (oi:={dst:=some 115,op:=Op.load 43 (Operand.tmp 114),type:=43,pos := "ref.go:111",after:=#[⟨3,.data⟩],guard:=none}) (v := ?v5) rfl (by kernel_rfl) (by kernel_rfl) (by kernel_rfl) (fun _ _ _ h=>h) (Or.inl ⟨by rfl,?hy5⟩) (by assumption) ?rest5
 case hy5 =>
  intro w hSw
  (try dsimp only at hSw)
  go_simp
  try with_reducible rfl
 try simp only [Act.put,List.setIfInBounds_toArray,List.set_cons_zero,List.set_cons_succ]
 refine wpAnyH_take (i:=5) (oi:={dst:=some 116,op:=Op.fieldAddr 42 (Operand.tmp 6) 5,type:=0,pos := "ref.go:111",after:=#[],guard:=none}) (v := ?v6) rfl (by kernel_rfl) (by kernel_rfl) (by kernel_rfl) (fun _ _ _ h=>h) (Or.inl ⟨by rfl,?hy6⟩) (by assumption) ?rest6
 case hy6 =>
  intro w hSw
  (try dsimp only at hSw)
  go_simp
  try with_reducible rfl
 try simp only [Act.put,List.setIfInBounds_toArray,List.set_cons_zero,List.set_cons_succ]
 refine wpAnyH_take (i:=6) (oi:={dst:=some 117,op:=Op.fieldAddr 37 (Operand.tmp 116) 2,type:=0,pos := "ref.go:111",after:=#[⟨5,.data⟩],guard:=none}) (v := ?v7) rfl (by kernel_rfl) (by kernel_rfl) (by kernel_rfl) (fun _ _ _ h=>h) (Or.inl ⟨by rfl,?hy7⟩) (by assumption) ?rest7
 case hy7 =>
  intro w hSw
  (try dsimp only at hSw)
  go_simp
  try with_reducible rfl
 try simp only [Act.put,List.setIfInBounds_toArray,List.set_cons_zero,List.set_cons_succ]
 refine wpAnyH_take (i:=7) (oi:={dst:=some 118,op:=Op.load 9 (Operand.tmp 117),type:=9,pos := "ref.go:111",after:=#[⟨6,.data⟩],guard:=none}) (v := ?v8) rfl (by kernel_rfl) (by kernel_rfl) (by kernel_rfl) (fun _ _ _ h=>h) (Or.inl ⟨by rfl,?hy8⟩) (by assumption) ?rest8
 case hy8 =>
  intro w hSw
  (try dsimp only at hSw)
  go_simp
  try with_reducible rfl
 try simp only [Act.put,List.setIfInBounds_toArray,List.set_cons_zero,List.set_cons_succ]
 refine wpAnyH_take (i:=8) (oi:={dst:=some 119,op:=Op.build 65 #[(0,Operand.const (Go.Value.int Go.IntKind.i64 3)),(1,Operand.tmp 118)],type:=65,pos := "ref.go:111",after:=#[⟨7,.data⟩],guard:=none}) (v := ?v9) rfl (by kernel_rfl) (by kernel_rfl) (by kernel_rfl) (fun _ _ _ h=>h) (Or.inl ⟨by rfl,?hy9⟩) (by assumption) ?rest9
 case hy9 =>
  intro w hSw
  (try dsimp only at hSw)
  go_simp
  try with_reducible rfl
 try simp only [Act.put,List.setIfInBounds_toArray,List.set_cons_zero,List.set_cons_succ]
 refine wpAnyH_ready (rs:=[9]) (by kernel_rfl) (by simp) ?_
 refine AllReadyH.cons (o:={dst:=some 120,op:=Op.buildSlice 43 1 #[(0,Operand.tmp 119)],type:=43,pos := "ref.go:111",after:=#[⟨8,.data⟩],guard:=none}) rfl (fun K hK=>?_) ?_
 ·go_simp
  rw [show (w8.alloc (Obj.cells #[.int .i64 3,.string (BA s),.int .i64 0,.int .i64 0] 65)).drew=Wk from HWK.out.symm]
  refine hK.out _ _ ?_ (fun hHeld=>?_)
  ·exact hS1
  ·clear hK K
   try simp only [Act.put,List.setIfInBounds_toArray,List.set_cons_zero,List.set_cons_succ]
   refine wpAnyH_ready (rs:=[10]) (by kernel_rfl) (by simp) ?_
   refine AllReadyH.cons (o:={dst:=some 121,op:=Op.call {callee:=Callee.builtin Go.Builtin.append,args:=#[Operand.tmp 115,Operand.tmp 120],argTypes:=#[43,43]},type:=43,pos := "ref.go:111",after:=#[⟨4,.data⟩,⟨9,.data⟩],guard:=none}) rfl (fun K hK=>?_) ?_
   ·refine step_append_lies _ (by rfl) _ _ _ (by rfl) (w0.heap.size+1) 65 i0 _ 4 40 (by kernel_rfl) hi0 hz0 hz1 hz2 (by rfl) (by decide) _ T8.length (toksL (T8.map un)) (by rfl) HRA.out ⟨w8.heap.size,0,none⟩ 1 1 (tokA (un (tx s))).toList (by rfl) (by rfl) HN.out (by simp [tokA,un,Value.oneCell']) (by decide) hmx hby hr2 _ rfl ?_
    intro g cap w1 ho hg hgH hlt
    have HF:=Lib.hid (H1.out.more HBK.out ho hg hgH)
    have c3:w1.cell? ⟨w0.heap.size,1,none⟩=some (.slice o T8.length c):=hg.cell c3b (fun e=>H1.out.ne e.symm)
    have f3:w1.frozen? ⟨w0.heap.size,1,none⟩=false:=(World.frozen?_of_block (hg.block _ hr2 (fun e=>H1.out.ne e.symm))).trans f3b
    have c4:w1.cell? ⟨W.heap.size,7,none⟩=some (.string (BA s)):=hg.cell hS1.2 (fun e=>HNE.out e.symm)
    clear ho hg hgH hlt
    refine hK.out _ _ ?_ (fun hHeld=>?_)
    ·exact ⟨c3,c4⟩
    ·clear hK K
     try simp only [Act.put,List.setIfInBounds_toArray,List.set_cons_zero,List.set_cons_succ]
     refine wpAnyH_take (i:=11) (oi:={dst:=some 122,op:=Op.nilCheck (Operand.tmp 111),type:=0,pos := "ref.go:111",after:=#[⟨0,.data⟩,⟨0,.phase⟩,⟨1,.phase⟩,⟨2,.phase⟩,⟨3,.phase⟩,⟨4,.phase⟩,⟨5,.phase⟩,⟨6,.phase⟩,⟨7,.phase⟩,⟨8,.phase⟩,⟨9,.phase⟩,⟨10,.phase⟩],guard:=none}) (v := ?v10) rfl (by kernel_rfl) (by kernel_rfl) (by kernel_rfl) (fun _ _ _ h=>h) (Or.inl ⟨by rfl,?hy10⟩) (by assumption) ?rest10
     case hy10 =>
      intro w hSw
      (try dsimp only at hSw)
      go_simp
      try with_reducible rfl
     try simp only [Act.put,List.setIfInBounds_toArray,List.set_cons_zero,List.set_cons_succ]
     refine wpAnyH_take (i:=12) (oi:={dst:=some 123,op:=Op.fieldAddr 105 (Operand.tmp 122) 1,type:=0,pos := "ref.go:111",after:=#[⟨11,.data⟩,⟨0,.phase⟩,⟨1,.phase⟩,⟨2,.phase⟩,⟨3,.phase⟩,⟨4,.phase⟩,⟨5,.phase⟩,⟨6,.phase⟩,⟨7,.phase⟩,⟨8,.phase⟩,⟨9,.phase⟩,⟨10,.phase⟩],guard:=none}) (v := ?v11) rfl (by kernel_rfl) (by kernel_rfl) (by kernel_rfl) (fun _ _ _ h=>h) (Or.inl ⟨by rfl,?hy11⟩) (by assumption) ?rest11
     case hy11 =>
      intro w hSw
      (try dsimp only at hSw)
      go_simp
      try with_reducible rfl
     try simp only [Act.put,List.setIfInBounds_toArray,List.set_cons_zero,List.set_cons_succ]
     refine wpAnyH_done (by kernel_rfl) ?_ _
     refine then_step (fun K hK=>?_)
     go_simp
     refine hK.out _ _ ?_
     clear hK K
     go_wp2_with fail
     exact bodyPost_end (v:=.tuple #[]) (results_none rfl _ _ _) rfl ⟨rfl,_,by have h9:=HF.out.1;rw [show T8++[tx s]=T++[wd so,wd kw_has,tx s] by rw [HTT.out,HTO.out];simp] at h9;exact h9,Stp.trans S8.out HF.out.2⟩
   exact AllReadyH.nil
 exact AllReadyH.nil
end
end Go.Proofs.YtnaehhpikhlppaaGreatDoor
