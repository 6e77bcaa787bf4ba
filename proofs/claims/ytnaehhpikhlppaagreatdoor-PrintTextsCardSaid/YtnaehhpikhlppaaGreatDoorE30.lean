/- Several texts of the proof, joined. -/
import Derived.Test.YtnaehhpikhlppaaGreatDoorE29
import Derived.Test.YtnaehhpikhlppaaGreatDoorE22
set_option maxHeartbeats 4000000
set_option maxRecDepth 100000
set_option linter.unusedVariables false
set_option linter.unusedSimpArgs false
namespace Go.Proofs.YtnaehhpikhlppaaGreatDoor
open Go.RowKit LexS ParS BigFrame
section
variable {w W:World} {nb:Nat} {nv:Value} {ns:List Nd} {m:NodeM} {nd:Nd} {g cap i:Nat}
def WritesQ (ns:List Nd) (g cap i:Nat) (t:Bytes):Prop := ∀ W,NR W (.slice (some ⟨g,0,none⟩) ns.length cap) ns→PW W→Calls Tryz.prog 45 #[.agg #[.slice (some ⟨g,0,none⟩) ns.length cap],.int .i64 (i:Int)] W (CondP W t)
theorem cat_where (t u:Bytes):BA t++(⟨#[32,124,32]⟩:ByteArray) ++ ⟨#[119,104,101,114,101,32]⟩++BA u=BA (t++[32,124,32]++[119,104,101,114,101,32]++u):=by
 rw [show (⟨#[32,124,32]⟩:ByteArray)=BA [32,124,32] from rfl,show (⟨#[119,104,101,114,101,32]⟩:ByteArray)=BA [119,104,101,114,101,32] from rfl]
 simp only [cat2]
theorem rows_where {a c:Nat} {t u:Bytes} (hi:ns[i]?=some (node 2 [a,c])) (hl:t.length≤134144) (hl2:u.length≤134144) (rec:WritesQ ns g cap a t) (rec2:Writes ns g cap c 0 u):WritesQ ns g cap i (t++[32,124,32]++[119,104,101,114,101,32]++u):=by
 intro w hn hp
 obtain ⟨m,b,hm,hmk,hr,_,hml⟩:=nr_rangeP hn hi
 have hlt:i<ns.length:=(List.getElem?_eq_some_iff.1 hi).1
 simp only [maxLen] at hml
 have a0:(0:Int)≤(i:Int):=by omega
 have a1:(i:Int)<(ns.length:Int):=by omega
 have hone:=hmk.onesP
 have HR:=Lib.hid (range_kept (W':=boxed w (.slice (some ⟨g,0,none⟩) ns.length cap)) ((Below.refl _ _).alloc (Nat.le_refl _) _) hr)
 have hth:=CK.there w (.slice (some ⟨g,0,none⟩) ns.length cap)
 have HS:=Lib.hid (fun w4 h4=>CK.start (w4:=w4) hp hn hmk h4)
 have HM:=Lib.hid hm
 obtain ⟨gl,cl,hlv,hg0⟩:=rows_of (k:=0) (x:=a) hmk hm rfl
 obtain ⟨gl',cl',hlv',hg1⟩:=rows_of (k:=1) (x:=c) hmk hm rfl
 obtain rfl:gl=gl':=by
  rw [hlv] at hlv'
  injection hlv' with e1 _ _
  injection e1 with e1
  injection e1
 have hgk:∀ W',Below w.heap.size w W'→W'.cell? ⟨gl,0,none⟩=some (.int .i64 (a:Int))∧W'.cell? ⟨gl,1,none⟩=some (.int .i64 (c:Int)):=fun W' hb=>⟨keepc hb hg0,keepc hb hg1⟩
 have HG:=Lib.hid hgk
 have hlv:m.lv=.slice (some ⟨gl,0,none⟩) 2 cl:=hlv
 have HL:=Lib.hid hlv
 unfold WritesQ at rec
 unfold Writes at rec2
 have rec2:∀ W,NR W (.slice (some ⟨g,0,none⟩) ns.length cap) ns→PW W→Calls Tryz.prog 32 #[.agg #[.slice (some ⟨g,0,none⟩) ns.length cap],.int .i64 (c:Int),.int .i64 0] W (CondP W u):=rec2
 have HREC:=Lib.hid rec
 have HREC2:=Lib.hid rec2
 have v1:¬ 9223372036854775807<t.length+3:=by omega
 have v2:¬ 9223372036854775807<t.length+3+6:=by omega
 have v3:¬ 9223372036854775807<t.length+3+6+u.length:=by omega
 have v4:¬ 9223372036854775807<t.length+3+6+u.length+1:=by omega
 clear hi hn hp hm hmk hr hml rec rec2 hlv hg0 hgk hlv' hg1
 go_enter Tryz.func45,Tryz.ntmps45
 go_wp2_with (first
  | (refine wpList_load_mid (by rfl) 42 (.tmp 14) (by rfl) g (i*19) (by rfl) m.cells _ HR.out undNode (by rfl) sizeNode ?_)
  | (refine wpList_store_mid (by rfl) 42 (.tmp 5) (.tmp 15) (by rfl) (w.heap.size+1) 0 m.cells.toArray (by rfl) (by rfl) hth sizeNode hone ?_
     generalize hw4:World.setCells _ _ _ _=w4
     have hc:=HS.out w4 hw4
     have k0:=hc.c0 HM.out
     have x0:w4.cell? ⟨w.heap.size,0,none⟩=some (.slice (some ⟨g,0,none⟩) ns.length cap):=hc.box.cell 0
     have x6:w4.cell? ⟨w.heap.size+1,16,none⟩=some (.slice (some ⟨gl,0,none⟩) 2 cl):=hc.c6.trans (congrArg some HL.out)
     obtain ⟨x7,x8⟩:=HG.out w4 hc.below
     have xs:w4.cell? ⟨1,2,none⟩=some (.string ⟨#[119,104,101,114,101,32]⟩):=hc.pw.steps 2 (by omega)
     dsimp only [node] at k0
     have HC:=Lib.hid hc
     clear hw4 hth hone hc))
 have hk3:=HC.out.drew
 go_region_held3 (fun w'=>w'.cell? ⟨w.heap.size,0,none⟩=some (.slice (some ⟨g,0,none⟩) ns.length cap)∧w'.cell? ⟨w.heap.size+1,16,none⟩=some (.slice (some ⟨gl,0,none⟩) 2 cl)∧w'.cell? ⟨gl,0,none⟩=some (.int .i64 (a:Int))∧w'.cell? ⟨w.heap.size+1,0,none⟩=some (.int .i64 2)∧w'.cell? ⟨1,2,none⟩=some (.string ⟨#[119,104,101,114,101,32]⟩))
  (go_keep)
  (first | (go_at_call 45;(with_reducible refine (HREC.out _ (CK.nr (by assumption)) (CK.pw (by assumption))).mono ?_);rintro e w9 ⟨rfl,hb1⟩;have hk3:=CK.kept (by assumption) hb1;have k0:=hk3.c0 HM.out;have x0:w9.cell? ⟨w.heap.size,0,none⟩=some (.slice (some ⟨g,0,none⟩) ns.length cap):=hk3.box.cell 0;have x6:w9.cell? ⟨w.heap.size+1,16,none⟩=some (.slice (some ⟨gl,0,none⟩) 2 cl):=hk3.c6.trans (congrArg some HL.out);obtain ⟨x7,x8⟩:=HG.out w9 hk3.below;have xs:w9.cell? ⟨1,2,none⟩=some (.string ⟨#[119,104,101,114,101,32]⟩):=hk3.pw.steps 2 (by omega);dsimp only [node] at k0;clear hb1))
 go_wp2_with fail
 have hk3:=hk3.drew
 clear k0 xs x7
 go_region_held3 (fun w'=>w'.cell? ⟨w.heap.size,0,none⟩=some (.slice (some ⟨g,0,none⟩) ns.length cap)∧w'.cell? ⟨w.heap.size+1,16,none⟩=some (.slice (some ⟨gl,0,none⟩) 2 cl)∧w'.cell? ⟨gl,1,none⟩=some (.int .i64 (c:Int)))
  (go_keep)
  (first | (go_at_call 32;(with_reducible refine (HREC2.out _ (CK.nr (by assumption)) (CK.pw (by assumption))).mono ?_);rintro e w9 ⟨rfl,hb1⟩;have hk3:=CK.kept (by assumption) hb1;have x0:w9.cell? ⟨w.heap.size,0,none⟩=some (.slice (some ⟨g,0,none⟩) ns.length cap):=hk3.box.cell 0;have x6:w9.cell? ⟨w.heap.size+1,16,none⟩=some (.slice (some ⟨gl,0,none⟩) 2 cl):=hk3.c6.trans (congrArg some HL.out);have x8:=(HG.out w9 hk3.below).2;clear hb1))
 go_wp2_with fail
 exact bodyPost_ret (results_tmp rfl _ _ _) rfl ⟨by show Ending.returned (Value.string (BA t++(⟨#[32,124,32]⟩:ByteArray) ++ ⟨#[119,104,101,114,101,32]⟩++BA u))=_;exact congrArg (fun x=>Ending.returned (Value.string x)) (cat_where t u),hk3.below⟩
theorem cat_join (t u:Bytes):BA t++(⟨#[32,124,32]⟩:ByteArray) ++ ⟨#[106,111,105,110,32,40]⟩++BA u ++ ⟨#[41]⟩=BA (t++[32,124,32]++[106,111,105,110,32,40]++u++[41]):=by
 rw [show (⟨#[32,124,32]⟩:ByteArray)=BA [32,124,32] from rfl,show (⟨#[106,111,105,110,32,40]⟩:ByteArray)=BA [106,111,105,110,32,40] from rfl,show (⟨#[41]⟩:ByteArray)=BA [41] from rfl]
 simp only [cat2]
theorem rows_join {a c:Nat} {t u:Bytes} (hi:ns[i]?=some (node 7 [a,c])) (hl:t.length≤134144) (hl2:u.length≤134144) (rec:WritesQ ns g cap a t) (rec2:WritesQ ns g cap c u):WritesQ ns g cap i (t++[32,124,32]++[106,111,105,110,32,40]++u++[41]):=by
 intro w hn hp
 obtain ⟨m,b,hm,hmk,hr,_,hml⟩:=nr_rangeP hn hi
 have hlt:i<ns.length:=(List.getElem?_eq_some_iff.1 hi).1
 simp only [maxLen] at hml
 have a0:(0:Int)≤(i:Int):=by omega
 have a1:(i:Int)<(ns.length:Int):=by omega
 have hone:=hmk.onesP
 have HR:=Lib.hid (range_kept (W':=boxed w (.slice (some ⟨g,0,none⟩) ns.length cap)) ((Below.refl _ _).alloc (Nat.le_refl _) _) hr)
 have hth:=CK.there w (.slice (some ⟨g,0,none⟩) ns.length cap)
 have HS:=Lib.hid (fun w4 h4=>CK.start (w4:=w4) hp hn hmk h4)
 have HM:=Lib.hid hm
 obtain ⟨gl,cl,hlv,hg0⟩:=rows_of (k:=0) (x:=a) hmk hm rfl
 obtain ⟨gl',cl',hlv',hg1⟩:=rows_of (k:=1) (x:=c) hmk hm rfl
 obtain rfl:gl=gl':=by
  rw [hlv] at hlv'
  injection hlv' with e1 _ _
  injection e1 with e1
  injection e1
 have hgk:∀ W',Below w.heap.size w W'→W'.cell? ⟨gl,0,none⟩=some (.int .i64 (a:Int))∧W'.cell? ⟨gl,1,none⟩=some (.int .i64 (c:Int)):=fun W' hb=>⟨keepc hb hg0,keepc hb hg1⟩
 have HG:=Lib.hid hgk
 have hlv:m.lv=.slice (some ⟨gl,0,none⟩) 2 cl:=hlv
 have HL:=Lib.hid hlv
 unfold WritesQ at rec
 unfold WritesQ at rec2
 have HREC:=Lib.hid rec
 have HREC2:=Lib.hid rec2
 have v1:¬ 9223372036854775807<t.length+3:=by omega
 have v2:¬ 9223372036854775807<t.length+3+6:=by omega
 have v3:¬ 9223372036854775807<t.length+3+6+u.length:=by omega
 have v4:¬ 9223372036854775807<t.length+3+6+u.length+1:=by omega
 clear hi hn hp hm hmk hr hml rec rec2 hlv hg0 hgk hlv' hg1
 go_enter Tryz.func45,Tryz.ntmps45
 go_wp2_with (first
  | (refine wpList_load_mid (by rfl) 42 (.tmp 14) (by rfl) g (i*19) (by rfl) m.cells _ HR.out undNode (by rfl) sizeNode ?_)
  | (refine wpList_store_mid (by rfl) 42 (.tmp 5) (.tmp 15) (by rfl) (w.heap.size+1) 0 m.cells.toArray (by rfl) (by rfl) hth sizeNode hone ?_
     generalize hw4:World.setCells _ _ _ _=w4
     have hc:=HS.out w4 hw4
     have k0:=hc.c0 HM.out
     have x0:w4.cell? ⟨w.heap.size,0,none⟩=some (.slice (some ⟨g,0,none⟩) ns.length cap):=hc.box.cell 0
     have x6:w4.cell? ⟨w.heap.size+1,16,none⟩=some (.slice (some ⟨gl,0,none⟩) 2 cl):=hc.c6.trans (congrArg some HL.out)
     obtain ⟨x7,x8⟩:=HG.out w4 hc.below
     have xs:w4.cell? ⟨1,7,none⟩=some (.string ⟨#[106,111,105,110,32,40]⟩):=hc.pw.steps 7 (by omega)
     dsimp only [node] at k0
     have HC:=Lib.hid hc
     clear hw4 hth hone hc))
 have hk3:=HC.out.drew
 go_region_held3 (fun w'=>w'.cell? ⟨w.heap.size,0,none⟩=some (.slice (some ⟨g,0,none⟩) ns.length cap)∧w'.cell? ⟨w.heap.size+1,16,none⟩=some (.slice (some ⟨gl,0,none⟩) 2 cl)∧w'.cell? ⟨gl,0,none⟩=some (.int .i64 (a:Int))∧w'.cell? ⟨w.heap.size+1,0,none⟩=some (.int .i64 7)∧w'.cell? ⟨1,7,none⟩=some (.string ⟨#[106,111,105,110,32,40]⟩))
  (go_keep)
  (first | (go_at_call 45;(with_reducible refine (HREC.out _ (CK.nr (by assumption)) (CK.pw (by assumption))).mono ?_);rintro e w9 ⟨rfl,hb1⟩;have hk3:=CK.kept (by assumption) hb1;have k0:=hk3.c0 HM.out;have x0:w9.cell? ⟨w.heap.size,0,none⟩=some (.slice (some ⟨g,0,none⟩) ns.length cap):=hk3.box.cell 0;have x6:w9.cell? ⟨w.heap.size+1,16,none⟩=some (.slice (some ⟨gl,0,none⟩) 2 cl):=hk3.c6.trans (congrArg some HL.out);obtain ⟨x7,x8⟩:=HG.out w9 hk3.below;have xs:w9.cell? ⟨1,7,none⟩=some (.string ⟨#[106,111,105,110,32,40]⟩):=hk3.pw.steps 7 (by omega);dsimp only [node] at k0;clear hb1))
 go_wp2_with fail
 have hk3:=hk3.drew
 clear k0 xs x7
 go_region_held3 (fun w'=>w'.cell? ⟨w.heap.size,0,none⟩=some (.slice (some ⟨g,0,none⟩) ns.length cap)∧w'.cell? ⟨w.heap.size+1,16,none⟩=some (.slice (some ⟨gl,0,none⟩) 2 cl)∧w'.cell? ⟨gl,1,none⟩=some (.int .i64 (c:Int)))
  (go_keep)
  (first | (go_at_call 45;(with_reducible refine (HREC2.out _ (CK.nr (by assumption)) (CK.pw (by assumption))).mono ?_);rintro e w9 ⟨rfl,hb1⟩;have hk3:=CK.kept (by assumption) hb1;have x0:w9.cell? ⟨w.heap.size,0,none⟩=some (.slice (some ⟨g,0,none⟩) ns.length cap):=hk3.box.cell 0;have x6:w9.cell? ⟨w.heap.size+1,16,none⟩=some (.slice (some ⟨gl,0,none⟩) 2 cl):=hk3.c6.trans (congrArg some HL.out);have x8:=(HG.out w9 hk3.below).2;clear hb1))
 go_wp2_with fail
 exact bodyPost_ret (results_tmp rfl _ _ _) rfl ⟨by show Ending.returned (Value.string (BA t++(⟨#[32,124,32]⟩:ByteArray) ++ ⟨#[106,111,105,110,32,40]⟩++BA u ++ ⟨#[41]⟩))=_;exact congrArg (fun x=>Ending.returned (Value.string x)) (cat_join t u),hk3.below⟩
theorem cat_union (t u:Bytes):BA t++(⟨#[32,124,32]⟩:ByteArray) ++ ⟨#[117,110,105,111,110,32,40]⟩++BA u ++ ⟨#[41]⟩=BA (t++[32,124,32]++[117,110,105,111,110,32,40]++u++[41]):=by
 rw [show (⟨#[32,124,32]⟩:ByteArray)=BA [32,124,32] from rfl,show (⟨#[117,110,105,111,110,32,40]⟩:ByteArray)=BA [117,110,105,111,110,32,40] from rfl,show (⟨#[41]⟩:ByteArray)=BA [41] from rfl]
 simp only [cat2]
theorem rows_union {a c:Nat} {t u:Bytes} (hi:ns[i]?=some (node 8 [a,c])) (hl:t.length≤134144) (hl2:u.length≤134144) (rec:WritesQ ns g cap a t) (rec2:WritesQ ns g cap c u):WritesQ ns g cap i (t++[32,124,32]++[117,110,105,111,110,32,40]++u++[41]):=by
 intro w hn hp
 obtain ⟨m,b,hm,hmk,hr,_,hml⟩:=nr_rangeP hn hi
 have hlt:i<ns.length:=(List.getElem?_eq_some_iff.1 hi).1
 simp only [maxLen] at hml
 have a0:(0:Int)≤(i:Int):=by omega
 have a1:(i:Int)<(ns.length:Int):=by omega
 have hone:=hmk.onesP
 have HR:=Lib.hid (range_kept (W':=boxed w (.slice (some ⟨g,0,none⟩) ns.length cap)) ((Below.refl _ _).alloc (Nat.le_refl _) _) hr)
 have hth:=CK.there w (.slice (some ⟨g,0,none⟩) ns.length cap)
 have HS:=Lib.hid (fun w4 h4=>CK.start (w4:=w4) hp hn hmk h4)
 have HM:=Lib.hid hm
 obtain ⟨gl,cl,hlv,hg0⟩:=rows_of (k:=0) (x:=a) hmk hm rfl
 obtain ⟨gl',cl',hlv',hg1⟩:=rows_of (k:=1) (x:=c) hmk hm rfl
 obtain rfl:gl=gl':=by
  rw [hlv] at hlv'
  injection hlv' with e1 _ _
  injection e1 with e1
  injection e1
 have hgk:∀ W',Below w.heap.size w W'→W'.cell? ⟨gl,0,none⟩=some (.int .i64 (a:Int))∧W'.cell? ⟨gl,1,none⟩=some (.int .i64 (c:Int)):=fun W' hb=>⟨keepc hb hg0,keepc hb hg1⟩
 have HG:=Lib.hid hgk
 have hlv:m.lv=.slice (some ⟨gl,0,none⟩) 2 cl:=hlv
 have HL:=Lib.hid hlv
 unfold WritesQ at rec
 unfold WritesQ at rec2
 have HREC:=Lib.hid rec
 have HREC2:=Lib.hid rec2
 have v1:¬ 9223372036854775807<t.length+3:=by omega
 have v2:¬ 9223372036854775807<t.length+3+7:=by omega
 have v3:¬ 9223372036854775807<t.length+3+7+u.length:=by omega
 have v4:¬ 9223372036854775807<t.length+3+7+u.length+1:=by omega
 clear hi hn hp hm hmk hr hml rec rec2 hlv hg0 hgk hlv' hg1
 go_enter Tryz.func45,Tryz.ntmps45
 go_wp2_with (first
  | (refine wpList_load_mid (by rfl) 42 (.tmp 14) (by rfl) g (i*19) (by rfl) m.cells _ HR.out undNode (by rfl) sizeNode ?_)
  | (refine wpList_store_mid (by rfl) 42 (.tmp 5) (.tmp 15) (by rfl) (w.heap.size+1) 0 m.cells.toArray (by rfl) (by rfl) hth sizeNode hone ?_
     generalize hw4:World.setCells _ _ _ _=w4
     have hc:=HS.out w4 hw4
     have k0:=hc.c0 HM.out
     have x0:w4.cell? ⟨w.heap.size,0,none⟩=some (.slice (some ⟨g,0,none⟩) ns.length cap):=hc.box.cell 0
     have x6:w4.cell? ⟨w.heap.size+1,16,none⟩=some (.slice (some ⟨gl,0,none⟩) 2 cl):=hc.c6.trans (congrArg some HL.out)
     obtain ⟨x7,x8⟩:=HG.out w4 hc.below
     have xs:w4.cell? ⟨1,8,none⟩=some (.string ⟨#[117,110,105,111,110,32,40]⟩):=hc.pw.steps 8 (by omega)
     dsimp only [node] at k0
     have HC:=Lib.hid hc
     clear hw4 hth hone hc))
 have hk3:=HC.out.drew
 go_region_held3 (fun w'=>w'.cell? ⟨w.heap.size,0,none⟩=some (.slice (some ⟨g,0,none⟩) ns.length cap)∧w'.cell? ⟨w.heap.size+1,16,none⟩=some (.slice (some ⟨gl,0,none⟩) 2 cl)∧w'.cell? ⟨gl,0,none⟩=some (.int .i64 (a:Int))∧w'.cell? ⟨w.heap.size+1,0,none⟩=some (.int .i64 8)∧w'.cell? ⟨1,8,none⟩=some (.string ⟨#[117,110,105,111,110,32,40]⟩))
  (go_keep)
  (first | (go_at_call 45;(with_reducible refine (HREC.out _ (CK.nr (by assumption)) (CK.pw (by assumption))).mono ?_);rintro e w9 ⟨rfl,hb1⟩;have hk3:=CK.kept (by assumption) hb1;have k0:=hk3.c0 HM.out;have x0:w9.cell? ⟨w.heap.size,0,none⟩=some (.slice (some ⟨g,0,none⟩) ns.length cap):=hk3.box.cell 0;have x6:w9.cell? ⟨w.heap.size+1,16,none⟩=some (.slice (some ⟨gl,0,none⟩) 2 cl):=hk3.c6.trans (congrArg some HL.out);obtain ⟨x7,x8⟩:=HG.out w9 hk3.below;have xs:w9.cell? ⟨1,8,none⟩=some (.string ⟨#[117,110,105,111,110,32,40]⟩):=hk3.pw.steps 8 (by omega);dsimp only [node] at k0;clear hb1))
 go_wp2_with fail
 have hk3:=hk3.drew
 clear k0 xs x7
 go_region_held3 (fun w'=>w'.cell? ⟨w.heap.size,0,none⟩=some (.slice (some ⟨g,0,none⟩) ns.length cap)∧w'.cell? ⟨w.heap.size+1,16,none⟩=some (.slice (some ⟨gl,0,none⟩) 2 cl)∧w'.cell? ⟨gl,1,none⟩=some (.int .i64 (c:Int)))
  (go_keep)
  (first | (go_at_call 45;(with_reducible refine (HREC2.out _ (CK.nr (by assumption)) (CK.pw (by assumption))).mono ?_);rintro e w9 ⟨rfl,hb1⟩;have hk3:=CK.kept (by assumption) hb1;have x0:w9.cell? ⟨w.heap.size,0,none⟩=some (.slice (some ⟨g,0,none⟩) ns.length cap):=hk3.box.cell 0;have x6:w9.cell? ⟨w.heap.size+1,16,none⟩=some (.slice (some ⟨gl,0,none⟩) 2 cl):=hk3.c6.trans (congrArg some HL.out);have x8:=(HG.out w9 hk3.below).2;clear hb1))
 go_wp2_with fail
 exact bodyPost_ret (results_tmp rfl _ _ _) rfl ⟨by show Ending.returned (Value.string (BA t++(⟨#[32,124,32]⟩:ByteArray) ++ ⟨#[117,110,105,111,110,32,40]⟩++BA u ++ ⟨#[41]⟩))=_;exact congrArg (fun x=>Ending.returned (Value.string x)) (cat_union t u),hk3.below⟩
end
end Go.Proofs.YtnaehhpikhlppaaGreatDoor

namespace Go.Proofs.YtnaehhpikhlppaaGreatDoor
open Go.RowKit LexS ParS BigFrame
section
variable {w W:World} {nb:Nat} {nv:Value} {ns:List Nd} {m:NodeM} {nd:Nd} {g cap i:Nat}
theorem cat_align (t X:Bytes):BA t++(⟨#[32,124,32]⟩:ByteArray) ++ ⟨#[97,108,105,103,110,32]⟩++BA X=BA (t++[32,124,32]++[97,108,105,103,110,32]++X):=by
 rw [show (⟨#[32,124,32]⟩:ByteArray)=BA [32,124,32] from rfl,show (⟨#[97,108,105,103,110,32]⟩:ByteArray)=BA [97,108,105,103,110,32] from rfl]
 simp only [cat2]
theorem rows_align {a:Nat} {t:Bytes} {x:Int} (hi:ns[i]?=some {node 4 [a] with n:=x}) (hl:t.length≤134144) (x0' : -9223372036854775808≤x) (x1':x≤9223372036854775807) (rec:WritesQ ns g cap a t):WritesQ ns g cap i (t++[32,124,32]++[97,108,105,103,110,32]++Lib.itoa x):=by
 intro w hn hp
 obtain ⟨m,b,hm,hmk,hr,_,hml⟩:=nr_rangeP hn hi
 have hlt:i<ns.length:=(List.getElem?_eq_some_iff.1 hi).1
 simp only [maxLen] at hml
 have a0:(0:Int)≤(i:Int):=by omega
 have a1:(i:Int)<(ns.length:Int):=by omega
 have hone:=hmk.onesP
 have HR:=Lib.hid (range_kept (W':=boxed w (.slice (some ⟨g,0,none⟩) ns.length cap)) ((Below.refl _ _).alloc (Nat.le_refl _) _) hr)
 have hth:=CK.there w (.slice (some ⟨g,0,none⟩) ns.length cap)
 have HS:=Lib.hid (fun w4 h4=>CK.start (w4:=w4) hp hn hmk h4)
 have HM:=Lib.hid hm
 obtain ⟨gl,cl,hlv,hg0⟩:=rows_of (k:=0) (x:=a) hmk hm rfl
 have hgk:∀ W',Below w.heap.size w W'→W'.cell? ⟨gl,0,none⟩=some (.int .i64 (a:Int)):=fun W' hb=>keepc hb hg0
 have HG:=Lib.hid hgk
 have hlv:m.lv=.slice (some ⟨gl,0,none⟩) 1 cl:=hlv
 have HL:=Lib.hid hlv
 unfold WritesQ at rec
 have HREC:=Lib.hid rec
 have kx:=itoa_b x x0' x1'
 have lx:=(itoa_small x x0' x1').1
 obtain ⟨X,hX⟩:∃ X,X=Lib.itoa x:=⟨_,rfl⟩
 rw [← hX] at kx lx ⊢
 have KX:=Lib.hid kx
 have v1:¬ 9223372036854775807<t.length+3:=by omega
 have v2:¬ 9223372036854775807<t.length+3+6:=by omega
 have v3:¬ 9223372036854775807<t.length+3+6+X.length:=by omega
 have v4:¬ 9223372036854775807<t.length+3+6+X.length+4:=by omega
 clear hX kx
 clear hi hn hp hm hmk hr hml rec hlv hg0 hgk
 go_enter Tryz.func45,Tryz.ntmps45
 go_wp2_with (first
  | (refine wpList_load_mid (by rfl) 42 (.tmp 14) (by rfl) g (i*19) (by rfl) m.cells _ HR.out undNode (by rfl) sizeNode ?_)
  | (refine wpList_store_mid (by rfl) 42 (.tmp 5) (.tmp 15) (by rfl) (w.heap.size+1) 0 m.cells.toArray (by rfl) (by rfl) hth sizeNode hone ?_
     generalize hw4:World.setCells _ _ _ _=w4
     have hc:=HS.out w4 hw4
     have k0:=hc.c0 HM.out
     have x0:w4.cell? ⟨w.heap.size,0,none⟩=some (.slice (some ⟨g,0,none⟩) ns.length cap):=hc.box.cell 0
     have x6:w4.cell? ⟨w.heap.size+1,16,none⟩=some (.slice (some ⟨gl,0,none⟩) 1 cl):=hc.c6.trans (congrArg some HL.out)
     have x7:=HG.out w4 hc.below
     have c1:=hc.c1 HM.out
     have c2:=hc.c2 HM.out
     have xs:w4.cell? ⟨1,4,none⟩=some (.string ⟨#[97,108,105,103,110,32]⟩):=hc.pw.steps 4 (by omega)
     dsimp only [node] at k0 c1 c2
     have HC:=Lib.hid hc
     clear hw4 hth hone hc))
 have hk3:=HC.out.drew
 go_region_held3 (fun w'=>w'.cell? ⟨w.heap.size,0,none⟩=some (.slice (some ⟨g,0,none⟩) ns.length cap)∧w'.cell? ⟨w.heap.size+1,16,none⟩=some (.slice (some ⟨gl,0,none⟩) 1 cl)∧w'.cell? ⟨gl,0,none⟩=some (.int .i64 (a:Int))∧w'.cell? ⟨w.heap.size+1,0,none⟩=some (.int .i64 4)∧w'.cell? ⟨1,4,none⟩=some (.string ⟨#[97,108,105,103,110,32]⟩))
  (go_keep)
  (first | (go_at_call 45;(with_reducible refine (HREC.out _ (CK.nr (by assumption)) (CK.pw (by assumption))).mono ?_);rintro e w9 ⟨rfl,hb1⟩;have hk3:=CK.kept (by assumption) hb1;have k0:=hk3.c0 HM.out;have x0:w9.cell? ⟨w.heap.size,0,none⟩=some (.slice (some ⟨g,0,none⟩) ns.length cap):=hk3.box.cell 0;have x6:w9.cell? ⟨w.heap.size+1,16,none⟩=some (.slice (some ⟨gl,0,none⟩) 1 cl):=hk3.c6.trans (congrArg some HL.out);have x7:=HG.out w9 hk3.below;have c1:=hk3.c1 HM.out;have c2:=hk3.c2 HM.out;have xs:w9.cell? ⟨1,4,none⟩=some (.string ⟨#[97,108,105,103,110,32]⟩):=hk3.pw.steps 4 (by omega);dsimp only [node] at k0 c1 c2;clear hb1))
 go_wp2_with fail
 refine (KX.out _ hk3.gw).mono ?_
 rintro e w8 ⟨rfl,hb1⟩
 have hk3:=hk3.kept hb1
 clear hb1 k0 x0 x6 x7 xs c1 c2
 go_wp2_with fail
 exact bodyPost_ret (results_tmp rfl _ _ _) rfl ⟨by show Ending.returned (Value.string (BA t++(⟨#[32,124,32]⟩:ByteArray) ++ ⟨#[97,108,105,103,110,32]⟩++BA X))=_;exact congrArg (fun x=>Ending.returned (Value.string x)) (cat_align t X),hk3.below⟩
theorem cat_top (t s X:Bytes):BA t++(⟨#[32,124,32]⟩:ByteArray) ++ ⟨#[116,111,112,32]⟩++BA X ++ ⟨#[32,98,121,32]⟩++BA s=BA (t++[32,124,32]++[116,111,112,32]++X++[32,98,121,32]++s):=by
 rw [show (⟨#[32,124,32]⟩:ByteArray)=BA [32,124,32] from rfl,show (⟨#[116,111,112,32]⟩:ByteArray)=BA [116,111,112,32] from rfl,show (⟨#[32,98,121,32]⟩:ByteArray)=BA [32,98,121,32] from rfl]
 simp only [cat2]
theorem rows_top {a:Nat} {t s:Bytes} {x:Int} (hi:ns[i]?=some {node 6 [a] with n:=x,s:=s}) (hl:t.length≤134144) (hs:s.length≤130) (x0' : -9223372036854775808≤x) (x1':x≤9223372036854775807) (rec:WritesQ ns g cap a t):WritesQ ns g cap i (t++[32,124,32]++[116,111,112,32]++Lib.itoa x++[32,98,121,32]++s):=by
 intro w hn hp
 obtain ⟨m,b,hm,hmk,hr,_,hml⟩:=nr_rangeP hn hi
 have hlt:i<ns.length:=(List.getElem?_eq_some_iff.1 hi).1
 simp only [maxLen] at hml
 have a0:(0:Int)≤(i:Int):=by omega
 have a1:(i:Int)<(ns.length:Int):=by omega
 have hone:=hmk.onesP
 have HR:=Lib.hid (range_kept (W':=boxed w (.slice (some ⟨g,0,none⟩) ns.length cap)) ((Below.refl _ _).alloc (Nat.le_refl _) _) hr)
 have hth:=CK.there w (.slice (some ⟨g,0,none⟩) ns.length cap)
 have HS:=Lib.hid (fun w4 h4=>CK.start (w4:=w4) hp hn hmk h4)
 have HM:=Lib.hid hm
 obtain ⟨gl,cl,hlv,hg0⟩:=rows_of (k:=0) (x:=a) hmk hm rfl
 have hgk:∀ W',Below w.heap.size w W'→W'.cell? ⟨gl,0,none⟩=some (.int .i64 (a:Int)):=fun W' hb=>keepc hb hg0
 have HG:=Lib.hid hgk
 have hlv:m.lv=.slice (some ⟨gl,0,none⟩) 1 cl:=hlv
 have HL:=Lib.hid hlv
 unfold WritesQ at rec
 have HREC:=Lib.hid rec
 have kx:=itoa_b x x0' x1'
 have lx:=(itoa_small x x0' x1').1
 obtain ⟨X,hX⟩:∃ X,X=Lib.itoa x:=⟨_,rfl⟩
 rw [← hX] at kx lx ⊢
 have KX:=Lib.hid kx
 have v1:¬ 9223372036854775807<t.length+3:=by omega
 have v2:¬ 9223372036854775807<t.length+3+4:=by omega
 have v3:¬ 9223372036854775807<t.length+3+4+X.length:=by omega
 have v4:¬ 9223372036854775807<t.length+3+4+X.length+4:=by omega
 have v5:¬ 9223372036854775807<t.length+3+4+X.length+4+s.length:=by omega
 clear hX kx
 clear hi hn hp hm hmk hr hml rec hlv hg0 hgk
 go_enter Tryz.func45,Tryz.ntmps45
 go_wp2_with (first
  | (refine wpList_load_mid (by rfl) 42 (.tmp 14) (by rfl) g (i*19) (by rfl) m.cells _ HR.out undNode (by rfl) sizeNode ?_)
  | (refine wpList_store_mid (by rfl) 42 (.tmp 5) (.tmp 15) (by rfl) (w.heap.size+1) 0 m.cells.toArray (by rfl) (by rfl) hth sizeNode hone ?_
     generalize hw4:World.setCells _ _ _ _=w4
     have hc:=HS.out w4 hw4
     have k0:=hc.c0 HM.out
     have x0:w4.cell? ⟨w.heap.size,0,none⟩=some (.slice (some ⟨g,0,none⟩) ns.length cap):=hc.box.cell 0
     have x6:w4.cell? ⟨w.heap.size+1,16,none⟩=some (.slice (some ⟨gl,0,none⟩) 1 cl):=hc.c6.trans (congrArg some HL.out)
     have x7:=HG.out w4 hc.below
     have c1:=hc.c1 HM.out
     have c2:=hc.c2 HM.out
     have xs:w4.cell? ⟨1,6,none⟩=some (.string ⟨#[116,111,112,32]⟩):=hc.pw.steps 6 (by omega)
     dsimp only [node] at k0 c1 c2
     have HC:=Lib.hid hc
     clear hw4 hth hone hc))
 have hk3:=HC.out.drew
 go_region_held3 (fun w'=>w'.cell? ⟨w.heap.size,0,none⟩=some (.slice (some ⟨g,0,none⟩) ns.length cap)∧w'.cell? ⟨w.heap.size+1,16,none⟩=some (.slice (some ⟨gl,0,none⟩) 1 cl)∧w'.cell? ⟨gl,0,none⟩=some (.int .i64 (a:Int))∧w'.cell? ⟨w.heap.size+1,0,none⟩=some (.int .i64 6)∧w'.cell? ⟨1,6,none⟩=some (.string ⟨#[116,111,112,32]⟩))
  (go_keep)
  (first | (go_at_call 45;(with_reducible refine (HREC.out _ (CK.nr (by assumption)) (CK.pw (by assumption))).mono ?_);rintro e w9 ⟨rfl,hb1⟩;have hk3:=CK.kept (by assumption) hb1;have k0:=hk3.c0 HM.out;have x0:w9.cell? ⟨w.heap.size,0,none⟩=some (.slice (some ⟨g,0,none⟩) ns.length cap):=hk3.box.cell 0;have x6:w9.cell? ⟨w.heap.size+1,16,none⟩=some (.slice (some ⟨gl,0,none⟩) 1 cl):=hk3.c6.trans (congrArg some HL.out);have x7:=HG.out w9 hk3.below;have c1:=hk3.c1 HM.out;have c2:=hk3.c2 HM.out;have xs:w9.cell? ⟨1,6,none⟩=some (.string ⟨#[116,111,112,32]⟩):=hk3.pw.steps 6 (by omega);dsimp only [node] at k0 c1 c2;clear hb1))
 go_wp2_with fail
 have hk3:=hk3.drew
 clear k0 xs x7 x0 x6
 go_region_held3 (fun w'=>w'.cell? ⟨w.heap.size+1,2,none⟩=some (.int .i64 x)∧w'.cell? ⟨w.heap.size+1,1,none⟩=some (.string (BA s)))
  (go_keep)
  (first | (go_at_call 89;(with_reducible refine (KX.out _ (CK.gw (by assumption))).mono ?_);rintro e w9 ⟨rfl,hb1⟩;have hk3:=CK.kept (by assumption) hb1;have c1:=hk3.c1 HM.out;have c2:=hk3.c2 HM.out;dsimp only [node] at c1 c2;clear hb1))
 go_wp2_with fail
 exact bodyPost_ret (results_tmp rfl _ _ _) rfl ⟨by show Ending.returned (Value.string (BA t++(⟨#[32,124,32]⟩:ByteArray) ++ ⟨#[116,111,112,32]⟩++BA X ++ ⟨#[32,98,121,32]⟩++BA s))=_;exact congrArg (fun x=>Ending.returned (Value.string x)) (cat_top t s X),hk3.below⟩
end
end Go.Proofs.YtnaehhpikhlppaaGreatDoor

namespace Go.Proofs.YtnaehhpikhlppaaGreatDoor
open Go.RowKit LexS ParS BigFrame
section
variable {w W:World} {nb:Nat} {nv:Value} {ns:List Nd} {m:NodeM} {nd:Nd} {g cap i:Nat}
theorem CK.c17 (h:CK w nb nv ns m W):W.cell? ⟨nb,17,none⟩=some m.nv:=h.nd.cell 17
theorem CK.c18 (h:CK w nb nv ns m W):W.cell? ⟨nb,18,none⟩=some m.av:=h.nd.cell 18
theorem flatc_len:∀ r:List Bytes,r.length≤(r.flatMap fun y=>44::32::y).length
 | []=>Nat.zero_le _
 | y::r=>by
   have:=flatc_len r
   simp only [List.flatMap_cons,List.length_append,List.length_cons]
   omega
theorem sepB_len (l:List Bytes):l.length≤(sepB l).length+1:=by
 cases l with
 | nil=>exact Nat.zero_le _
 | cons x r =>
   have:=flatc_len r
   show r.length+1≤(x++r.flatMap fun y=>44::32::y).length+1
   rw [List.length_append]
   omega
theorem join_row {W0:World} {b:Nat} {v:Value} {l:List Bytes} (h:W0.ownsRow b 9 1 v l.length (strsL l)) (hl:(sepB l).length≤134144) (W:World) (hb:Below W0.heap.size W0 W) :
 Calls Tryz.prog 90 #[v,.string ⟨#[44,32]⟩] W fun e w'=>e=.returned (.string (BA (sepB l)))∧Below W.heap.size W w':=by
 obtain ⟨p,c,rfl,h1,h2,h3⟩:=row_cells h
 simp only [maxLen] at h2
 have hln:=sepB_len l
 have hd:(l.map BA).map (·.data.toList)=l:=by
  rw [List.map_map]
  conv=>rhs;rw [← List.map_id l]
  exact List.map_congr_left fun s _=>text_list s
 by_cases h0:l.length=0
 ·obtain rfl:l=[]:=List.eq_nil_of_length_eq_zero h0
  exact (Tryz.strings_Join_none p c _ W).mono fun e w' ⟨he,hw⟩=>⟨he,hw▸Below.refl _ _⟩
 ·obtain ⟨g,rfl,hg⟩:=h3 (by omega)
  have hj:=Tryz.strings_Join g 0 c (l.map BA) ⟨#[44,32]⟩ W (fun j x hx=>by
   rw [List.getElem?_map] at hx
   rcases hy:l[j]? with _ | y
   ·rw [hy] at hx;cases hx
   ·rw [hy] at hx
    injection hx with hx
    subst hx
    rw [Nat.zero_add]
    exact keepc hb (hg j _ (strsL_get hy))) (by
   have:W0.cell? ⟨g,0,none⟩=some (.string (BA (l[0]'(by omega)))):=hg 0 _ (strsL_get (List.getElem?_eq_getElem (by omega)))
   have:=keepc hb this
   exact World.block_lt_of_cell? W _ this) (by rw [List.length_map];omega) (by rw [List.length_map];omega) (by rw [hd];show (Lib.join l [44,32]).length≤_;rw [join_sep];omega)
  rw [List.length_map,hd] at hj
  rw [show (Lib.join l (⟨#[44,32]⟩:ByteArray).data.toList)=sepB l from join_sep l] at hj
  exact hj
theorem cat_keep (t X:Bytes):BA t++(⟨#[32,124,32]⟩:ByteArray) ++ ⟨#[107,101,101,112,32]⟩++BA X=BA (t++[32,124,32]++[107,101,101,112,32]++X):=by
 rw [show (⟨#[32,124,32]⟩:ByteArray)=BA [32,124,32] from rfl,show (⟨#[107,101,101,112,32]⟩:ByteArray)=BA [107,101,101,112,32] from rfl]
 simp only [cat2]
theorem rows_keep {a:Nat} {t:Bytes} {l:List Bytes} (hi:ns[i]?=some {node 3 [a] with names:=l}) (hl:t.length≤134144) (hl2:(sepB l).length≤134144) (rec:WritesQ ns g cap a t):WritesQ ns g cap i (t++[32,124,32]++[107,101,101,112,32]++sepB l):=by
 intro w hn hp
 obtain ⟨m,b,hm,hmk,hr,_,hml⟩:=nr_rangeP hn hi
 have hlt:i<ns.length:=(List.getElem?_eq_some_iff.1 hi).1
 simp only [maxLen] at hml
 have a0:(0:Int)≤(i:Int):=by omega
 have a1:(i:Int)<(ns.length:Int):=by omega
 have hone:=hmk.onesP
 have HR:=Lib.hid (range_kept (W':=boxed w (.slice (some ⟨g,0,none⟩) ns.length cap)) ((Below.refl _ _).alloc (Nat.le_refl _) _) hr)
 have hth:=CK.there w (.slice (some ⟨g,0,none⟩) ns.length cap)
 have HS:=Lib.hid (fun w4 h4=>CK.start (w4:=w4) hp hn hmk h4)
 have HM:=Lib.hid hm
 obtain ⟨gl,cl,hlv,hg0⟩:=rows_of (k:=0) (x:=a) hmk hm rfl
 have hgk:∀ W',Below w.heap.size w W'→W'.cell? ⟨gl,0,none⟩=some (.int .i64 (a:Int)):=fun W' hb=>keepc hb hg0
 have HG:=Lib.hid hgk
 have hlv:m.lv=.slice (some ⟨gl,0,none⟩) 1 cl:=hlv
 have HL:=Lib.hid hlv
 have hnm:m.node.names=l:=by rw [hm]
 have hnr:=hmk.names
 rw [hnm] at hnr
 have hj:=join_row hnr hl2
 obtain ⟨pn,cn,hnv,_,_,_⟩:=row_cells hnr
 rw [hnv] at hj
 have HNV:=Lib.hid hnv
 have HJ:=Lib.hid hj
 unfold WritesQ at rec
 have HREC:=Lib.hid rec
 obtain ⟨X,hX⟩:∃ X,X=sepB l:=⟨_,rfl⟩
 rw [← hX] at hl2 ⊢
 have HX:=Lib.hid hX
 have v1:¬ 9223372036854775807<t.length+3:=by omega
 have v2:¬ 9223372036854775807<t.length+3+5:=by omega
 have v3:¬ 9223372036854775807<t.length+3+5+X.length:=by omega
 clear hX hnm hnr hj hnv
 clear hi hn hp hm hmk hr hml rec hlv hg0 hgk
 go_enter Tryz.func45,Tryz.ntmps45
 go_wp2_with (first
  | (refine wpList_load_mid (by rfl) 42 (.tmp 14) (by rfl) g (i*19) (by rfl) m.cells _ HR.out undNode (by rfl) sizeNode ?_)
  | (refine wpList_store_mid (by rfl) 42 (.tmp 5) (.tmp 15) (by rfl) (w.heap.size+1) 0 m.cells.toArray (by rfl) (by rfl) hth sizeNode hone ?_
     generalize hw4:World.setCells _ _ _ _=w4
     have hc:=HS.out w4 hw4
     have k0:=hc.c0 HM.out
     have x0:w4.cell? ⟨w.heap.size,0,none⟩=some (.slice (some ⟨g,0,none⟩) ns.length cap):=hc.box.cell 0
     have x6:w4.cell? ⟨w.heap.size+1,16,none⟩=some (.slice (some ⟨gl,0,none⟩) 1 cl):=hc.c6.trans (congrArg some HL.out)
     have x7:=HG.out w4 hc.below
     have x17:w4.cell? ⟨w.heap.size+1,17,none⟩=some (.slice pn l.length cn):=hc.c17.trans (congrArg some HNV.out)
     have xs:w4.cell? ⟨1,3,none⟩=some (.string ⟨#[107,101,101,112,32]⟩):=hc.pw.steps 3 (by omega)
     dsimp only [node] at k0
     have HC:=Lib.hid hc
     clear hw4 hth hone hc))
 have hk3:=HC.out.drew
 go_region_held3 (fun w'=>w'.cell? ⟨w.heap.size,0,none⟩=some (.slice (some ⟨g,0,none⟩) ns.length cap)∧w'.cell? ⟨w.heap.size+1,16,none⟩=some (.slice (some ⟨gl,0,none⟩) 1 cl)∧w'.cell? ⟨gl,0,none⟩=some (.int .i64 (a:Int))∧w'.cell? ⟨w.heap.size+1,0,none⟩=some (.int .i64 3)∧w'.cell? ⟨1,3,none⟩=some (.string ⟨#[107,101,101,112,32]⟩))
  (go_keep)
  (first | (go_at_call 45;(with_reducible refine (HREC.out _ (CK.nr (by assumption)) (CK.pw (by assumption))).mono ?_);rintro e w9 ⟨rfl,hb1⟩;have hk3:=CK.kept (by assumption) hb1;have k0:=hk3.c0 HM.out;have x0:w9.cell? ⟨w.heap.size,0,none⟩=some (.slice (some ⟨g,0,none⟩) ns.length cap):=hk3.box.cell 0;have x6:w9.cell? ⟨w.heap.size+1,16,none⟩=some (.slice (some ⟨gl,0,none⟩) 1 cl):=hk3.c6.trans (congrArg some HL.out);have x7:=HG.out w9 hk3.below;have x17:w9.cell? ⟨w.heap.size+1,17,none⟩=some (.slice pn l.length cn):=hk3.c17.trans (congrArg some HNV.out);have xs:w9.cell? ⟨1,3,none⟩=some (.string ⟨#[107,101,101,112,32]⟩):=hk3.pw.steps 3 (by omega);dsimp only [node] at k0;clear hb1))
 go_wp2_with fail
 refine (HJ.out _ hk3.below).mono ?_
 rintro e w8 ⟨rfl,hb1⟩
 rw [← HX.out]
 have hk3:=hk3.kept hb1
 clear hb1 k0 x0 x6 x7 xs x17
 go_wp2_with fail
 exact bodyPost_ret (results_tmp rfl _ _ _) rfl ⟨by show Ending.returned (Value.string (BA t++(⟨#[32,124,32]⟩:ByteArray) ++ ⟨#[107,101,101,112,32]⟩++BA X))=_;exact congrArg (fun x=>Ending.returned (Value.string x)) (cat_keep t X),hk3.below⟩
end
end Go.Proofs.YtnaehhpikhlppaaGreatDoor
