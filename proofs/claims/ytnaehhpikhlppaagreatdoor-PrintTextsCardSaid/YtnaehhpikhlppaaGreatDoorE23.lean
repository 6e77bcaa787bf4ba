/- Several texts of the proof, joined. -/
import Derived.Test.YtnaehhpikhlppaaGreatDoorE21
set_option maxHeartbeats 4000000
set_option maxRecDepth 100000
set_option linter.unusedVariables false
set_option linter.unusedSimpArgs false
namespace Go.Proofs.YtnaehhpikhlppaaGreatDoor
open Go.RowKit LexS ParS BigFrame
theorem cat2 (a b:Bytes):(⟨a.toArray⟩ ++ ⟨b.toArray⟩:ByteArray)=⟨(a++b).toArray⟩:=by rw [ByteArray.mk_append_mk]
def At (ns:List Nd) (b:Nat) (l:List Nd):Prop := ∀ (j:Nat) (nd:Nd),l[j]?=some nd→ns[b+j]?=some nd
theorem At.left {ns l r:List Nd} {b:Nat} (h:At ns b (l++r)):At ns b l:=fun j nd hj=>h j nd (by rw [List.getElem?_append_left (List.getElem?_eq_some_iff.1 hj).1];exact hj)
theorem At.right {ns l r:List Nd} {b:Nat} (h:At ns b (l++r)):At ns (b+l.length) r:=fun j nd hj=>by
 have:=h (l.length+j) nd (by rw [List.getElem?_append_right (by omega),Nat.add_sub_cancel_left];exact hj)
 rwa [← Nat.add_assoc] at this
theorem At.one {ns:List Nd} {b:Nat} {nd:Nd} (h:At ns b [nd]):ns[b]?=some nd:=h 0 nd rfl
section
variable {w W:World} {nb:Nat} {nv:Value} {ns:List Nd} {m:NodeM} {nd:Nd} {g cap i:Nat}
theorem CK.c6 (h:CK w nb nv ns m W):W.cell? ⟨nb,16,none⟩=some m.lv:=h.nd.cell 16
theorem rows_of {b:Nat} (h:MOk W b m) (hm:m.node=nd) {k x:Nat} (hk:nd.l[k]?=some x):∃ gl cl,m.lv=.slice (some ⟨gl,0,none⟩) nd.l.length cl∧W.cell? ⟨gl,k,none⟩=some (.int .i64 (x:Int)):=by
 subst hm
 obtain ⟨p,c,h1,_,_,h4⟩:=ints_row h.l
 obtain ⟨gl,rfl,hc⟩:=h4 (by intro e;rw [e] at hk;simp at hk)
 exact ⟨gl,c,h1,hc k x hk⟩
theorem cond_brk {rank:Nat} {t:Bytes} (wanted:Nat) (hw:rank<wanted) (hr1:1≤rank) (hi:ns[i]?=some nd) (hk:(if nd.kind=12 then 1 else if nd.kind=11 then 2 else 3:Nat)=rank) (hn:NR w (.slice (some ⟨g,0,none⟩) ns.length cap) ns) (hp:PW w) (hl:t.length≤134144)
 (rec:∀ W,NR W (.slice (some ⟨g,0,none⟩) ns.length cap) ns→PW W→Calls Tryz.prog 32 #[.agg #[.slice (some ⟨g,0,none⟩) ns.length cap],.int .i64 (i:Int),.int .i64 0] W (CondP W t)) :
 Calls Tryz.prog 32 #[.agg #[.slice (some ⟨g,0,none⟩) ns.length cap],.int .i64 (i:Int),.int .i64 (wanted:Int)] w (CondP w (40::(t++[41]))):=by
 obtain ⟨m,b,hm,hmk,hr,_,hml⟩:=nr_rangeP hn hi
 have hlt:i<ns.length:=(List.getElem?_eq_some_iff.1 hi).1
 simp only [maxLen] at hml
 have a0:(0:Int)≤(i:Int):=by omega
 have a1:(i:Int)<(ns.length:Int):=by omega
 have w0:decide ((rank:Int)<(wanted:Int))=true:=decide_eq_true (by omega)
 have w1':(rank:Int)<(wanted:Int):=by omega
 have hone:=hmk.onesP
 have HR:=Lib.hid (range_kept (W':=boxed w (.slice (some ⟨g,0,none⟩) ns.length cap)) ((Below.refl _ _).alloc (Nat.le_refl _) _) hr)
 have hth:=CK.there w (.slice (some ⟨g,0,none⟩) ns.length cap)
 have ht1:=tight_any nd.kind
 rw [hk] at ht1
 have HS:=Lib.hid (fun w4 h4=>CK.start (w4:=w4) hp hn hmk h4)
 have HM:=Lib.hid hm
 have HREC:=Lib.hid rec
 have z2:(BA t).size≤134144:=by rw [text_size];exact hl
 have z2':((BA t).size:Int)≤134144:=by omega
 have v1:¬ 9223372036854775807<1+t.length:=by omega
 have v2:¬ 9223372036854775807<1+t.length+1:=by omega
 clear hi hn hp hm hmk hr hml hk rec
 go_enter Tryz.func32,Tryz.ntmps32
 go_wp2_with (first
  | (refine wpList_load_mid (by rfl) 42 (.tmp 12) (by rfl) g (i*19) (by rfl) m.cells _ HR.out undNode (by rfl) sizeNode ?_)
  | (refine wpList_store_mid (by rfl) 42 (.tmp 7) (.tmp 13) (by rfl) (w.heap.size+1) 0 m.cells.toArray (by rfl) (by rfl) hth sizeNode hone ?_
     generalize hw4:World.setCells _ _ _ _=w4
     have hc:=HS.out w4 hw4
     have k0:=hc.c0 HM.out
     have x0:w4.cell? ⟨w.heap.size,0,none⟩=some (.slice (some ⟨g,0,none⟩) ns.length cap):=hc.box.cell 0
     have HC:=Lib.hid hc
     clear hw4 hth hone hc))
 refine (ht1 _).mono ?_
 rintro e w5 ⟨rfl,rfl⟩
 go_wp2_with fail
 refine (HREC.out _ HC.out.nr HC.out.pw).mono ?_
 rintro e w6 ⟨rfl,b6⟩
 have HB:=Lib.hid (chain HC.out.below b6)
 clear b6
 go_wp2_with fail
 exact bodyPost_ret (results_tmp rfl _ _ _) rfl ⟨by show Ending.returned (Value.string ((⟨#[40]⟩:ByteArray)++BA t ++ ⟨#[41]⟩))=_;exact congrArg (fun x=>Ending.returned (Value.string x)) (cat3 [40] t [41]),HB.out⟩
theorem cond_not {a:Nat} {t:Bytes} (wanted:Nat) (hw:wanted≤3) (hi:ns[i]?=some (node 13 [a])) (hn:NR w (.slice (some ⟨g,0,none⟩) ns.length cap) ns) (hp:PW w) (hl:t.length≤134144)
 (rec:∀ W,NR W (.slice (some ⟨g,0,none⟩) ns.length cap) ns→PW W→Calls Tryz.prog 32 #[.agg #[.slice (some ⟨g,0,none⟩) ns.length cap],.int .i64 (a:Int),.int .i64 3] W (CondP W t)) :
 Calls Tryz.prog 32 #[.agg #[.slice (some ⟨g,0,none⟩) ns.length cap],.int .i64 (i:Int),.int .i64 (wanted:Int)] w (CondP w ([110,111,116,32]++t)):=by
 obtain ⟨m,b,hm,hmk,hr,_,hml⟩:=nr_rangeP hn hi
 have hlt:i<ns.length:=(List.getElem?_eq_some_iff.1 hi).1
 simp only [maxLen] at hml
 have a0:(0:Int)≤(i:Int):=by omega
 have a1:(i:Int)<(ns.length:Int):=by omega
 have w0:decide ((3:Int)<(wanted:Int))=false:=decide_eq_false (by omega)
 have w1':¬ (3:Int)<(wanted:Int):=by omega
 have hone:=hmk.onesP
 have HR:=Lib.hid (range_kept (W':=boxed w (.slice (some ⟨g,0,none⟩) ns.length cap)) ((Below.refl _ _).alloc (Nat.le_refl _) _) hr)
 have hth:=CK.there w (.slice (some ⟨g,0,none⟩) ns.length cap)
 have ht1:=tight_any 13
 have HS:=Lib.hid (fun w4 h4=>CK.start (w4:=w4) hp hn hmk h4)
 have HM:=Lib.hid hm
 obtain ⟨gl,cl,hlv,hg0⟩:=rows_of (k:=0) (x:=a) hmk hm rfl
 have hgk:∀ W',Below w.heap.size w W'→W'.cell? ⟨gl,0,none⟩=some (.int .i64 (a:Int)):=fun W' hb=>keepc hb hg0
 have HG:=Lib.hid hgk
 have hlv:m.lv=.slice (some ⟨gl,0,none⟩) 1 cl:=hlv
 have HL:=Lib.hid hlv
 have HREC:=Lib.hid rec
 have v1:¬ 9223372036854775807<4+t.length:=by omega
 have v2:¬ 9223372036854775807<(⟨#[110,111,116,32]⟩:ByteArray).size+(BA t).size:=by rw [text_size];show ¬ _<4+t.length;omega
 clear hi hn hp hm hmk hr hml rec hlv hg0 hgk
 go_enter Tryz.func32,Tryz.ntmps32
 go_wp2_with (first
  | (refine wpList_load_mid (by rfl) 42 (.tmp 12) (by rfl) g (i*19) (by rfl) m.cells _ HR.out undNode (by rfl) sizeNode ?_)
  | (refine wpList_store_mid (by rfl) 42 (.tmp 7) (.tmp 13) (by rfl) (w.heap.size+1) 0 m.cells.toArray (by rfl) (by rfl) hth sizeNode hone ?_
     generalize hw4:World.setCells _ _ _ _=w4
     have hc:=HS.out w4 hw4
     have k0:=hc.c0 HM.out
     have x0:w4.cell? ⟨w.heap.size,0,none⟩=some (.slice (some ⟨g,0,none⟩) ns.length cap):=hc.box.cell 0
     have x6:w4.cell? ⟨w.heap.size+1,16,none⟩=some (.slice (some ⟨gl,0,none⟩) 1 cl):=hc.c6.trans (congrArg some HL.out)
     have x7:w4.cell? ⟨gl,0,none⟩=some (.int .i64 (a:Int)):=HG.out w4 hc.below
     dsimp only [node] at k0
     have HC:=Lib.hid hc
     clear hw4 hth hone hc))
 refine (ht1 _).mono ?_
 rintro e w5 ⟨rfl,rfl⟩
 go_wp2_with fail
 have hk3:=HC.out.drew
 clear k0
 go_region_held3 (fun w'=>w'.cell? ⟨w.heap.size,0,none⟩=some (.slice (some ⟨g,0,none⟩) ns.length cap)∧w'.cell? ⟨w.heap.size+1,16,none⟩=some (.slice (some ⟨gl,0,none⟩) 1 cl)∧w'.cell? ⟨gl,0,none⟩=some (.int .i64 (a:Int)))
  (go_keep)
  (first | (go_at_call 32;(with_reducible refine (HREC.out _ (CK.nr (by assumption)) (CK.pw (by assumption))).mono ?_);rintro e w9 ⟨rfl,hb1⟩;have hk3:=CK.kept (by assumption) hb1;have x0:w9.cell? ⟨w.heap.size,0,none⟩=some (.slice (some ⟨g,0,none⟩) ns.length cap):=hk3.box.cell 0;have x6:w9.cell? ⟨w.heap.size+1,16,none⟩=some (.slice (some ⟨gl,0,none⟩) 1 cl):=hk3.c6.trans (congrArg some HL.out);have x7:=HG.out w9 hk3.below;clear hb1))
 all_goals go_wp2_with fail
 all_goals exact bodyPost_ret (results_tmp rfl _ _ _) rfl ⟨by show Ending.returned (Value.string ((⟨#[110,111,116,32]⟩:ByteArray)++BA t))=_;exact congrArg (fun x=>Ending.returned (Value.string x)) (cat2 [110,111,116,32] t),hk3.below⟩
theorem cond_and {a c:Nat} {t u:Bytes} (wanted:Nat) (hw:wanted≤2) (hi:ns[i]?=some (node 11 [a,c])) (hn:NR w (.slice (some ⟨g,0,none⟩) ns.length cap) ns) (hp:PW w) (hl:t.length≤134144) (hl2:u.length≤134144)
 (rec:∀ W,NR W (.slice (some ⟨g,0,none⟩) ns.length cap) ns→PW W→Calls Tryz.prog 32 #[.agg #[.slice (some ⟨g,0,none⟩) ns.length cap],.int .i64 (a:Int),.int .i64 2] W (CondP W t))
 (rec2:∀ W,NR W (.slice (some ⟨g,0,none⟩) ns.length cap) ns→PW W→Calls Tryz.prog 32 #[.agg #[.slice (some ⟨g,0,none⟩) ns.length cap],.int .i64 (c:Int),.int .i64 3] W (CondP W u)) :
 Calls Tryz.prog 32 #[.agg #[.slice (some ⟨g,0,none⟩) ns.length cap],.int .i64 (i:Int),.int .i64 (wanted:Int)] w (CondP w (t++[32,97,110,100,32]++u)):=by
 obtain ⟨m,b,hm,hmk,hr,_,hml⟩:=nr_rangeP hn hi
 have hlt:i<ns.length:=(List.getElem?_eq_some_iff.1 hi).1
 simp only [maxLen] at hml
 have a0:(0:Int)≤(i:Int):=by omega
 have a1:(i:Int)<(ns.length:Int):=by omega
 have w0:decide ((2:Int)<(wanted:Int))=false:=decide_eq_false (by omega)
 have w1':¬ (2:Int)<(wanted:Int):=by omega
 have hone:=hmk.onesP
 have HR:=Lib.hid (range_kept (W':=boxed w (.slice (some ⟨g,0,none⟩) ns.length cap)) ((Below.refl _ _).alloc (Nat.le_refl _) _) hr)
 have hth:=CK.there w (.slice (some ⟨g,0,none⟩) ns.length cap)
 have ht1:=tight_any 11
 have HS:=Lib.hid (fun w4 h4=>CK.start (w4:=w4) hp hn hmk h4)
 have HM:=Lib.hid hm
 obtain ⟨gl,cl,hlv,hg0⟩:=rows_of (k:=0) (x:=a) hmk hm rfl
 obtain ⟨gl',cl',hlv',hg1⟩:=rows_of (k:=1) (x:=c) hmk hm rfl
 obtain rfl:gl=gl':=by
  rw [hlv] at hlv'
  injection hlv' with e1 _ _
  injection e1 with e1
  injection e1
 have hgk:∀ W',Below w.heap.size w W'→W'.cell? ⟨gl,0,none⟩=some (.int .i64 (a:Int))∧W'.cell? ⟨gl,1,none⟩=some (.int .i64 (c:Int)):=fun W' hb=>⟨keepc hb hg0,keepc hb hg1⟩
 have HG:=Lib.hid hgk
 have hlv:m.lv=.slice (some ⟨gl,0,none⟩) 2 cl:=hlv
 have HL:=Lib.hid hlv
 have HREC:=Lib.hid rec
 have HREC2:=Lib.hid rec2
 have ew:IntKind.i64.wrap 3=3:=by decide
 have ew2:IntKind.i64.wrap (2+1)=3:=by decide
 have v1:¬ 9223372036854775807<t.length+5:=by omega
 have v2:¬ 9223372036854775807<(BA t).size+(⟨#[32,97,110,100,32]⟩:ByteArray).size:=by rw [text_size];show ¬ _<t.length+5;omega
 have v3:¬ 9223372036854775807<t.length+5+u.length:=by omega
 have v4:¬ 9223372036854775807<(BA t++(⟨#[32,97,110,100,32]⟩:ByteArray)).size+(BA u).size:=by rw [ByteArray.size_append,text_size,text_size];show ¬ _<t.length+5+u.length;omega
 have v5:¬ 9223372036854775807<(BA t++(⟨#[32,97,110,100,32]⟩:ByteArray)).size+u.length:=by rw [ByteArray.size_append,text_size];show ¬ _<t.length+5+u.length;omega
 clear hi hn hp hm hmk hr hml rec rec2 hlv hg0 hgk hlv' hg1
 go_enter Tryz.func32,Tryz.ntmps32
 go_wp2_with (first
  | (refine wpList_load_mid (by rfl) 42 (.tmp 12) (by rfl) g (i*19) (by rfl) m.cells _ HR.out undNode (by rfl) sizeNode ?_)
  | (refine wpList_store_mid (by rfl) 42 (.tmp 7) (.tmp 13) (by rfl) (w.heap.size+1) 0 m.cells.toArray (by rfl) (by rfl) hth sizeNode hone ?_
     generalize hw4:World.setCells _ _ _ _=w4
     have hc:=HS.out w4 hw4
     have k0:=hc.c0 HM.out
     have x0:w4.cell? ⟨w.heap.size,0,none⟩=some (.slice (some ⟨g,0,none⟩) ns.length cap):=hc.box.cell 0
     have x6:w4.cell? ⟨w.heap.size+1,16,none⟩=some (.slice (some ⟨gl,0,none⟩) 2 cl):=hc.c6.trans (congrArg some HL.out)
     obtain ⟨x7,x8⟩:=HG.out w4 hc.below
     dsimp only [node] at k0
     have HC:=Lib.hid hc
     clear hw4 hth hone hc))
 refine (ht1 _).mono ?_
 rintro e w5 ⟨rfl,rfl⟩
 go_wp2_with fail
 have hk3:=HC.out.drew
 clear k0
 go_region_held3 (fun w'=>w'.cell? ⟨w.heap.size,0,none⟩=some (.slice (some ⟨g,0,none⟩) ns.length cap)∧w'.cell? ⟨w.heap.size+1,16,none⟩=some (.slice (some ⟨gl,0,none⟩) 2 cl)∧w'.cell? ⟨gl,0,none⟩=some (.int .i64 (a:Int))∧w'.cell? ⟨gl,1,none⟩=some (.int .i64 (c:Int)))
  (go_keep)
  (first | (go_at_call 32;(with_reducible refine (HREC.out _ (CK.nr (by assumption)) (CK.pw (by assumption))).mono ?_);rintro e w9 ⟨rfl,hb1⟩;have hk3:=CK.kept (by assumption) hb1;have x0:w9.cell? ⟨w.heap.size,0,none⟩=some (.slice (some ⟨g,0,none⟩) ns.length cap):=hk3.box.cell 0;have x6:w9.cell? ⟨w.heap.size+1,16,none⟩=some (.slice (some ⟨gl,0,none⟩) 2 cl):=hk3.c6.trans (congrArg some HL.out);obtain ⟨x7,x8⟩:=HG.out w9 hk3.below;clear hb1)
         | (go_at_call 32;(with_reducible refine (HREC2.out _ (CK.nr (by assumption)) (CK.pw (by assumption))).mono ?_);rintro e w9 ⟨rfl,hb1⟩;have hk3:=CK.kept (by assumption) hb1;have x0:w9.cell? ⟨w.heap.size,0,none⟩=some (.slice (some ⟨g,0,none⟩) ns.length cap):=hk3.box.cell 0;have x6:w9.cell? ⟨w.heap.size+1,16,none⟩=some (.slice (some ⟨gl,0,none⟩) 2 cl):=hk3.c6.trans (congrArg some HL.out);obtain ⟨x7,x8⟩:=HG.out w9 hk3.below;clear hb1))
 all_goals go_wp2_with fail
 all_goals exact bodyPost_ret (results_tmp rfl _ _ _) rfl ⟨by show Ending.returned (Value.string (BA t++(⟨#[32,97,110,100,32]⟩:ByteArray)++BA u))=_;exact congrArg (fun x=>Ending.returned (Value.string x)) (cat3 t [32,97,110,100,32] u),hk3.below⟩
theorem cond_or {a c:Nat} {t u:Bytes} (wanted:Nat) (hw:wanted≤1) (hi:ns[i]?=some (node 12 [a,c])) (hn:NR w (.slice (some ⟨g,0,none⟩) ns.length cap) ns) (hp:PW w) (hl:t.length≤134144) (hl2:u.length≤134144)
 (rec:∀ W,NR W (.slice (some ⟨g,0,none⟩) ns.length cap) ns→PW W→Calls Tryz.prog 32 #[.agg #[.slice (some ⟨g,0,none⟩) ns.length cap],.int .i64 (a:Int),.int .i64 1] W (CondP W t))
 (rec2:∀ W,NR W (.slice (some ⟨g,0,none⟩) ns.length cap) ns→PW W→Calls Tryz.prog 32 #[.agg #[.slice (some ⟨g,0,none⟩) ns.length cap],.int .i64 (c:Int),.int .i64 2] W (CondP W u)) :
 Calls Tryz.prog 32 #[.agg #[.slice (some ⟨g,0,none⟩) ns.length cap],.int .i64 (i:Int),.int .i64 (wanted:Int)] w (CondP w (t++[32,111,114,32]++u)):=by
 obtain ⟨m,b,hm,hmk,hr,_,hml⟩:=nr_rangeP hn hi
 have hlt:i<ns.length:=(List.getElem?_eq_some_iff.1 hi).1
 simp only [maxLen] at hml
 have a0:(0:Int)≤(i:Int):=by omega
 have a1:(i:Int)<(ns.length:Int):=by omega
 have w0:decide ((1:Int)<(wanted:Int))=false:=decide_eq_false (by omega)
 have w1':¬ (1:Int)<(wanted:Int):=by omega
 have hone:=hmk.onesP
 have HR:=Lib.hid (range_kept (W':=boxed w (.slice (some ⟨g,0,none⟩) ns.length cap)) ((Below.refl _ _).alloc (Nat.le_refl _) _) hr)
 have hth:=CK.there w (.slice (some ⟨g,0,none⟩) ns.length cap)
 have ht1:=tight_any 12
 have HS:=Lib.hid (fun w4 h4=>CK.start (w4:=w4) hp hn hmk h4)
 have HM:=Lib.hid hm
 obtain ⟨gl,cl,hlv,hg0⟩:=rows_of (k:=0) (x:=a) hmk hm rfl
 obtain ⟨gl',cl',hlv',hg1⟩:=rows_of (k:=1) (x:=c) hmk hm rfl
 obtain rfl:gl=gl':=by
  rw [hlv] at hlv'
  injection hlv' with e1 _ _
  injection e1 with e1
  injection e1
 have hgk:∀ W',Below w.heap.size w W'→W'.cell? ⟨gl,0,none⟩=some (.int .i64 (a:Int))∧W'.cell? ⟨gl,1,none⟩=some (.int .i64 (c:Int)):=fun W' hb=>⟨keepc hb hg0,keepc hb hg1⟩
 have HG:=Lib.hid hgk
 have hlv:m.lv=.slice (some ⟨gl,0,none⟩) 2 cl:=hlv
 have HL:=Lib.hid hlv
 have HREC:=Lib.hid rec
 have HREC2:=Lib.hid rec2
 have ew:IntKind.i64.wrap 2=2:=by decide
 have ew2:IntKind.i64.wrap (1+1)=2:=by decide
 have v1:¬ 9223372036854775807<t.length+4:=by omega
 have v2:¬ 9223372036854775807<(BA t).size+(⟨#[32,111,114,32]⟩:ByteArray).size:=by rw [text_size];show ¬ _<t.length+4;omega
 have v3:¬ 9223372036854775807<t.length+4+u.length:=by omega
 have v4:¬ 9223372036854775807<(BA t++(⟨#[32,111,114,32]⟩:ByteArray)).size+(BA u).size:=by rw [ByteArray.size_append,text_size,text_size];show ¬ _<t.length+4+u.length;omega
 have v5:¬ 9223372036854775807<(BA t++(⟨#[32,111,114,32]⟩:ByteArray)).size+u.length:=by rw [ByteArray.size_append,text_size];show ¬ _<t.length+4+u.length;omega
 clear hi hn hp hm hmk hr hml rec rec2 hlv hg0 hgk hlv' hg1
 go_enter Tryz.func32,Tryz.ntmps32
 go_wp2_with (first
  | (refine wpList_load_mid (by rfl) 42 (.tmp 12) (by rfl) g (i*19) (by rfl) m.cells _ HR.out undNode (by rfl) sizeNode ?_)
  | (refine wpList_store_mid (by rfl) 42 (.tmp 7) (.tmp 13) (by rfl) (w.heap.size+1) 0 m.cells.toArray (by rfl) (by rfl) hth sizeNode hone ?_
     generalize hw4:World.setCells _ _ _ _=w4
     have hc:=HS.out w4 hw4
     have k0:=hc.c0 HM.out
     have x0:w4.cell? ⟨w.heap.size,0,none⟩=some (.slice (some ⟨g,0,none⟩) ns.length cap):=hc.box.cell 0
     have x6:w4.cell? ⟨w.heap.size+1,16,none⟩=some (.slice (some ⟨gl,0,none⟩) 2 cl):=hc.c6.trans (congrArg some HL.out)
     obtain ⟨x7,x8⟩:=HG.out w4 hc.below
     dsimp only [node] at k0
     have HC:=Lib.hid hc
     clear hw4 hth hone hc))
 refine (ht1 _).mono ?_
 rintro e w5 ⟨rfl,rfl⟩
 go_wp2_with fail
 have hk3:=HC.out.drew
 clear k0
 go_region_held3 (fun w'=>w'.cell? ⟨w.heap.size,0,none⟩=some (.slice (some ⟨g,0,none⟩) ns.length cap)∧w'.cell? ⟨w.heap.size+1,16,none⟩=some (.slice (some ⟨gl,0,none⟩) 2 cl)∧w'.cell? ⟨gl,0,none⟩=some (.int .i64 (a:Int))∧w'.cell? ⟨gl,1,none⟩=some (.int .i64 (c:Int)))
  (go_keep)
  (first | (go_at_call 32;(with_reducible refine (HREC.out _ (CK.nr (by assumption)) (CK.pw (by assumption))).mono ?_);rintro e w9 ⟨rfl,hb1⟩;have hk3:=CK.kept (by assumption) hb1;have x0:w9.cell? ⟨w.heap.size,0,none⟩=some (.slice (some ⟨g,0,none⟩) ns.length cap):=hk3.box.cell 0;have x6:w9.cell? ⟨w.heap.size+1,16,none⟩=some (.slice (some ⟨gl,0,none⟩) 2 cl):=hk3.c6.trans (congrArg some HL.out);obtain ⟨x7,x8⟩:=HG.out w9 hk3.below;clear hb1)
         | (go_at_call 32;(with_reducible refine (HREC2.out _ (CK.nr (by assumption)) (CK.pw (by assumption))).mono ?_);rintro e w9 ⟨rfl,hb1⟩;have hk3:=CK.kept (by assumption) hb1;have x0:w9.cell? ⟨w.heap.size,0,none⟩=some (.slice (some ⟨g,0,none⟩) ns.length cap):=hk3.box.cell 0;have x6:w9.cell? ⟨w.heap.size+1,16,none⟩=some (.slice (some ⟨gl,0,none⟩) 2 cl):=hk3.c6.trans (congrArg some HL.out);obtain ⟨x7,x8⟩:=HG.out w9 hk3.below;clear hb1))
 all_goals go_wp2_with fail
 all_goals exact bodyPost_ret (results_tmp rfl _ _ _) rfl ⟨by show Ending.returned (Value.string (BA t++(⟨#[32,111,114,32]⟩:ByteArray)++BA u))=_;exact congrArg (fun x=>Ending.returned (Value.string x)) (cat3 t [32,111,114,32] u),hk3.below⟩
end
end Go.Proofs.YtnaehhpikhlppaaGreatDoor
