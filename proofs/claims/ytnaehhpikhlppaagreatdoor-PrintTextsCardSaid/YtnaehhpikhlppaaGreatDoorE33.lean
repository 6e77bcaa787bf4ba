/- Several texts of the proof, joined. -/
import Derived.Test.YtnaehhpikhlppaaGreatDoorE31
import Derived.Test.YtnaehhpikhlppaaGreatDoorE32
import Derived.Deep.OwnRows
import Derived.Test.YtnaehhpikhlppaaGreatDoorE14
import Derived.Test.YtnaehhpikhlppaaGreatDoorE18
import Derived.Deep.CutBlock
set_option maxHeartbeats 4000000
set_option maxRecDepth 100000
set_option linter.unusedVariables false
set_option linter.unusedSimpArgs false
namespace Go.Proofs.YtnaehhpikhlppaaGreatDoor
open Go.RowKit LexS ParS BigFrame
theorem part_len {q:Qr} (h:QueryIn q) {a b c:Bytes} (e:q.textB=a++b++c):b.length≤134144:=by
 have:=h.len
 rw [e] at this
 simp only [List.length_append] at this
 omega
theorem rows_any (ns:List Nd) (g cap:Nat):∀ (q:Qr) (b:Nat),QueryIn q→At ns b (q.flat b)→WritesQ ns g cap (b+q.len-1) q.textB
 | .fetch s f t,b,h,ha=>by
   obtain ⟨hs,hft⟩:=h.inFetch
   intro w hn hp
   by_cases h0:f=0∧t=1099511627775
   ·obtain ⟨rfl,rfl⟩:=h0
    have e:Qr.textB (.fetch s 0 1099511627775)=[102,101,116,99,104,32]++s:=by
     unfold Qr.textB
     rw [if_pos ⟨rfl,rfl⟩,List.append_nil]
    rw [e]
    exact rows_all ha.one hn hp hs
   ·have e:Qr.textB (.fetch s f t)=[102,101,116,99,104,32]++s++([32,102,114,111,109,32]++Lib.itoa f++[32,116,111,32]++Lib.itoa t):=by
     unfold Qr.textB
     rw [if_neg h0]
    rw [e]
    by_cases hf:f=0
    ·subst hf
     have ht:t≠1099511627775:=fun e=>h0 ⟨rfl,e⟩
     obtain ⟨_,_,h3,h4⟩:=hft (.inr ht)
     exact rows_to ht ha.one hn hp hs h3 h4
    ·obtain ⟨h1,h2,h3,h4⟩:=hft (.inl hf)
     exact rows_from hf ha.one hn hp hs h1 h2 h3 h4
 | .where_ q c,b,h,ha=>by
   obtain ⟨h1,h2⟩:=h.inWhere
   have ih1:=rows_any ns g cap q b h1 ha.left.left
   have ha2:=ha.left.right
   rw [Qr.flat_len] at ha2
   have ih2:=cond_any ns g cap c (b+q.len) 0 h2 (by omega) ha2
   have hi:=ha.right.one
   rw [List.length_append,Qr.flat_len,Cd.flat_len,← Nat.add_assoc] at hi
   have e:b+Qr.len (.where_ q c)-1=b+q.len+c.len:=by show b+(q.len+c.len+1)-1=_;omega
   rw [e]
   exact rows_where hi h1.len h2.len ih1 ih2
 | .keep q l,b,h,ha=>by
   obtain ⟨h1,h2,_,_⟩:=h.inKeep
   have ih:=rows_any ns g cap q b h1 ha.left
   have hi:=ha.right.one
   rw [Qr.flat_len] at hi
   have e:b+Qr.len (.keep q l)-1=b+q.len:=by show b+(q.len+1)-1=_;omega
   rw [e]
   exact rows_keep hi h1.len (part_len h (a:=q.textB++[32,124,32]++[107,101,101,112,32]) (c:=[]) (by simp [Qr.textB])) ih
 | .align q n,b,h,ha=>by
   obtain ⟨h1,h2,h3⟩:=h.inAlign
   have ih:=rows_any ns g cap q b h1 ha.left
   have hi:=ha.right.one
   rw [Qr.flat_len] at hi
   have e:b+Qr.len (.align q n)-1=b+q.len:=by show b+(q.len+1)-1=_;omega
   rw [e]
   exact rows_align hi h1.len h2 h3 ih
 | .group q l gs,b,h,ha=>by
   obtain ⟨h1,_,_,_,h4,h5⟩:=h.inGroup
   have ih:=rows_any ns g cap q b h1 ha.left
   have hi:=ha.right.one
   rw [Qr.flat_len] at hi
   have e:b+Qr.len (.group q l gs)-1=b+q.len:=by show b+(q.len+1)-1=_;omega
   rw [e]
   have hg3:(sepB (gs.map aggB)).length≤134144:=part_len h (a:=q.textB++[32,124,32]++[103,114,111,117,112,32]++(if l=[] then [] else sepB l++[32])++[58,32]) (c:=[]) (by simp [Qr.textB])
   by_cases hl:l=[]
   ·have et:Qr.textB (.group q l gs)=q.textB++[32,124,32]++[103,114,111,117,112,32]++[58,32]++sepB (gs.map aggB):=by
     rw [Qr.textB,if_pos hl,List.append_nil]
    rw [et]
    exact rows_group0 hl hi h1.len (by rw [hl];exact Nat.zero_le _) hg3 h4 h5 ih
   ·have et:Qr.textB (.group q l gs)=q.textB++[32,124,32]++[103,114,111,117,112,32]++(sepB l++[32])++[58,32]++sepB (gs.map aggB):=by
     rw [Qr.textB,if_neg hl]
    rw [et]
    exact rows_groupN hl hi h1.len (part_len h (a:=q.textB++[32,124,32]++[103,114,111,117,112,32]) (c:=[32]++[58,32]++sepB (gs.map aggB)) (by rw [et];simp)) hg3 h4 h5 ih
 | .top q n s,b,h,ha=>by
   obtain ⟨h1,h2,h3,h4⟩:=h.inTop
   have ih:=rows_any ns g cap q b h1 ha.left
   have hi:=ha.right.one
   rw [Qr.flat_len] at hi
   have e:b+Qr.len (.top q n s)-1=b+q.len:=by show b+(q.len+1)-1=_;omega
   rw [e]
   exact rows_top hi h1.len h2 h3 h4 ih
 | .join q r,b,h,ha=>by
   obtain ⟨h1,h2⟩:=h.inJoin
   have ih1:=rows_any ns g cap q b h1 ha.left.left
   have ha2:=ha.left.right
   rw [Qr.flat_len] at ha2
   have ih2:=rows_any ns g cap r (b+q.len) h2 ha2
   have hi:=ha.right.one
   rw [List.length_append,Qr.flat_len,Qr.flat_len,← Nat.add_assoc] at hi
   have e:b+Qr.len (.join q r)-1=b+q.len+r.len:=by show b+(q.len+r.len+1)-1=_;omega
   rw [e]
   exact rows_join hi h1.len h2.len ih1 ih2
 | .union q r,b,h,ha=>by
   obtain ⟨h1,h2⟩:=h.inUnion
   have ih1:=rows_any ns g cap q b h1 ha.left.left
   have ha2:=ha.left.right
   rw [Qr.flat_len] at ha2
   have ih2:=rows_any ns g cap r (b+q.len) h2 ha2
   have hi:=ha.right.one
   rw [List.length_append,Qr.flat_len,Qr.flat_len,← Nat.add_assoc] at hi
   have e:b+Qr.len (.union q r)-1=b+q.len+r.len:=by show b+(q.len+r.len+1)-1=_;omega
   rw [e]
   exact rows_union hi h1.len h2.len ih1 ih2
end Go.Proofs.YtnaehhpikhlppaaGreatDoor

namespace Go.Proofs.YtnaehhpikhlppaaGreatDoor
open Go.RowKit LexS ParS BigFrame
structure TC (w:World) (ns:List Nd) (sl:Value) (L:List Nat) (wr:World):Prop where
 below:Below w.heap.size w wr
 box:Blk wr w.heap.size 25 #[sl]
 row:wr.rowIs (w.heap.size+1) 3 ns.length (fun c=>.int .i64 ((L.count c:Nat):Int))
theorem TC.more {w:World} {ns:List Nd} {sl:Value} {L:List Nat} {wr:World} (h:TC w ns sl L wr) (c:Nat):TC w ns sl (L++[c]) (wr.setCell ⟨w.heap.size+1,c,none⟩ (.int .i64 ((L.count c:Nat)+1:Int))):=by
 refine ⟨h.below.setCell (p:=⟨w.heap.size+1,c,none⟩) (Nat.le_succ _) _,h.box.far (show w.heap.size≠w.heap.size+1 by omega) _,(h.row.set c _).congr fun i _=>?_⟩
 rw [List.count_append,count_one']
 by_cases hi:i=c
 ·subst hi
  simp
 ·rw [if_neg hi,if_neg (fun e=>hi e.symm)]
  simp
theorem TC.kept {w:World} {ns:List Nd} {sl:Value} {L:List Nat} {wr wq:World} (h:TC w ns sl L wr) (hb:Below wr.heap.size wr wq):TC w ns sl L wq :=
 ⟨chain h.below hb,h.box.kept hb,h.row.of_block (hb.block _ h.row.lt)⟩
theorem tnamed_next {ns:List Nd} {i:Nat} {nd:Nd} (h:ns[i]?=some nd):named (ns.take (i+1))=named (ns.take i)++nd.l:=by
 rw [List.take_add_one,h,named_app]
 simp [named]
theorem tnamed_part {ns:List Nd} {i:Nat} {nd:Nd} (h:ns[i]?=some nd) (k c:Nat):(named (ns.take i)++nd.l.take k).count c≤(named ns).count c:=by
 have h1:(named (ns.take (i+1))).count c≤(named ns).count c:=by
  have:named ns=named (ns.take (i+1))++named (ns.drop (i+1)):=by rw [← named_app,List.take_append_drop]
  rw [this,List.count_append]
  omega
 rw [tnamed_next h,List.count_append] at h1
 rw [List.count_append]
 have h2:nd.l.count c=(nd.l.take k).count c+(nd.l.drop k).count c:=by rw [← List.count_append,List.take_append_drop]
 omega
theorem tnamed_new {ns:List Nd} (ht:Tree 0 ns) {i k x:Nat} {nd:Nd} (h:ns[i]?=some nd) (hx:nd.l[k]?=some x):(named (ns.take i)++nd.l.take k).count x=0:=by
 have h1:=tnamed_part h (k+1) x
 rw [ht.once,List.take_add_one,hx,← List.append_assoc,List.count_append] at h1
 have h2:(Option.toList (some x)).count x=1:=by simp
 rw [h2] at h1
 split at h1<;>omega
structure Good (q:Qr) (ns:List Nd):Prop where
 flat:ns=q.flat 0
 qin:QueryIn q
 tree:Tree 0 ns
 fits:Fits 0 ns
 few:ns.length≤128
 last:∃ c,ns[ns.length-1]?=some c∧¬ 11≤c.kind
theorem text_good {q:Qr} {ns:List Nd} (hq:Good q ns) {g cap:Nat} (w:World) (hn:NR w (.slice (some ⟨g,0,none⟩) ns.length cap) ns) (hp:PW w) :
 Calls Tryz.prog 24 #[.agg #[.slice (some ⟨g,0,none⟩) ns.length cap]] w fun e w'=>e=.returned (.tuple #[.string (BA q.textB),.bool true])∧Below w.heap.size w w':=by
 obtain ⟨sl,hsl⟩:∃ sl,sl=Value.slice (some ⟨g,0,none⟩) ns.length cap:=⟨_,rfl⟩
 obtain ⟨W,hW⟩:∃ W,W=w.alloc (.cells #[.slice (some ⟨g,0,none⟩) ns.length cap] 25):=⟨_,rfl⟩
 have hbW:Below w.heap.size w W:=by rw [hW];exact (Below.refl _ _).alloc (Nat.le_refl _) _
 have x0:Blk W w.heap.size 25 #[.slice (some ⟨g,0,none⟩) ns.length cap]:=by rw [hW];exact Blk.new w _ _
 have c0:W.cell? ⟨w.heap.size,0,none⟩=some (.slice (some ⟨g,0,none⟩) ns.length cap):=x0.cell 0
 have hszW:W.heap.size=w.heap.size+1:=by rw [hW];exact World.size_alloc _ _
 have HW:=Lib.hid hW
 have HRW:=Lib.hid (show ∀ (K:World→Prop),K W→K (w.alloc (.cells #[.slice (some ⟨g,0,none⟩) ns.length cap] 25)) from fun K h=>by rw [← HW.out];exact h)
 have HQ:=Lib.hid hq
 have h128:=hq.few
 have hpos:0<ns.length:=List.length_pos_iff.2 hq.tree.ne
 have HN:=Lib.hid hn
 have HP:=Lib.hid hp
 have h1:¬ (ns.length:Int)<1:=by omega
 have h1':decide ((ns.length:Int)<1)=false:=decide_eq_false h1
 have h2:¬ (128:Int)<(ns.length:Int):=by omega
 have h2':decide ((128:Int)<(ns.length:Int))=false:=decide_eq_false h2
 have hmk:=run_make_row' (P:=Tryz.prog) 38 3 (.int .i64 0) 8 (by kernel_rfl) infoInt rfl .i64 .i64 ns.length (by omega) (by omega)
 have M0:=Lib.hid (show TC w ns (.slice (some ⟨g,0,none⟩) ns.length cap) (named (ns.take 0)) (W.alloc (.cells (madeCells #[.int .i64 0] ns.length) 3)) from
  ⟨hbW.trans ((Below.refl _ _).alloc (by omega) _),x0.kept ((Below.refl _ _).alloc (Nat.le_refl _) _),by rw [← hszW];exact (World.rowIs_made W (.int .i64 0) ns.length 3).congr fun i _=>by simp [named]⟩)
 clear hW hn hp hq hsl
 go_enter Tryz.func24,Tryz.ntmps24
 go_upto_region 1 with fail
 refine HRW.out _ ?_
 go_wp2_with fail
 go_loopg [27] (ns.length+1) (fun gk c wr => ∃ i:Nat,i≤ns.length∧ns.length<i+gk∧c=.int .i64 (i:Int)∧TC w ns (.slice (some ⟨g,0,none⟩) ns.length cap) (named (ns.take i)) wr)
 case atStart=>exact ⟨0,Nat.zero_le _,by omega,rfl,M0.out⟩
 case round =>
  obtain ⟨i,hi,hgk,rfl,hck⟩:=hrel
  have HCK:=Lib.hid hck
  clear hck M0 c0
  have c0:wr.cell? ⟨w.heap.size,0,none⟩=some (.slice (some ⟨g,0,none⟩) ns.length cap):=HCK.out.box.cell 0
  have w1_:IntKind.i64.wrap ((i:Int)+1)=(i:Int)+1:=IntWalk.i64_in _ (by omega)
  have n2:(0:Int)≤(i:Int):=by omega
  by_cases hlt:i<ns.length
  ·obtain ⟨nd,hnd⟩:∃ nd,ns[i]?=some nd:=⟨ns[i],List.getElem?_eq_getElem hlt⟩
   obtain ⟨m,b,hm,hmk2,hr,_,_⟩:=nr_rangeP HN.out hnd
   obtain ⟨nb,hnb⟩:∃ nb,wr.heap.size=nb:=⟨_,rfl⟩
   have hone:=hmk2.onesP
   have hth:=nd_there wr
   have HR:=Lib.hid (range_kept HCK.out.below hr)
   have HMK:=Lib.hid hmk2
   have HND:=Lib.hid hnd
   have HST:=Lib.hid (fun w4 h4=>nd_stored (w3:=wr) (w4:=w4) (m:=m) h4)
   have HFIT:=Lib.hid (HQ.out.fits i nd hnd)
   have HIN:=Lib.hid (HQ.out.qin.nds 0 nd (by rw [← HQ.out.flat];exact List.mem_of_getElem? hnd))
   have HSH:=Lib.hid (show ∀ w4,Below w.heap.size w w4→Calls Tryz.prog 44 #[.int .i64 (i:Int),.agg m.cells.toArray] w4 fun e W'=>e=.returned (.bool true)∧Below w4.heap.size w4 W' from fun w4 hb=>shaped_any (HMK.out.kept hb) (by rw [hm];exact HFIT.out) (by rw [hm];exact HIN.out) (by omega) (HP.out.gw.kept hb))
   have n1:(i:Int)<(ns.length:Int):=by omega
   have n3:decide ((i:Int)<(ns.length:Int))=true:=decide_eq_true n1
   obtain ⟨pl,cl,hlv,_,hl2,hl3⟩:=row_cells hmk2.l
   rw [hm] at hlv hl2 hl3
   simp only [maxLen] at hl2
   have HLV:=Lib.hid hlv
   have HL3:=Lib.hid (show ∀ W',Below w.heap.size w W'→∀ (k x:Nat),nd.l[k]?=some x→∃ q,pl=some ⟨q,0,none⟩∧W'.cell? ⟨q,k,none⟩=some (.int .i64 (x:Int)) from fun W' hb k x hx=>by
    obtain ⟨q,hq,hc⟩:=hl3 (by have:=(List.getElem?_eq_some_iff.1 hx).1;omega)
    exact ⟨q,hq,keepc hb (hc k _ (intsL_get hx))⟩)
   have HM:=Lib.hid hm
   have hnb2:w.heap.size+1<nb:=by rw [← hnb];exact HCK.out.row.lt
   have HNB:=Lib.hid hnb
   clear hr hmk2 hnd hlv hl3 hm hnb
   go_wp2_with (first
    | (refine wpList_load_mid (by rfl) 42 (.tmp 30) (by rfl) g (i*19) (by rfl) m.cells _ HR.out undNode (by rfl) sizeNode ?_)
    | (refine wpList_store_mid (by rfl) 42 (.tmp 6) (.tmp 31) (by rfl) wr.heap.size 0 m.cells.toArray (by rfl) (by rfl) hth sizeNode hone ?_
       generalize hw4:World.setCells _ _ _ _=w4
       obtain ⟨hb4,hk4⟩:=HST.out w4 hw4
       have HB4:=Lib.hid hb4
       have HK4:=Lib.hid hk4
       have HRR:=Lib.hid (box_range hk4)
       clear hw4 hb4 hk4 hth hone c0)
    | (refine wpList_load_mid (by rfl) 42 (.tmp 6) (by rfl) wr.heap.size 0 (by rfl) m.cells _ HRR.out undNode (by rfl) sizeNode ?_))
   refine (HSH.out _ (chain HCK.out.below HB4.out)).mono ?_
   rintro e w5 ⟨rfl,hb5⟩
   have HB5:=Lib.hid (chain HB4.out hb5)
   have HK5:=Lib.hid (HK4.out.kept hb5)
   clear hb5
   rw [HNB.out] at HK5 ⊢
   have x16:w5.cell? ⟨nb,16,none⟩=some (.slice pl nd.l.length cl):=(HK5.out.cell 16).trans (congrArg some HLV.out)
   go_wp2_with fail
   go_loopg [39] (nd.l.length+1) (fun gk c wq => ∃ k:Nat,k≤nd.l.length∧nd.l.length<k+gk∧c=.int .i64 (k:Int)∧TC w ns (.slice (some ⟨g,0,none⟩) ns.length cap) (named (ns.take i)++nd.l.take k) wq∧Blk wq nb 42 m.cells.toArray)
   case atStart=>exact ⟨0,Nat.zero_le _,by omega,rfl,by rw [List.take_zero,List.append_nil];exact HCK.out.kept HB5.out,HK5.out⟩
   case round =>
    obtain ⟨k,hk,hgk2,rfl,htc,hbk⟩:=hrel
    have HTC:=Lib.hid htc
    have HBK:=Lib.hid hbk
    have m2:(0:Int)≤(k:Int):=by omega
    clear htc hbk x16
    by_cases hlt2:k<nd.l.length
    ·have w2_:IntKind.i64.wrap ((k:Int)+1)=(k:Int)+1:=IntWalk.i64_in _ (by omega)
     obtain ⟨x,hx⟩:∃ x,nd.l[k]?=some x:=⟨nd.l[k],List.getElem?_eq_getElem hlt2⟩
     obtain ⟨q2,rfl,l2⟩:=HL3.out _ HTC.out.below k x hx
     obtain ⟨_,hxi,ndx,hndx,hkx⟩:=HFIT.out.below k x hx
     rw [Nat.zero_add] at hxi
     rw [Nat.sub_zero] at hndx
     have cc:=HTC.out.row.cell (i:=x) (by omega)
     rw [tnamed_new HQ.out.tree HND.out hx] at cc
     have cc:wr.cell? ⟨w.heap.size+1,x,none⟩=some (.int .i64 0):=cc
     have fc:=HTC.out.row.frozen x
     have km:=HTC.out.more x
     rw [tnamed_new HQ.out.tree HND.out hx,List.append_assoc,show nd.l.take k++[x]=nd.l.take (k+1) by rw [List.take_add_one,hx];rfl] at km
     have hzc:(wr.setCell ⟨w.heap.size+1,x,none⟩ (.int .i64 1)).cell? ⟨w.heap.size+1,x,none⟩=some (.int .i64 1):=by
      have:=(HTC.out.row.set x (.int .i64 1)).cell (i:=x) (by omega)
      simpa using this
     have HZ:=Lib.hid (show ∀ wz,wr.setCell ⟨w.heap.size+1,x,none⟩ (.int .i64 1)=wz→TC w ns (.slice (some ⟨g,0,none⟩) ns.length cap) (named (ns.take i)++nd.l.take (k+1)) wz∧Blk wz nb 42 m.cells.toArray∧wz.cell? ⟨w.heap.size+1,x,none⟩=some (.int .i64 1) from by
      rintro wz rfl
      exact ⟨km,HBK.out.far (show nb≠w.heap.size+1 by omega) _,hzc⟩)
     have l16:wr.cell? ⟨nb,16,none⟩=some (.slice (some ⟨q2,0,none⟩) nd.l.length cl):=(HBK.out.cell 16).trans (congrArg some HLV.out)
     have m1:(k:Int)<(nd.l.length:Int):=by omega
     have m3:decide ((k:Int)<(nd.l.length:Int))=true:=decide_eq_true m1
     have m6:(x:Int)<(ns.length:Int):=by omega
     have m7:(0:Int)≤(x:Int):=by omega
     clear km hzc hx
     go_upto_region 13 with fail
     generalize hwz:World.setCell _ _ _=wz
     obtain ⟨hz1,hz2,hz3⟩:=HZ.out wz hwz
     have HZ1:=Lib.hid hz1
     have HZ2:=Lib.hid hz2
     obtain ⟨mx,bx,hmx,_,hrx,_,_⟩:=nr_rangeP (HN.out.stayP hz1.below) hndx
     have gx:wz.cell? ⟨g,x*19,none⟩=some (.int .i64 (ndx.kind:Int)):=by
      have:=hrx 0 (.int .i64 (ndx.kind:Int)) (by rw [← hmx];rfl)
      rwa [Nat.add_zero] at this
     have z0:wz.cell? ⟨nb,0,none⟩=some (.int .i64 (nd.kind:Int)):=by rw [← HM.out];exact hz2.cell 0
     have zq:wz.cell? ⟨w.heap.size,0,none⟩=some (.slice (some ⟨g,0,none⟩) ns.length cap):=hz1.box.cell 0
     clear hwz hz1 hz2 hrx hmx l2 cc fc l16 hndx
     have hkd:=HFIT.out.kd
     have hlen:=HFIT.out.len
     unfold known at hkd
     rcases Nat.lt_or_ge nd.kind 11 with hk11 | hk11
     ·have p1:¬ (11:Int)≤(nd.kind:Int):=by omega
      have p1':decide ((11:Int)≤(nd.kind:Int))=false:=decide_eq_false p1
      by_cases hk2:nd.kind=2
      ·rw [hk2] at hkx hlen
       have e1:rowsOf 2=1:=rfl
       have e2:condsOf 2=1:=rfl
       rw [e1] at hkx
       have p2:((nd.kind:Int) == 2)=true:=by rw [hk2];rfl
       by_cases hk1:k=1
       ·have p3:((k:Int) == 1)=true:=by rw [hk1];rfl
        have q1:(11:Int)≤(ndx.kind:Int):=by have:=hkx.1 (by omega);omega
        have q1':decide ((11:Int)≤(ndx.kind:Int))=true:=decide_eq_true q1
        clear hkx hlen hkd hk2 e1 e2 hk11 hk1
        go_wp2_with fail
        go_roundg (nd.l.length-k)
        case measure=>omega
        case rel=>exact ⟨k+1,by omega,by omega,rfl,HZ1.out,HZ2.out⟩
       ·have p3:((k:Int) == 1)=false:=by rw [beq_eq_false_iff_ne];omega
        have q1:¬ (11:Int)≤(ndx.kind:Int):=fun h=>by have:=hkx.2 (by omega);omega
        have q1':decide ((11:Int)≤(ndx.kind:Int))=false:=decide_eq_false q1
        clear hkx hlen hkd hk2 e1 e2 hk11 hk1
        go_wp2_with fail
        go_roundg (nd.l.length-k)
        case measure=>omega
        case rel=>exact ⟨k+1,by omega,by omega,rfl,HZ1.out,HZ2.out⟩
      ·have p2:((nd.kind:Int) == 2)=false:=by rw [beq_eq_false_iff_ne];omega
       have e2:condsOf nd.kind=0:=by unfold condsOf;rw [if_neg (by omega),if_neg (by omega)]
       have q1:¬ (11:Int)≤(ndx.kind:Int):=fun h=>by have:=hkx.2 (by omega);omega
       have q1':decide ((11:Int)≤(ndx.kind:Int))=false:=decide_eq_false q1
       clear hkx hlen hkd hk2 e2 hk11
       go_wp2_with fail
       go_roundg (nd.l.length-k)
       case measure=>omega
       case rel=>exact ⟨k+1,by omega,by omega,rfl,HZ1.out,HZ2.out⟩
     ·have p1:(11:Int)≤(nd.kind:Int):=by omega
      have p1':decide ((11:Int)≤(nd.kind:Int))=true:=decide_eq_true p1
      have e1:rowsOf nd.kind=0:=by unfold rowsOf;rw [if_neg (by omega),if_neg (by omega)]
      have q1:(11:Int)≤(ndx.kind:Int):=by have:=hkx.1 (by omega);omega
      have q1':decide ((11:Int)≤(ndx.kind:Int))=true:=decide_eq_true q1
      clear hkx hlen hkd e1 hk11
      go_wp2_with fail
      go_roundg (nd.l.length-k)
      case measure=>omega
      case rel=>exact ⟨k+1,by omega,by omega,rfl,HZ1.out,HZ2.out⟩
    ·have hkl:k=nd.l.length:=by omega
     have KM:=Lib.hid (show TC w ns (.slice (some ⟨g,0,none⟩) ns.length cap) (named (ns.take (i+1))) wr from by have:=HTC.out;rwa [hkl,List.take_length,← tnamed_next HND.out] at this)
     have m1:¬ (k:Int)<(nd.l.length:Int):=by omega
     have m3:decide ((k:Int)<(nd.l.length:Int))=false:=decide_eq_false m1
     clear hkl
     go_wp2_with fail
     go_roundg (ns.length-i)
     case measure=>omega
     case rel=>exact ⟨i+1,by omega,by omega,rfl,KM.out⟩
  ·have n1:¬ (i:Int)<(ns.length:Int):=by omega
   have n3:decide ((i:Int)<(ns.length:Int))=false:=decide_eq_false n1
   obtain ⟨c,hc,hck⟩:=HQ.out.last
   obtain ⟨mx,bx,hmx,_,hrx,_,_⟩:=nr_rangeP (HN.out.stayP HCK.out.below) hc
   obtain ⟨L,hL⟩:∃ L,ns.length=L+1:=⟨ns.length-1,by omega⟩
   have gx:wr.cell? ⟨g,L*19,none⟩=some (.int .i64 (c.kind:Int)):=by
    have:=hrx 0 (.int .i64 (c.kind:Int)) (by rw [← hmx];rfl)
    rwa [Nat.add_zero,show ns.length-1=L by omega] at this
   have p1:¬ (11:Int)≤(c.kind:Int):=by omega
   have p1':decide ((11:Int)≤(c.kind:Int))=false:=decide_eq_false p1
   have w2_:IntKind.i64.wrap ((ns.length:Int)-1)=(L:Int):=by rw [IntWalk.i64_in _ (by omega)];omega
   have p3:(0:Int)≤(L:Int):=by omega
   have p4:(L:Int)<(ns.length:Int):=by omega
   have hrow:=rows_any ns g cap q 0 HQ.out.qin (fun j nd h=>by rw [HQ.out.flat,Nat.zero_add];exact h) wr (HN.out.stayP HCK.out.below) (HP.out.kept HCK.out.below)
   have hql:0+q.len-1=L:=by
    have:=q.flat_len 0
    rw [← HQ.out.flat] at this
    omega
   rw [hql] at hrow
   have HROW:=Lib.hid hrow
   clear hrow hql hrx hmx hc hck hL
   go_wp2_with fail
   refine HROW.out.mono ?_
   rintro e w6 ⟨rfl,hb6⟩
   have HB6:=Lib.hid (chain HCK.out.below hb6)
   clear hb6
   go_wp2_with fail
   exact bodyPost_ret (v:=.tuple #[.string (BA q.textB),.bool true]) (by simp [results,Tryz.results24,go_sem]) rfl ⟨rfl,HB6.out⟩
end Go.Proofs.YtnaehhpikhlppaaGreatDoor

namespace Go.Proofs.YtnaehhpikhlppaaGreatDoor
open Go.RowKit LexS ParS BigFrame
namespace ParS
theorem cut_nil (b:Bool):cutGo b []=0:=by cases b<;>rfl
theorem cutF_blank {c:UInt8} {r:Bytes} (h:c.toNat=32):cutGo false (c::r)=0:=by rw [cutGo,if_pos h]
theorem cutF_quote {c:UInt8} {r:Bytes} (h:c.toNat=34):cutGo false (c::r)=cutGo true r+1:=by rw [cutGo,if_neg (by omega),if_pos h]
theorem cutF_else {c:UInt8} {r:Bytes} (h1:c.toNat≠32) (h2:c.toNat≠34):cutGo false (c::r)=cutGo false r+1:=by rw [cutGo,if_neg h1,if_neg h2]
theorem cutT_one (c:UInt8):cutGo true [c]=if c.toNat=92 then 2 else 1:=by rw [cutGo]
theorem cutT_esc {c:UInt8} {r:Bytes} (h:c.toNat=92):cutGo true (c::r)=cutGo true (r.drop 1)+2:=by
 cases r with
 | nil=>rw [cutT_one,if_pos h];rfl
 | cons d r=>rw [cut_true_cons,if_pos h];rfl
theorem cutT_quote {c:UInt8} {r:Bytes} (h:c.toNat=34):cutGo true (c::r)=cutGo false r+1:=by
 cases r with
 | nil=>rw [cutT_one,if_neg (by omega)];rfl
 | cons d r=>rw [cut_true_cons,if_neg (by omega),if_pos h]
theorem cutT_else {c:UInt8} {r:Bytes} (h1:c.toNat≠92) (h2:c.toNat≠34):cutGo true (c::r)=cutGo true r+1:=by
 cases r with
 | nil=>rw [cutT_one,if_neg h1];rfl
 | cons d r=>rw [cut_true_cons,if_neg h1,if_neg h2]
theorem left_len:∀ (p:Tk) (r:List Tk),(leftR p r).length≤r.length
 | _,[]=>Nat.le_refl _
 | p,t::r=>by
   have:=left_len t r
   unfold leftR
   split
   ·simp;omega
   ·exact Nat.le_refl _
theorem trim_rest (l:List Tk):Lib.trimPrefix (restT l) [32]=spell l:=by
 cases l with
 | nil=>rfl
 | cons t l =>
   rw [restT_cons]
   unfold Lib.trimPrefix Lib.hasPrefix
   simp
end ParS
theorem toksL_cat (a b:List Tok):toksL (a++b)=toksL a++toksL b:=by simp [toksL]
theorem toksL_ones (l:List Tok):∀ u∈toksL l,u.oneCell'=true:=by
 intro u hu
 obtain ⟨t,_,hu⟩:=List.mem_flatMap.1 hu
 simp only [tokA,List.mem_cons,List.not_mem_nil,or_false] at hu
 rcases hu with rfl | rfl | rfl | rfl<;>rfl
def TokRel (w:World) (l:List Tk) (a0 a3:Value) (done:List Tok) (rest:List Tk) (wr:World):Prop :=
 a0=.string (BA (spell rest))∧l=done.map tk++rest∧wr.ownsRow w.heap.size 65 4 a3 done.length (toksL done)∧Below w.heap.size w wr
def TokP (l:List Tk) (w:World) (e:Ending) (w':World):Prop := ∃ v xs,e=.returned v∧xs.map tk=l∧w'.ownsRow w.heap.size 65 4 v xs.length (toksL xs)∧Below w.heap.size w w'
theorem tokens_any {l:List Tk} (h:∀ t∈l,LexT t) (hn:l.length≤1024) (w:World) (hg:GW w) :
 Calls Tryz.prog 28 #[.string (BA (spell l))] w (TokP l w):=by
 have HL:=Lib.hid h
 have HG:=Lib.hid hg
 clear h hg
 go_enter Tryz.func28,Tryz.ntmps28
 go_wp2_with fail
 go_loopg [0,3] (l.length+1) (fun gk a0 a3 wr => ∃ (done:List Tok) (rest:List Tk),rest.length<gk∧TokRel w l a0 a3 done rest wr)
 case atStart=>exact ⟨[],l,by omega,rfl,rfl,World.ownsRow_nil _ _ _ _,Below.refl _ _⟩
 case round =>
  obtain ⟨done,rest,hgk,rfl,hl,ho,hb⟩:=hrel
  cases rest with
  | nil =>
    have e0:spell []=[]:=rfl
    rw [e0]
    go_wp2_with fail
    exact bodyPost_ret (results_tmp rfl _ _ _) rfl ⟨u3,done,rfl,by rw [hl];simp,ho,hb⟩
  | cons p r =>
    have hsub:∀ t∈p::r,LexT t:=fun t ht=>HL.out t (by rw [hl];exact List.mem_append_right _ ht)
    have hlen:done.length+(r.length+1)=l.length:=by rw [hl];simp
    obtain ⟨one,xs,q1,q2,q3,q4,q5,q6⟩:=piece_at hsub (by rw [List.length_cons];omega)
    have hsp:=spell_len hsub
    rw [List.length_cons] at hsp
    have hxl:xs.length≤1+r.length:=by
     have e1:=congrArg List.length q6
     have e2:=congrArg List.length (join_left p r)
     rw [List.length_map,List.length_cons] at e1
     rw [List.length_append] at e2
     omega
    have hxne:xs ≠ []:=by
     rintro rfl
     cases q6
    obtain ⟨s,hs⟩:∃ s:ByteArray,s=BA (spell (p::r)):=⟨_,rfl⟩
    have hsl:s.data.toList=spell (p::r):=by rw [hs]
    have hss:s.size=(spell (p::r)).length:=by rw [hs];exact text_size _
    have hone:one.length≤s.size:=by rw [hss,q1,List.length_append];omega
    rw [← hs]
    have n2:s≠(⟨#[]⟩:ByteArray):=fun e=>by rw [e] at hone;have:(⟨#[]⟩:ByteArray).size=0:=rfl;omega
    have n1:s.toList.isEmpty=false:=by
     rw [← decide_eq_emptyBytes]
     exact decide_eq_false n2
    clear n2
    rw [← hsl] at q2
    have hx1:(s.extract 0 one.length).data.toList=one:=by
     rw [list_cut,hsl,q1,List.take_left,List.drop_zero]
    have hx2:(s.extract one.length s.size).data.toList=restT (leftR p r):=by
     rw [list_cut,hsl,hss,List.take_length,q1,List.drop_left]
    obtain ⟨n,hnn⟩:∃ n,n=one.length:=⟨_,rfl⟩
    have HNN:=Lib.hid hnn
    have Q1:=Lib.hid q1
    have Q2:=Lib.hid q2
    have Q5:=Lib.hid q5
    have Q6:=Lib.hid q6
    have HX1:=Lib.hid hx1
    have HX2:=Lib.hid hx2
    have HO:=Lib.hid ho
    have HB:=Lib.hid hb
    have HLL:=Lib.hid hl
    rw [← hnn] at hone q3 q4
    have z1:s.size≤200000:=by omega
    clear q1 q2 q5 q6 hx1 hx2 ho hb hl hs hsl hss hsub hsp hnn
    go_upto_block 2 with (fail)
    go_cut [4] (fun s4 wx=>s4=.int .i64 (n:Int)∧wx=wr)
    case first =>
     go_wp2_with fail
     go_loopg [4,5] (s.size+1) (fun gk a4 a5 wr2 => ∃ (i:Nat) (b:Bool),s.size<i+gk∧a4=.int .i64 (i:Int)∧a5=.bool b∧i+cutGo b (s.data.toList.drop i)=n∧wr2=wr)
     case atStart=>exact ⟨0,false,by omega,rfl,rfl,by rw [List.drop_zero,Q2.out,HNN.out,Nat.zero_add],rfl⟩
     case round =>
      obtain ⟨i,b,hgk2,rfl,rfl,hcut,rfl⟩:=hrel
      match hd:s.data.toList.drop i with
      | [] =>
        have he:=at_end hd
        rw [hd,cut_nil] at hcut
        have k0:¬ (i:Int)<(s.size:Int):=by omega
        have k1:decide ((i:Int)<(s.size:Int))=false:=decide_eq_false k0
        clear hd
        go_wp2_with fail
        go_meet
        exact ⟨by rw [← hcut,Nat.add_zero],rfl⟩
      | c::r2 =>
        obtain ⟨hlt,hc,hr2⟩:=byte_at hd
        rw [hd] at hcut
        have k0:(i:Int)<(s.size:Int):=by omega
        have k1:decide ((i:Int)<(s.size:Int))=true:=decide_eq_true k0
        have k2:(0:Int)≤(i:Int):=by omega
        have v1:IntKind.i64.wrap ((i:Int)+1)=(i:Int)+1:=IntWalk.i64_in _ (by omega)
        have v2:IntKind.i64.wrap ((i:Int)+1+1)=(i:Int)+1+1:=IntWalk.i64_in _ (by omega)
        have R2:=Lib.hid hr2
        clear hd hr2
        cases b with
        | false =>
          by_cases h32:c.toNat=32
          ·rw [cutF_blank h32] at hcut
           have g1:((c.toNat:Int) != 32)=false:=by rw [h32];rfl
           clear h32
           go_wp2_with fail
           go_meet
           exact ⟨by rw [← hcut,Nat.add_zero],rfl⟩
          ·have g1:((c.toNat:Int) != 32)=true:=by rw [bne_iff_ne];omega
           by_cases h34:c.toNat=34
           ·rw [cutF_quote h34] at hcut
            have g2:((c.toNat:Int) == 34)=true:=by rw [h34];rfl
            clear h34 h32
            go_wp2_with fail
            go_roundg (s.size-i)
            case measure=>omega
            case rel=>exact ⟨i+1,true,by omega,by simp,rfl,by rw [R2.out];omega,rfl⟩
           ·rw [cutF_else h32 h34] at hcut
            have g2:((c.toNat:Int) == 34)=false:=by rw [beq_eq_false_iff_ne];omega
            clear h34 h32
            go_wp2_with fail
            go_roundg (s.size-i)
            case measure=>omega
            case rel=>exact ⟨i+1,false,by omega,by simp,rfl,by rw [R2.out];omega,rfl⟩
        | true =>
          by_cases h92:c.toNat=92
          ·rw [cutT_esc h92] at hcut
           have g2:((c.toNat:Int) == 92)=true:=by rw [h92];rfl
           clear h92
           go_wp2_with fail
           go_roundg (s.size-i)
           case measure=>omega
           case rel=>exact ⟨i+2,true,by omega,by simp;omega,rfl,by rw [show i+2=(i+1)+1 from rfl,← List.drop_drop,R2.out];omega,rfl⟩
          ·have g1:((c.toNat:Int) == 92)=false:=by rw [beq_eq_false_iff_ne];omega
           by_cases h34:c.toNat=34
           ·rw [cutT_quote h34] at hcut
            have g2:((c.toNat:Int) == 34)=true:=by rw [h34];rfl
            clear h34 h92
            go_wp2_with fail
            go_roundg (s.size-i)
            case measure=>omega
            case rel=>exact ⟨i+1,false,by omega,by simp,rfl,by rw [R2.out];omega,rfl⟩
           ·rw [cutT_else h92 h34] at hcut
            have g2:((c.toNat:Int) == 34)=false:=by rw [beq_eq_false_iff_ne];omega
            clear h34 h92
            go_wp2_with fail
            go_roundg (s.size-i)
            case measure=>omega
            case rel=>exact ⟨i+1,true,by omega,by simp,rfl,by rw [R2.out];omega,rfl⟩
    case rest =>
    obtain ⟨rfl,rfl⟩:=hcut
    have k0:(0:Int)≤(n:Int):=by omega
    have k1:(n:Int)≤(s.size:Int):=by omega
    have hlx:=lex_any (s.extract 0 n) (by rw [ByteArray.size_extract];omega) wc (HG.out.kept HB.out)
    rw [HNN.out,HX1.out,Q5.out] at hlx
    rw [← HNN.out] at hlx
    have HLX:=Lib.hid hlx
    clear hlx
    go_wp2_with fail
    refine HLX.out.mono ?_
    rintro e w2 ⟨v,rfl,hr,hb1⟩
    obtain ⟨g,cap,rfl,hc,h1,h2,h3⟩:=row_form hr hxne
    dsimp only at hc
    have HR:=Lib.hid (hr.cells (g:=g) rfl)
    have HO2:=Lib.hid (own_kept HO.out hb1)
    have HB2:=Lib.hid (chain HB.out hb1)
    obtain ⟨i0,hi0,hz0,hz1,hz2⟩:=info_parts tok_info
    have hsz2:=HB2.out.size
    have HSZ:=Lib.hid hsz2
    obtain ⟨o3,cp3,rfl⟩:=row_slice HO2.out
    have htp:=Tryz.strings_TrimPrefix (s.extract n s.size) ⟨#[32]⟩
    rw [show (s.extract n s.size).data.toList=restT (leftR p r) by rw [HNN.out];exact HX2.out,show (⟨#[32]⟩:ByteArray).data.toList=[32] from rfl,trim_rest] at htp
    have HTP:=Lib.hid htp
    clear hr hb1 h1 h2 h3 hsz2 htp
    go_wp2_with (at_builtin;refine wpList_append_own _ rfl _ _ _ rfl w.heap.size 65 i0 _ 4 40 (by kernel_rfl) hi0 hz0 hz1 hz2 rfl (by decide) _ done.length (toksL done) rfl HO2.out ⟨g,0,none⟩ xs.length cap (toksL xs) rfl (by rw [toksL_len]) HR.out (toksL_ones xs) (by simp only [maxLen];omega) (by omega) HSZ.out ?_)
    intro v' w' ho' hgr _
    have HO3:=Lib.hid ho'
    have HB3:=Lib.hid (HB2.out.grown hgr HB2.out.size (fun k hk=>(HO2.out.lt k hk).1))
    clear ho' hgr
    go_wp2_with fail
    refine (HTP.out _).mono ?_
    rintro e w4 ⟨rfl,rfl⟩
    go_wp2_with fail
    go_roundg ((leftR p r).length+1)
    case measure=>have:=left_len p r;simp at hgk;omega
    case rel=>exact ⟨done++xs,leftR p r,by omega,rfl,by rw [List.map_append,Q6.out,List.append_assoc,List.cons_append,join_left];exact HLL.out,by rw [List.length_append,toksL_cat];exact HO3.out,HB3.out⟩
end Go.Proofs.YtnaehhpikhlppaaGreatDoor
