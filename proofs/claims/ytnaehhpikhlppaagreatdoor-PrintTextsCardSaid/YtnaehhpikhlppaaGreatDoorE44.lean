/- Several texts of the proof, joined. -/
import Derived.Test.YtnaehhpikhlppaaGreatDoorE42
import Derived.Test.YtnaehhpikhlppaaGreatDoorE20
import Derived.Test.YtnaehhpikhlppaaGreatDoorE43
import Derived.Test.YtnaehhpikhlppaaGreatDoorE28
import Derived.Test.YtnaehhpikhlppaaGreatDoorE34
set_option maxHeartbeats 4000000
set_option maxRecDepth 100000
set_option linter.unusedVariables false
set_option linter.unusedSimpArgs false
namespace Go.Proofs.YtnaehhpikhlppaaGreatDoor
open Go.RowKit LexS ParS BigFrame
attribute [local go_sem] World.cell?_alloc_some cell_drewN_new free_drewN_new cell_drew_new free_drew_new
def endS (L:Nat):RSt→List Nd×Nat×Nat
 | .error (k,e)=>([],L-k,codeOf e)
 | .ok (ts,ns)=>if ts ≠ [] then ([],L-ts.length,120) else if 128<ns.length then ([],0,2) else (ns,0,0)
theorem endS_nil (L:Nat) (ns:List Nd):endS L (.ok ([],ns))=if 128<ns.length then ([],0,2) else (ns,0,0):=by simp [endS]
theorem parseAll_end (read:M Nat) (l:List Tk):parseAll read l=if 1024<l.length then ([],0,2) else endS l.length (stOf (read l [])):=by
 unfold parseAll
 rcases read l [] with ⟨k,e⟩ | ⟨a,ts,ns⟩<;>rfl
section
variable {base r deep d2:Nat} {tv nv nv' nv0 nv1 nv2 lv:Value} {T:List Tok} {st st1 st2:RSt} {ts ts1 ts2:List Tk} {ns ns1:List Nd} {W W' Wx w1 w2 W1 wr wr2:World} {ri:Int}
def EndP (base r:Nat) (T:List Tok) (W:World) (x:List Nd×Nat×Nat) (e:Ending) (W':World):Prop :=
 ∃ nv',e=.returned (.tuple #[.agg #[nv'],.int .i64 (x.2.1:Int),.int .i64 (x.2.2:Int)])∧NS W' base nv' x.1∧Mv r W W'
theorem RF.nds (h:RF base r tv T deep (.ok (ts,ns)) nv W):NS W base nv ns:=by
 obtain ⟨ns',h1,_,h2⟩:=h.nodes
 rw [h2 _ _ rfl]
 exact h1
theorem ns_put {b g:Nat} {cs:Array Value} {i:Nat} {u:Value} (h:NS W b nv ns) (hx:Blk W g 25 cs):NS (W.setCell ⟨g,i,none⟩ u) b nv ns:=by
 obtain ⟨ms,h1,h2,h3⟩:=h
 exact ⟨ms,h1,row_far h2 hx (by decide) i u,fun m hm=>⟨row_far (h3 m hm).l hx (by decide) i u,row_far (h3 m hm).names hx (by decide) i u,row_far (h3 m hm).aggs hx (by decide) i u⟩⟩
theorem end_bad {k:Nat} {long:Bool} (h:RF base r tv T deep (.error (k,long)) nv W):Calls Tryz.prog 35 #[RP r] W (EndP base r T W (endS T.length (.error (k,long)))):=by
 obtain ⟨W0,hW0⟩:∃ W0,W0=W.alloc (.cells #[.slice none 0 0] 25):=⟨_,rfl⟩
 have hb0:Below W.heap.size W W0:=by rw [hW0];exact (Below.refl _ _).alloc (Nat.le_refl _) _
 have k0:Blk W0 W.heap.size 25 #[.slice none 0 0]:=by rw [hW0];exact Blk.new W _ _
 have h0:=h.kept hb0
 have hrt:r≠W.heap.size:=Nat.ne_of_lt h.box.lt
 obtain ⟨i,hi⟩:∃ i,i=T.length-k:=⟨_,rfl⟩
 have c1:W0.cell? ⟨r,1,none⟩=some (.int .i64 (i:Int)):=by rw [hi];exact h0.box.cell 1
 have c3:W0.cell? ⟨r,3,none⟩=some (.int .i64 (codeOf long:Int)):=h0.box.cell 3
 have hc:=codeOf_ne long
 obtain ⟨c,hcc⟩:∃ c,c=codeOf long:=⟨_,rfl⟩
 rw [← hcc] at c3 hc
 have q1:((c:Int) == 0)=false:=by rw [beq_eq_false_iff_ne];omega
 have q2:((c:Int) != 0)=true:=by rw [bne_iff_ne];omega
 have q3:¬ (c:Int)=0:=by omega
 have d0:W0.cell? ⟨W.heap.size,0,none⟩=some (.slice none 0 0):=k0.cell 0
 have g0:=k0.free 0
 have HE:=Lib.hid (show endS T.length (.error (k,long))=([],i,c) by rw [hi,hcc];rfl)
 have HW:=Lib.hid hW0
 have HK:=Lib.hid (And.intro hb0 k0)
 clear h h0 hi hc hcc hb0 k0 hW0
 rw [HE.out]
 go_enter Tryz.func35,Tryz.ntmps35
 go_wp2_with fail
 rw [show W.alloc (.cells #[.slice none 0 0] 25)=W0 from HW.out.symm]
 go_big_quiet (fail)
 go_wp2_with fail
 go_region
 go_wp2_with fail
 exact bodyPost_ret (res_q Tryz.results35 rfl rfl rfl ((HK.out.2.drewN _).put 0 _)) rfl ⟨_,rfl,nil_NS,Mv.far (Stp.of (below_drewN HK.out.1 _)) (Nat.le_refl _) 0 _⟩
theorem end_more {t:Tk} (h:RF base r tv T deep (.ok (t::ts1,ns)) nv W):Calls Tryz.prog 35 #[RP r] W (EndP base r T W (endS T.length (.ok (t::ts1,ns)))):=by
 obtain ⟨p,cap,rfl,hcap,hmax,hrow⟩:=row_any h.toks
 obtain ⟨W0,hW0⟩:∃ W0,W0=W.alloc (.cells #[.slice none 0 0] 25):=⟨_,rfl⟩
 have hb0:Below W.heap.size W W0:=by rw [hW0];exact (Below.refl _ _).alloc (Nat.le_refl _) _
 have k0:Blk W0 W.heap.size 25 #[.slice none 0 0]:=by rw [hW0];exact Blk.new W _ _
 have h0:=h.kept hb0
 have hrt:r≠W.heap.size:=Nat.ne_of_lt h.box.lt
 have hleft:(t::ts1).length≤T.length:=h.left
 have hfew:=h.few
 obtain ⟨i,hi⟩:∃ i,i=T.length-(t::ts1).length:=⟨_,rfl⟩
 have hlt:i<T.length:=by simp only [List.length_cons] at hi hleft;omega
 have c0:W0.cell? ⟨r,0,none⟩=some (.slice p T.length cap):=h0.box.cell 0
 have c1:W0.cell? ⟨r,1,none⟩=some (.int .i64 (i:Int)):=by rw [hi];exact h0.box.cell 1
 have c3:W0.cell? ⟨r,3,none⟩=some (.int .i64 0):=h0.box.cell 3
 have q1:decide ((i:Int)<(T.length:Int))=true:=decide_eq_true (by omega)
 have q2:(i:Int)<(T.length:Int):=by omega
 have q3:decide (i<T.length)=true:=decide_eq_true hlt
 have HE:=Lib.hid (show endS T.length (.ok (t::ts1,ns))=([],i,120) by rw [hi];rfl)
 have HW:=Lib.hid hW0
 have HK:=Lib.hid (And.intro hb0 k0)
 have HH:=Lib.hid h0
 have HI:=Lib.hid hi
 clear h h0 hi hb0 k0 hW0 hrow hleft
 rw [HE.out]
 go_enter Tryz.func35,Tryz.ntmps35
 go_wp2_with fail
 rw [show W.alloc (.cells #[.slice none 0 0] 25)=W0 from HW.out.symm]
 go_big_quiet (fail)
 go_wp2_with fail
 have hbq:Below W0.heap.size W0 (W0.drewN nq):=below_drewN (Below.refl _ _) nq
 refine (fail_r (HH.out.kept hbq)).mono ?_
 rintro e w2 ⟨rfl,h2,m2⟩
 have x2:=m2.blk (HK.out.2.kept hbq) hrt.symm
 have HM:=Lib.hid (Stp.trans (Stp.of (r:=r) (nv:=.slice none 0 0) (chain HK.out.1 hbq)) m2)
 have HX:=Lib.hid x2
 have c1:w2.cell? ⟨r,1,none⟩=some (.int .i64 (i:Int)):=by rw [HI.out];exact h2.box.cell 1
 have c3:w2.cell? ⟨r,3,none⟩=some (.int .i64 120):=h2.box.cell 3
 have d0:w2.cell? ⟨W.heap.size,0,none⟩=some (.slice none 0 0):=x2.cell 0
 have g0:=x2.free 0
 clear h2 m2 x2 hbq
 go_wp2_with fail
 go_region
 go_wp2_with fail
 exact bodyPost_ret (res_q Tryz.results35 rfl rfl rfl ((HX.out.drew).put 0 _)) rfl ⟨_,rfl,nil_NS,Mv.far (Stp.trans HM.out (Stp.of (Below.refl _ _).drew)) (Nat.le_refl _) 0 _⟩
theorem end_all (h:RF base r tv T deep (.ok ([],ns)) nv W):Calls Tryz.prog 35 #[RP r] W (EndP base r T W (endS T.length (.ok ([],ns)))):=by
 obtain ⟨p,cap,rfl,hcap,hmax,hrow⟩:=row_any h.toks
 obtain ⟨W0,hW0⟩:∃ W0,W0=W.alloc (.cells #[.slice none 0 0] 25):=⟨_,rfl⟩
 have hb0:Below W.heap.size W W0:=by rw [hW0];exact (Below.refl _ _).alloc (Nat.le_refl _) _
 have k0:Blk W0 W.heap.size 25 #[.slice none 0 0]:=by rw [hW0];exact Blk.new W _ _
 have hns:=h.nds
 obtain ⟨no,nc,rfl⟩:∃ o c,nv=.slice o ns.length c:=by
  obtain ⟨ms,_,ho,_⟩:=hns
  exact slice_form ho
 have h0:=h.kept hb0
 have hrt:r≠W.heap.size:=Nat.ne_of_lt h.box.lt
 have hl5:ns.length≤5000:=by
  obtain ⟨ns',h1,h2,h3⟩:=h.nodes
  rw [h3 _ _ rfl]
  exact h2
 have c0:W0.cell? ⟨r,0,none⟩=some (.slice p T.length cap):=h0.box.cell 0
 have c1:W0.cell? ⟨r,1,none⟩=some (.int .i64 (T.length:Int)):=h0.box.cell 1
 have c2:W0.cell? ⟨r,2,none⟩=some (.slice no ns.length nc):=h0.box.cell 2
 have c3:W0.cell? ⟨r,3,none⟩=some (.int .i64 0):=h0.box.cell 3
 have d0:W0.cell? ⟨W.heap.size,0,none⟩=some (.slice none 0 0):=k0.cell 0
 have g0:=k0.free 0
 have q1:decide ((T.length:Int)<(T.length:Int))=false:=decide_eq_false (by omega)
 have q2:¬ (T.length:Int)<(T.length:Int):=by omega
 have HW:=Lib.hid hW0
 have HK:=Lib.hid (And.intro hb0 k0)
 have HNS:=Lib.hid (hns.kept hb0)
 by_cases h128:128<ns.length
 ·have p1:decide ((128:Int)<(ns.length:Int))=true:=decide_eq_true (by omega)
  have p2:(128:Int)<(ns.length:Int):=by omega
  have p3:decide (128<ns.length)=true:=decide_eq_true h128
  have HE:=Lib.hid (show endS T.length (.ok ([],ns))=([],0,2) by rw [endS_nil,if_pos h128])
  clear h h0 hb0 k0 hW0 hrow hns h128
  rw [HE.out]
  go_enter Tryz.func35,Tryz.ntmps35
  go_wp2_with fail
  rw [show W.alloc (.cells #[.slice none 0 0] 25)=W0 from HW.out.symm]
  go_big_quiet (fail)
  go_wp2_with fail
  exact bodyPost_ret (res_q Tryz.results35 rfl rfl rfl ((HK.out.2.drewN _).put 0 _)) rfl ⟨_,rfl,nil_NS,Mv.far (Stp.of (below_drewN HK.out.1 _)) (Nat.le_refl _) 0 _⟩
 ·have p1:decide ((128:Int)<(ns.length:Int))=false:=decide_eq_false (by omega)
  have p2:¬ (128:Int)<(ns.length:Int):=by omega
  have p3:decide (128<ns.length)=false:=decide_eq_false h128
  have HE:=Lib.hid (show endS T.length (.ok ([],ns))=(ns,0,0) by rw [endS_nil,if_neg h128])
  have hnw:∀ k,(Value.slice no ns.length nc).ownBlock=some k→k≠W.heap.size:=fun k hk e=>by
   have h1:=h.own_lt.2 k hk
   omega
  have HNW:=Lib.hid hnw
  clear h h0 hb0 k0 hW0 hrow hns h128 hnw
  rw [HE.out]
  go_enter Tryz.func35,Tryz.ntmps35
  go_wp2_with fail
  rw [show W.alloc (.cells #[.slice none 0 0] 25)=W0 from HW.out.symm]
  go_big_quiet (fail)
  go_wp2_with fail
  exact bodyPost_ret (res_q Tryz.results35 rfl rfl rfl ((HK.out.2.drewN _).put 0 _)) rfl ⟨_,rfl,ns_put (HNS.out.kept (below_drewN (Below.refl _ _) _)) (HK.out.2.drewN _),Mv.far (Stp.of (below_drewN HK.out.1 _)) (Nat.le_refl _) 0 _⟩
theorem end_r (h:RF base r tv T deep st nv W):Calls Tryz.prog 35 #[RP r] W (EndP base r T W (endS T.length st)):=by
 rcases st with ⟨k,long⟩ | ⟨ts,ns⟩
 ·exact end_bad h
 ·cases ts with
  | nil=>exact end_all h
  | cons t ts1=>exact end_more h
theorem rparse_any (htoks:W.ownsRow 0 65 4 tv T.length (toksL T)):Calls Tryz.prog 23 #[tv] W (PostAll W (parseS T)):=by
 obtain ⟨p,cap,rfl,hcap,hmax,hrow⟩:=row_any htoks
 obtain ⟨W0,hW0⟩:∃ W0,W0=W.alloc (.cells #[.slice none 0 0] 25):=⟨_,rfl⟩
 have hb0:Below W.heap.size W W0:=by rw [hW0];exact (Below.refl _ _).alloc (Nat.le_refl _) _
 have k0:Blk W0 W.heap.size 25 #[.slice none 0 0]:=by rw [hW0];exact Blk.new W _ _
 have hs0:W.heap.size<W0.heap.size:=k0.lt
 have d0:W0.cell? ⟨W.heap.size,0,none⟩=some (.slice none 0 0):=k0.cell 0
 have g0:=k0.free 0
 have HK:=Lib.hid (And.intro hb0 (And.intro hs0 k0))
 have HW:=Lib.hid hW0
 by_cases h1024:1024<T.length
 ·have q1:decide ((1024:Int)<(T.length:Int))=true:=decide_eq_true (by omega)
  have q2:(1024:Int)<(T.length:Int):=by omega
  have q3:decide (1024<T.length)=true:=decide_eq_true h1024
  have HE:=Lib.hid (show parseS T=([],0,2) by unfold parseS parseAll;rw [if_pos (by rw [List.length_map];exact h1024)])
  have HF:=Lib.hid (one_put HK.out.1 HK.out.2.1 HK.out.2.2 nil_NS (Below.refl W0.heap.size W0))
  clear hb0 k0 hs0 hW0 hrow htoks h1024
  rw [HE.out]
  go_enter Tryz.func23,Tryz.ntmps23
  go_upto_region 1 with (fail)
  rw [show W.alloc (.cells #[.slice none 0 0] 25)=W0 from HW.out.symm]
  go_wp2_with fail
  exact bodyPost_ret (res_q Tryz.results23 rfl rfl rfl HF.out.1) rfl ⟨_,rfl,HF.out.2.1,HF.out.2.2⟩
 ·have q1:decide ((1024:Int)<(T.length:Int))=false:=decide_eq_false (by omega)
  have q2:¬ (1024:Int)<(T.length:Int):=by omega
  have q3:decide (1024<T.length)=false:=decide_eq_false h1024
  have HE:=Lib.hid (show parseS T=endS T.length (stOf (goP (pQuery 16) (.ok (T.map tk,[])))) by
   have e:=parseAll_end (pQuery 16) (T.map tk)
   rw [List.length_map,if_neg h1024] at e
   exact e)
  obtain ⟨W1,hW1⟩:∃ W1,W1=W0.alloc (.cells #[.slice p T.length cap,.int .i64 0,.slice none 0 0,.int .i64 0,.int .i64 0] 81):=⟨_,rfl⟩
  have hb1:Below W0.heap.size W0 W1:=by rw [hW1];exact (Below.refl _ _).alloc (Nat.le_refl _) _
  have hbox:Blk W1 W0.heap.size 81 #[.slice p T.length cap,.int .i64 ((T.length-leftR (.ok (T.map tk,[])):Nat):Int),.slice none 0 0,.int .i64 (codeR (.ok (T.map tk,[])):Int),.int .i64 ((0:Nat):Int)]:=by
   rw [show T.length-leftR (.ok (T.map tk,[]))=0 by simp [leftR],hW1]
   exact Blk.new W0 _ _
  have hrf:RF W0.heap.size W0.heap.size (.slice p T.length cap) T 0 (.ok (T.map tk,[])) (.slice none 0 0) W1 :=
   ⟨hbox,Nat.le_refl _,own_kept (own_kept htoks hb0) hb1,by simp [leftR],(fun ts ns e=>by cases e;simp),by omega,[],nil_NS,by simp,fun ts ns e=>by cases e;rfl⟩
  have HC:=Lib.hid (rquery_all 16 0 rfl W0.heap.size W0.heap.size (.slice p T.length cap) (.slice none 0 0) T (.ok (T.map tk,[])) W1 hrf (Nat.le_of_lt hbox.lt) (fun ts ns e=>by cases e;simp;omega) (.inl rfl))
  have HB1:=Lib.hid (And.intro hb1 (Nat.le_of_lt hbox.lt))
  have HW1:=Lib.hid hW1
  clear hb0 k0 hs0 hW0 hrow htoks h1024 hb1 hbox hrf hW1
  rw [HE.out]
  go_enter Tryz.func23,Tryz.ntmps23
  go_upto_region 1 with (fail)
  rw [show W.alloc (.cells #[.slice none 0 0] 25)=W0 from HW.out.symm]
  go_upto_region 4 with (fail)
  rw [show W0.alloc (.cells #[.slice p T.length cap,.int .i64 0,.slice none 0 0,.int .i64 0,.int .i64 0] 81)=W1 from HW1.out.symm]
  go_wp2_with fail
  refine HC.out.mono ?_
  rintro e w2 ⟨nv2,i2,rfl,_,h2,s2⟩
  have HEN:=Lib.hid (end_r h2)
  have HS2:=Lib.hid (HB1.out.1.trans (s2.below (Nat.le_refl _) (fun k hk=>by cases hk) HB1.out.2))
  clear h2 s2
  go_wp2_with fail
  refine HEN.out.mono ?_
  rintro e w3 ⟨nv3,rfl,hn,m3⟩
  have hb3:Below W0.heap.size W0 w3:=HS2.out.trans (m3.below (Nat.le_refl _) (fun k hk=>by cases hk) HS2.out.size)
  obtain ⟨no,nc,rfl⟩:∃ o c,nv3=.slice o (endS T.length (stOf (goP (pQuery 16) (.ok (T.map tk,[]))))).1.length c:=by
   obtain ⟨ms,_,ho,_⟩:=hn
   exact slice_form ho
  have k3:=HK.out.2.2.kept hb3
  have d0:w3.cell? ⟨W.heap.size,0,none⟩=some (.slice none 0 0):=k3.cell 0
  have g0:=k3.free 0
  have HF:=Lib.hid (one_put HK.out.1 HK.out.2.1 HK.out.2.2 hn hb3)
  clear hn m3 hb3 k3
  go_wp2_with fail
  exact bodyPost_ret (res_q Tryz.results23 rfl rfl rfl HF.out.1) rfl ⟨_,rfl,HF.out.2.1,HF.out.2.2⟩
end
end Go.Proofs.YtnaehhpikhlppaaGreatDoor

namespace Go.Proofs.YtnaehhpikhlppaaGreatDoor
open Go.RowKit LexS ParS BigFrame
attribute [local go_sem] World.cell?_alloc_some cell_drewN_new free_drewN_new cell_drew_new free_drew_new
theorem put_ans {W W0 w1:World} {nv:Value} {ns:List Nd} (hb0:Below W.heap.size W W0) (k0:Blk W0 W.heap.size 25 #[.slice none 0 0]) (hn:NS w1 W.heap.size nv ns) (hb:Below W0.heap.size W0 w1) :
 Blk (w1.setCell ⟨W.heap.size,0,none⟩ nv) W.heap.size 25 #[nv]∧NS (w1.setCell ⟨W.heap.size,0,none⟩ nv) W.heap.size nv ns∧Below W.heap.size W (w1.setCell ⟨W.heap.size,0,none⟩ nv) :=
 ⟨(k0.kept hb).put 0 nv,ns_put hn (k0.kept hb),(chain hb0 hb).setCell (p:=⟨W.heap.size,0,none⟩) (Nat.le_refl _) nv⟩
theorem NS.selfR {W:World} {b:Nat} {v:Value} {ns:List Nd} {b':Nat} (h:NS W b v ns) (hb:b'≤b):NS W b' v ns:=h.high (fun _ _=>rfl) hb
theorem rquery_text (s:ByteArray) (hs:s.size≤140737488351232) (w:World) :
 Calls Tryz.prog 8 #[.string s] w (PostAll w (queryS s.data.toList)):=by
 obtain ⟨W0,hW0⟩:∃ W0,W0=w.alloc (.cells #[.slice none 0 0] 25):=⟨_,rfl⟩
 have hb0:Below w.heap.size w W0:=by rw [hW0];exact (Below.refl _ _).alloc (Nat.le_refl _) _
 have k0:Blk W0 w.heap.size 25 #[.slice none 0 0]:=by rw [hW0];exact Blk.new w _ _
 have hs0:w.heap.size<W0.heap.size:=k0.lt
 have HK:=Lib.hid (And.intro hb0 (And.intro hs0 k0))
 have hlex:=rlex_any s hs W0
 have HW0:=Lib.hid hW0
 obtain ⟨⟨x,a,er⟩,hx⟩:∃ q,q=lexS s.data.toList:=⟨_,rfl⟩
 have HX:=Lib.hid hx
 rw [← hx] at hlex
 have HL:=Lib.hid hlex
 clear hb0 k0 hs0 hlex hx hW0
 go_enter Tryz.func8,Tryz.ntmps8
 go_wp2_with fail
 rw [show w.alloc (.cells #[.slice none 0 0] 25)=W0 from HW0.out.symm]
 refine HL.out.mono ?_
 rintro e w1 ⟨v,rfl,o1,b1⟩
 dsimp only at o1 ⊢
 have k1:=HK.out.2.2.kept b1
 have c0:w1.cell? ⟨w.heap.size,0,none⟩=some (.slice none 0 0):=k1.cell 0
 have f0:=k1.free 0
 by_cases he:er=0
 case neg =>
  have HE:=Lib.hid (show queryS s.data.toList=([],a,er) by unfold queryS;rw [← HX.out];dsimp only;rw [if_pos he])
  have HF:=Lib.hid (put_ans HK.out.1 HK.out.2.2 nil_NS b1)
  have he2:((er:Int) != 0)=true:=by rw [bne_iff_ne];omega
  have he3:¬ (er:Int)=0:=by omega
  clear o1 b1 k1
  go_wp2_with fail
  exact bodyPost_ret (res_q Tryz.results8 rfl rfl rfl HF.out.1) rfl ⟨_,by rw [HE.out];rfl,by rw [HE.out];exact HF.out.2.1,HF.out.2.2⟩
 subst he
 have O1:=Lib.hid o1
 have B1:=Lib.hid b1
 have HP:=Lib.hid (rparse_any (own_base o1 (Nat.zero_le _)))
 clear o1 b1 k1
 go_wp2_with fail
 refine HP.out.mono ?_
 rintro e w2 ⟨nv,rfl,hn,b2⟩
 obtain ⟨⟨ns,n,f⟩,hp⟩:∃ q,q=parseS x:=⟨_,rfl⟩
 rw [← hp] at hn ⊢
 dsimp only at hn ⊢
 have HPS:=Lib.hid hp
 obtain ⟨no,nc,rfl⟩:∃ o c,nv=.slice o ns.length c:=by
  obtain ⟨ms,_,ho,_⟩:=hn
  exact slice_form ho
 obtain ⟨u2,hu2⟩:∃ u2,u2=w2.alloc (.cells #[.slice no ns.length nc] 25):=⟨_,rfl⟩
 have hbu:Below w2.heap.size w2 u2:=by rw [hu2];exact (Below.refl _ _).alloc (Nat.le_refl _) _
 have xu:Blk u2 w2.heap.size 25 #[.slice no ns.length nc]:=by rw [hu2];exact Blk.new w2 _ _
 have hb12:Below W0.heap.size W0 u2:=chain B1.out (chain b2 hbu)
 have hn2:NS u2 w.heap.size (.slice no ns.length nc) ns:=(hn.selfR (Nat.le_trans HK.out.1.size B1.out.size)).kept hbu
 have HF:=Lib.hid (put_ans HK.out.1 HK.out.2.2 hn2 hb12)
 have k2:=HK.out.2.2.kept hb12
 have d0:u2.cell? ⟨w.heap.size,0,none⟩=some (.slice none 0 0):=k2.cell 0
 have g0:=k2.free 0
 have d1:u2.cell? ⟨w2.heap.size,0,none⟩=some (.slice no ns.length nc):=xu.cell 0
 have O2:=Lib.hid (own_kept O1.out (chain b2 hbu))
 have HU2:=Lib.hid hu2
 clear hn b2 hb12 hn2 k2 hp c0 f0 hbu xu hu2
 go_upto_region 5 with (fail)
 rw [show w2.alloc (.cells #[.slice no ns.length nc] 25)=u2 from HU2.out.symm]
 by_cases hf:f=0
 ·subst hf
  have HE:=Lib.hid (show queryS s.data.toList=(ns,0,0) by unfold queryS;rw [← HX.out];dsimp only;rw [if_neg (by simp),← HPS.out];rfl)
  go_wp2_with fail
  exact bodyPost_ret (res_q Tryz.results8 rfl rfl rfl HF.out.1) rfl ⟨_,by rw [HE.out];rfl,by rw [HE.out];exact HF.out.2.1,HF.out.2.2⟩
 have hf2:((f:Int) == 0)=false:=by rw [beq_eq_false_iff_ne];omega
 have hf3:¬ (f:Int)=0:=by omega
 obtain ⟨p,cap,rfl,hcap,hmax,hrow⟩:=row_any O2.out
 have HR:=Lib.hid hrow
 simp only [maxLen] at hmax
 clear hrow
 by_cases hlt:n<x.length
 ·obtain ⟨t,ht⟩:∃ t,x[n]?=some t:=⟨x[n],List.getElem?_eq_getElem hlt⟩
  have hne:x ≠ []:=by intro h;rw [h] at hlt;simp at hlt
  have HE:=Lib.hid (show queryS s.data.toList=(ns,t.at_,f) by
   unfold queryS
   rw [← HX.out]
   dsimp only
   rw [if_neg (by simp),← HPS.out]
   dsimp only
   rw [if_neg hf,ht])
  obtain ⟨g,rfl,hg1,hg2,hcells⟩:=HR.out hne
  obtain ⟨q0,q1,q2,q3⟩:=hcells n t ht
  have l1:(n:Int)<(x.length:Int):=by omega
  have l2:decide ((n:Int)<(x.length:Int))=true:=decide_eq_true l1
  have l3:(0:Int)≤(n:Int):=by omega
  clear hcells
  go_wp2_with fail
  go_region
  go_wp2_with fail
  exact bodyPost_ret (res_q Tryz.results8 rfl rfl rfl (show Blk (World.setCell (World.drew _) _ _) _ _ _ from HF.out.1)) rfl ⟨_,by rw [HE.out];rfl,by rw [HE.out];exact HF.out.2.1.high (fun _ _=>rfl) (Nat.le_refl _),⟨HF.out.2.2.os,HF.out.2.2.tape,HF.out.2.2.output,HF.out.2.2.size,HF.out.2.2.block⟩⟩
 ·have HE:=Lib.hid (show queryS s.data.toList=(ns,s.data.toList.length,f) by
   unfold queryS
   rw [← HX.out]
   dsimp only
   rw [if_neg (by simp),← HPS.out]
   dsimp only
   rw [if_neg hf,List.getElem?_eq_none (by omega)])
  have l1:¬ (n:Int)<(x.length:Int):=by omega
  have l2:decide ((n:Int)<(x.length:Int))=false:=decide_eq_false l1
  go_wp2_with fail
  exact bodyPost_ret (res_q Tryz.results8 rfl rfl rfl HF.out.1) rfl ⟨_,by rw [HE.out];rfl,by rw [HE.out];exact HF.out.2.1,HF.out.2.2⟩
end Go.Proofs.YtnaehhpikhlppaaGreatDoor

namespace Go.Proofs.YtnaehhpikhlppaaGreatDoor
open Go.RowKit LexS ParS BigFrame
theorem rword_any {s:Bytes} (h:LexT (wd s)) (w:World) :
 Calls Tryz.prog 47 #[.string (BA s)] w fun e w'=>e=.returned (.bool true)∧Below w.heap.size w w':=by
 have hs:=lexT_small h
 have e0:oneT (wd s)=s:=rfl
 rw [e0] at hs
 have hl:=rlex_any (BA s) (by rw [show (BA s).size=s.length from text_size s];omega) w
 rw [text_list,lex_word h] at hl
 go_enter Tryz.func47,Tryz.ntmps47
 go_wp2_with fail
 refine hl.mono ?_
 rintro e w1 ⟨v,rfl,hr,hb⟩
 obtain ⟨g,cap,rfl,hc,h1,h2,h3⟩:=row_form hr (by simp)
 obtain ⟨k1,k2,k3,k4⟩:=h3 0 ⟨1,s,0,0⟩ rfl
 rw [Nat.zero_mul] at k1 k2 k3 k4
 dsimp only at k1 k2 k3 k4 hc h2 h1
 have hl1:([⟨1,s,0,0⟩]:List Tok).length=1:=rfl
 rw [hl1] at hc ⊢
 clear hl hr h3
 go_wp2_with fail
 exact bodyPost_ret (results_tmp rfl _ _ _) rfl ⟨rfl,hb⟩
theorem lex_kinds {t:Tk} (h:LexT t):t.kind=1→t=wd t.s:=by
 obtain ⟨k,s,n⟩:=t
 intro e
 dsimp only at e
 subst e
 obtain ⟨h1,c,r,h2,hb⟩:=h
 have e0:oneT ⟨1,s,n⟩=s:=rfl
 rw [e0] at h1 h2
 have hn:n=0:=by
  rw [h2] at h1
  unfold oneS at h1
  dsimp only at h1
  split at h1
  ·split at h1
   ·have:=congrArg (fun x=>x.1.n) h1
    exact this.symm
   ·have:=congrArg (fun x=>x.1.n) h1
    exact this.symm
  ·split at h1
   ·have:=congrArg (fun x=>x.1.kind) h1
    split at this<;>cases this
   ·split at h1
    ·have:=congrArg (fun x=>x.1.kind) h1
     split at this<;>cases this
    ·split at h1
     ·have:=congrArg (fun x=>x.1.kind) h1
      cases this
     ·have:=congrArg (fun x=>x.1.kind) h1
      cases this
 rw [hn]
 rfl
theorem lex_text_len {t:Tk} (h:LexT t) (hk:t.kind=3):t.s.length≤64:=by
 rcases lexT_cases h with ⟨_,h1⟩ | ⟨h1,_⟩
 ·exact h1
 ·have e:oneT t=quoteS t.s:=by unfold oneT;rw [if_neg (by omega),if_pos hk]
  rw [e] at h1
  exact absurd rfl (h1 34 (by unfold quoteS;simp)).2
section
variable {q:Qr} {ns:List Nd} {g cap:Nat}
theorem lbox {w2 w3:World} {nv:Value} (h:w2.alloc (.cells #[nv,.slice none 0 0,.bool false] 105)=w3):LN w2 nv (.slice none 0 0) [] w3:=by
 subst h
 exact ⟨(Below.refl _ _).alloc (Nat.le_refl _) _,Blk.new w2 105 _,World.ownsRow_nil _ _ _ _⟩
theorem toks_at {W:World} {b:Nat} {lv:Value} {T:List Tk} (h:W.ownsRow b 65 4 lv T.length (toksL (T.map un))):∃ p c,lv=.slice p T.length c∧T.length≤maxLen∧∀ (W':World),Below W.heap.size W W'→∀ (i:Nat) (t:Tk),T[i]?=some t→∃ g,p=some ⟨g,0,none⟩∧W'.cell? ⟨g,i*4,none⟩=some (.int .i64 (t.kind:Int))∧W'.cell? ⟨g,i*4+1,none⟩=some (.string (BA t.s))∧W'.cell? ⟨g,i*4+2,none⟩=some (.int .i64 t.n)∧W'.cell? ⟨g,i*4+3,none⟩=some (.int .i64 0):=by
 have hm:=row_max h
 obtain ⟨p,c,rfl⟩:=row_slice h
 refine ⟨p,c,rfl,hm,fun W' hb i t hi=>?_⟩
 have hne:T.map un ≠ []:=by
  intro e
  have:=congrArg List.length e
  rw [List.length_map] at this
  have h2:=(List.getElem?_eq_some_iff.1 hi).1
  simp at this
  rw [this] at h2
  simp at h2
 have h':W.ownsRow b 65 4 (.slice p T.length c) (T.map un).length (toksL (T.map un)):=by rw [List.length_map];exact h
 obtain ⟨g,cap,e,_,_,_,hc⟩:=row_form h' hne
 injection e with e1 _ _
 obtain ⟨k1,k2,k3,k4⟩:=hc i (un t) (by rw [List.getElem?_map,hi];rfl)
 exact ⟨g,e1,keepc hb k1,keepc hb k2,keepc hb k3,keepc hb k4⟩
theorem rtokens_fine (hq:Fine q ns) (w:World) (hn:NR w (.slice (some ⟨g,0,none⟩) ns.length cap) ns) :
 Calls Tryz.prog 26 #[.agg #[.slice (some ⟨g,0,none⟩) ns.length cap]] w fun e w' => ∃ lv,e=.returned (.tuple #[lv,.bool true])∧w'.ownsRow 0 65 4 lv q.tok.length (toksL (q.tok.map un))∧Below w.heap.size w w':=by
 obtain ⟨W,hW⟩:∃ W,W=w.alloc (.cells #[.slice (some ⟨g,0,none⟩) ns.length cap] 25):=⟨_,rfl⟩
 have hbW:Below w.heap.size w W:=by rw [hW];exact (Below.refl _ _).alloc (Nat.le_refl _) _
 have x0:Blk W w.heap.size 25 #[.slice (some ⟨g,0,none⟩) ns.length cap]:=by rw [hW];exact Blk.new w _ _
 have c0:W.cell? ⟨w.heap.size,0,none⟩=some (.slice (some ⟨g,0,none⟩) ns.length cap):=x0.cell 0
 have HW:=Lib.hid hW
 have HRW:=Lib.hid (show ∀ (K:World→Prop),K W→K (w.alloc (.cells #[.slice (some ⟨g,0,none⟩) ns.length cap] 25)) from fun K h=>by rw [← HW.out];exact h)
 have HX:=Lib.hid x0
 have HBW:=Lib.hid hbW
 have HN:=Lib.hid (hn.stayP hbW)
 have HQ:=Lib.hid hq
 have h128:=hq.few
 have hpos:0<ns.length:=List.length_pos_iff.2 hq.tree.ne
 have h2:¬ (128:Int)<(ns.length:Int):=by omega
 have h2':decide ((128:Int)<(ns.length:Int))=false:=decide_eq_false h2
 have hql:0+q.len-1=ns.length-1:=by
  have:=q.flat_len 0
  rw [← hq.flat] at this
  omega
 have hrow:=lrow_any ns g cap q 0 hq.qin.ok (fun j nd h=>by rw [hq.flat,Nat.zero_add];exact h)
 rw [hql] at hrow
 obtain ⟨L,hL⟩:∃ L,ns.length=L+1:=⟨ns.length-1,by omega⟩
 rw [show ns.length-1=L by omega] at hrow
 unfold LineR at hrow
 have HROW:=Lib.hid hrow
 have w2_:IntKind.i64.wrap ((ns.length:Int)-1)=(L:Int):=by rw [IntWalk.i64_in _ (by omega)];omega
 clear hW hn hq x0 hbW hrow hql hL
 go_enter Tryz.func26,Tryz.ntmps26
 go_upto_region 1 with fail
 refine HRW.out _ ?_
 go_upto_region 2 with fail
 generalize hw2:World.alloc _ _=w2
 have H2:=Lib.hid (lbox hw2)
 have c0:w2.cell? ⟨w.heap.size,0,none⟩=some (.slice (some ⟨g,0,none⟩) ns.length cap):=keepc H2.out.below (HX.out.cell 0)
 clear hw2
 go_wp2_with fail
 refine (HROW.out _ _ _ _ HN.out H2.out (by have:=HQ.out.qin.few;simp;omega)).mono ?_
 rintro e w3 ⟨rfl,lv,h3,_⟩
 rw [List.nil_append] at h3
 have H3:=Lib.hid h3
 obtain ⟨p,c,rfl,hmx,htk⟩:=toks_at h3.row
 have HTK:=Lib.hid htk
 have HF:=Lib.hid HQ.out.qin.few
 have hf:=HQ.out.qin.few
 simp only [maxLen] at hmx
 clear h3 htk c0
 go_wp2_with fail
 go_loopg [5] (q.tok.length+1) (fun gk c5 wr => ∃ i:Nat,i≤q.tok.length∧q.tok.length<i+gk∧c5=.int .i64 (i:Int)∧Below w3.heap.size w3 wr)
 case atStart=>exact ⟨0,Nat.zero_le _,by omega,rfl,Below.refl _ _⟩
 case round =>
  obtain ⟨i,hi,hgk,rfl,hbr⟩:=hrel
  have HBR:=Lib.hid hbr
  have c1:wr.cell? ⟨W.heap.size,1,none⟩=some (.slice p q.tok.length c):=(H3.out.box.kept hbr).cell 1
  clear hbr
  by_cases hlt:i<q.tok.length
  ·obtain ⟨t,ht⟩:∃ t,q.tok[i]?=some t:=⟨q.tok[i],List.getElem?_eq_getElem hlt⟩
   obtain ⟨gt,rfl,u0,u1,_,_⟩:=HTK.out wr HBR.out i t ht
   have hlx:=HQ.out.qin.lex t (List.mem_of_getElem? ht)
   have n1:(i:Int)<(q.tok.length:Int):=by omega
   have n2:(0:Int)≤(i:Int):=by omega
   have n3:decide ((i:Int)<(q.tok.length:Int))=true:=decide_eq_true n1
   have w1_:IntKind.i64.wrap ((i:Int)+1)=(i:Int)+1:=IntWalk.i64_in _ (by omega)
   clear ht
   by_cases hk1:t.kind=1
   ·have HWD:=Lib.hid (rword_any (s:=t.s) (by rw [← lex_kinds hlx hk1];exact hlx) wr)
    rw [hk1] at u0
    have HTK2:=Lib.hid (fun W' hb=>HTK.out W' hb i)
    clear hk1 hlx
    go_wp2_with fail
    refine HWD.out.mono ?_
    rintro e w4 ⟨rfl,hb4⟩
    have HB4:=Lib.hid (chain HBR.out hb4)
    have d1:w4.cell? ⟨W.heap.size,1,none⟩=some (.slice (some ⟨gt,0,none⟩) q.tok.length c):=(H3.out.box.kept HB4.out).cell 1
    have d0:w4.cell? ⟨gt,i*4,none⟩=some (.int .i64 1):=keepc hb4 u0
    clear hb4 u0 u1 c1
    go_wp2_with fail
    go_roundg (q.tok.length-i)
    case measure=>omega
    case rel=>exact ⟨i+1,by omega,by omega,rfl,HB4.out⟩
   ·have b1:((t.kind:Int) == 1)=false:=by rw [beq_eq_false_iff_ne];omega
    by_cases hk3:t.kind=3
    ·have hl64:=lex_text_len hlx hk3
     have z1:((BA t.s).size:Int)≤64:=by rw [show (BA t.s).size=t.s.length from text_size _];omega
     have z2:¬ (64:Int)<((BA t.s).size:Int):=by omega
     have z3:decide ((64:Int)<((BA t.s).size:Int))=false:=decide_eq_false z2
     have z4:¬ (64:Int)<(t.s.length:Int):=by omega
     have z5:decide ((64:Int)<(t.s.length:Int))=false:=decide_eq_false z4
     rw [hk3] at u0
     clear hk3 hk1 hlx b1
     go_wp2_with fail
     go_roundg (q.tok.length-i)
     case measure=>omega
     case rel=>exact ⟨i+1,by omega,by omega,rfl,HBR.out⟩
    ·have b3:((t.kind:Int) == 3)=false:=by rw [beq_eq_false_iff_ne];omega
     clear hk3 hk1 hlx
     go_wp2_with fail
     go_roundg (q.tok.length-i)
     case measure=>omega
     case rel=>exact ⟨i+1,by omega,by omega,rfl,HBR.out⟩
  ·have n1:¬ (i:Int)<(q.tok.length:Int):=by omega
   have n3:decide ((i:Int)<(q.tok.length:Int))=false:=decide_eq_false n1
   have hrw:=own_base (own_kept H3.out.row HBR.out) (Nat.zero_le _)
   have hpa:=rparse_any (T:=q.tok.map un) (tv:=.slice p q.tok.length c) (by rw [List.length_map];exact hrw)
   rw [HQ.out.parse (un_tk _)] at hpa
   have HPA:=Lib.hid hpa
   have HR4:=Lib.hid hrw
   clear hpa hrw
   go_wp2_with fail
   refine HPA.out.mono ?_
   rintro e w5 ⟨nv,rfl,hns,hb5⟩
   dsimp only at hns
   have HNR:=Lib.hid hns.nr
   obtain ⟨po,pc,rfl⟩:∃ o c,nv=.slice o ns.length c:=by
    obtain ⟨p,c,h,_⟩:=HNR.out
    exact ⟨p,c,h⟩
   have HB5:=Lib.hid (chain HBR.out hb5)
   have HR5:=Lib.hid (own_kept HR4.out hb5)
   clear hns hb5 c1
   go_upto_region 11 with fail
   generalize hw6:World.alloc _ _=w6
   obtain ⟨hb6,hx6⟩:=qbox hw6
   have HB6:=Lib.hid (chain HB5.out hb6)
   have HR6:=Lib.hid (own_kept HR5.out hb6)
   have d0:w6.cell? ⟨w5.heap.size,0,none⟩=some (.slice po ns.length pc):=hx6.cell 0
   have HBA:=Lib.hid (H3.out.below.trans (HB6.out.mono H3.out.below.size))
   have d1:w6.cell? ⟨w.heap.size,0,none⟩=some (.slice (some ⟨g,0,none⟩) ns.length cap):=keepc HBA.out (HX.out.cell 0)
   have HSM:=Lib.hid (same_trees (HNR.out.stayP hb6) (HN.out.stayP HBA.out))
   clear hw6 hb6 hx6
   go_wp2_with fail
   refine HSM.out.mono ?_
   rintro e w7 ⟨rfl,hb7⟩
   have HB7:=Lib.hid (chain HB6.out hb7)
   have f1:w7.cell? ⟨W.heap.size,1,none⟩=some (.slice p q.tok.length c):=(H3.out.box.kept HB7.out).cell 1
   have f2:w7.cell? ⟨W.heap.size,2,none⟩=some (.bool false):=(H3.out.box.kept HB7.out).cell 2
   have HFIN:=Lib.hid (And.intro (own_kept HR6.out hb7) (HBW.out.trans ((H3.out.below.trans (HB7.out.mono H3.out.below.size)).mono HBW.out.size)))
   clear hb7 d0 d1
   go_wp2_with fail
   go_region_held3 (fun w'=>w'.cell? ⟨W.heap.size,1,none⟩=some (.slice p q.tok.length c)∧w'.cell? ⟨W.heap.size,2,none⟩=some (.bool false))
    (go_keep)
    (fail)
   all_goals go_wp2_with fail
   all_goals exact bodyPost_ret (v:=.tuple #[.slice p q.tok.length c,.bool true]) (by simp [results,Tryz.results26,go_sem]) rfl ⟨_,rfl,own_kept HFIN.out.1 (show Below w7.heap.size w7 w7.drew from (Below.refl _ _).drew),HFIN.out.2.drew⟩
end
end Go.Proofs.YtnaehhpikhlppaaGreatDoor
