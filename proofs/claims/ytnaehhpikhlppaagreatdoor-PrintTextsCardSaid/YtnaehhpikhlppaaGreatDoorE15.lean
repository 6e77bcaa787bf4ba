/- Several texts of the proof, joined. -/
import Derived.Test.YtnaehhpikhlppaaGreatDoorE14
set_option maxHeartbeats 4000000
set_option maxRecDepth 100000
set_option linter.unusedVariables false
set_option linter.unusedSimpArgs false
namespace Go.Proofs.YtnaehhpikhlppaaGreatDoor
open Go.RowKit LexS ParS BigFrame
attribute [local go_sem] field_tok1 field_tok2
attribute [local go_sem] World.cell?_alloc_some cell_drewN_new free_drewN_new cell_drew_new free_drew_new
def setMany (l:List Value):Nat→List Value→List Value
 | _,[]=>l
 | o,v::r=>setMany (l.set o v) (o+1) r
section
variable {W:World} {b:Nat} {t:TypeId} {l:List Value}
theorem box_put (h:Blk W b t l.toArray) (i:Nat) (v:Value):Blk (W.setCell ⟨b,i,none⟩ v) b t (l.set i v).toArray:=by
 have:=h.put i v
 rwa [List.setIfInBounds_toArray] at this
theorem box_puts:∀ (vs:List Value) {W:World} {l:List Value} (o:Nat),Blk W b t l.toArray→Blk (W.setCells b o vs) b t (setMany l o vs).toArray
 | [],W,l,o,h=>h
 | v::r,W,l,o,h=>box_puts r (o+1) (box_put h o v)
theorem box_range (h:Blk W b t l.toArray):W.rangeAt b 0 l:=by
 intro j v hj
 rw [Nat.zero_add,h.cell j]
 simpa using hj
theorem box_there {o n:Nat} (h:Blk W b t l.toArray) (hn:o+n≤l.length):W.there b o n:=fun j hj=>by
 refine ⟨?_,h.free _⟩
 rw [h.cell]
 have:o+j<l.length:=by omega
 simp [this]
theorem far_puts {g:Nat} {u:TypeId} {cs:Array Value} (hg:g≠b):∀ (vs:List Value) {W:World} (o:Nat),Blk W g u cs→Blk (W.setCells b o vs) g u cs
 | [],W,o,h=>h
 | v::r,W,o,h=>far_puts hg r (o+1) (h.far hg v)
theorem mv_puts {r:Nat} {W0:World} (hb:W0.heap.size≤b):∀ (vs:List Value) {W:World} (o:Nat),Mv r W0 W→Mv r W0 (W.setCells b o vs)
 | [],W,o,h=>h
 | v::s,W,o,h=>mv_puts hb s (o+1) (h.far hb o v)
end
theorem lay_any' {base r deep:Nat} {tv nv:Value} {T:List Tok} {ts:List Tk} {ns:List Nd} {W:World} (m:NodeM) (h:RS base r tv T deep ts ns nv W) (hm:MOk W base m) (hn:ns.length≤100000) (hbase:base≤W.heap.size) :
 Calls Tryz.prog 106 #[RP r,.agg m.cells.toArray] W fun e W' => ∃ nv',e=.returned (.int .i64 (ns.length:Int))∧RS base r tv T deep ts (ns++[m.node]) nv' W'∧Stp r nv W nv' W':=lay_any m h hm hn hbase
theorem one_nd (kd:Nat) (s:Bytes) (n fr to_:Int) (v:Val) {lv nv av:Value} (h1:lv.oneCell'=true) (h2:nv.oneCell'=true) (h3:av.oneCell'=true) (l:List Nat) (nm:List Bytes) (ag:List (Nat×Bytes)) :
 (NodeM.cells ⟨⟨kd,s,n,fr,to_,v,l,nm,ag⟩,lv,nv,av⟩).toArray.all (·.oneCell')=true:=by
 refine all_oneCell_toArray ?_
 intro u hu
 simp only [NodeM.cells,List.mem_cons,List.not_mem_nil,or_false] at hu
 rcases hu with rfl | rfl | rfl | rfl | rfl | rfl | rfl | rfl | rfl | rfl | rfl | rfl | rfl | rfl | rfl | rfl | rfl | rfl | rfl
 all_goals first | rfl | assumption
theorem nd_new (W:World) (m:NodeM):Blk ((W.alloc (.cells zeroNd 42)).setCells W.heap.size 0 m.cells) W.heap.size 42 m.cells.toArray :=
 box_puts m.cells (l:=zeroNd.toList) 0 (Blk.new W _ _)
theorem nd_there (W:World):(W.alloc (.cells zeroNd 42)).there W.heap.size 0 19:=box_there (l:=zeroNd.toList) (Blk.new W _ _) (by decide)
section
variable {base r deep:Nat} {tv nv nv':Value} {T:List Tok} {ts ts1:List Tk} {ns:List Nd} {W W':World}
theorem within_deep {fv:Value} (h:RS base r tv T deep ts ns nv W) (hd:16≤deep) (hd2:deep≤100) (ht:ts.length+1≤T.length) :
 Calls Tryz.prog 174 #[RP r,fv] W fun e W'=>e=Bad T (ts.length+1) true∧W=W':=by
 have hfew:=h.few
 obtain ⟨i,hi⟩:∃ i,i=T.length-ts.length:=⟨_,rfl⟩
 have c1:W.cell? ⟨r,1,none⟩=some (.int .i64 (i:Int)):=by rw [hi];exact h.box.cell 1
 have c2:W.cell? ⟨r,2,none⟩=some (.int .i64 (deep:Int)):=h.box.cell 2
 have q1:(16:Int)≤(deep:Int):=by omega
 have q2:decide ((16:Int)≤(deep:Int))=true:=decide_eq_true q1
 have HB:=Lib.hid (show Bad T (ts.length+1) true=.panicked [{v:=.iface 145 (.agg #[.int .i64 ((i:Int)-1),.int .i64 2]),recovered:=false}] by
  unfold Bad
  rw [show ((T.length-(ts.length+1):Nat):Int)=(i:Int)-1 by omega]
  rfl)
 have hi1:1≤i:=by omega
 have hi2:i≤1024:=by omega
 clear hi h
 go_enter Tryz.func174,Tryz.ntmps174
 go_wp2_with fail
 exact ⟨rfl,HB.out.symm,rfl⟩
theorem within_mid (h:RS base r tv T deep ts ns nv W):RS base r tv T (deep+1) ts ns nv (W.setCell ⟨r,2,none⟩ (.int .i64 ((deep:Int)+1)))∧Stp r nv W nv (W.setCell ⟨r,2,none⟩ (.int .i64 ((deep:Int)+1))) :=
 ⟨h.deeper (by omega),(Stp.refl r nv W).set 2 _⟩
theorem within_not {p:M Nat} (h:RS base r tv T deep ts ns nv W) (hd:deep<16)
 (hr:∀ W1:World,RS base r tv T (deep+1) ts ns nv W1→W.heap.size≤W1.heap.size→Calls Tryz.prog 190 #[RP r] W1 (PostN base r tv T (deep+1) nv W1 (p ts ns))) :
 Calls Tryz.prog 174 #[RP r,.func (.func 190) #[RP r] #[]] W (PostN base r tv T deep nv W (p ts ns)):=by
 have c2:W.cell? ⟨r,2,none⟩=some (.int .i64 (deep:Int)):=h.box.cell 2
 have f2:=h.box.free 2
 have q1:¬ (16:Int)≤(deep:Int):=by omega
 have q2:decide ((16:Int)≤(deep:Int))=false:=decide_eq_false q1
 have hm:=within_mid h
 have HM:=Lib.hid hm
 have HR:=Lib.hid (hr _ hm.1 hm.2.size)
 clear hm hr h
 go_enter Tryz.func174,Tryz.ntmps174
 go_wp2_with fail
 refine HR.out.mono ?_
 rintro e w1 hp
 rcases hpr:p ts ns with ⟨k,long⟩ | ⟨a,ts1,ns1⟩
 ·rw [hpr] at hp
  obtain ⟨rfl,nv1,s1⟩:=hp
  have HF:=Lib.hid (And.intro hpr (HM.out.2.trans s1))
  clear hpr s1
  unfold Bad
  go_wp2_with fail
  exact ⟨rfl,by first | exact ⟨rfl,_,HF.out.2⟩ | (rw [HF.out.1];exact ⟨rfl,_,HF.out.2⟩)⟩
 ·rw [hpr] at hp
  obtain ⟨nv1,rfl,h1,s1⟩:=hp
  have c2:w1.cell? ⟨r,2,none⟩=some (.int .i64 ((deep:Int)+1)):=h1.box.cell 2
  have f2:=h1.box.free 2
  have HF:=Lib.hid (And.intro hpr (And.intro (h1.deeper (d2:=deep) (a:=(deep:Int)) rfl) ((HM.out.2.trans s1).set 2 (.int .i64 (deep:Int)))))
  have v1:IntKind.i64.wrap ((deep:Int)+1-1)=(deep:Int):=by rw [show ((deep:Int)+1-1)=(deep:Int) by omega];exact IntWalk.i64_in _ (by omega)
  have v2:((deep:Int)+1-1)=(deep:Int):=by omega
  clear hpr h1 s1
  go_wp2_with fail
  exact bodyPost_ret (results_tmp rfl _ _ _) rfl (by first | exact ⟨_,rfl,HF.out.2⟩ | (rw [HF.out.1];exact ⟨_,rfl,HF.out.2⟩))
theorem within_cond {p:M Nat} {bx:Nat} (h:RS base r tv T deep ts ns nv W) (hd:deep<16) (hbx:Blk W bx 112 #[RP r]) (hne:bx≠r)
 (hr:∀ W1:World,RS base r tv T (deep+1) ts ns nv W1→W.heap.size≤W1.heap.size→Blk W1 bx 112 #[RP r]→Calls Tryz.prog 206 #[.pointer (some ⟨bx,0,none⟩)] W1 (PostN base r tv T (deep+1) nv W1 (p ts ns))) :
 Calls Tryz.prog 174 #[RP r,.func (.func 206) #[] #[.pointer (some ⟨bx,0,none⟩)]] W (PostN base r tv T deep nv W (p ts ns)):=by
 have c2:W.cell? ⟨r,2,none⟩=some (.int .i64 (deep:Int)):=h.box.cell 2
 have f2:=h.box.free 2
 have q1:¬ (16:Int)≤(deep:Int):=by omega
 have q2:decide ((16:Int)≤(deep:Int))=false:=decide_eq_false q1
 have hm:=within_mid h
 have HM:=Lib.hid hm
 have HR:=Lib.hid (hr _ hm.1 hm.2.size (hbx.far hne _))
 clear hm hr h
 go_enter Tryz.func174,Tryz.ntmps174
 go_wp2_with fail
 refine HR.out.mono ?_
 rintro e w1 hp
 rcases hpr:p ts ns with ⟨k,long⟩ | ⟨a,ts1,ns1⟩
 ·rw [hpr] at hp
  obtain ⟨rfl,nv1,s1⟩:=hp
  have HF:=Lib.hid (And.intro hpr (HM.out.2.trans s1))
  clear hpr s1
  unfold Bad
  go_wp2_with fail
  exact ⟨rfl,by first | exact ⟨rfl,_,HF.out.2⟩ | (rw [HF.out.1];exact ⟨rfl,_,HF.out.2⟩)⟩
 ·rw [hpr] at hp
  obtain ⟨nv1,rfl,h1,s1⟩:=hp
  have c2:w1.cell? ⟨r,2,none⟩=some (.int .i64 ((deep:Int)+1)):=h1.box.cell 2
  have f2:=h1.box.free 2
  have HF:=Lib.hid (And.intro hpr (And.intro (h1.deeper (d2:=deep) (a:=(deep:Int)) rfl) ((HM.out.2.trans s1).set 2 (.int .i64 (deep:Int)))))
  have v1:IntKind.i64.wrap ((deep:Int)+1-1)=(deep:Int):=by rw [show ((deep:Int)+1-1)=(deep:Int) by omega];exact IntWalk.i64_in _ (by omega)
  have v2:((deep:Int)+1-1)=(deep:Int):=by omega
  clear hpr h1 s1
  go_wp2_with fail
  exact bodyPost_ret (results_tmp rfl _ _ _) rfl (by first | exact ⟨_,rfl,HF.out.2⟩ | (rw [HF.out.1];exact ⟨_,rfl,HF.out.2⟩))
theorem within_query {p:M Nat} {bx:Nat} (h:RS base r tv T deep ts ns nv W) (hd:deep<16) (hbx:Blk W bx 112 #[RP r]) (hne:bx≠r)
 (hr:∀ W1:World,RS base r tv T (deep+1) ts ns nv W1→W.heap.size≤W1.heap.size→Blk W1 bx 112 #[RP r]→Calls Tryz.prog 175 #[.pointer (some ⟨bx,0,none⟩)] W1 (PostN base r tv T (deep+1) nv W1 (p ts ns))) :
 Calls Tryz.prog 174 #[RP r,.func (.func 175) #[] #[.pointer (some ⟨bx,0,none⟩)]] W (PostN base r tv T deep nv W (p ts ns)):=by
 have c2:W.cell? ⟨r,2,none⟩=some (.int .i64 (deep:Int)):=h.box.cell 2
 have f2:=h.box.free 2
 have q1:¬ (16:Int)≤(deep:Int):=by omega
 have q2:decide ((16:Int)≤(deep:Int))=false:=decide_eq_false q1
 have hm:=within_mid h
 have HM:=Lib.hid hm
 have HR:=Lib.hid (hr _ hm.1 hm.2.size (hbx.far hne _))
 clear hm hr h
 go_enter Tryz.func174,Tryz.ntmps174
 go_wp2_with fail
 refine HR.out.mono ?_
 rintro e w1 hp
 rcases hpr:p ts ns with ⟨k,long⟩ | ⟨a,ts1,ns1⟩
 ·rw [hpr] at hp
  obtain ⟨rfl,nv1,s1⟩:=hp
  have HF:=Lib.hid (And.intro hpr (HM.out.2.trans s1))
  clear hpr s1
  unfold Bad
  go_wp2_with fail
  exact ⟨rfl,by first | exact ⟨rfl,_,HF.out.2⟩ | (rw [HF.out.1];exact ⟨rfl,_,HF.out.2⟩)⟩
 ·rw [hpr] at hp
  obtain ⟨nv1,rfl,h1,s1⟩:=hp
  have c2:w1.cell? ⟨r,2,none⟩=some (.int .i64 ((deep:Int)+1)):=h1.box.cell 2
  have f2:=h1.box.free 2
  have HF:=Lib.hid (And.intro hpr (And.intro (h1.deeper (d2:=deep) (a:=(deep:Int)) rfl) ((HM.out.2.trans s1).set 2 (.int .i64 (deep:Int)))))
  have v1:IntKind.i64.wrap ((deep:Int)+1-1)=(deep:Int):=by rw [show ((deep:Int)+1-1)=(deep:Int) by omega];exact IntWalk.i64_in _ (by omega)
  have v2:((deep:Int)+1-1)=(deep:Int):=by omega
  clear hpr h1 s1
  go_wp2_with fail
  exact bodyPost_ret (results_tmp rfl _ _ _) rfl (by first | exact ⟨_,rfl,HF.out.2⟩ | (rw [HF.out.1];exact ⟨_,rfl,HF.out.2⟩))
end
end Go.Proofs.YtnaehhpikhlppaaGreatDoor

namespace Go.Proofs.YtnaehhpikhlppaaGreatDoor
open Go.RowKit LexS ParS BigFrame
attribute [local go_sem] field_tok1 field_tok2
attribute [local go_sem] World.cell?_alloc_some cell_drewN_new free_drewN_new cell_drew_new free_drew_new
section
variable {p:M Nat} {a:Nat} {ts ts1 ts2:List Tk} {ns ns1:List Nd} {er:Er}
theorem shut_err (h:p ts ns=.error er):shut p ts ns=.error er:=by
 unfold shut M.bind
 rw [h]
theorem shut_bad (h:p ts ns=.ok (a,ts1,ns1)) (h2:sees kw_shut ts1=none):shut p ts ns=.error (ts1.length,false):=by
 unfold shut M.bind wants
 rw [h]
 dsimp only
 rw [h2]
theorem shut_ok (h:p ts ns=.ok (a,ts1,ns1)) (h2:sees kw_shut ts1=some ts2):shut p ts ns=.ok (a,ts2,ns1):=by
 unfold shut M.bind wants
 rw [h]
 dsimp only
 rw [h2]
 rfl
end
def ReadsC (K:FuncId) (p:M Nat) (deep:Nat):Prop := ∀ (base r bx:Nat) (tv nv:Value) (T:List Tok) (ts:List Tk) (ns:List Nd) (W:World),RS base r tv T deep ts ns nv W→base≤W.heap.size→ns.length+ts.length≤5000→Blk W bx 112 #[RP r]→bx≠r→base≤bx →
 Calls Tryz.prog K #[.pointer (some ⟨bx,0,none⟩)] W (PostN base r tv T deep nv W (p ts ns))
theorem bx_apart {base r deep bx:Nat} {tv nv:Value} {T:List Tok} {ts:List Tk} {ns:List Nd} {W:World} (h:RS base r tv T deep ts ns nv W) (hb:Blk W bx 112 #[RP r]):nv.ownBlock≠some bx:=fun e=>by
 obtain ⟨_,cur,hc⟩:=h.nodes.block e
 have:=block_types hc hb
 cases this
section
variable {base r deep:Nat} {tv nv nv':Value} {T:List Tok} {ts ts1:List Tk} {ns:List Nd} {W W':World}
theorem cond_c {q:M Nat} (hq:Reads 144 q deep):ReadsC 206 (shut q) deep:=by
 intro base r bx tv nv T ts ns W h hbase hB hbx hne hbb
 have c0:W.cell? ⟨bx,0,none⟩=some (RP r):=hbx.cell 0
 have HI:=Lib.hid (hq _ _ _ _ _ _ _ _ h hbase hB)
 have HX:=Lib.hid (And.intro hbx (bx_apart h hbx))
 clear h hbx
 go_enter Tryz.func206,Tryz.ntmps206
 go_wp2_with fail
 refine HI.out.mono ?_
 rintro e w1 hp
 rcases hr:q ts ns with ⟨k,long⟩ | ⟨a,ts1,ns1⟩
 ·rw [hr] at hp
  obtain ⟨rfl,nv1,s1⟩:=hp
  have HF:=Lib.hid (And.intro (shut_err hr) s1)
  clear hr s1
  unfold Bad
  go_wp2_with fail
  exact ⟨rfl,by rw [HF.out.1];exact ⟨rfl,_,HF.out.2⟩⟩
 ·rw [hr] at hp
  obtain ⟨nv1,rfl,h1,s1⟩:=hp
  have c0:w1.cell? ⟨bx,0,none⟩=some (RP r):=(s1.blk HX.out.1 hne HX.out.2).cell 0
  rcases hs:sees kw_shut ts1 with _ | ts2
  ·have HF:=Lib.hid (And.intro (shut_bad hr hs) s1)
   have HW:=Lib.hid (wants_no h1 hs)
   clear hr hs s1 h1
   go_wp2_with fail
   refine HW.out.mono ?_
   rintro e w2 ⟨rfl,m2⟩
   have HM:=Lib.hid (HF.out.2.trans (m2.stp _))
   clear m2
   unfold Bad
   go_wp2_with fail
   exact ⟨rfl,by rw [HF.out.1];exact ⟨rfl,_,HM.out⟩⟩
  ·have HF:=Lib.hid (And.intro (shut_ok hr hs) s1)
   have HW:=Lib.hid (wants_yes h1 hs)
   clear hr hs s1 h1
   go_wp2_with fail
   refine HW.out.mono ?_
   rintro e w2 ⟨rfl,h2,m2⟩
   have HM:=Lib.hid (And.intro h2 (HF.out.2.trans (m2.stp _)))
   clear h2 m2
   go_wp2_with fail
   exact bodyPost_ret (results_tmp rfl _ _ _) rfl (by rw [HF.out.1];exact ⟨_,rfl,HM.out⟩)
theorem query_c {q:M Nat} (hq:Reads 53 q deep):ReadsC 175 (shut q) deep:=by
 intro base r bx tv nv T ts ns W h hbase hB hbx hne hbb
 have c0:W.cell? ⟨bx,0,none⟩=some (RP r):=hbx.cell 0
 have HI:=Lib.hid (hq _ _ _ _ _ _ _ _ h hbase hB)
 have HX:=Lib.hid (And.intro hbx (bx_apart h hbx))
 clear h hbx
 go_enter Tryz.func175,Tryz.ntmps175
 go_wp2_with fail
 refine HI.out.mono ?_
 rintro e w1 hp
 rcases hr:q ts ns with ⟨k,long⟩ | ⟨a,ts1,ns1⟩
 ·rw [hr] at hp
  obtain ⟨rfl,nv1,s1⟩:=hp
  have HF:=Lib.hid (And.intro (shut_err hr) s1)
  clear hr s1
  unfold Bad
  go_wp2_with fail
  exact ⟨rfl,by rw [HF.out.1];exact ⟨rfl,_,HF.out.2⟩⟩
 ·rw [hr] at hp
  obtain ⟨nv1,rfl,h1,s1⟩:=hp
  have c0:w1.cell? ⟨bx,0,none⟩=some (RP r):=(s1.blk HX.out.1 hne HX.out.2).cell 0
  rcases hs:sees kw_shut ts1 with _ | ts2
  ·have HF:=Lib.hid (And.intro (shut_bad hr hs) s1)
   have HW:=Lib.hid (wants_no h1 hs)
   clear hr hs s1 h1
   go_wp2_with fail
   refine HW.out.mono ?_
   rintro e w2 ⟨rfl,m2⟩
   have HM:=Lib.hid (HF.out.2.trans (m2.stp _))
   clear m2
   unfold Bad
   go_wp2_with fail
   exact ⟨rfl,by rw [HF.out.1];exact ⟨rfl,_,HM.out⟩⟩
  ·have HF:=Lib.hid (And.intro (shut_ok hr hs) s1)
   have HW:=Lib.hid (wants_yes h1 hs)
   clear hr hs s1 h1
   go_wp2_with fail
   refine HW.out.mono ?_
   rintro e w2 ⟨rfl,h2,m2⟩
   have HM:=Lib.hid (And.intro h2 (HF.out.2.trans (m2.stp _)))
   clear h2 m2
   go_wp2_with fail
   exact bodyPost_ret (results_tmp rfl _ _ _) rfl (by rw [HF.out.1];exact ⟨_,rfl,HM.out⟩)
end
def WithN (p:M Nat) (deep:Nat):Prop := ∀ (base r:Nat) (tv nv:Value) (T:List Tok) (ts:List Tk) (ns:List Nd) (W:World),RS base r tv T deep ts ns nv W→base≤W.heap.size→ns.length+ts.length≤5000→ts.length+1≤T.length →
 Calls Tryz.prog 174 #[RP r,.func (.func 190) #[RP r] #[]] W (PostN base r tv T deep nv W (p ts ns))
def WithC (K:FuncId) (p:M Nat) (deep:Nat):Prop := ∀ (base r bx:Nat) (tv nv:Value) (T:List Tok) (ts:List Tk) (ns:List Nd) (W:World),RS base r tv T deep ts ns nv W→base≤W.heap.size→ns.length+ts.length≤5000→ts.length+1≤T.length→Blk W bx 112 #[RP r]→bx≠r→base≤bx →
 Calls Tryz.prog 174 #[RP r,.func (.func K) #[] #[.pointer (some ⟨bx,0,none⟩)]] W (PostN base r tv T deep nv W (p ts ns))
theorem deep_post {base r deep:Nat} {tv nv:Value} {T:List Tok} {ts:List Tk} {ns:List Nd} {W:World} {e:Ending} {w':World} (h:e=Bad T (ts.length+1) true∧W=w'):PostN base r tv T deep nv W ((M.deep:M Nat) ts ns) e w':=by
 obtain ⟨rfl,rfl⟩:=h
 exact ⟨rfl,nv,Stp.refl _ _ _⟩
theorem withN_deep {deep:Nat} (hd:deep=16):WithN M.deep deep:=fun base r tv nv T ts ns W h hb hB ht=>(within_deep h (by omega) (by omega) ht).mono fun e w' hp=>deep_post hp
theorem withC_deep {K:FuncId} {deep:Nat} (hd:deep=16):WithC K M.deep deep:=fun base r bx tv nv T ts ns W h hb hB ht _ _ _=>(within_deep h (by omega) (by omega) ht).mono fun e w' hp=>deep_post hp
theorem withN_go {p:M Nat} {deep:Nat} (hd:deep<16) (hr:Reads 190 p (deep+1)):WithN p deep:=fun base r tv nv T ts ns W h hb hB ht =>
 within_not h hd fun W1 h1 hs=>hr _ _ _ _ _ _ _ _ h1 (Nat.le_trans hb hs) hB
theorem withC_cond {p:M Nat} {deep:Nat} (hd:deep<16) (hr:ReadsC 206 p (deep+1)):WithC 206 p deep:=fun base r bx tv nv T ts ns W h hb hB ht hbx hne hbb =>
 within_cond h hd hbx hne fun W1 h1 hs hx=>hr _ _ _ _ _ _ _ _ _ h1 (Nat.le_trans hb hs) hB hx hne hbb
theorem withC_query {p:M Nat} {deep:Nat} (hd:deep<16) (hr:ReadsC 175 p (deep+1)):WithC 175 p deep:=fun base r bx tv nv T ts ns W h hb hB ht hbx hne hbb =>
 within_query h hd hbx hne fun W1 h1 hs hx=>hr _ _ _ _ _ _ _ _ _ h1 (Nat.le_trans hb hs) hB hx hne hbb
end Go.Proofs.YtnaehhpikhlppaaGreatDoor

namespace Go.Proofs.YtnaehhpikhlppaaGreatDoor
open Go.RowKit LexS ParS BigFrame
attribute [local go_sem] field_tok1 field_tok2
attribute [local go_sem] World.cell?_alloc_some cell_drewN_new free_drewN_new cell_drew_new free_drew_new
section
variable {p q:M Nat} {a:Nat} {ts ts1 ts2 ts3:List Tk} {ns ns1 ns2:List Nd} {er:Er} {t u:Tk} {k:Nat} {v:Val}
theorem bind_eq {α β:Type} {p:M α} {f:α→M β} {a:α} (h:p ts ns=.ok (a,ts1,ns1)):M.bind p f ts ns=f a ts1 ns1:=by
 unfold M.bind
 rw [h]
theorem notOf_neg_err (h:sees kw_not ts=some ts1) (h2:p ts1 ns=.error er):notOf p q ts ns=.error er:=by
 unfold notOf M.bind
 rw [h]
 dsimp only
 rw [h2]
theorem notOf_neg_ok (h:sees kw_not ts=some ts1) (h2:p ts1 ns=.ok (a,ts2,ns2)):notOf p q ts ns=.ok (ns2.length,ts2,ns2++[node 13 [a]]):=by
 unfold notOf M.bind
 rw [h]
 dsimp only
 rw [h2]
 rfl
theorem notOf_open (h:sees kw_not ts=none) (h2:sees kw_open ts=some ts1):notOf p q ts ns=q ts1 ns:=by
 unfold notOf
 rw [h]
 dsimp only
 rw [h2]
theorem notOf_leaf (h:sees kw_not ts=none) (h2:sees kw_open ts=none):notOf p q ts ns=leaf ts ns:=by
 unfold notOf
 rw [h]
 dsimp only
 rw [h2]
theorem leaf_bad (h:∀ t ts1,ts=t::ts1→t.kind≠1):leaf ts ns=.error (ts.length,false):=by
 unfold leaf M.bind
 rw [take_bad h]
theorem leaf_word (ht:ts=t::ts1) (hk:t.kind=1):leaf ts ns=(match sees kw_has ts1 with
 | some ts2=>M.bind (take 3) (fun u=>lay {node 15 [] with s:=t.s,v:=⟨2,0,u.s⟩}) ts2 ns
 | none=>match choice kw_signs 1 ts1 with
   | (0,_)=>.error (ts1.length,false)
   | (k+1,ts2)=>M.bind value (fun v=>lay {node 14 [] with s:=t.s,n:=((k+1:Nat):Int),v:=v}) ts2 ns):=by
 exact bind_eq (by rw [ht];exact take_ok hk)
theorem leaf_has_bad (ht:ts=t::ts1) (hk:t.kind=1) (h:sees kw_has ts1=some ts2) (h3:∀ t ts1,ts2=t::ts1→t.kind≠3):leaf ts ns=.error (ts2.length,false):=by
 rw [leaf_word ht hk,h]
 dsimp only
 unfold M.bind
 rw [take_bad h3]
theorem leaf_has (ht:ts=t::ts1) (hk:t.kind=1) (h:sees kw_has ts1=some ts2) (h3:ts2=u::ts3) (hu:u.kind=3):leaf ts ns=.ok (ns.length,ts3,ns++[{node 15 [] with s:=t.s,v:=⟨2,0,u.s⟩}]):=by
 rw [leaf_word ht hk,h]
 dsimp only
 unfold M.bind
 rw [h3,take_ok hu]
 rfl
theorem leaf_sign_bad (ht:ts=t::ts1) (hk:t.kind=1) (h:sees kw_has ts1=none) (h3:choice kw_signs 1 ts1=(0,ts2)):leaf ts ns=.error (ts1.length,false):=by
 rw [leaf_word ht hk,h]
 dsimp only
 rw [h3]
theorem leaf_cmp_err (ht:ts=t::ts1) (hk:t.kind=1) (h:sees kw_has ts1=none) (h3:choice kw_signs 1 ts1=(k+1,ts2)) (hv:value ts2 ns=.error er):leaf ts ns=.error er:=by
 rw [leaf_word ht hk,h]
 dsimp only
 rw [h3]
 dsimp only
 unfold M.bind
 rw [hv]
theorem leaf_cmp (ht:ts=t::ts1) (hk:t.kind=1) (h:sees kw_has ts1=none) (h3:choice kw_signs 1 ts1=(k+1,ts2)) (hv:value ts2 ns=.ok (v,ts3,ns2)) :
 leaf ts ns=.ok (ns2.length,ts3,ns2++[{node 14 [] with s:=t.s,n:=((k+1:Nat):Int),v:=v}]):=by
 rw [leaf_word ht hk,h]
 dsimp only
 rw [h3]
 dsimp only
 unfold M.bind
 rw [hv]
 rfl
end
section
variable {base r deep:Nat} {tv nv nv':Value} {T:List Tok} {ts ts1:List Tk} {ns:List Nd} {W W':World}
theorem box_start (h:RS base r tv T deep ts ns nv W):∃ W0,W0=W.alloc (.cells #[RP r] 112)∧RS base r tv T deep ts ns nv W0∧Blk W0 W.heap.size 112 #[RP r]∧Mv r W W0∧W.heap.size≠r∧Below W.heap.size W W0:=by
 have hb:Below W.heap.size W (W.alloc (.cells #[RP r] 112)):=(Below.refl _ _).alloc (Nat.le_refl _) _
 exact ⟨_,rfl,h.kept hb,Blk.new W _ _,Stp.of hb,(Nat.ne_of_lt h.box.lt).symm,hb⟩
theorem not_neg {inNot inCond:M Nat} (h1:WithN inNot deep) (n1:Nice inNot) (h:RS base r tv T deep ts ns nv W) (hbase:base≤W.heap.size) (hB:ns.length+ts.length≤5000) (hs:sees kw_not ts=some ts1) :
 Calls Tryz.prog 190 #[RP r] W (PostN base r tv T deep nv W (notOf inNot inCond ts ns)):=by
 have hmf:=hmfA
 obtain ⟨W0,hW0,h0,x0,m0,hne,hb0⟩:=box_start h
 have HS:=Lib.hid (sees_yes h0 hs)
 have hl:=sees_len hs
 have hsh:=h.short
 have HQ:=Lib.hid hs
 have H1:=Lib.hid h1
 have N1:=Lib.hid n1
 have X0:=Lib.hid x0
 have M0:=Lib.hid m0
 have HW:=Lib.hid hW0
 have c0:W0.cell? ⟨W.heap.size,0,none⟩=some (RP r):=x0.cell 0
 clear h h0 x0 m0 hs h1 n1 hb0
 go_enter Tryz.func190,Tryz.ntmps190
 go_wp2_with fail
 rw [show W.alloc (.cells #[RP r] 112)=W0 from HW.out.symm]
 clear hW0
 refine HS.out.mono ?_
 rintro e w1 ⟨rfl,h1,m1⟩
 have x1:=m1.blk X0.out hne
 have M1:=Lib.hid (M0.out.trans m1)
 have hb1:base≤w1.heap.size:=Nat.le_trans hbase M1.out.size
 have X1:=Lib.hid (And.intro x1 (bx_apart h1 x1))
 have c1:w1.cell? ⟨W.heap.size,0,none⟩=some (RP r):=x1.cell 0
 have HC:=Lib.hid (H1.out _ _ _ _ _ _ _ _ h1 hb1 (by omega) (by omega))
 clear h1 m1 x1 c0
 go_wp2_with fail
 refine HC.out.mono ?_
 rintro e w2 hp
 rcases hr:inNot ts1 ns with ⟨k,long⟩ | ⟨a,ts2,ns2⟩
 ·rw [hr] at hp
  obtain ⟨rfl,nv1,s1⟩:=hp
  have HF:=Lib.hid (And.intro (notOf_neg_err (q:=inCond) HQ.out hr) ((Mv.stp M1.out nv).trans s1))
  clear hr s1
  unfold Bad
  go_wp2_with fail
  exact ⟨rfl,by rw [HF.out.1];exact ⟨rfl,_,HF.out.2⟩⟩
 ·rw [hr] at hp
  obtain ⟨nv1,rfl,h2,s2⟩:=hp
  have hc:=N1.out.1 _ _ _ _ _ hr
  have c2:w2.cell? ⟨W.heap.size,0,none⟩=some (RP r):=(s2.blk X1.out.1 hne X1.out.2).cell 0
  have HE:=Lib.hid (notOf_neg_ok (q:=inCond) HQ.out hr)
  have S2:=Lib.hid ((Mv.stp M1.out nv).trans s2)
  have hb2:base≤w2.heap.size:=Nat.le_trans hbase S2.out.size
  have hbw:Below w2.heap.size w2 (w2.alloc (.cells #[.int .i64 (a:Int)] 3)):=(Below.refl _ _).alloc (Nat.le_refl _) _
  have HL:=Lib.hid (lay_any (ndM 13 [a] w2.heap.size) (h2.kept hbw) (ndM_ok (Blk.new w2 _ _) hb2 (by simp)) (by omega) (Nat.le_trans hb2 hbw.size))
  have S4:=Lib.hid (S2.out.trans (Stp.of (r:=r) hbw))
  clear hr h2 s2 hbw c1
  go_wp2_with fail
  refine HL.out.mono ?_
  rintro e w4 ⟨nv4,rfl,h4,s4⟩
  have HN:=Lib.hid (And.intro h4 (S4.out.trans s4))
  clear h4 s4
  go_wp2_with fail
  exact bodyPost_ret (results_tmp rfl _ _ _) rfl (by rw [HE.out];exact ⟨_,rfl,HN.out⟩)
theorem not_open {inNot inCond:M Nat} (h2:WithC 206 inCond deep) (h:RS base r tv T deep ts ns nv W) (hbase:base≤W.heap.size) (hB:ns.length+ts.length≤5000) (hs:sees kw_not ts=none) (ho:sees kw_open ts=some ts1) :
 Calls Tryz.prog 190 #[RP r] W (PostN base r tv T deep nv W (notOf inNot inCond ts ns)):=by
 have hmf:=hmfA
 obtain ⟨W0,hW0,h0,x0,m0,hne,hb0⟩:=box_start h
 have HS:=Lib.hid (sees_no h0 hs)
 have hl:=sees_len ho
 have hsh:=h.short
 have HQ:=Lib.hid (notOf_open (p:=inNot) (q:=inCond) (ns:=ns) hs ho)
 have HO:=Lib.hid ho
 have H1:=Lib.hid h2
 have X0:=Lib.hid x0
 have M0:=Lib.hid m0
 have HW:=Lib.hid hW0
 have c0:W0.cell? ⟨W.heap.size,0,none⟩=some (RP r):=x0.cell 0
 clear h h0 x0 m0 hs h2 hb0 ho
 go_enter Tryz.func190,Tryz.ntmps190
 go_wp2_with fail
 rw [show W.alloc (.cells #[RP r] 112)=W0 from HW.out.symm]
 clear hW0
 refine HS.out.mono ?_
 rintro e w1 ⟨rfl,h1,m1⟩
 have x1:=m1.blk X0.out hne
 have M1:=Lib.hid (M0.out.trans m1)
 have X1:=Lib.hid x1
 have c1:w1.cell? ⟨W.heap.size,0,none⟩=some (RP r):=x1.cell 0
 have HS2:=Lib.hid (sees_yes h1 HO.out)
 clear h1 m1 x1 c0
 go_wp2_with fail
 refine HS2.out.mono ?_
 rintro e w2 ⟨rfl,h2,m2⟩
 have x2:=m2.blk X1.out hne
 have M2:=Lib.hid (M1.out.trans m2)
 have hb2:base≤w2.heap.size:=Nat.le_trans hbase M2.out.size
 have c2:w2.cell? ⟨W.heap.size,0,none⟩=some (RP r):=x2.cell 0
 have HC:=Lib.hid (H1.out _ _ _ _ _ _ _ _ _ h2 hb2 (by omega) (by omega) x2 hne hbase)
 clear h2 m2 x2 c1
 go_wp2_with fail
 refine HC.out.mono ?_
 rintro e w3 hp
 rcases hr:inCond ts1 ns with ⟨k,long⟩ | ⟨a,ts2,ns2⟩
 ·rw [hr] at hp
  obtain ⟨rfl,nv1,s1⟩:=hp
  have HF:=Lib.hid (And.intro (HQ.out.trans hr) ((Mv.stp M2.out nv).trans s1))
  clear hr s1
  unfold Bad
  go_wp2_with fail
  exact ⟨rfl,by rw [HF.out.1];exact ⟨rfl,_,HF.out.2⟩⟩
 ·rw [hr] at hp
  obtain ⟨nv1,rfl,h3,s3⟩:=hp
  have HF:=Lib.hid (And.intro (HQ.out.trans hr) (And.intro h3 ((Mv.stp M2.out nv).trans s3)))
  clear hr h3 s3
  go_wp2_with fail
  exact bodyPost_ret (results_tmp rfl _ _ _) rfl (by rw [HF.out.1];exact ⟨_,rfl,HF.out.2⟩)
end
end Go.Proofs.YtnaehhpikhlppaaGreatDoor
