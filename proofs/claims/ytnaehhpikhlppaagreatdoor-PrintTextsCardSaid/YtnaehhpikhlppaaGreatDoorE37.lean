/- Several texts of the proof, joined. -/
import Derived.Test.YtnaehhpikhlppaaGreatDoorE36
import Derived.Test.YtnaehhpikhlppaaGreatDoorE16
import Derived.Deep.Cut
set_option maxHeartbeats 4000000
set_option maxRecDepth 100000
set_option linter.unusedVariables false
set_option linter.unusedSimpArgs false
namespace Go.Proofs.YtnaehhpikhlppaaGreatDoor
open Go.RowKit LexS ParS BigFrame
attribute [local go_sem] World.cell?_alloc_some cell_drewN_new free_drewN_new cell_drew_new free_drew_new
abbrev XN:=Except Er (Nat×List Tk×List Nd)
def thenX (y:XN) (f:Nat→M Nat):XN:=match y with
 | .error e=>.error e
 | .ok (a,ts,ns)=>f a ts ns
def measX:XN→Nat
 | .error _=>0
 | .ok (_,ts,_)=>ts.length+1
def PostR (base r:Nat) (tv:Value) (T:List Tok) (deep:Nat) (nv:Value) (W:World) (x:XN) (e:Ending) (W':World):Prop :=
 ∃ (nv':Value) (i:Int),e=.returned (.int .i64 i)∧(∀ a ts ns,x=.ok (a,ts,ns)→i=(a:Int))∧RF base r tv T deep (stOf x) nv' W'∧Stp r nv W nv' W'
def Room (st:RSt):Prop := ∀ ts ns,st=.ok (ts,ns)→ns.length+ts.length<5000
def Sure (b:Bool) (st:RSt):Prop:=b=true∨∃ e,st=.error e
theorem Sure.go {α:Type} {b:Bool} {st:RSt} (h:Sure b st) (p:M α):Sure b (stOf (goP p st)):=by
 rcases h with h | ⟨e,rfl⟩
 ·exact .inl h
 ·exact .inr ⟨e,rfl⟩
theorem Sure.ok {b:Bool} {x:List Tk×List Nd} (h:Sure b (.ok x)) (st:RSt):Sure b st:=by
 rcases h with h | ⟨e,h⟩
 ·exact .inl h
 ·cases h
def ReadsR (b:Bool) (K:FuncId) (p:M Nat) (deep:Nat):Prop := ∀ (base r:Nat) (tv nv:Value) (T:List Tok) (st:RSt) (W:World),RF base r tv T deep st nv W→base≤W.heap.size→Room st→Sure b st →
 Calls Tryz.prog K #[RP r] W (PostR base r tv T deep nv W (goP p st))
theorem Nice.room {p:M Nat} (h:Nice p) {st:RSt} (hr:Room st):Room (stOf (goP p st)):=by
 intro ts ns e
 rcases st with er | ⟨ts0,ns0⟩
 ·cases e
 ·have e':stOf (p ts0 ns0)=.ok (ts,ns):=e
  rcases hp:p ts0 ns0 with er | ⟨a,ts1,ns1⟩
  ·rw [hp] at e';cases e'
  ·rw [hp] at e'
   cases e'
   have h1:=h.1 _ _ _ _ _ hp
   have h2:=hr _ _ rfl
   omega
abbrev ndC (kind:Int) (l:Value):Array Value:=#[.int .i64 kind,.string ⟨#[]⟩,.int .i64 0,.int .i64 0,.int .i64 0,.int .i64 0,.int .i64 0,.string ⟨#[]⟩,.int .i64 0,.int .i64 0,.int .i64 0,.int .i64 0,.int .i64 0,.int .i64 0,.int .i64 0,.int .i64 0,l,.slice none 0 0,.slice none 0 0]
section
variable {base r deep d2:Nat} {tv nv nv' nv1:Value} {T:List Tok} {st st2:RSt} {ts ts1:List Tk} {ns:List Nd} {W W' Wk w1 w2 W1:World}
theorem lay_names {y:XN} {l:List Int} {kind:Nat} {f:Nat→List Nat} (h:RF base r tv T deep (stOf y) nv1 W1) (hbase:base≤W1.heap.size) (hl:l.length≤1000) (hroom:∀ b ts ns,y=.ok (b,ts,ns)→ns.length<5000) (hok:∀ b ts ns,y=.ok (b,ts,ns)→l=(f b).map fun (n:Nat)=>(n:Int)) :
 Calls Tryz.prog 68 #[RP r,.agg (ndC kind (.slice (some ⟨W1.heap.size,0,none⟩) l.length l.length))] (W1.alloc (.cells (l.map fun i=>Value.int .i64 i).toArray 3)) (PostR base r tv T deep nv1 W1 (thenX y fun b=>lay (node kind (f b)))):=by
 have hb:Below W1.heap.size W1 (W1.alloc (.cells (l.map fun i=>Value.int .i64 i).toArray 3)):=(Below.refl _ _).alloc (Nat.le_refl _) _
 have h1:=h.kept hb
 have hblk:=Blk.new W1 3 (l.map fun i=>Value.int .i64 i).toArray
 have key:∀ nd:Nd,(∀ b ts ns,y=.ok (b,ts,ns)→nd=node kind (f b))→Calls Tryz.prog 68 #[RP r,.agg (ndC kind (.slice (some ⟨W1.heap.size,0,none⟩) l.length l.length))] (W1.alloc (.cells (l.map fun i=>Value.int .i64 i).toArray 3)) (LayP base r tv T deep (stOf y) nd nv1 (W1.alloc (.cells (l.map fun i=>Value.int .i64 i).toArray 3))):=by
  intro nd hnd
  refine lay_r nd _ h1 (Nat.le_trans hbase hb.size) (fun ts ns e=>?_)
  rcases y with er | ⟨b,ts',ns'⟩
  ·cases e
  ·cases e
   have e1:=hok _ _ _ rfl
   have e2:=hnd _ _ _ rfl
   subst e2
   have e3:(l.map fun i=>Value.int .i64 i)=intsL (f b):=by rw [e1];simp [intsL]
   have e4:l.length=(f b).length:=by rw [e1];simp
   rw [e3] at hblk ⊢
   rw [e4] at hl ⊢
   exact ⟨hroom _ _ _ rfl,ndM kind (f b) W1.heap.size,rfl,ndM_ok hblk hbase hl,rfl⟩
 rcases y with er | ⟨b,ts,ns⟩
 ·refine (key (node kind []) (fun b ts ns e=>by cases e)).mono ?_
  rintro e w2 ⟨nv2,i,he,hi,h2,s2⟩
  exact ⟨nv2,i,he,(fun a ts ns e=>by cases e),h2,(Stp.of hb).trans s2⟩
 ·refine (key (node kind (f b)) (fun b ts ns e=>by cases e;rfl)).mono ?_
  rintro e w2 ⟨nv2,i,he,hi,h2,s2⟩
  refine ⟨nv2,i,he,fun a ts' ns' e=>?_,h2,(Stp.of hb).trans s2⟩
  cases e
  exact hi _ _ rfl
structure JR (base r deep:Nat) (tv nv:Value) (T:List Tok) (W:World) (w:Bytes) (kind:Nat) (read:M Nat) (st:RSt) (f:Nat) (y:XN) (i:Int) (nv1:Value) (W1:World):Prop where
 eq:goP (joined w kind read) st=thenX y fun a=>joinedGo w kind read f a
 fl:∀ a ts ns,y=.ok (a,ts,ns)→ts.length<f∧i=(a:Int)
 rf:RF base r tv T deep (stOf y) nv1 W1
 st:Stp r nv W nv1 W1
 bd:Room (stOf y)
theorem JR.start {w:Bytes} {kind:Nat} {read:M Nat} {i:Int} (h:RF base r tv T deep st nv W) (hn:∀ a ts ns,goP read st=.ok (a,ts,ns)→i=(a:Int)) (h1:RF base r tv T deep (stOf (goP read st)) nv1 W1) (s:Stp r nv W nv1 W1) (hb:Room (stOf (goP read st))):JR base r deep tv nv T W w kind read st fuel (goP read st) i nv1 W1:=by
 refine ⟨?_,fun a ts ns e=>⟨?_,hn a ts ns e⟩,h1,s,hb⟩
 ·rcases st with er | ⟨ts,ns⟩
  ·rfl
  ·show M.bind read _ ts ns=thenX (read ts ns) _
   unfold M.bind
   rcases read ts ns with er | ⟨a,ts1,ns1⟩<;>rfl
 ·have h2:=h1.left
  have h3:=h1.few
  rw [e] at h2
  have:ts.length≤T.length:=h2
  unfold fuel
  omega
theorem JR.stop {w:Bytes} {kind f:Nat} {read:M Nat} {i:Int} {y:XN} (h:JR base r deep tv nv T W w kind read st f y i nv1 W1) (hs:seesR w (stOf y)=false):goP (joined w kind read) st=y:=by
 rw [h.eq]
 rcases y with er | ⟨a,ts,ns⟩
 ·rfl
 ·have hf:=(h.fl _ _ _ rfl).1
  obtain ⟨f1,rfl⟩:∃ f1,f=f1+1:=⟨f-1,by omega⟩
  refine joinedGo_none ?_
  have h':isS w ts=false:=hs
  unfold isS at h'
  cases e:sees w ts with
  | none=>rfl
  | some x=>rw [e] at h';cases h'
theorem JR.next {w:Bytes} {kind f:Nat} {read:M Nat} {i j:Int} {a:Nat} {t:Tk} {nv2:Value} {W2:World} (h:JR base r deep tv nv T W w kind read st f (.ok (a,t::ts1,ns)) i nv1 W1) (hs:sees w (t::ts1)=some ts1) (hr:Nice read) {y2:XN} (hy:y2=thenX (read ts1 ns) fun b=>lay (node kind [a,b]))
 (hj:∀ a ts ns,y2=.ok (a,ts,ns)→j=(a:Int)) (h2:RF base r tv T deep (stOf y2) nv2 W2) (s2:Stp r nv1 W1 nv2 W2):∃ f2,JR base r deep tv nv T W w kind read st f2 y2 j nv2 W2∧measX y2<measX (.ok (a,t::ts1,ns)):=by
 have hf:=(h.fl _ _ _ rfl).1
 obtain ⟨f1,rfl⟩:∃ f1,f=f1+1:=⟨f-1,by omega⟩
 have hbd:=h.bd _ _ rfl
 simp only [List.length_cons] at hf hbd
 subst hy
 rcases hp:read ts1 ns with er | ⟨b,ts2,ns2⟩
 ·rw [hp] at hj h2
  refine ⟨f1,⟨?_,fun a ts ns e=>(by cases e),h2,h.st.trans s2,fun ts ns e=>(by cases e)⟩,by simp [measX,thenX]⟩
  rw [h.eq]
  exact joinedGo_bad hs hp
 ·rw [hp] at hj h2
  have h1:=hr.1 _ _ _ _ _ hp
  have h3:=hr.short hp
  refine ⟨f1,⟨?_,fun a ts ns e=>?_,h2,h.st.trans s2,fun ts ns e=>?_⟩,?_⟩
  ·rw [h.eq]
   exact joinedGo_some hs hp
  ·refine ⟨?_,hj a ts ns e⟩
   cases e
   omega
  ·cases e
   simp only [List.length_append,List.length_cons,List.length_nil]
   omega
  ·show ts2.length+1<(t::ts1).length+1
   simp only [List.length_cons]
   omega
theorem both_r {read:M Nat} {b:Bool} (hread:ReadsR b 110 read deep) (hcost:Nice read):ReadsR b 66 (joined kw_and 11 read) deep:=by
 intro base r tv nv T st W h hbase hB hsure
 have HSU:=Lib.hid (hsure.go read)
 have HR:=Lib.hid hread
 have HC:=Lib.hid hcost
 have H:=Lib.hid h
 have HRM:=Lib.hid (hcost.room hB)
 clear hread hcost h
 go_enter Tryz.func66,Tryz.ntmps66
 go_wp2_with fail
 refine (HR.out _ _ _ _ _ _ _ H.out hbase hB hsure).mono ?_
 rintro e w1 ⟨nv1,i1,rfl,hi1,h1,s1⟩
 have HJ:=Lib.hid (JR.start (w:=kw_and) (kind:=11) H.out hi1 h1 s1 HRM.out)
 clear hi1 h1 s1
 go_wp2_with fail
 obtain ⟨y0,hy0⟩:∃ y0,y0=goP read st:=⟨_,rfl⟩
 rw [← hy0] at HJ HSU
 clear hy0 HRM
 go_loopg [3] (measX y0+1) (fun gk c wr => ∃ f y nv2 i,measX y<gk∧c=.int .i64 i∧JR base r deep tv nv T W kw_and 11 read st f y i nv2 wr∧Sure b (stOf y))
 case atStart=>exact ⟨_,_,_,_,by omega,rfl,HJ.out,HSU.out⟩
 case round =>
  obtain ⟨f,y,nv2,i,hgk,rfl,hj,hsu⟩:=hrel
  have HK:=Lib.hid hj
  have HSY:=Lib.hid hsu
  clear hj HJ hsu HSU
  cases hs:seesR kw_and (stOf y) with
  | false =>
    have HE:=Lib.hid (HK.out.stop hs)
    have hsee:=sees_r kw_and HK.out.rf
    rw [hs,seesR_no hs] at hsee
    have HS:=Lib.hid hsee
    clear hs hsee
    go_wp2_with fail
    refine HS.out.mono ?_
    rintro e w2 ⟨rfl,h2,m2⟩
    have HF:=Lib.hid (And.intro h2 (HK.out.st.trans (m2.stp _)))
    clear h2 m2
    go_wp2_with fail
    exact bodyPost_ret (results_tmp rfl _ _ _) rfl (by rw [HE.out];exact ⟨_,_,rfl,fun a ts ns e=>(HK.out.fl a ts ns e).2,HF.out⟩)
  | true =>
    obtain ⟨t,ts1,ns,hst,hn,hsw⟩:=seesR_ok hs
    obtain ⟨a,rfl⟩:∃ a,y=.ok (a,t::ts1,ns):=by
     rcases y with er | ⟨a,ts',ns'⟩
     ·cases hst
     ·cases hst
      exact ⟨a,rfl⟩
    have hsee:=sees_r kw_and HK.out.rf
    rw [hs,hn] at hsee
    have HS:=Lib.hid hsee
    have HSW:=Lib.hid hsw
    have hroom:Room (.ok (ts1,ns)):=fun ts' ns' e=>by
     cases e
     have:=HK.out.bd _ _ rfl
     simp only [List.length_cons] at this
     omega
    have HROOM:=Lib.hid hroom
    clear hs hsee hn hst hsw hroom
    go_wp2_with fail
    refine HS.out.mono ?_
    rintro e w2 ⟨rfl,h2,m2⟩
    have S2:=Lib.hid (m2.stp nv2)
    have H2:=Lib.hid h2
    have hb2:base≤w2.heap.size:=Nat.le_trans hbase (Nat.le_trans HK.out.st.size S2.out.size)
    clear h2 m2
    go_wp2_with fail
    refine (HR.out _ _ _ _ _ _ _ H2.out hb2 HROOM.out (HSY.out.ok _)).mono ?_
    rintro e w3 ⟨nv3,i3,rfl,hi3,h3,s3⟩
    have HB3:=Lib.hid (Nat.le_trans hb2 s3.size)
    have hbd:=HK.out.bd _ _ rfl
    have hrm:∀ b ts' ns',read ts1 ns=.ok (b,ts',ns')→ns'.length<5000:=fun b ts' ns' e=>by
     have:=HC.out.1 _ _ _ _ _ e
     simp only [List.length_cons] at hbd
     omega
    have HL:=Lib.hid (lay_names (y:=read ts1 ns) (l:=[i,i3]) (kind:=11) (f:=fun b=>[a,b]) h3 HB3.out (by simp) hrm (fun b ts' ns' e=>by
     have e1:=(HK.out.fl _ _ _ rfl).2
     have e2:=hi3 _ _ _ e
     rw [e1,e2]
     rfl))
    have S3:=Lib.hid (S2.out.trans s3)
    clear hi3 h3 s3 hbd hrm
    go_wp2_with fail
    refine HL.out.mono ?_
    rintro e w4 ⟨nv4,i4,rfl,hi4,h4,s4⟩
    obtain ⟨f2,hj2,hm2⟩:=HK.out.next HSW.out HC.out rfl hi4 h4 (S3.out.trans s4)
    have HJ2:=Lib.hid hj2
    have hm3:measX (thenX (read ts1 ns) fun b=>lay (node 11 [a,b]))+1<gk:=by omega
    clear hi4 h4 s4 hj2 hm2
    go_wp2_with fail
    go_roundg (measX (thenX (read ts1 ns) fun b=>lay (node 11 [a,b]))+1)
    case measure=>omega
    case rel=>exact ⟨f2,_,nv4,i4,by omega,rfl,HJ2.out,HSY.out.ok _⟩
theorem cond_r {read:M Nat} {b:Bool} (hread:ReadsR b 66 read deep) (hcost:Nice read):ReadsR b 34 (joined kw_or 12 read) deep:=by
 intro base r tv nv T st W h hbase hB hsure
 have HSU:=Lib.hid (hsure.go read)
 have HR:=Lib.hid hread
 have HC:=Lib.hid hcost
 have H:=Lib.hid h
 have HRM:=Lib.hid (hcost.room hB)
 clear hread hcost h
 go_enter Tryz.func34,Tryz.ntmps34
 go_wp2_with fail
 refine (HR.out _ _ _ _ _ _ _ H.out hbase hB hsure).mono ?_
 rintro e w1 ⟨nv1,i1,rfl,hi1,h1,s1⟩
 have HJ:=Lib.hid (JR.start (w:=kw_or) (kind:=12) H.out hi1 h1 s1 HRM.out)
 clear hi1 h1 s1
 go_wp2_with fail
 obtain ⟨y0,hy0⟩:∃ y0,y0=goP read st:=⟨_,rfl⟩
 rw [← hy0] at HJ HSU
 clear hy0 HRM
 go_loopg [3] (measX y0+1) (fun gk c wr => ∃ f y nv2 i,measX y<gk∧c=.int .i64 i∧JR base r deep tv nv T W kw_or 12 read st f y i nv2 wr∧Sure b (stOf y))
 case atStart=>exact ⟨_,_,_,_,by omega,rfl,HJ.out,HSU.out⟩
 case round =>
  obtain ⟨f,y,nv2,i,hgk,rfl,hj,hsu⟩:=hrel
  have HK:=Lib.hid hj
  have HSY:=Lib.hid hsu
  clear hj HJ hsu HSU
  cases hs:seesR kw_or (stOf y) with
  | false =>
    have HE:=Lib.hid (HK.out.stop hs)
    have hsee:=sees_r kw_or HK.out.rf
    rw [hs,seesR_no hs] at hsee
    have HS:=Lib.hid hsee
    clear hs hsee
    go_wp2_with fail
    refine HS.out.mono ?_
    rintro e w2 ⟨rfl,h2,m2⟩
    have HF:=Lib.hid (And.intro h2 (HK.out.st.trans (m2.stp _)))
    clear h2 m2
    go_wp2_with fail
    exact bodyPost_ret (results_tmp rfl _ _ _) rfl (by rw [HE.out];exact ⟨_,_,rfl,fun a ts ns e=>(HK.out.fl a ts ns e).2,HF.out⟩)
  | true =>
    obtain ⟨t,ts1,ns,hst,hn,hsw⟩:=seesR_ok hs
    obtain ⟨a,rfl⟩:∃ a,y=.ok (a,t::ts1,ns):=by
     rcases y with er | ⟨a,ts',ns'⟩
     ·cases hst
     ·cases hst
      exact ⟨a,rfl⟩
    have hsee:=sees_r kw_or HK.out.rf
    rw [hs,hn] at hsee
    have HS:=Lib.hid hsee
    have HSW:=Lib.hid hsw
    have hroom:Room (.ok (ts1,ns)):=fun ts' ns' e=>by
     cases e
     have:=HK.out.bd _ _ rfl
     simp only [List.length_cons] at this
     omega
    have HROOM:=Lib.hid hroom
    clear hs hsee hn hst hsw hroom
    go_wp2_with fail
    refine HS.out.mono ?_
    rintro e w2 ⟨rfl,h2,m2⟩
    have S2:=Lib.hid (m2.stp nv2)
    have H2:=Lib.hid h2
    have hb2:base≤w2.heap.size:=Nat.le_trans hbase (Nat.le_trans HK.out.st.size S2.out.size)
    clear h2 m2
    go_wp2_with fail
    refine (HR.out _ _ _ _ _ _ _ H2.out hb2 HROOM.out (HSY.out.ok _)).mono ?_
    rintro e w3 ⟨nv3,i3,rfl,hi3,h3,s3⟩
    have HB3:=Lib.hid (Nat.le_trans hb2 s3.size)
    have hbd:=HK.out.bd _ _ rfl
    have hrm:∀ b ts' ns',read ts1 ns=.ok (b,ts',ns')→ns'.length<5000:=fun b ts' ns' e=>by
     have:=HC.out.1 _ _ _ _ _ e
     simp only [List.length_cons] at hbd
     omega
    have HL:=Lib.hid (lay_names (y:=read ts1 ns) (l:=[i,i3]) (kind:=12) (f:=fun b=>[a,b]) h3 HB3.out (by simp) hrm (fun b ts' ns' e=>by
     have e1:=(HK.out.fl _ _ _ rfl).2
     have e2:=hi3 _ _ _ e
     rw [e1,e2]
     rfl))
    have S3:=Lib.hid (S2.out.trans s3)
    clear hi3 h3 s3 hbd hrm
    go_wp2_with fail
    refine HL.out.mono ?_
    rintro e w4 ⟨nv4,i4,rfl,hi4,h4,s4⟩
    obtain ⟨f2,hj2,hm2⟩:=HK.out.next HSW.out HC.out rfl hi4 h4 (S3.out.trans s4)
    have HJ2:=Lib.hid hj2
    have hm3:measX (thenX (read ts1 ns) fun b=>lay (node 12 [a,b]))+1<gk:=by omega
    clear hi4 h4 s4 hj2 hm2
    go_wp2_with fail
    go_roundg (measX (thenX (read ts1 ns) fun b=>lay (node 12 [a,b]))+1)
    case measure=>omega
    case rel=>exact ⟨f2,_,nv4,i4,by omega,rfl,HJ2.out,HSY.out.ok _⟩
end
end Go.Proofs.YtnaehhpikhlppaaGreatDoor

namespace Go.Proofs.YtnaehhpikhlppaaGreatDoor
open Go.RowKit LexS ParS BigFrame
attribute [local go_sem] World.cell?_alloc_some cell_drewN_new free_drewN_new cell_drew_new free_drew_new
section
variable {base r deep d2:Nat} {tv nv nv' nv1:Value} {T:List Tok} {st st2:RSt} {ts ts1:List Tk} {ns:List Nd} {W W' Wk w1 w2 W1:World}
theorem rnot_bad (p:M Nat) (deep:Nat):ReadsR false 110 p deep:=by
 intro base r tv nv T st W h hbase hB hsure
 obtain ⟨⟨k,long⟩,rfl⟩:∃ e,st=.error e:=by
  rcases hsure with h | h
  ·cases h
  ·exact h
 have c3:W.cell? ⟨r,3,none⟩=some (.int .i64 (codeOf long:Int)):=h.box.cell 3
 have hc:=codeOf_ne long
 obtain ⟨c,hcc⟩:∃ c,c=codeOf long:=⟨_,rfl⟩
 rw [← hcc] at c3 hc
 have q1:((c:Int) != 0)=true:=by rw [bne_iff_ne];omega
 have q2:¬ (c:Int)=0:=by omega
 have H:=Lib.hid h
 clear h hc hcc hsure hB
 go_enter Tryz.func110,Tryz.ntmps110
 go_wp2_with fail
 go_ret
 exact ⟨nv,0,rfl,(fun a ts ns e=>by cases e),H.out,Stp.refl _ _ _⟩
theorem sure_deeper (deep:Nat) (st:RSt):Sure (decide (deep<16)) (deeperR deep st):=by
 rcases st with e | ⟨ts,ns⟩
 ·exact .inr ⟨e,rfl⟩
 ·unfold deeperR
  by_cases h:deep<16
  ·exact .inl (decide_eq_true h)
  ·dsimp only
   rw [if_neg h]
   exact .inr ⟨_,rfl⟩
theorem room_deeper {deep:Nat} {st:RSt} (h:Room st):Room (deeperR deep st):=by
 rcases st with e | ⟨ts,ns⟩
 ·exact h
 ·unfold deeperR
  dsimp only
  split
  ·exact h
  ·exact fun ts ns e=>by cases e
theorem seesR_cons {w:Bytes} {t:Tk}:seesR w (.ok (t::ts1,ns))=isW w t:=isS_cons w t ts1
theorem RF.leave (h:RF base r tv T (deep+1) st nv W):RF base r tv T deep st nv (W.setCell ⟨r,4,none⟩ (.int .i64 (deep:Int))):=h.depth rfl
theorem rnot_not {p:M Nat} {t:Tk} (hn:ReadsR (decide (deep<16)) 110 p (deep+1)) (hp:Nice p) (hd:deep≤100) (h:RF base r tv T deep (.ok (t::ts1,ns)) nv W) (hbase:base≤W.heap.size) (hB:Room (.ok (t::ts1,ns))) (ht:isW kw_not t=true) :
 Calls Tryz.prog 110 #[RP r] W (PostR base r tv T deep nv W (thenX (goP p (deeperR deep (.ok (ts1,ns)))) fun a=>lay (node 13 [a]))):=by
 have hsee:=sees_r kw_not h
 rw [seesR_cons,ht,show nextR kw_not (.ok (t::ts1,ns))=.ok (ts1,ns) by show (Except.ok ((sees kw_not (t::ts1)).getD _,ns):RSt)=_;rw [sees_cons,ht];rfl] at hsee
 have hroom:Room (.ok (ts1,ns)):=fun ts' ns' e=>by
  cases e
  have:=hB _ _ rfl
  simp only [List.length_cons] at this
  omega
 have hlt:ts1.length<T.length:=by
  have:(t::ts1).length≤T.length:=h.left
  simp only [List.length_cons] at this
  omega
 have c3:W.cell? ⟨r,3,none⟩=some (.int .i64 0):=h.box.cell 3
 have HS:=Lib.hid hsee
 have HN:=Lib.hid hn
 have HP:=Lib.hid (And.intro hp hroom)
 have HLT:=Lib.hid hlt
 clear hsee hn hp hroom hlt h hB ht
 go_enter Tryz.func110,Tryz.ntmps110
 go_wp2_with fail
 refine HS.out.mono ?_
 rintro e w2 ⟨rfl,h2,m2⟩
 have HD:=Lib.hid (deeper_r h2 hd (fun ts ns e=>by cases e;exact HLT.out))
 have S2:=Lib.hid (m2.stp nv)
 clear h2 m2 c3
 go_wp2_with fail
 refine HD.out.mono ?_
 rintro e w3 ⟨rfl,h3,m3⟩
 have S3:=Lib.hid (S2.out.trans (m3.stp nv))
 have H3:=Lib.hid h3
 have hb3:base≤w3.heap.size:=Nat.le_trans hbase S3.out.size
 clear h3 m3
 go_wp2_with fail
 refine (HN.out _ _ _ _ _ _ _ H3.out hb3 (room_deeper HP.out.2) (sure_deeper _ _)).mono ?_
 rintro e w4 ⟨nv4,i4,rfl,hi4,h4,s4⟩
 have hbx:=h4.box.cell 4
 have c4:w4.cell? ⟨r,4,none⟩=some (.int .i64 ((deep:Int)+1)):=hbx
 have f4:=h4.box.free 4
 have v4:IntKind.i64.wrap ((deep:Int)+1-1)=(deep:Int):=by rw [IntWalk.i64_in _ (by omega)];omega
 have v5:IntKind.i64.wrap (deep:Int)=(deep:Int):=IntWalk.i64_in _ (by omega)
 obtain ⟨w5,hw5⟩:∃ w5,w5=w4.setCell ⟨r,4,none⟩ (.int .i64 (deep:Int)):=⟨_,rfl⟩
 have h5:RF base r tv T deep (stOf (goP p (deeperR deep (.ok (ts1,ns))))) nv4 w5:=by rw [hw5];exact h4.leave
 have s5:Stp r nv W nv4 w5:=by rw [hw5];exact (S3.out.trans s4).set 4 _
 have hroom:=HP.out.1.room (room_deeper (deep:=deep) HP.out.2)
 have HL:=Lib.hid (lay_names (l:=[i4]) (kind:=13) (f:=fun a=>[a]) h5 (Nat.le_trans hbase s5.size) (by simp) (fun b ts ns e=>by
  have:=hroom ts ns (by rw [e];rfl)
  omega) (fun b ts ns e=>by rw [hi4 b ts ns e];rfl))
 have S5:=Lib.hid s5
 have HW5:=Lib.hid hw5
 clear hbx hi4 h4 s4 h5 s5 hroom hw5
 go_upto_region 7 with (fail)
 rw [show w4.setCell ⟨r,4,none⟩ (.int .i64 (deep:Int))=w5 from HW5.out.symm]
 go_wp2_with fail
 refine HL.out.mono ?_
 rintro e w6 ⟨nv6,i6,rfl,hi6,h6,s6⟩
 have HE:=Lib.hid (And.intro hi6 (And.intro h6 (S5.out.trans s6)))
 clear hi6 h6 s6
 go_wp2_with fail
 exact bodyPost_ret (results_tmp rfl _ _ _) rfl ⟨_,_,rfl,HE.out⟩
theorem shut_run (y:XN):stOf (thenX y fun a=>M.bind (wants kw_shut) fun _=>M.pure a)=run (wants kw_shut) (stOf y):=by
 rcases y with er | ⟨a,ts,ns⟩
 ·rfl
 ·show stOf (M.bind (wants kw_shut) (fun _=>M.pure a) ts ns)=stOf (wants kw_shut ts ns)
  unfold M.bind
  rcases wants kw_shut ts ns with er | ⟨u,ts2,ns2⟩<;>rfl
theorem shut_index {y:XN} {a:Nat} (h:thenX y (fun a=>M.bind (wants kw_shut) fun _=>M.pure a)=.ok (a,ts,ns)):∃ ts' ns',y=.ok (a,ts',ns'):=by
 rcases y with er | ⟨b,ts2,ns2⟩
 ·cases h
 ·have h':M.bind (wants kw_shut) (fun _=>M.pure b) ts2 ns2=.ok (a,ts,ns):=h
  obtain ⟨_,ts3,ns3,_,h2⟩:=bind_ok h'
  cases h2
  exact ⟨_,_,rfl⟩
theorem rnot_open {p:M Nat} {t:Tk} (hn:ReadsR (decide (deep<16)) 34 p (deep+1)) (hp:Nice p) (hd:deep≤100) (h:RF base r tv T deep (.ok (t::ts1,ns)) nv W) (hbase:base≤W.heap.size) (hB:Room (.ok (t::ts1,ns))) (hnt:isW kw_not t=false) (ht:isW kw_open t=true) :
 Calls Tryz.prog 110 #[RP r] W (PostR base r tv T deep nv W (thenX (goP p (deeperR deep (.ok (ts1,ns)))) fun a=>M.bind (wants kw_shut) fun _=>M.pure a)):=by
 have hsee:=sees_r kw_not h
 have hs0:seesR kw_not (.ok (t::ts1,ns))=false:=by rw [seesR_cons,hnt]
 rw [hs0,seesR_no hs0] at hsee
 have hroom:Room (.ok (ts1,ns)):=fun ts' ns' e=>by
  cases e
  have:=hB _ _ rfl
  simp only [List.length_cons] at this
  omega
 have hlt:ts1.length<T.length:=by
  have:(t::ts1).length≤T.length:=h.left
  simp only [List.length_cons] at this
  omega
 have c3:W.cell? ⟨r,3,none⟩=some (.int .i64 0):=h.box.cell 3
 have HS:=Lib.hid hsee
 have HN:=Lib.hid hn
 have HP:=Lib.hid (And.intro hp hroom)
 have HLT:=Lib.hid hlt
 have HT:=Lib.hid ht
 clear hsee hn hp hroom hlt h hB ht hs0 hnt
 go_enter Tryz.func110,Tryz.ntmps110
 go_wp2_with fail
 refine HS.out.mono ?_
 rintro e w1 ⟨rfl,h1,m1⟩
 have hsee:=sees_r kw_open h1
 rw [seesR_cons,HT.out,show nextR kw_open (.ok (t::ts1,ns))=.ok (ts1,ns) by show (Except.ok ((sees kw_open (t::ts1)).getD _,ns):RSt)=_;rw [sees_cons,HT.out];rfl] at hsee
 have HS2:=Lib.hid hsee
 have S1:=Lib.hid (m1.stp nv)
 clear h1 m1 hsee c3
 go_wp2_with fail
 refine HS2.out.mono ?_
 rintro e w2 ⟨rfl,h2,m2⟩
 have HD:=Lib.hid (deeper_r h2 hd (fun ts ns e=>by cases e;exact HLT.out))
 have S2:=Lib.hid (S1.out.trans (m2.stp nv))
 clear h2 m2
 go_wp2_with fail
 refine HD.out.mono ?_
 rintro e w3 ⟨rfl,h3,m3⟩
 have S3:=Lib.hid (S2.out.trans (m3.stp nv))
 have H3:=Lib.hid h3
 have hb3:base≤w3.heap.size:=Nat.le_trans hbase S3.out.size
 clear h3 m3
 go_wp2_with fail
 refine (HN.out _ _ _ _ _ _ _ H3.out hb3 (room_deeper HP.out.2) (sure_deeper _ _)).mono ?_
 rintro e w4 ⟨nv4,i4,rfl,hi4,h4,s4⟩
 have HI4:=Lib.hid hi4
 have S4:=Lib.hid (S3.out.trans s4)
 have HW:=Lib.hid (wants_r kw_shut h4)
 clear hi4 h4 s4
 go_wp2_with fail
 refine HW.out.mono ?_
 rintro e w5 ⟨rfl,h5,m5⟩
 rw [← shut_run] at h5
 have hbx:=h5.box.cell 4
 have c4:w5.cell? ⟨r,4,none⟩=some (.int .i64 ((deep:Int)+1)):=hbx
 have f4:=h5.box.free 4
 have v4:IntKind.i64.wrap ((deep:Int)+1-1)=(deep:Int):=by rw [IntWalk.i64_in _ (by omega)];omega
 have v5:IntKind.i64.wrap (deep:Int)=(deep:Int):=IntWalk.i64_in _ (by omega)
 have HE:=Lib.hid (And.intro h5.leave ((S4.out.trans (m5.stp nv4)).set 4 (.int .i64 (deep:Int))))
 clear hbx h5 m5
 go_wp2_with fail
 exact bodyPost_ret (results_tmp rfl _ _ _) rfl ⟨_,_,rfl,(fun a ts ns e=>by
  obtain ⟨ts',ns',e2⟩:=shut_index e
  exact HI4.out a ts' ns' e2),HE.out⟩
end
end Go.Proofs.YtnaehhpikhlppaaGreatDoor
