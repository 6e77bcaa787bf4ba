/- Several texts of the proof, joined. -/
import Derived.Test.YtnaehhpikhlppaaGreatDoorE40
import Derived.Test.YtnaehhpikhlppaaGreatDoorE18
import Derived.Test.YtnaehhpikhlppaaGreatDoorE19
set_option maxHeartbeats 4000000
set_option maxRecDepth 100000
set_option linter.unusedVariables false
set_option linter.unusedSimpArgs false
namespace Go.Proofs.YtnaehhpikhlppaaGreatDoor
open Go.RowKit LexS ParS BigFrame
attribute [local go_sem] field_tok1 field_tok2
attribute [local go_sem] World.cell?_alloc_some cell_drewN_new free_drewN_new cell_drew_new free_drew_new
theorem run_bind_of {α β:Type} {p:M α} {f:α→M β} {S:RSt→RSt} (h:∀ a ts ns,stOf (f a ts ns)=S (.ok (ts,ns))) (he:∀ e,S (.error e)=.error e) (st:RSt):run (M.bind p f) st=S (run p st):=by
 unfold run
 rw [goP_bind]
 rcases goP p st with e | ⟨a,ts,ns⟩
 ·exact (he e).symm
 ·exact h a ts ns
def groupM:M (List Bytes×List (Nat×Bytes)):=M.bind gnamesM fun l=>M.bind (wants kw_colon) fun _=>M.bind aggs fun a=>M.pure (l,a)
def topM:M (Int×Bytes):=M.bind (take 2) fun t=>M.bind (wants kw_by) fun _=>M.bind (take 1) fun u=>M.pure (t.n,u.s)
theorem run_gnames (st:RSt):run gnamesM st=if seesR kw_colon st then st else run names st:=by
 rcases st with e | ⟨ts,ns⟩
 ·rfl
 ·cases hs:seesR kw_colon (.ok (ts,ns)) with
  | true =>
    rw [if_pos rfl]
    show stOf (gnamesM ts ns)=_
    have h':isS kw_colon ts=true:=hs
    unfold isS at h'
    unfold gnamesM
    cases e:sees kw_colon ts with
    | none=>rw [e] at h';cases h'
    | some x=>rfl
  | false =>
    rw [if_neg (by decide)]
    show stOf (gnamesM ts ns)=stOf (names ts ns)
    unfold gnamesM
    rw [seesR_none hs]
theorem run_group (st:RSt):run groupM st=run aggs (run (wants kw_colon) (run gnamesM st)) :=
 run_bind_of (S:=fun s=>run aggs (run (wants kw_colon) s)) (fun l ts ns=>run_bind_of (S:=run aggs) (fun _ ts ns=>by
  have:=run_bind_of (p:=aggs) (f:=fun a=>M.pure (l,a)) (S:=id) (fun _ _ _=>rfl) (fun _=>rfl) (.ok (ts,ns))
  exact this) (fun _=>rfl) (.ok (ts,ns))) (fun _=>rfl) st
theorem run_top (st:RSt):run topM st=run (take 1) (run (wants kw_by) (run (take 2) st)) :=
 run_bind_of (S:=fun s=>run (take 1) (run (wants kw_by) s)) (fun t ts ns=>run_bind_of (S:=run (take 1)) (fun _ ts ns=>by
  have:=run_bind_of (p:=take 1) (f:=fun u=>M.pure (t.n,u.s)) (S:=id) (fun _ _ _=>rfl) (fun _=>rfl) (.ok (ts,ns))
  exact this) (fun _=>rfl) (.ok (ts,ns))) (fun _=>rfl) st
theorem thenA_ok {α β:Type} {y:Except Er (α×List Tk×List Nd)} {f:α→M β} {b:β} {ts:List Tk} {ns:List Nd} (h:thenA y f=.ok (b,ts,ns)):∃ a ts1 ns1,y=.ok (a,ts1,ns1)∧f a ts1 ns1=.ok (b,ts,ns):=by
 rcases y with e | ⟨a,ts1,ns1⟩
 ·cases h
 ·exact ⟨a,ts1,ns1,rfl,h⟩
theorem goP_ok {α:Type} {p:M α} {st:RSt} {x:α×List Tk×List Nd} (h:goP p st=.ok x):∃ ts ns,st=.ok (ts,ns)∧p ts ns=.ok x:=by
 rcases st with e | ⟨ts,ns⟩
 ·cases h
 ·exact ⟨ts,ns,rfl,h⟩
theorem tokR_of {k:Nat} {st:RSt} {t:Tk} {ts:List Tk} {ns:List Nd} (h:goP (take k) st=.ok (t,ts,ns)):t=tokR k st:=by
 unfold tokR
 rw [h]
theorem group_val {st:RSt} {l:List Bytes} {a:List (Nat×Bytes)} {ts:List Tk} {ns:List Nd} (h:goP groupM st=.ok ((l,a),ts,ns)) :
 (∃ ts1 ns1,goP gnamesM st=.ok (l,ts1,ns1))∧∃ ts2 ns2,goP aggs (run (wants kw_colon) (run gnamesM st))=.ok (a,ts2,ns2):=by
 unfold groupM at h
 rw [goP_bind] at h
 obtain ⟨l',ts1,ns1,h1,h2⟩:=thenA_ok h
 obtain ⟨u,ts2,ns2,h3,h4⟩:=bind_ok h2
 obtain ⟨a',ts3,ns3,h5,h6⟩:=bind_ok h4
 cases h6
 have e1:run gnamesM st=.ok (ts1,ns1):=by unfold run;rw [h1];rfl
 have e2:run (wants kw_colon) (.ok (ts1,ns1))=.ok (ts2,ns2):=by show stOf (wants kw_colon ts1 ns1)=_;rw [h3];rfl
 refine ⟨⟨_,_,h1⟩,?_⟩
 rw [e1,e2]
 exact ⟨_,_,h5⟩
theorem top_val {st:RSt} {n:Int} {s:Bytes} {ts:List Tk} {ns:List Nd} (h:goP topM st=.ok ((n,s),ts,ns)):n=(tokR 2 st).n∧s=(tokR 1 (run (wants kw_by) (run (take 2) st))).s:=by
 unfold topM at h
 rw [goP_bind] at h
 obtain ⟨t,ts1,ns1,h1,h2⟩:=thenA_ok h
 obtain ⟨u,ts2,ns2,h3,h4⟩:=bind_ok h2
 obtain ⟨v,ts3,ns3,h5,h6⟩:=bind_ok h4
 cases h6
 have e1:run (take 2) st=.ok (ts1,ns1):=by unfold run;rw [h1];rfl
 have e2:run (wants kw_by) (.ok (ts1,ns1))=.ok (ts2,ns2):=by show stOf (wants kw_by ts1 ns1)=_;rw [h3];rfl
 rw [e1,e2]
 exact ⟨by rw [tokR_of h1],by rw [tokR_of (st:=.ok (ts2,ns2)) h5]⟩
abbrev stC (kd:Int) (s:Bytes) (n:Int) (lv nv av:Value):List Value:=[.int .i64 kd,.string (BA s),.int .i64 n,.int .i64 0,.int .i64 0,.int .i64 0,.int .i64 0,.string ⟨#[]⟩,.int .i64 0,.int .i64 0,.int .i64 0,.int .i64 0,.int .i64 0,.int .i64 0,.int .i64 0,.int .i64 0,lv,nv,av]
section
variable {base r deep d2:Nat} {tv nv nv' nv0 nv2 lv:Value} {T:List Tok} {st st1 st2:RSt} {ts ts1 ts2:List Tk} {ns ns1:List Nd} {W W' Wx w1 w2 W1 wr wr2:World} {cs cs2:List Value} {ri:Int}
structure XR (base r:Nat) (tv:Value) (T:List Tok) (deep:Nat) (nv0:Value) (W:World) (ri:Int) (st:RSt) (nv:Value) (cs:List Value) (Wx:World):Prop where
 rs:RF base r tv T deep st nv Wx
 sp:Stp r nv0 W nv Wx
 xb:Blk Wx (W.heap.size+1) 42 cs.toArray
 l0:Blk Wx W.heap.size 3 #[.int .i64 ri]
 nn:nv.ownBlock≠some (W.heap.size+1)
 tn:tv.ownBlock≠some (W.heap.size+1)
 hr:r<W.heap.size
theorem XR.kept (h:XR base r tv T deep nv0 W ri st nv cs Wx) (hb:Below Wx.heap.size Wx W'):XR base r tv T deep nv0 W ri st nv cs W' :=
 ⟨h.rs.kept hb,h.sp.trans (Stp.of hb),h.xb.kept hb,h.l0.kept hb,h.nn,h.tn,h.hr⟩
theorem XR.l0_ne (h:XR base r tv T deep nv0 W ri st nv cs Wx):nv.ownBlock≠some W.heap.size:=fun e=>by
 obtain ⟨ns,hn,_⟩:=h.rs.nodes
 obtain ⟨_,cur,hc⟩:=hn.block e
 have:=block_types hc h.l0
 cases this
theorem XR.move (h:XR base r tv T deep nv0 W ri st nv cs Wx) (h1:RF base r tv T d2 st2 nv' W') (s:Stp r nv Wx nv' W'):XR base r tv T d2 nv0 W ri st2 nv' cs W':=by
 have hr:=h.hr
 refine ⟨h1,h.sp.trans s,s.blk h.xb (by omega) h.nn,s.blk h.l0 (by omega) h.l0_ne,fun e=>?_,h.tn,h.hr⟩
 rcases s.own _ e with e1 | e1
 ·exact h.nn e1
 ·have:=h.xb.lt
  omega
theorem XR.moveM (h:XR base r tv T deep nv0 W ri st nv cs Wx) (h1:RF base r tv T d2 st2 nv W') (s:Mv r Wx W'):XR base r tv T d2 nv0 W ri st2 nv cs W':=h.move h1 (Mv.stp s nv)
theorem XR.put (h:XR base r tv T deep nv0 W ri st nv cs Wx) (i:Nat) (u:Value) (hm:cs.set i u=cs2):XR base r tv T deep nv0 W ri st nv cs2 (Wx.setCell ⟨W.heap.size+1,i,none⟩ u):=by
 have hr:=h.hr
 have hx:=box_put h.xb i u
 rw [hm] at hx
 exact ⟨h.rs.far h.xb (by decide) h.tn h.nn (by omega) i u,Stp.far h.sp (by omega) i u,hx,h.l0.far (by show W.heap.size≠W.heap.size+1;omega) _,h.nn,h.tn,h.hr⟩
def StepCut (base r:Nat) (tv:Value) (T:List Tok) (deep:Nat) (nv0:Value) (W:World) (x:XN) (wx:World):Prop :=
 ∃ (st2:RSt) (nd:Nd) (nv2:Value) (kd:Int) (s:Bytes) (n:Int) (lv mv av:Value),stOf x=run (lay nd) st2∧(∀ a ts ns,x=.ok (a,ts,ns)→∃ ts' ns',st2=.ok (ts',ns')∧a=ns'.length)∧RF base r tv T deep st2 nv2 wx∧Stp r nv0 W nv2 wx ∧
   Blk wx (W.heap.size+1) 42 (stC kd s n lv mv av).toArray∧∀ ts ns,st2=.ok (ts,ns)→ns.length<5000∧∃ m:NodeM,stC kd s n lv mv av=m.cells∧MOk wx base m∧m.node=nd
theorem cut_of {α:Type} {x:XN} {z:Except Er (α×List Tk×List Nd)} {f:α→Nd} {kd n:Int} {s:Bytes} {lv mv av:Value} (hx:x=thenA z fun a=>lay (f a)) (K:XR base r tv T deep nv0 W ri (stOf z) nv (stC kd s n lv mv av) Wx)
 (hok:∀ a ts ns,z=.ok (a,ts,ns)→ns.length<5000∧∃ m:NodeM,stC kd s n lv mv av=m.cells∧MOk Wx base m∧m.node=f a):StepCut base r tv T deep nv0 W x Wx:=by
 rcases z with e | ⟨a,ts,ns⟩
 ·subst hx
  exact ⟨.error e,node 0 [],nv,kd,s,n,lv,mv,av,rfl,(fun a ts ns e=>by cases e),K.rs,K.sp,K.xb,fun ts ns e=>by cases e⟩
 ·subst hx
  refine ⟨.ok (ts,ns),f a,nv,kd,s,n,lv,mv,av,rfl,(fun a ts ns e=>by cases e;exact ⟨_,_,rfl,rfl⟩),K.rs,K.sp,K.xb,fun ts' ns' e=>?_⟩
  cases e
  exact hok a ts ns rfl
theorem st_stored {w3 w4:World} {kd n:Int} {s:Bytes} {lv mv av:Value} (hw:(w3.alloc (.cells zeroNd 42)).setCells w3.heap.size 0 (stC kd s n lv mv av)=w4):Below w3.heap.size w3 w4∧Blk w4 w3.heap.size 42 (stC kd s n lv mv av).toArray:=by
 subst hw
 exact ⟨below_puts (Nat.le_refl _) _ _ ((Below.refl _ _).alloc (Nat.le_refl _) _),box_puts (l:=zeroNd.toList) _ 0 (Blk.new w3 _ _)⟩
theorem XR.one {rows:Nat} (h:XR base r tv T deep nv0 W (rows:Int) st nv cs Wx) (hb:base≤W.heap.size):Wx.ownsRow base 3 1 (L1 W) 1 (intsL [rows]):=own_blk h.l0 hb rfl (by decide)
theorem wants_left {w:Bytes} (h:run (wants w) (.ok (ts1,ns))=.ok (ts2,ns1)):ts2.length≤ts1.length∧ns1=ns:=by
 rw [run_wants] at h
 cases hs:seesR w (.ok (ts1,ns)) with
 | false=>rw [hs,if_neg (by decide)] at h;cases h
 | true =>
   obtain ⟨t,ts3,ns3,e1,e2,_⟩:=seesR_ok hs
   cases e1
   rw [hs,if_pos rfl,e2] at h
   cases h
   exact ⟨by simp,rfl⟩
theorem still_room {α:Type} {p:M α} (hp:Still p) (h:Room (.ok (ts1,ns))):∀ a ts ns',goP p (.ok (ts1,ns))=.ok (a,ts,ns')→ns'.length<5000:=fun a ts ns' e=>by
 have e2:p ts1 ns=.ok (a,ts,ns'):=e
 rw [hp _ _ _ _ _ e2]
 have:=h _ _ rfl
 omega
theorem room_next {t:Tk} (h:Room (.ok (t::ts1,ns))):Room (.ok (ts1,ns)):=fun ts' ns' e=>by
 cases e
 have:=h _ _ rfl
 simp only [List.length_cons] at this
 omega
theorem st_where {inner cond:M Nat} {rows:Nat} (h1:sees [119,104,101,114,101] ts=some ts1):stepOf inner cond rows ts ns=thenA (goP cond (.ok (ts1,ns))) fun c=>lay (node 2 [rows,c]):=by
 have hc:choice kw_steps 1 ts=(1,ts1):=by simp only [kw_steps,choice,h1]
 unfold stepOf
 rw [hc]
 exact thenA_bind _ _ _ _
theorem st_keep {inner cond:M Nat} {rows:Nat} (h1:sees [119,104,101,114,101] ts=none) (h2:sees [107,101,101,112] ts=some ts1):stepOf inner cond rows ts ns=thenA (goP names (.ok (ts1,ns))) fun l=>lay {node 3 [rows] with names:=l}:=by
 have hc:choice kw_steps 1 ts=(2,ts1):=by simp only [kw_steps,choice,h1,h2]
 unfold stepOf
 rw [hc]
 exact thenA_bind _ _ _ _
theorem st_align {inner cond:M Nat} {rows:Nat} (h1:sees [119,104,101,114,101] ts=none) (h2:sees [107,101,101,112] ts=none) (h3:sees [97,108,105,103,110] ts=some ts1):stepOf inner cond rows ts ns=thenA (goP (take 2) (.ok (ts1,ns))) fun t=>lay {node 4 [rows] with n:=t.n}:=by
 have hc:choice kw_steps 1 ts=(3,ts1):=by simp only [kw_steps,choice,h1,h2,h3]
 unfold stepOf
 rw [hc]
 exact thenA_bind _ _ _ _
theorem bind_assoc {α β γ:Type} (p:M α) (f:α→M β) (g:β→M γ) (ts:List Tk) (ns:List Nd):thenA (M.bind p f ts ns) g=M.bind p (fun a=>M.bind (f a) g) ts ns:=by
 rw [thenA_bind,thenA_bind]
 rcases p ts ns with e | ⟨a,ts1,ns1⟩
 ·rfl
 ·exact (thenA_bind _ _ _ _).symm
theorem st_group {inner cond:M Nat} {rows:Nat} (h1:sees [119,104,101,114,101] ts=none) (h2:sees [107,101,101,112] ts=none) (h3:sees [97,108,105,103,110] ts=none) (h4:sees [103,114,111,117,112] ts=some ts1) :
 stepOf inner cond rows ts ns=thenA (goP groupM (.ok (ts1,ns))) fun x=>lay {node 5 [rows] with names:=x.1,aggs:=x.2}:=by
 have hc:choice kw_steps 1 ts=(4,ts1):=by simp only [kw_steps,choice,h1,h2,h3,h4]
 unfold stepOf
 rw [hc]
 show M.bind gnamesM (fun l=>M.bind (wants kw_colon) fun _=>M.bind aggs fun a=>lay {node 5 [rows] with names:=l,aggs:=a}) ts1 ns=thenA (groupM ts1 ns) _
 unfold groupM
 rw [bind_assoc,thenA_bind,thenA_bind]
 rcases gnamesM ts1 ns with e | ⟨l,t3,n3⟩
 ·rfl
 show M.bind (wants kw_colon) _ t3 n3=M.bind (M.bind (wants kw_colon) _) _ t3 n3
 rw [thenA_bind (M.bind (wants kw_colon) _),bind_assoc,thenA_bind,thenA_bind]
 rcases wants kw_colon t3 n3 with e | ⟨u,t4,n4⟩
 ·rfl
 show M.bind aggs _ t4 n4=M.bind (M.bind aggs _) _ t4 n4
 rw [thenA_bind (M.bind aggs _),bind_assoc,thenA_bind,thenA_bind]
 rcases aggs t4 n4 with e | ⟨a,t5,n5⟩<;>rfl
theorem st_top {inner cond:M Nat} {rows:Nat} (h1:sees [119,104,101,114,101] ts=none) (h2:sees [107,101,101,112] ts=none) (h3:sees [97,108,105,103,110] ts=none) (h4:sees [103,114,111,117,112] ts=none) (h5:sees [116,111,112] ts=some ts1) :
 stepOf inner cond rows ts ns=thenA (goP topM (.ok (ts1,ns))) fun x=>lay {node 6 [rows] with n:=x.1,s:=x.2}:=by
 have hc:choice kw_steps 1 ts=(5,ts1):=by simp only [kw_steps,choice,h1,h2,h3,h4,h5]
 unfold stepOf
 rw [hc]
 show M.bind (take 2) (fun t=>M.bind (wants kw_by) fun _=>M.bind (take 1) fun u=>lay {node 6 [rows] with n:=t.n,s:=u.s}) ts1 ns=thenA (topM ts1 ns) _
 unfold topM
 rw [bind_assoc,thenA_bind,thenA_bind]
 rcases take 2 ts1 ns with e | ⟨l,t3,n3⟩
 ·rfl
 show M.bind (wants kw_by) _ t3 n3=M.bind (M.bind (wants kw_by) _) _ t3 n3
 rw [thenA_bind (M.bind (wants kw_by) _),bind_assoc,thenA_bind,thenA_bind]
 rcases wants kw_by t3 n3 with e | ⟨u,t4,n4⟩
 ·rfl
 show M.bind (take 1) _ t4 n4=M.bind (M.bind (take 1) _) _ t4 n4
 rw [thenA_bind (M.bind (take 1) _),bind_assoc,thenA_bind,thenA_bind]
 rcases take 1 t4 n4 with e | ⟨a,t5,n5⟩<;>rfl
theorem st_both {inner cond:M Nat} {rows kd k:Nat} (hc:choice kw_steps 1 ts=(k,ts1)) (hk:k=6∧kd=7∨k=7∧kd=8):stepOf inner cond rows ts ns=thenA (goP (M.bind (wants kw_open) fun _=>inner) (.ok (ts1,ns))) fun i=>lay (node kd [rows,i]):=by
 unfold stepOf
 rw [hc]
 rcases hk with ⟨rfl,rfl⟩ | ⟨rfl,rfl⟩
 ·show M.bind (wants kw_open) _ ts1 ns=thenA (M.bind (wants kw_open) _ ts1 ns) _
  rw [bind_assoc]
 ·show M.bind (wants kw_open) _ ts1 ns=thenA (M.bind (wants kw_open) _ ts1 ns) _
  rw [bind_assoc]
theorem st_none {inner cond:M Nat} {rows:Nat} (h1:sees [119,104,101,114,101] ts=none) (h2:sees [107,101,101,112] ts=none) (h3:sees [97,108,105,103,110] ts=none) (h4:sees [103,114,111,117,112] ts=none) (h5:sees [116,111,112] ts=none) (h6:sees [106,111,105,110] ts=none) (h7:sees [117,110,105,111,110] ts=none) :
 stepOf inner cond rows ts ns=.error (ts.length,false):=by
 have hc:choice kw_steps 1 ts=(0,ts):=by simp only [kw_steps,choice,h1,h2,h3,h4,h5,h6,h7]
 unfold stepOf
 rw [hc]
 rfl
theorem step_word {y:XN} {w:Bytes} (h:seesR w (stOf y)=true):∃ rows t ts1 ns,y=.ok (rows,t::ts1,ns)∧sees w (t::ts1)=some ts1∧nextR w (stOf y)=.ok (ts1,ns):=by
 obtain ⟨t,ts1,ns,hst,hn,hs⟩:=seesR_ok h
 rcases y with e | ⟨rows,ts',ns'⟩
 ·cases hst
 ·cases hst
  exact ⟨rows,t,ts1,ns,rfl,hs,hn⟩
theorem still_gnames:Still gnamesM:=by
 intro ts ns a ts1 ns1 h
 unfold gnamesM at h
 split at h
 ·cases h;rfl
 ·exact still_many still_name _ _ _ _ _ h
theorem still_group:Still groupM:=still_bind still_gnames fun _=>still_bind (still_wants _) fun _=>still_bind (still_many still_agg) fun _=>still_pure _
theorem still_top:Still topM:=still_bind (still_take 2) fun _=>still_bind (still_wants _) fun _=>still_bind (still_take 1) fun _=>still_pure _
theorem ints_ne {b2 n:Nat} {v:Value} {xs:List Value} (h:RF base r tv T d2 st nv Wx) (ho:Wx.ownsRow b2 3 1 v n xs):v.ownBlock≠some r:=fun e=>by
 obtain ⟨cur,hc⟩:=row_block ho e
 have:=block_types hc h.box
 cases this
theorem KV2_row {b2 n size:Nat} {v:Value} {xs:List Value} (ho:Wx.ownsRow b2 9 size v n xs) (h:XR base r tv T deep nv0 W ri st nv cs Wx) (m:Mv r Wx W'):W'.ownsRow b2 9 size v n xs:=row_mv ho m fun e=>by
 obtain ⟨cur,hc⟩:=row_block ho e
 have:=block_types hc h.rs.box
 cases this
theorem open_then {inner pq:M Nat} (hin:∀ ts ns,inner ts ns=thenX (goP pq (deeperR deep (.ok (ts,ns)))) fun a=>M.bind (wants kw_shut) fun _=>M.pure a) (h2:st2=run (wants kw_open) (.ok (ts1,ns))) :
 goP (M.bind (wants kw_open) fun _=>inner) (.ok (ts1,ns))=thenX (goP pq (deeperR deep st2)) fun a=>M.bind (wants kw_shut) fun _=>M.pure a:=by
 subst h2
 rw [goP_bind]
 show thenA (wants kw_open ts1 ns) _=_
 unfold run goP
 dsimp only
 rcases wants kw_open ts1 ns with e | ⟨u,t3,n3⟩
 ·rfl
 ·exact hin t3 n3
theorem wants_room {pq:M Nat} {a:Nat} (hr:Room (deeperR deep st2)) (np:Cost 0 0 pq) (h:(thenX (goP pq (deeperR deep st2)) fun a=>M.bind (wants kw_shut) fun _=>M.pure a)=.ok (a,ts,ns)):ns.length<5000:=by
 rcases hx:goP pq (deeperR deep st2) with e | ⟨b,t3,n3⟩
 ·rw [hx] at h;cases h
 ·rw [hx] at h
  have h':M.bind (wants kw_shut) (fun _=>M.pure b) t3 n3=.ok (a,ts,ns):=h
  obtain ⟨u,t4,n4,h4,h5⟩:=bind_ok h'
  cases h5
  rw [still_wants _ _ _ _ _ _ h4]
  obtain ⟨t0,n0,e0,e1⟩:=goP_ok hx
  have h6:=np _ _ _ _ _ e1
  have h7:=hr _ _ e0
  omega
theorem step_r {inner cond pq:M Nat} {y:XN} (hd:deep≤100) (hcond:ReadsR true 34 cond deep) (ncond:Nice cond) (hq:ReadsR (decide (deep<16)) 43 pq (deep+1)) (npq:Cost 0 0 pq)
 (hin:∀ ts ns,inner ts ns=thenX (goP pq (deeperR deep (.ok (ts,ns)))) fun a=>M.bind (wants kw_shut) fun _=>M.pure a) (h:RF base r tv T deep (stOf y) nv W) (hbase:base≤W.heap.size) (hB:Room (stOf y)) (hri:∀ a ts ns,y=.ok (a,ts,ns)→ri=(a:Int)) :
 Calls Tryz.prog 81 #[RP r,.int .i64 ri] W (PostR base r tv T deep nv W (thenX y fun a=>stepOf inner cond a)):=by
 have hr:=h.box.lt
 obtain ⟨W0,hW0⟩:∃ W0,W0=W.alloc (.cells #[.int .i64 ri] 3):=⟨_,rfl⟩
 have hb0:Below W.heap.size W W0:=by rw [hW0];exact (Below.refl _ _).alloc (Nat.le_refl _) _
 have hl0:Blk W0 W.heap.size 3 #[.int .i64 ri]:=by rw [hW0];exact Blk.new W _ _
 have hsz:W0.heap.size=W.heap.size+1:=by rw [hW0];exact World.size_alloc _ _
 have H0:=Lib.hid (And.intro (h.kept hb0) (And.intro hb0 hl0))
 have hth:=nd_there W0
 have HSZ:=Lib.hid hsz
 rw [hsz] at hth
 have HW:=Lib.hid hW0
 have hone:(stC 0 [] 0 (L1 W) (.slice none 0 0) (.slice none 0 0)).toArray.all (·.oneCell')=true:=one_nd 0 [] 0 0 0 noVal rfl rfl rfl [] [] []
 have HOW:=Lib.hid h.own_lt
 have HC:=Lib.hid (And.intro hcond ncond)
 have HI:=Lib.hid (And.intro hq (And.intro npq hin))
 have HRI:=Lib.hid hri
 have HB:=Lib.hid hB
 clear h hb0 hl0 hcond ncond hq npq hsz hin hri hB
 go_enter Tryz.func81,Tryz.ntmps81
 go_upto_block 0 with (refine wpList_store_mid (by rfl) 42 (.tmp 5) (.tmp 8) (by rfl) (W.heap.size+1) 0 (stC 0 [] 0 (L1 W) (.slice none 0 0) (.slice none 0 0)).toArray (by rfl) (by rfl) (by rw [← HW.out];exact hth) sizeNode hone ?_
                       generalize hw1:World.setCells _ _ _ _=w1
                       clear hth hone)
 have f1:=st_stored (w3:=W0) (w4:=w1) (kd:=0) (n:=0) (s:=[]) (lv:=L1 W) (mv:=.slice none 0 0) (av:=.slice none 0 0) (by rw [HSZ.out,HW.out];exact hw1)
 have K1:=Lib.hid (show XR base r tv T deep nv W ri (stOf y) nv (stC 0 [] 0 (L1 W) (.slice none 0 0) (.slice none 0 0)) w1 from
  ⟨H0.out.1.kept f1.1,(Stp.of H0.out.2.1).trans (Stp.of f1.1),by have:=f1.2;rwa [HSZ.out] at this,H0.out.2.2.kept f1.1,fun e=>(by have:=HOW.out.2 _ e;omega),fun e=>(by have:=HOW.out.1 _ e;omega),hr⟩)
 clear hw1 f1 hW0
 simp only [Act.put]
 go_cut [] (fun wx=>StepCut base r tv T deep nv W (thenX y fun a=>stepOf inner cond a) wx)
 case first =>
  cases hs:seesR [119,104,101,114,101] (stOf y) with
  | true =>
    obtain ⟨rows,t,ts1,ns,rfl,hsw,hn⟩:=step_word hs
    have hsee:=sees_r [119,104,101,114,101] K1.out.rs
    rw [hs,hn] at hsee
    have HS:=Lib.hid hsee
    have hrow:=HRI.out _ _ _ rfl
    subst hrow
    have HROOM:=Lib.hid (room_next HB.out)
    have HX:=Lib.hid (show (thenX (.ok (rows,t::ts1,ns)) fun a=>stepOf inner cond a)=_ from st_where hsw)
    clear hsee hs hn hsw HB HRI
    go_wp2_with fail
    refine HS.out.mono ?_
    rintro e wa ⟨rfl,ha,ma⟩
    have ka:=K1.out.moveM ha ma
    have e0:wa.cell? ⟨W.heap.size+1,0,none⟩=some (.int .i64 0):=ka.xb.cell 0
    have f0:=ka.xb.free 0
    have KB:=Lib.hid (ka.put (cs2:=stC 2 [] 0 (L1 W) (.slice none 0 0) (.slice none 0 0)) 0 (.int .i64 2) rfl)
    clear ha ma ka HS
    have c16:=KB.out.xb.cell 16
    have HD:=Lib.hid (KB.out.kept ((Below.refl _ _).drew))
    have HCC:=Lib.hid (HC.out.1 _ _ _ _ _ _ _ HD.out.rs (Nat.le_trans hbase HD.out.sp.size) HROOM.out (.inl rfl))
    obtain ⟨i0,hi0,hz0,hz1,hz2⟩:=info_parts infoInt
    go_wp2_with fail
    rw [show (#[{dst:=some 15,op:=Op.fieldAddr 42 (Operand.tmp 5) 6,type:=0,pos := "ref.go:129",after:=#[],guard:=none},{dst:=some 16,op:=Op.load 38 (Operand.tmp 15),type:=38,pos := "ref.go:129",after:=#[⟨0,.data⟩],guard:=none},{dst:=some 17,op:=Op.move (Operand.tmp 0),type:=79,pos := "ref.go:129",after:=#[],guard:=none},{dst:=some 18,op:=Op.call {callee:=Callee.value (Operand.func 34),args:=#[Operand.tmp 17],argTypes:=#[79]},type:=3,pos := "ref.go:129",after:=#[⟨2,.data⟩],guard:=none},{dst:=some 19,op:=Op.buildSlice 38 1 #[(0,Operand.tmp 18)],type:=38,pos := "ref.go:129",after:=#[⟨3,.data⟩],guard:=none},{dst:=some 20,op:=Op.call {callee:=Callee.builtin Go.Builtin.append,args:=#[Operand.tmp 16,Operand.tmp 19],argTypes:=#[38,38]},type:=38,pos := "ref.go:129",after:=#[⟨1,.data⟩,⟨4,.data⟩,⟨3,.chain⟩],guard:=none},{dst:=some 21,op:=Op.fieldAddr 42 (Operand.tmp 5) 6,type:=0,pos := "ref.go:129",after:=#[⟨0,.phase⟩,⟨1,.phase⟩,⟨2,.phase⟩,⟨3,.phase⟩,⟨4,.phase⟩,⟨5,.phase⟩],guard:=none},{dst:=none,op:=Op.store 38 (Operand.tmp 21) (Operand.tmp 20),type:=0,pos := "ref.go:129",after:=#[⟨6,.data⟩,⟨5,.data⟩,⟨5,.chain⟩,⟨0,.phase⟩,⟨1,.phase⟩,⟨2,.phase⟩,⟨3,.phase⟩,⟨4,.phase⟩,⟨5,.phase⟩],guard:=none}]:Array Oper)=Array.push #[{dst:=some 15,op:=Op.fieldAddr 42 (Operand.tmp 5) 6,type:=0,pos := "ref.go:129",after:=#[],guard:=none},{dst:=some 16,op:=Op.load 38 (Operand.tmp 15),type:=38,pos := "ref.go:129",after:=#[⟨0,.data⟩],guard:=none},{dst:=some 17,op:=Op.move (Operand.tmp 0),type:=79,pos := "ref.go:129",after:=#[],guard:=none},{dst:=some 18,op:=Op.call {callee:=Callee.value (Operand.func 34),args:=#[Operand.tmp 17],argTypes:=#[79]},type:=3,pos := "ref.go:129",after:=#[⟨2,.data⟩],guard:=none},{dst:=some 19,op:=Op.buildSlice 38 1 #[(0,Operand.tmp 18)],type:=38,pos := "ref.go:129",after:=#[⟨3,.data⟩],guard:=none},{dst:=some 20,op:=Op.call {callee:=Callee.builtin Go.Builtin.append,args:=#[Operand.tmp 16,Operand.tmp 19],argTypes:=#[38,38]},type:=38,pos := "ref.go:129",after:=#[⟨1,.data⟩,⟨4,.data⟩,⟨3,.chain⟩],guard:=none},{dst:=some 21,op:=Op.fieldAddr 42 (Operand.tmp 5) 6,type:=0,pos := "ref.go:129",after:=#[⟨0,.phase⟩,⟨1,.phase⟩,⟨2,.phase⟩,⟨3,.phase⟩,⟨4,.phase⟩,⟨5,.phase⟩],guard:=none}] {dst:=none,op:=Op.store 38 (Operand.tmp 21) (Operand.tmp 20),type:=0,pos := "ref.go:129",after:=#[⟨6,.data⟩,⟨5,.data⟩,⟨5,.chain⟩,⟨0,.phase⟩,⟨1,.phase⟩,⟨2,.phase⟩,⟨3,.phase⟩,⟨4,.phase⟩,⟨5,.phase⟩],guard:=none} from rfl]
    refine wp_region_last (S:=fun w'=>w'.cell? ⟨W.heap.size+1,16,none⟩=some (L1 W)) (by kernel_rfl) (by kernel_rfl) c16 (fun hHeld=>?_)
    refine wpAnyH_take (i:=0) (oi:={dst:=some 15,op:=Op.fieldAddr 42 (Operand.tmp 5) 6,type:=0,pos := "ref.go:129",after:=#[],guard:=none}) (v := ?v51) rfl (by kernel_rfl) (by kernel_rfl) (by kernel_rfl) (fun _ _ _ h=>h) (Or.inl ⟨by rfl,?hy51⟩) (by assumption) ?rest51
    case hy51 =>
     intro w hSw
     (try dsimp only at hSw)
     go_simp
     try with_reducible rfl
    try simp only [Act.put,List.setIfInBounds_toArray,List.set_cons_zero,List.set_cons_succ]
    refine wpAnyH_take (i:=1) (oi:={dst:=some 16,op:=Op.load 38 (Operand.tmp 15),type:=38,pos := "ref.go:129",after:=#[⟨0,.data⟩],guard:=none}) (v := ?v52) rfl (by kernel_rfl) (by kernel_rfl) (by kernel_rfl) (fun _ _ _ h=>h) (Or.inl ⟨by rfl,?hy52⟩) (by assumption) ?rest52
    case hy52 =>
     intro w hSw
     (try dsimp only at hSw)
     go_simp
     try with_reducible rfl
    try simp only [Act.put,List.setIfInBounds_toArray,List.set_cons_zero,List.set_cons_succ]
    refine wpAnyH_take (i:=2) (oi:={dst:=some 17,op:=Op.move (Operand.tmp 0),type:=79,pos := "ref.go:129",after:=#[],guard:=none}) (v := ?v53) rfl (by kernel_rfl) (by kernel_rfl) (by kernel_rfl) (fun _ _ _ h=>h) (Or.inl ⟨by rfl,?hy53⟩) (by assumption) ?rest53
    case hy53 =>
     intro w hSw
     (try dsimp only at hSw)
     go_simp
     try with_reducible rfl
    try simp only [Act.put,List.setIfInBounds_toArray,List.set_cons_zero,List.set_cons_succ]
    refine wpAnyH_ready (rs:=[3]) (by kernel_rfl) (by simp) ?_
    refine AllReadyH.cons (o:={dst:=some 18,op:=Op.call {callee:=Callee.value (Operand.func 34),args:=#[Operand.tmp 17],argTypes:=#[79]},type:=3,pos := "ref.go:129",after:=#[⟨2,.data⟩],guard:=none}) rfl (fun K hK=>?_) ?_
    ·go_simp
     go_at_call 34
     (with_reducible refine HCC.out.mono ?_)
     rintro e w5 ⟨nv5,i5,rfl,hi5,h5,s5⟩
     have K5:=Lib.hid (HD.out.move h5 s5)
     have HI5:=Lib.hid hi5
     have HBB:=Lib.hid ((Below.refl w5.heap.size w5).alloc (Nat.le_refl _) (.cells #[.int .i64 i5] 3))
     have HNW:=Lib.hid (blk_cells (Blk.new w5 3 #[.int .i64 i5]))
     have g0:=K5.out.xb.cell 16
     have K6:=Lib.hid (K5.out.kept HBB.out)
     clear hi5 h5 s5
     refine hK.out _ _ ?_ (fun hHeld=>?_)
     ·exact g0
     ·clear hK K
      try simp only [Act.put,List.setIfInBounds_toArray,List.set_cons_zero,List.set_cons_succ]
      refine wpAnyH_ready (rs:=[4]) (by kernel_rfl) (by simp) ?_
      refine AllReadyH.cons (o:={dst:=some 19,op:=Op.buildSlice 38 1 #[(0,Operand.tmp 18)],type:=38,pos := "ref.go:129",after:=#[⟨3,.data⟩],guard:=none}) rfl (fun K hK=>?_) ?_
      ·go_simp
       refine hK.out _ _ ?_ (fun hHeld=>?_)
       ·exact K6.out.xb.cell 16
       ·clear hK K
        try simp only [Act.put,List.setIfInBounds_toArray,List.set_cons_zero,List.set_cons_succ]
        refine wpAnyH_ready (rs:=[5]) (by kernel_rfl) (by simp) ?_
        refine AllReadyH.cons (o:={dst:=some 20,op:=Op.call {callee:=Callee.builtin Go.Builtin.append,args:=#[Operand.tmp 16,Operand.tmp 19],argTypes:=#[38,38]},type:=38,pos := "ref.go:129",after:=#[⟨1,.data⟩,⟨4,.data⟩,⟨3,.chain⟩],guard:=none}) rfl (fun K hK=>?_) ?_
        ·refine step_append_grows (by rfl) _ _ _ (by rfl) 3 i0 _ 1 8 (by kernel_rfl) hi0 hz0 hz1 hz2 (by rfl) (by decide) (some ⟨W.heap.size,0,none⟩) 1 1 [.int .i64 (rows:Int)] (by rfl) (by intro h;cases h) (by rfl) (by rintro b h;cases h;exact blk_cells K6.out.l0) ⟨w5.heap.size,0,none⟩ 1 1 [.int .i64 i5] (by rfl) (by rfl) HNW.out (by simp [Value.oneCell']) (by decide) (by unfold maxLen;omega) (by omega) ?_
         intro v7 w7 ho hg
         have hb7:=append_none hg
         have k7:=K6.out.kept hb7
         obtain ⟨g,cap,rfl⟩:=row_one ho (by decide)
         have ho2:w7.ownsRow base 3 1 (.slice (some ⟨g,0,none⟩) 2 cap) 2 [.int .i64 (rows:Int),.int .i64 i5]:=own_base ho (Nat.le_trans hbase K6.out.sp.size)
         have e0:w7.cell? ⟨W.heap.size+1,16,none⟩=some (L1 W):=k7.xb.cell 16
         have f0:w7.frozen? ⟨W.heap.size+1,16,none⟩=false:=k7.xb.free 16
         have k8:=k7.put (cs2:=stC 2 [] 0 (.slice (some ⟨g,0,none⟩) 2 cap) (.slice none 0 0) (.slice none 0 0)) 16 (.slice (some ⟨g,0,none⟩) 2 cap) rfl
         have HF:=Lib.hid (And.intro k8 (row_far ho2 k7.xb (by decide) 16 (.slice (some ⟨g,0,none⟩) 2 cap)))
         clear ho hg hb7 k7 ho2 k8
         refine hK.out _ _ ?_ (fun hHeld=>?_)
         ·exact e0
         ·clear hK K
          try simp only [Act.put,List.setIfInBounds_toArray,List.set_cons_zero,List.set_cons_succ]
          refine wpAnyH_take (i:=6) (oi:={dst:=some 21,op:=Op.fieldAddr 42 (Operand.tmp 5) 6,type:=0,pos := "ref.go:129",after:=#[⟨0,.phase⟩,⟨1,.phase⟩,⟨2,.phase⟩,⟨3,.phase⟩,⟨4,.phase⟩,⟨5,.phase⟩],guard:=none}) (v := ?v54) rfl (by kernel_rfl) (by kernel_rfl) (by kernel_rfl) (fun _ _ _ h=>h) (Or.inl ⟨by rfl,?hy54⟩) (by assumption) ?rest54
          case hy54 =>
           intro w hSw
           (try dsimp only at hSw)
           go_simp
           try with_reducible rfl
          try simp only [Act.put,List.setIfInBounds_toArray,List.set_cons_zero,List.set_cons_succ]
          refine wpAnyH_done (by kernel_rfl) ?_ _
          refine then_step (fun K hK=>?_)
          go_simp
          refine hK.out _ _ ?_
          clear hK K
          go_wp2_with fail
          go_meet
          exact cut_of (z:=goP cond (.ok (ts1,ns))) HX.out HF.out.1 fun a ts' ns' e=>(by
           have h1:=HC.out.2.1 _ _ _ _ _ (show cond ts1 ns=.ok (a,ts',ns') from e)
           have h2:=HROOM.out _ _ rfl
           have h3:=HI5.out _ _ _ e
           refine ⟨by omega,stepM 2 [] 0 [rows,a] [] [] (.slice (some ⟨g,0,none⟩) 2 cap) (.slice none 0 0) (.slice none 0 0),rfl,⟨?_,nil_row,nil_row⟩,rfl⟩
           have h4:=HF.out.2
           rw [h3] at h4
           exact h4)
        exact AllReadyH.nil
      exact AllReadyH.nil
    exact AllReadyH.nil
  | false =>
    have hsee:=sees_r [119,104,101,114,101] K1.out.rs
    rw [hs,seesR_no hs] at hsee
    have HS:=Lib.hid hsee
    have Nw2:=Lib.hid hs
    clear hsee hs
    go_wp2_with fail
    refine HS.out.mono ?_
    rintro e w2 ⟨rfl,hz,mz⟩
    have Kw2:=Lib.hid (K1.out.moveM hz mz)
    clear hz mz HS
    cases hs:seesR [107,101,101,112] (stOf y) with
    | true =>
      obtain ⟨rows,t,ts1,ns,rfl,hsw,hn⟩:=step_word hs
      have hsee:=sees_r [107,101,101,112] Kw2.out.rs
      rw [hs,hn] at hsee
      have HS:=Lib.hid hsee
      have hrow:=HRI.out _ _ _ rfl
      subst hrow
      have HROOM:=Lib.hid (room_next HB.out)
      have HX:=Lib.hid (show (thenX (.ok (rows,t::ts1,ns)) fun a=>stepOf inner cond a)=_ from st_keep (seesR_none Nw2.out) hsw)
      clear hsee hs hn hsw HB HRI
      go_wp2_with fail
      refine HS.out.mono ?_
      rintro e wa ⟨rfl,ha,ma⟩
      have ka:=Kw2.out.moveM ha ma
      have e0:wa.cell? ⟨W.heap.size+1,0,none⟩=some (.int .i64 0):=ka.xb.cell 0
      have f0:=ka.xb.free 0
      have KB:=Lib.hid (ka.put (cs2:=stC 3 [] 0 (L1 W) (.slice none 0 0) (.slice none 0 0)) 0 (.int .i64 3) rfl)
      clear ha ma ka HS
      have HNM:=Lib.hid (names_r KB.out.rs)
      go_wp2_with fail
      refine HNM.out.mono ?_
      rintro e wn ⟨lvv,l,rfl,hl,ho,hz,mz⟩
      obtain ⟨o,c,rfl⟩:=row_slice ho
      have kn:=KB.out.moveM hz mz
      have e1:wn.cell? ⟨W.heap.size+1,17,none⟩=some (.slice none 0 0):=kn.xb.cell 17
      have f1:=kn.xb.free 17
      have KN:=Lib.hid (kn.put (cs2:=stC 3 [] 0 (L1 W) (.slice o l.length c) (.slice none 0 0)) 17 (.slice o l.length c) rfl)
      have HON:=Lib.hid (own_base (row_far ho kn.xb (by decide) 17 (.slice o l.length c)) (Nat.le_trans hbase KB.out.sp.size))
      have HLN:=Lib.hid hl
      clear hl ho hz mz kn
      go_wp2_with fail
      go_meet
      exact cut_of (z:=goP names (.ok (ts1,ns))) HX.out KN.out fun a ts' ns' e=>(by
       have h3:=HLN.out _ _ _ e
       subst h3
       exact ⟨still_room (still_many still_name) HROOM.out _ _ _ e,stepM 3 [] 0 [rows] l [] (L1 W) (.slice o l.length c) (.slice none 0 0),rfl,⟨KN.out.one hbase,HON.out,nil_row⟩,rfl⟩)
    | false =>
      have hsee:=sees_r [107,101,101,112] Kw2.out.rs
      rw [hs,seesR_no hs] at hsee
      have HS:=Lib.hid hsee
      have Nw3:=Lib.hid hs
      clear hsee hs
      go_wp2_with fail
      refine HS.out.mono ?_
      rintro e w3 ⟨rfl,hz,mz⟩
      have Kw3:=Lib.hid (Kw2.out.moveM hz mz)
      clear hz mz HS
      cases hs:seesR [97,108,105,103,110] (stOf y) with
      | true =>
        obtain ⟨rows,t,ts1,ns,rfl,hsw,hn⟩:=step_word hs
        have hsee:=sees_r [97,108,105,103,110] Kw3.out.rs
        rw [hs,hn] at hsee
        have HS:=Lib.hid hsee
        have hrow:=HRI.out _ _ _ rfl
        subst hrow
        have HROOM:=Lib.hid (room_next HB.out)
        have HX:=Lib.hid (show (thenX (.ok (rows,t::ts1,ns)) fun a=>stepOf inner cond a)=_ from st_align (seesR_none Nw2.out) (seesR_none Nw3.out) hsw)
        clear hsee hs hn hsw HB HRI
        go_wp2_with fail
        refine HS.out.mono ?_
        rintro e wa ⟨rfl,ha,ma⟩
        have ka:=Kw3.out.moveM ha ma
        have e0:wa.cell? ⟨W.heap.size+1,0,none⟩=some (.int .i64 0):=ka.xb.cell 0
        have f0:=ka.xb.free 0
        have KB:=Lib.hid (ka.put (cs2:=stC 4 [] 0 (L1 W) (.slice none 0 0) (.slice none 0 0)) 0 (.int .i64 4) rfl)
        clear ha ma ka HS
        have HKI:=Lib.hid (kind_r 2 KB.out.rs)
        go_wp2_with fail
        refine HKI.out.mono ?_
        rintro e wn ⟨vz,rfl,⟨az,rfl⟩,hz,mz⟩
        obtain ⟨u,hu⟩:∃ u,u=tokR 2 (.ok (ts1,ns)):=⟨_,rfl⟩
        rw [← hu]
        have Hu:=Lib.hid hu
        have kn:=KB.out.moveM hz mz
        clear hz mz hu HKI
        have e1:wn.cell? ⟨W.heap.size+1,2,none⟩=some (.int .i64 0):=kn.xb.cell 2
        have f1:=kn.xb.free 2
        have KN:=Lib.hid (kn.put (cs2:=stC 4 [] u.n (L1 W) (.slice none 0 0) (.slice none 0 0)) 2 (.int .i64 u.n) rfl)
        clear kn
        go_wp2_with fail
        go_meet
        exact cut_of (z:=goP (take 2) (.ok (ts1,ns))) HX.out KN.out fun a ts' ns' e=>(by
         have h3:=tokR_of e
         rw [← Hu.out] at h3
         subst h3
         exact ⟨still_room (still_take 2) HROOM.out _ _ _ e,stepM 4 [] a.n [rows] [] [] (L1 W) (.slice none 0 0) (.slice none 0 0),rfl,⟨KN.out.one hbase,nil_row,nil_row⟩,rfl⟩)
      | false =>
        have hsee:=sees_r [97,108,105,103,110] Kw3.out.rs
        rw [hs,seesR_no hs] at hsee
        have HS:=Lib.hid hsee
        have Nw4:=Lib.hid hs
        clear hsee hs
        go_wp2_with fail
        refine HS.out.mono ?_
        rintro e w4 ⟨rfl,hz,mz⟩
        have Kw4:=Lib.hid (Kw3.out.moveM hz mz)
        clear hz mz HS
        cases hs:seesR [103,114,111,117,112] (stOf y) with
        | true =>
          obtain ⟨rows,t,ts1,ns,rfl,hsw,hn⟩:=step_word hs
          have hsee:=sees_r [103,114,111,117,112] Kw4.out.rs
          rw [hs,hn] at hsee
          have HS:=Lib.hid hsee
          have hrow:=HRI.out _ _ _ rfl
          subst hrow
          have HROOM:=Lib.hid (room_next HB.out)
          have HX:=Lib.hid (show (thenX (.ok (rows,t::ts1,ns)) fun a=>stepOf inner cond a)=_ from st_group (seesR_none Nw2.out) (seesR_none Nw3.out) (seesR_none Nw4.out) hsw)
          clear hsee hs hn hsw HB HRI
          go_wp2_with fail
          refine HS.out.mono ?_
          rintro e wa ⟨rfl,ha,ma⟩
          have ka:=Kw4.out.moveM ha ma
          have e0:wa.cell? ⟨W.heap.size+1,0,none⟩=some (.int .i64 0):=ka.xb.cell 0
          have f0:=ka.xb.free 0
          have KB:=Lib.hid (ka.put (cs2:=stC 5 [] 0 (L1 W) (.slice none 0 0) (.slice none 0 0)) 0 (.int .i64 5) rfl)
          clear ha ma ka HS
          have his:=is_r kw_colon KB.out.rs
          cases hcl:seesR kw_colon (.ok (ts1,ns)) with
          | true =>
            rw [hcl] at his
            have HIS:=Lib.hid his
            have HRG:=Lib.hid (show run gnamesM (.ok (ts1,ns))=.ok (ts1,ns) by rw [run_gnames,hcl];rfl)
            have HCL:=Lib.hid hcl
            clear his hcl
            go_wp2_with fail
            refine HIS.out.mono ?_
            rintro e wi ⟨rfl,hbi⟩
            have KN:=Lib.hid (KB.out.kept hbi)
            clear hbi
            have HWN:=Lib.hid (wants_r kw_colon KN.out.rs)
            go_wp2_with fail
            refine HWN.out.mono ?_
            rintro e wv ⟨rfl,hz,mz⟩
            have kv:=KN.out.moveM hz mz
            have KV:=Lib.hid kv
            have MV:=Lib.hid mz
            have HAG:=Lib.hid (aggs_r kv.rs)
            clear hz mz kv
            go_wp2_with fail
            refine HAG.out.mono ?_
            rintro e wg ⟨lvg,lg,rfl,hl,ho,hz,mz⟩
            obtain ⟨o2,c2,rfl⟩:=row_slice ho
            have kg:=KV.out.moveM hz mz
            have e2:wg.cell? ⟨W.heap.size+1,18,none⟩=some (.slice none 0 0):=kg.xb.cell 18
            have f2:=kg.xb.free 18
            have KG:=Lib.hid (kg.put (cs2:=stC 5 [] 0 (L1 W) (.slice none 0 0) (.slice o2 lg.length c2)) 18 (.slice o2 lg.length c2) rfl)
            have HOA:=Lib.hid (own_base (row_far ho kg.xb (by decide) 18 (.slice o2 lg.length c2)) (Nat.le_trans hbase KV.out.sp.size))
            have HONV:=Lib.hid (show (wg.setCell ⟨W.heap.size+1,18,none⟩ (.slice o2 lg.length c2)).ownsRow base 9 1 (.slice none 0 0) 0 [] from nil_row)
            have HLG:=Lib.hid hl
            clear hl ho hz mz kg
            go_wp2_with fail
            go_meet
            have hkg:=KG.out
            rw [← HRG.out,← run_group] at hkg
            exact cut_of (z:=goP groupM (.ok (ts1,ns))) HX.out hkg fun a ts' ns' e=>(by
             rcases a with ⟨ga,gb⟩
             obtain ⟨⟨ta,na,hga⟩,tb,nb,hgb⟩:=group_val e
             rw [HRG.out] at hgb
             have h3:=HLG.out _ _ _ hgb
             subst h3
             have hgn:ga=[]:=by
              have h4:gnamesM ts1 ns=.ok (ga,ta,na):=hga
              have h5:isS kw_colon ts1=true:=HCL.out
              unfold isS at h5
              unfold gnamesM at h4
              cases hx:sees kw_colon ts1 with
              | none=>rw [hx] at h5;cases h5
              | some x=>rw [hx] at h4;cases h4;rfl
             subst hgn
             exact ⟨still_room still_group HROOM.out _ _ _ e,stepM 5 [] 0 [rows] [] lg (L1 W) (.slice none 0 0) (.slice o2 lg.length c2),rfl,⟨KG.out.one hbase,HONV.out,HOA.out⟩,rfl⟩)
          | false =>
            rw [hcl] at his
            have HIS:=Lib.hid his
            have HRG:=Lib.hid (show run gnamesM (.ok (ts1,ns))=run names (.ok (ts1,ns)) by rw [run_gnames,hcl];rfl)
            have HCL:=Lib.hid hcl
            clear his hcl
            go_wp2_with fail
            refine HIS.out.mono ?_
            rintro e wi ⟨rfl,hbi⟩
            have KI:=Lib.hid (KB.out.kept hbi)
            have HNM:=Lib.hid (names_r KI.out.rs)
            clear hbi
            go_wp2_with fail
            refine HNM.out.mono ?_
            rintro e wn ⟨lvv,l,rfl,hl,ho,hz,mz⟩
            obtain ⟨o,c,rfl⟩:=row_slice ho
            have kn:=KI.out.moveM hz mz
            have e1:wn.cell? ⟨W.heap.size+1,17,none⟩=some (.slice none 0 0):=kn.xb.cell 17
            have f1:=kn.xb.free 17
            have KN:=Lib.hid (kn.put (cs2:=stC 5 [] 0 (L1 W) (.slice o l.length c) (.slice none 0 0)) 17 (.slice o l.length c) rfl)
            have HON:=Lib.hid (own_base (row_far ho kn.xb (by decide) 17 (.slice o l.length c)) (Nat.le_trans hbase KI.out.sp.size))
            have HLN:=Lib.hid hl
            clear hl ho hz mz kn
            have HWN:=Lib.hid (wants_r kw_colon KN.out.rs)
            go_wp2_with fail
            refine HWN.out.mono ?_
            rintro e wv ⟨rfl,hz,mz⟩
            have kv:=KN.out.moveM hz mz
            have KV:=Lib.hid kv
            have MV:=Lib.hid mz
            have HAG:=Lib.hid (aggs_r kv.rs)
            clear hz mz kv
            go_wp2_with fail
            refine HAG.out.mono ?_
            rintro e wg ⟨lvg,lg,rfl,hl,ho,hz,mz⟩
            obtain ⟨o2,c2,rfl⟩:=row_slice ho
            have kg:=KV.out.moveM hz mz
            have e2:wg.cell? ⟨W.heap.size+1,18,none⟩=some (.slice none 0 0):=kg.xb.cell 18
            have f2:=kg.xb.free 18
            have KG:=Lib.hid (kg.put (cs2:=stC 5 [] 0 (L1 W) (.slice o l.length c) (.slice o2 lg.length c2)) 18 (.slice o2 lg.length c2) rfl)
            have HOA:=Lib.hid (own_base (row_far ho kg.xb (by decide) 18 (.slice o2 lg.length c2)) (Nat.le_trans hbase KV.out.sp.size))
            have HONV:=Lib.hid (row_far (KV2_row (KV2_row HON.out KN.out MV.out) KV.out mz) kg.xb (by decide) 18 (.slice o2 lg.length c2))
            have HLG:=Lib.hid hl
            clear hl ho hz mz kg
            go_wp2_with fail
            go_meet
            have hkg:=KG.out
            rw [← HRG.out,← run_group] at hkg
            exact cut_of (z:=goP groupM (.ok (ts1,ns))) HX.out hkg fun a ts' ns' e=>(by
             rcases a with ⟨ga,gb⟩
             obtain ⟨⟨ta,na,hga⟩,tb,nb,hgb⟩:=group_val e
             rw [HRG.out] at hgb
             have h3:=HLG.out _ _ _ hgb
             subst h3
             have hgn:l=ga:=HLN.out _ _ _ (show names ts1 ns=.ok (ga,ta,na) by
              have h4:gnamesM ts1 ns=.ok (ga,ta,na):=hga
              unfold gnamesM at h4
              rw [seesR_none HCL.out] at h4
              exact h4)
             subst hgn
             exact ⟨still_room still_group HROOM.out _ _ _ e,stepM 5 [] 0 [rows] l lg (L1 W) (.slice o l.length c) (.slice o2 lg.length c2),rfl,⟨KG.out.one hbase,HONV.out,HOA.out⟩,rfl⟩)
        | false =>
          have hsee:=sees_r [103,114,111,117,112] Kw4.out.rs
          rw [hs,seesR_no hs] at hsee
          have HS:=Lib.hid hsee
          have Nw5:=Lib.hid hs
          clear hsee hs
          go_wp2_with fail
          refine HS.out.mono ?_
          rintro e w5 ⟨rfl,hz,mz⟩
          have Kw5:=Lib.hid (Kw4.out.moveM hz mz)
          clear hz mz HS
          cases hs:seesR [116,111,112] (stOf y) with
          | true =>
            obtain ⟨rows,t,ts1,ns,rfl,hsw,hn⟩:=step_word hs
            have hsee:=sees_r [116,111,112] Kw5.out.rs
            rw [hs,hn] at hsee
            have HS:=Lib.hid hsee
            have hrow:=HRI.out _ _ _ rfl
            subst hrow
            have HROOM:=Lib.hid (room_next HB.out)
            have HX:=Lib.hid (show (thenX (.ok (rows,t::ts1,ns)) fun a=>stepOf inner cond a)=_ from st_top (seesR_none Nw2.out) (seesR_none Nw3.out) (seesR_none Nw4.out) (seesR_none Nw5.out) hsw)
            clear hsee hs hn hsw HB HRI
            go_wp2_with fail
            refine HS.out.mono ?_
            rintro e wa ⟨rfl,ha,ma⟩
            have ka:=Kw5.out.moveM ha ma
            have e0:wa.cell? ⟨W.heap.size+1,0,none⟩=some (.int .i64 0):=ka.xb.cell 0
            have f0:=ka.xb.free 0
            have KB:=Lib.hid (ka.put (cs2:=stC 6 [] 0 (L1 W) (.slice none 0 0) (.slice none 0 0)) 0 (.int .i64 6) rfl)
            clear ha ma ka HS
            have HKI:=Lib.hid (kind_r 2 KB.out.rs)
            go_wp2_with fail
            refine HKI.out.mono ?_
            rintro e wn ⟨vz,rfl,⟨az,rfl⟩,hz,mz⟩
            obtain ⟨u,hu⟩:∃ u,u=tokR 2 (.ok (ts1,ns)):=⟨_,rfl⟩
            rw [← hu]
            have Hu:=Lib.hid hu
            have kn:=KB.out.moveM hz mz
            clear hz mz hu HKI
            have e1:wn.cell? ⟨W.heap.size+1,2,none⟩=some (.int .i64 0):=kn.xb.cell 2
            have f1:=kn.xb.free 2
            have KN:=Lib.hid (kn.put (cs2:=stC 6 [] u.n (L1 W) (.slice none 0 0) (.slice none 0 0)) 2 (.int .i64 u.n) rfl)
            have HWN:=Lib.hid (wants_r kw_by KN.out.rs)
            clear kn
            go_wp2_with fail
            refine HWN.out.mono ?_
            rintro e wv ⟨rfl,hz,mz⟩
            have KV:=Lib.hid (KN.out.moveM hz mz)
            have HKI:=Lib.hid (kind_r 1 KV.out.rs)
            clear hz mz e1 f1
            go_wp2_with fail
            refine HKI.out.mono ?_
            rintro e wg ⟨vz,rfl,⟨az,rfl⟩,hz,mz⟩
            obtain ⟨uu,huu⟩:∃ uu,uu=tokR 1 (run (wants kw_by) (run (take 2) (.ok (ts1,ns)))):=⟨_,rfl⟩
            rw [← huu]
            have Huu:=Lib.hid huu
            have kg:=KV.out.moveM hz mz
            clear hz mz huu HKI
            have e1:wg.cell? ⟨W.heap.size+1,1,none⟩=some (.string ⟨#[]⟩):=kg.xb.cell 1
            have f1:=kg.xb.free 1
            have KG:=Lib.hid (kg.put (cs2:=stC 6 uu.s u.n (L1 W) (.slice none 0 0) (.slice none 0 0)) 1 (.string (BA uu.s)) rfl)
            clear kg
            go_wp2_with fail
            go_meet
            have hkg:=KG.out
            rw [← run_top] at hkg
            exact cut_of (z:=goP topM (.ok (ts1,ns))) HX.out hkg fun a ts' ns' e=>(by
             rcases a with ⟨ga,gb⟩
             obtain ⟨h3,h4⟩:=top_val e
             rw [← Hu.out] at h3
             rw [← Huu.out] at h4
             subst h3
             subst h4
             exact ⟨still_room still_top HROOM.out _ _ _ e,stepM 6 uu.s u.n [rows] [] [] (L1 W) (.slice none 0 0) (.slice none 0 0),rfl,⟨KG.out.one hbase,nil_row,nil_row⟩,rfl⟩)
          | false =>
            have hsee:=sees_r [116,111,112] Kw5.out.rs
            rw [hs,seesR_no hs] at hsee
            have HS:=Lib.hid hsee
            have Nw6:=Lib.hid hs
            clear hsee hs
            go_wp2_with fail
            refine HS.out.mono ?_
            rintro e w6 ⟨rfl,hz,mz⟩
            have Kw6:=Lib.hid (Kw5.out.moveM hz mz)
            clear hz mz HS
            cases hs:seesR [106,111,105,110] (stOf y) with
            | true =>
              obtain ⟨rows,t,ts1,ns,rfl,hsw,hn⟩:=step_word hs
              have hrow:=HRI.out _ _ _ rfl
              subst hrow
              have HROOM:=Lib.hid (room_next HB.out)
              have HX:=Lib.hid (show (thenX (.ok (rows,t::ts1,ns)) fun a=>stepOf inner cond a)=_ from st_both (kd:=7) (k:=6) (ts1:=ts1) (by simp only [kw_steps,choice,seesR_none Nw2.out,seesR_none Nw3.out,seesR_none Nw4.out,seesR_none Nw5.out,seesR_none Nw6.out,hsw]) (.inl ⟨rfl,rfl⟩))
              have HS6:=Lib.hid hs
              clear hs hn hsw HB HRI
              have hsee:=is_r [106,111,105,110] Kw6.out.rs
              rw [HS6.out] at hsee
              have HS:=Lib.hid hsee
              clear hsee
              go_wp2_with fail
              refine HS.out.mono ?_
              rintro e wa ⟨rfl,hz⟩
              have KA:=Lib.hid (Kw6.out.kept hz)
              clear hz HS
              have e0:wa.cell? ⟨W.heap.size+1,0,none⟩=some (.int .i64 0):=KA.out.xb.cell 0
              have f0:=KA.out.xb.free 0
              have KB:=Lib.hid (KA.out.put (cs2:=stC 8 [] 0 (L1 W) (.slice none 0 0) (.slice none 0 0)) 0 (.int .i64 8) rfl)
              have hsee:=is_r [106,111,105,110] KB.out.rs
              rw [HS6.out] at hsee
              have HS:=Lib.hid hsee
              clear hsee
              go_wp2_with fail
              refine HS.out.mono ?_
              rintro e wb ⟨rfl,hz⟩
              have KBB:=Lib.hid (KB.out.kept hz)
              clear hz HS
              have e0:wb.cell? ⟨W.heap.size+1,0,none⟩=some (.int .i64 8):=KBB.out.xb.cell 0
              have f0:=KBB.out.xb.free 0
              have KC:=Lib.hid (KBB.out.put (cs2:=stC 7 [] 0 (L1 W) (.slice none 0 0) (.slice none 0 0)) 0 (.int .i64 7) rfl)
              obtain ⟨wq,hwq⟩:∃ wq,wq=wb.setCell ⟨W.heap.size+1,0,none⟩ (.int .i64 7):=⟨_,rfl⟩
              have KQ:=Lib.hid (show XR base r tv T deep nv W (rows:Int) (.ok (t::ts1,ns)) nv (stC 7 [] 0 (L1 W) (.slice none 0 0) (.slice none 0 0)) wq by rw [hwq];exact KC.out)
              have HWQ:=Lib.hid hwq
              clear hwq
              go_upto_region 27 with (fail)
              rw [show wb.setCell ⟨W.heap.size+1,0,none⟩ (.int .i64 7)=wq from HWQ.out.symm]
              clear e0 f0
              obtain ⟨i,hi⟩:∃ i,i=T.length-(t::ts1).length:=⟨_,rfl⟩
              have c1:wq.cell? ⟨r,1,none⟩=some (.int .i64 (i:Int)):=by rw [hi];exact KQ.out.rs.box.cell 1
              have f1:=KQ.out.rs.box.free 1
              have hfw:=KQ.out.rs.few
              have hi2:(i:Int)≤1024:=by omega
              have v1:IntKind.i64.wrap ((i:Int)+1)=(i:Int)+1:=IntWalk.i64_in _ (by omega)
              have KQ2:=Lib.hid (KQ.out.moveM (W':=wq.setCell ⟨r,1,none⟩ (.int .i64 ((i:Int)+1))) (KQ.out.rs.next (by rw [hi])) ((Stp.refl _ _ _).set 1 _))
              have hlt:ts1.length<T.length:=by
               have:=KQ.out.rs.left
               have h9:(t::ts1).length≤T.length:=this
               simp only [List.length_cons] at h9
               omega
              have HLT:=Lib.hid hlt
              have HWN:=Lib.hid (wants_r kw_open KQ2.out.rs)
              clear hi hlt hfw
              go_wp2_with fail
              refine HWN.out.mono ?_
              rintro e wv ⟨rfl,hz,mz⟩
              have KV:=Lib.hid (KQ2.out.moveM hz mz)
              obtain ⟨st2,hst2⟩:∃ st2,st2=run (wants kw_open) (.ok (ts1,ns)):=⟨_,rfl⟩
              rw [← hst2] at KV
              have HST2:=Lib.hid hst2
              have hroom2:Room st2:=fun ts' ns' e=>by
               rw [hst2] at e
               obtain ⟨h8,rfl⟩:=wants_left e
               have:=HROOM.out _ _ rfl
               omega
              have HDP:=Lib.hid (deeper_r KV.out.rs hd (fun ts' ns' e=>by
               rw [hst2] at e
               have h8:=(wants_left e).1
               have:=HLT.out
               omega))
              have HRM2:=Lib.hid (room_deeper (deep:=deep) hroom2)
              clear hz mz hst2 hroom2 c1 f1
              go_wp2_with fail
              refine HDP.out.mono ?_
              rintro e wd ⟨rfl,hz,mz⟩
              have KD:=Lib.hid (KV.out.moveM hz mz)
              have c16:=KD.out.xb.cell 16
              have HD:=Lib.hid (KD.out.kept ((Below.refl _ _).drew))
              have HCC:=Lib.hid (HI.out.1 _ _ _ _ _ _ _ HD.out.rs (Nat.le_trans hbase HD.out.sp.size) HRM2.out (sure_deeper _ _))
              clear hz mz
              obtain ⟨i0,hi0,hz0,hz1,hz2⟩:=info_parts infoInt
              go_wp2_with fail
              rw [show (#[{dst:=some 88,op:=Op.fieldAddr 42 (Operand.tmp 5) 6,type:=0,pos := "ref.go:156",after:=#[],guard:=none},{dst:=some 89,op:=Op.load 38 (Operand.tmp 88),type:=38,pos := "ref.go:156",after:=#[⟨0,.data⟩],guard:=none},{dst:=some 90,op:=Op.move (Operand.tmp 0),type:=79,pos := "ref.go:156",after:=#[],guard:=none},{dst:=some 91,op:=Op.call {callee:=Callee.value (Operand.func 43),args:=#[Operand.tmp 90],argTypes:=#[79]},type:=3,pos := "ref.go:156",after:=#[⟨2,.data⟩],guard:=none},{dst:=some 92,op:=Op.buildSlice 38 1 #[(0,Operand.tmp 91)],type:=38,pos := "ref.go:156",after:=#[⟨3,.data⟩],guard:=none},{dst:=some 93,op:=Op.call {callee:=Callee.builtin Go.Builtin.append,args:=#[Operand.tmp 89,Operand.tmp 92],argTypes:=#[38,38]},type:=38,pos := "ref.go:156",after:=#[⟨1,.data⟩,⟨4,.data⟩,⟨3,.chain⟩],guard:=none},{dst:=some 94,op:=Op.fieldAddr 42 (Operand.tmp 5) 6,type:=0,pos := "ref.go:156",after:=#[⟨0,.phase⟩,⟨1,.phase⟩,⟨2,.phase⟩,⟨3,.phase⟩,⟨4,.phase⟩,⟨5,.phase⟩],guard:=none},{dst:=none,op:=Op.store 38 (Operand.tmp 94) (Operand.tmp 93),type:=0,pos := "ref.go:156",after:=#[⟨6,.data⟩,⟨5,.data⟩,⟨5,.chain⟩,⟨0,.phase⟩,⟨1,.phase⟩,⟨2,.phase⟩,⟨3,.phase⟩,⟨4,.phase⟩,⟨5,.phase⟩],guard:=none}]:Array Oper)=Array.push #[{dst:=some 88,op:=Op.fieldAddr 42 (Operand.tmp 5) 6,type:=0,pos := "ref.go:156",after:=#[],guard:=none},{dst:=some 89,op:=Op.load 38 (Operand.tmp 88),type:=38,pos := "ref.go:156",after:=#[⟨0,.data⟩],guard:=none},{dst:=some 90,op:=Op.move (Operand.tmp 0),type:=79,pos := "ref.go:156",after:=#[],guard:=none},{dst:=some 91,op:=Op.call {callee:=Callee.value (Operand.func 43),args:=#[Operand.tmp 90],argTypes:=#[79]},type:=3,pos := "ref.go:156",after:=#[⟨2,.data⟩],guard:=none},{dst:=some 92,op:=Op.buildSlice 38 1 #[(0,Operand.tmp 91)],type:=38,pos := "ref.go:156",after:=#[⟨3,.data⟩],guard:=none},{dst:=some 93,op:=Op.call {callee:=Callee.builtin Go.Builtin.append,args:=#[Operand.tmp 89,Operand.tmp 92],argTypes:=#[38,38]},type:=38,pos := "ref.go:156",after:=#[⟨1,.data⟩,⟨4,.data⟩,⟨3,.chain⟩],guard:=none},{dst:=some 94,op:=Op.fieldAddr 42 (Operand.tmp 5) 6,type:=0,pos := "ref.go:156",after:=#[⟨0,.phase⟩,⟨1,.phase⟩,⟨2,.phase⟩,⟨3,.phase⟩,⟨4,.phase⟩,⟨5,.phase⟩],guard:=none}] {dst:=none,op:=Op.store 38 (Operand.tmp 94) (Operand.tmp 93),type:=0,pos := "ref.go:156",after:=#[⟨6,.data⟩,⟨5,.data⟩,⟨5,.chain⟩,⟨0,.phase⟩,⟨1,.phase⟩,⟨2,.phase⟩,⟨3,.phase⟩,⟨4,.phase⟩,⟨5,.phase⟩],guard:=none} from rfl]
              refine wp_region_last (S:=fun w'=>w'.cell? ⟨W.heap.size+1,16,none⟩=some (L1 W)) (by kernel_rfl) (by kernel_rfl) c16 (fun hHeld=>?_)
              refine wpAnyH_take (i:=0) (oi:={dst:=some 88,op:=Op.fieldAddr 42 (Operand.tmp 5) 6,type:=0,pos := "ref.go:156",after:=#[],guard:=none}) (v := ?v301) rfl (by kernel_rfl) (by kernel_rfl) (by kernel_rfl) (fun _ _ _ h=>h) (Or.inl ⟨by rfl,?hy301⟩) (by assumption) ?rest301
              case hy301 =>
               intro w hSw
               (try dsimp only at hSw)
               go_simp
               try with_reducible rfl
              try simp only [Act.put,List.setIfInBounds_toArray,List.set_cons_zero,List.set_cons_succ]
              refine wpAnyH_take (i:=1) (oi:={dst:=some 89,op:=Op.load 38 (Operand.tmp 88),type:=38,pos := "ref.go:156",after:=#[⟨0,.data⟩],guard:=none}) (v := ?v302) rfl (by kernel_rfl) (by kernel_rfl) (by kernel_rfl) (fun _ _ _ h=>h) (Or.inl ⟨by rfl,?hy302⟩) (by assumption) ?rest302
              case hy302 =>
               intro w hSw
               (try dsimp only at hSw)
               go_simp
               try with_reducible rfl
              try simp only [Act.put,List.setIfInBounds_toArray,List.set_cons_zero,List.set_cons_succ]
              refine wpAnyH_take (i:=2) (oi:={dst:=some 90,op:=Op.move (Operand.tmp 0),type:=79,pos := "ref.go:156",after:=#[],guard:=none}) (v := ?v303) rfl (by kernel_rfl) (by kernel_rfl) (by kernel_rfl) (fun _ _ _ h=>h) (Or.inl ⟨by rfl,?hy303⟩) (by assumption) ?rest303
              case hy303 =>
               intro w hSw
               (try dsimp only at hSw)
               go_simp
               try with_reducible rfl
              try simp only [Act.put,List.setIfInBounds_toArray,List.set_cons_zero,List.set_cons_succ]
              refine wpAnyH_ready (rs:=[3]) (by kernel_rfl) (by simp) ?_
              refine AllReadyH.cons (o:={dst:=some 91,op:=Op.call {callee:=Callee.value (Operand.func 43),args:=#[Operand.tmp 90],argTypes:=#[79]},type:=3,pos := "ref.go:156",after:=#[⟨2,.data⟩],guard:=none}) rfl (fun K hK=>?_) ?_
              ·go_simp
               go_at_call 43
               (with_reducible refine HCC.out.mono ?_)
               rintro e w5 ⟨nv5,i5,rfl,hi5,h5,s5⟩
               have K5:=Lib.hid (HD.out.move h5 s5)
               have HI5:=Lib.hid hi5
               have HBB:=Lib.hid ((Below.refl w5.heap.size w5).alloc (Nat.le_refl _) (.cells #[.int .i64 i5] 3))
               have HNW:=Lib.hid (blk_cells (Blk.new w5 3 #[.int .i64 i5]))
               have g0:=K5.out.xb.cell 16
               have K6:=Lib.hid (K5.out.kept HBB.out)
               clear hi5 h5 s5
               refine hK.out _ _ ?_ (fun hHeld=>?_)
               ·exact g0
               ·clear hK K
                try simp only [Act.put,List.setIfInBounds_toArray,List.set_cons_zero,List.set_cons_succ]
                refine wpAnyH_ready (rs:=[4]) (by kernel_rfl) (by simp) ?_
                refine AllReadyH.cons (o:={dst:=some 92,op:=Op.buildSlice 38 1 #[(0,Operand.tmp 91)],type:=38,pos := "ref.go:156",after:=#[⟨3,.data⟩],guard:=none}) rfl (fun K hK=>?_) ?_
                ·go_simp
                 refine hK.out _ _ ?_ (fun hHeld=>?_)
                 ·exact K6.out.xb.cell 16
                 ·clear hK K
                  try simp only [Act.put,List.setIfInBounds_toArray,List.set_cons_zero,List.set_cons_succ]
                  refine wpAnyH_ready (rs:=[5]) (by kernel_rfl) (by simp) ?_
                  refine AllReadyH.cons (o:={dst:=some 93,op:=Op.call {callee:=Callee.builtin Go.Builtin.append,args:=#[Operand.tmp 89,Operand.tmp 92],argTypes:=#[38,38]},type:=38,pos := "ref.go:156",after:=#[⟨1,.data⟩,⟨4,.data⟩,⟨3,.chain⟩],guard:=none}) rfl (fun K hK=>?_) ?_
                  ·refine step_append_grows (by rfl) _ _ _ (by rfl) 3 i0 _ 1 8 (by kernel_rfl) hi0 hz0 hz1 hz2 (by rfl) (by decide) (some ⟨W.heap.size,0,none⟩) 1 1 [.int .i64 (rows:Int)] (by rfl) (by intro h;cases h) (by rfl) (by rintro b h;cases h;exact blk_cells K6.out.l0) ⟨w5.heap.size,0,none⟩ 1 1 [.int .i64 i5] (by rfl) (by rfl) HNW.out (by simp [Value.oneCell']) (by decide) (by unfold maxLen;omega) (by omega) ?_
                   intro v7 w7 ho hg
                   have hb7:=append_none hg
                   have k7:=K6.out.kept hb7
                   obtain ⟨g,cap,rfl⟩:=row_one ho (by decide)
                   have ho2:w7.ownsRow base 3 1 (.slice (some ⟨g,0,none⟩) 2 cap) 2 [.int .i64 (rows:Int),.int .i64 i5]:=own_base ho (Nat.le_trans hbase K6.out.sp.size)
                   have e0:w7.cell? ⟨W.heap.size+1,16,none⟩=some (L1 W):=k7.xb.cell 16
                   have f0:w7.frozen? ⟨W.heap.size+1,16,none⟩=false:=k7.xb.free 16
                   have k8:=k7.put (cs2:=stC 7 [] 0 (.slice (some ⟨g,0,none⟩) 2 cap) (.slice none 0 0) (.slice none 0 0)) 16 (.slice (some ⟨g,0,none⟩) 2 cap) rfl
                   have HF:=Lib.hid (And.intro k8 (row_far ho2 k7.xb (by decide) 16 (.slice (some ⟨g,0,none⟩) 2 cap)))
                   clear ho hg hb7 k7 ho2 k8
                   refine hK.out _ _ ?_ (fun hHeld=>?_)
                   ·exact e0
                   ·clear hK K
                    try simp only [Act.put,List.setIfInBounds_toArray,List.set_cons_zero,List.set_cons_succ]
                    refine wpAnyH_take (i:=6) (oi:={dst:=some 94,op:=Op.fieldAddr 42 (Operand.tmp 5) 6,type:=0,pos := "ref.go:156",after:=#[⟨0,.phase⟩,⟨1,.phase⟩,⟨2,.phase⟩,⟨3,.phase⟩,⟨4,.phase⟩,⟨5,.phase⟩],guard:=none}) (v := ?v304) rfl (by kernel_rfl) (by kernel_rfl) (by kernel_rfl) (fun _ _ _ h=>h) (Or.inl ⟨by rfl,?hy304⟩) (by assumption) ?rest304
                    case hy304 =>
                     intro w hSw
                     (try dsimp only at hSw)
                     go_simp
                     try with_reducible rfl
                    try simp only [Act.put,List.setIfInBounds_toArray,List.set_cons_zero,List.set_cons_succ]
                    refine wpAnyH_done (by kernel_rfl) ?_ _
                    refine then_step (fun K hK=>?_)
                    go_simp
                    refine hK.out _ _ ?_
                    clear hK K
                    have HWS:=Lib.hid (wants_r kw_shut HF.out.1.rs)
                    go_wp2_with fail
                    refine HWS.out.mono ?_
                    rintro e w9 ⟨rfl,hz,mz⟩
                    rw [← shut_run] at hz
                    have k9:=HF.out.1.moveM hz mz
                    have c4:w9.cell? ⟨r,4,none⟩=some (.int .i64 ((deep:Int)+1)):=k9.rs.box.cell 4
                    have f4:=k9.rs.box.free 4
                    have v4:IntKind.i64.wrap ((deep:Int)+1-1)=(deep:Int):=by rw [IntWalk.i64_in _ (by omega)];omega
                    have v5:IntKind.i64.wrap (deep:Int)=(deep:Int):=IntWalk.i64_in _ (by omega)
                    have mset:Mv r w9 (w9.setCell ⟨r,4,none⟩ (.int .i64 (deep:Int))):=(Stp.refl _ _ _).set 4 _
                    have KZ:=Lib.hid (k9.moveM k9.rs.leave mset)
                    have HRZ:=Lib.hid (row_mv (row_mv HF.out.2 mz (ints_ne HF.out.1.rs HF.out.2)) mset (ints_ne k9.rs (row_mv HF.out.2 mz (ints_ne HF.out.1.rs HF.out.2))))
                    clear hz mz k9 mset e0 f0 c16
                    go_wp2_with fail
                    go_meet
                    have hzz:goP (M.bind (wants kw_open) fun _=>inner) (.ok (ts1,ns))=thenX (goP pq (deeperR deep st2)) fun a=>M.bind (wants kw_shut) fun _=>M.pure a:=open_then HI.out.2.2 HST2.out
                    have hkz:=KZ.out
                    rw [← hzz] at hkz
                    exact cut_of (z:=goP (M.bind (wants kw_open) fun _=>inner) (.ok (ts1,ns))) HX.out hkz fun a ts' ns' e=>(by
                     rw [hzz] at e
                     obtain ⟨tq,nq',hq⟩:=shut_index e
                     have h3:=HI5.out _ _ _ hq
                     have hroomz:ns'.length<5000:=by
                      have h8:=wants_room HRM2.out HI.out.2.1 e
                      exact h8
                     refine ⟨hroomz,stepM 7 [] 0 [rows,a] [] [] (.slice (some ⟨g,0,none⟩) 2 cap) (.slice none 0 0) (.slice none 0 0),rfl,⟨?_,nil_row,nil_row⟩,rfl⟩
                     have h4:=HRZ.out
                     rw [h3] at h4
                     exact h4)
                  exact AllReadyH.nil
                exact AllReadyH.nil
              exact AllReadyH.nil
            | false =>
              have hsee:=is_r [106,111,105,110] Kw6.out.rs
              rw [hs] at hsee
              have HS:=Lib.hid hsee
              have Nw7:=Lib.hid hs
              clear hsee hs
              go_wp2_with fail
              refine HS.out.mono ?_
              rintro e w7 ⟨rfl,hz⟩
              have Kw7:=Lib.hid (Kw6.out.kept hz)
              clear hz HS
              cases hs:seesR [117,110,105,111,110] (stOf y) with
              | true =>
                obtain ⟨rows,t,ts1,ns,rfl,hsw,hn⟩:=step_word hs
                have hrow:=HRI.out _ _ _ rfl
                subst hrow
                have HROOM:=Lib.hid (room_next HB.out)
                have HX:=Lib.hid (show (thenX (.ok (rows,t::ts1,ns)) fun a=>stepOf inner cond a)=_ from st_both (kd:=8) (k:=7) (ts1:=ts1) (by simp only [kw_steps,choice,seesR_none Nw2.out,seesR_none Nw3.out,seesR_none Nw4.out,seesR_none Nw5.out,seesR_none Nw6.out,seesR_none Nw7.out,hsw]) (.inr ⟨rfl,rfl⟩))
                have HS6:=Lib.hid hs
                clear hs hn hsw HB HRI
                have hsee:=is_r [117,110,105,111,110] Kw7.out.rs
                rw [HS6.out] at hsee
                have HS:=Lib.hid hsee
                clear hsee
                go_wp2_with fail
                refine HS.out.mono ?_
                rintro e wa ⟨rfl,hz⟩
                have KA:=Lib.hid (Kw7.out.kept hz)
                clear hz HS
                have e0:wa.cell? ⟨W.heap.size+1,0,none⟩=some (.int .i64 0):=KA.out.xb.cell 0
                have f0:=KA.out.xb.free 0
                have KB:=Lib.hid (KA.out.put (cs2:=stC 8 [] 0 (L1 W) (.slice none 0 0) (.slice none 0 0)) 0 (.int .i64 8) rfl)
                have hsee:=is_r [106,111,105,110] KB.out.rs
                rw [Nw7.out] at hsee
                have HS:=Lib.hid hsee
                clear hsee
                go_wp2_with fail
                refine HS.out.mono ?_
                rintro e wb ⟨rfl,hz⟩
                have KC:=Lib.hid (KB.out.kept hz)
                clear hz HS
                obtain ⟨wq,hwq⟩:∃ wq,wq=wb:=⟨_,rfl⟩
                rw [← hwq] at KC ⊢
                have KQ:=Lib.hid KC.out
                clear hwq e0 f0
                obtain ⟨i,hi⟩:∃ i,i=T.length-(t::ts1).length:=⟨_,rfl⟩
                have c1:wq.cell? ⟨r,1,none⟩=some (.int .i64 (i:Int)):=by rw [hi];exact KQ.out.rs.box.cell 1
                have f1:=KQ.out.rs.box.free 1
                have hfw:=KQ.out.rs.few
                have hi2:(i:Int)≤1024:=by omega
                have v1:IntKind.i64.wrap ((i:Int)+1)=(i:Int)+1:=IntWalk.i64_in _ (by omega)
                have KQ2:=Lib.hid (KQ.out.moveM (W':=wq.setCell ⟨r,1,none⟩ (.int .i64 ((i:Int)+1))) (KQ.out.rs.next (by rw [hi])) ((Stp.refl _ _ _).set 1 _))
                have hlt:ts1.length<T.length:=by
                 have:=KQ.out.rs.left
                 have h9:(t::ts1).length≤T.length:=this
                 simp only [List.length_cons] at h9
                 omega
                have HLT:=Lib.hid hlt
                have HWN:=Lib.hid (wants_r kw_open KQ2.out.rs)
                clear hi hlt hfw
                go_wp2_with fail
                refine HWN.out.mono ?_
                rintro e wv ⟨rfl,hz,mz⟩
                have KV:=Lib.hid (KQ2.out.moveM hz mz)
                obtain ⟨st2,hst2⟩:∃ st2,st2=run (wants kw_open) (.ok (ts1,ns)):=⟨_,rfl⟩
                rw [← hst2] at KV
                have HST2:=Lib.hid hst2
                have hroom2:Room st2:=fun ts' ns' e=>by
                 rw [hst2] at e
                 obtain ⟨h8,rfl⟩:=wants_left e
                 have:=HROOM.out _ _ rfl
                 omega
                have HDP:=Lib.hid (deeper_r KV.out.rs hd (fun ts' ns' e=>by
                 rw [hst2] at e
                 have h8:=(wants_left e).1
                 have:=HLT.out
                 omega))
                have HRM2:=Lib.hid (room_deeper (deep:=deep) hroom2)
                clear hz mz hst2 hroom2 c1 f1
                go_wp2_with fail
                refine HDP.out.mono ?_
                rintro e wd ⟨rfl,hz,mz⟩
                have KD:=Lib.hid (KV.out.moveM hz mz)
                have c16:=KD.out.xb.cell 16
                have HD:=Lib.hid (KD.out.kept ((Below.refl _ _).drew))
                have HCC:=Lib.hid (HI.out.1 _ _ _ _ _ _ _ HD.out.rs (Nat.le_trans hbase HD.out.sp.size) HRM2.out (sure_deeper _ _))
                clear hz mz
                obtain ⟨i0,hi0,hz0,hz1,hz2⟩:=info_parts infoInt
                go_wp2_with fail
                rw [show (#[{dst:=some 88,op:=Op.fieldAddr 42 (Operand.tmp 5) 6,type:=0,pos := "ref.go:156",after:=#[],guard:=none},{dst:=some 89,op:=Op.load 38 (Operand.tmp 88),type:=38,pos := "ref.go:156",after:=#[⟨0,.data⟩],guard:=none},{dst:=some 90,op:=Op.move (Operand.tmp 0),type:=79,pos := "ref.go:156",after:=#[],guard:=none},{dst:=some 91,op:=Op.call {callee:=Callee.value (Operand.func 43),args:=#[Operand.tmp 90],argTypes:=#[79]},type:=3,pos := "ref.go:156",after:=#[⟨2,.data⟩],guard:=none},{dst:=some 92,op:=Op.buildSlice 38 1 #[(0,Operand.tmp 91)],type:=38,pos := "ref.go:156",after:=#[⟨3,.data⟩],guard:=none},{dst:=some 93,op:=Op.call {callee:=Callee.builtin Go.Builtin.append,args:=#[Operand.tmp 89,Operand.tmp 92],argTypes:=#[38,38]},type:=38,pos := "ref.go:156",after:=#[⟨1,.data⟩,⟨4,.data⟩,⟨3,.chain⟩],guard:=none},{dst:=some 94,op:=Op.fieldAddr 42 (Operand.tmp 5) 6,type:=0,pos := "ref.go:156",after:=#[⟨0,.phase⟩,⟨1,.phase⟩,⟨2,.phase⟩,⟨3,.phase⟩,⟨4,.phase⟩,⟨5,.phase⟩],guard:=none},{dst:=none,op:=Op.store 38 (Operand.tmp 94) (Operand.tmp 93),type:=0,pos := "ref.go:156",after:=#[⟨6,.data⟩,⟨5,.data⟩,⟨5,.chain⟩,⟨0,.phase⟩,⟨1,.phase⟩,⟨2,.phase⟩,⟨3,.phase⟩,⟨4,.phase⟩,⟨5,.phase⟩],guard:=none}]:Array Oper)=Array.push #[{dst:=some 88,op:=Op.fieldAddr 42 (Operand.tmp 5) 6,type:=0,pos := "ref.go:156",after:=#[],guard:=none},{dst:=some 89,op:=Op.load 38 (Operand.tmp 88),type:=38,pos := "ref.go:156",after:=#[⟨0,.data⟩],guard:=none},{dst:=some 90,op:=Op.move (Operand.tmp 0),type:=79,pos := "ref.go:156",after:=#[],guard:=none},{dst:=some 91,op:=Op.call {callee:=Callee.value (Operand.func 43),args:=#[Operand.tmp 90],argTypes:=#[79]},type:=3,pos := "ref.go:156",after:=#[⟨2,.data⟩],guard:=none},{dst:=some 92,op:=Op.buildSlice 38 1 #[(0,Operand.tmp 91)],type:=38,pos := "ref.go:156",after:=#[⟨3,.data⟩],guard:=none},{dst:=some 93,op:=Op.call {callee:=Callee.builtin Go.Builtin.append,args:=#[Operand.tmp 89,Operand.tmp 92],argTypes:=#[38,38]},type:=38,pos := "ref.go:156",after:=#[⟨1,.data⟩,⟨4,.data⟩,⟨3,.chain⟩],guard:=none},{dst:=some 94,op:=Op.fieldAddr 42 (Operand.tmp 5) 6,type:=0,pos := "ref.go:156",after:=#[⟨0,.phase⟩,⟨1,.phase⟩,⟨2,.phase⟩,⟨3,.phase⟩,⟨4,.phase⟩,⟨5,.phase⟩],guard:=none}] {dst:=none,op:=Op.store 38 (Operand.tmp 94) (Operand.tmp 93),type:=0,pos := "ref.go:156",after:=#[⟨6,.data⟩,⟨5,.data⟩,⟨5,.chain⟩,⟨0,.phase⟩,⟨1,.phase⟩,⟨2,.phase⟩,⟨3,.phase⟩,⟨4,.phase⟩,⟨5,.phase⟩],guard:=none} from rfl]
                refine wp_region_last (S:=fun w'=>w'.cell? ⟨W.heap.size+1,16,none⟩=some (L1 W)) (by kernel_rfl) (by kernel_rfl) c16 (fun hHeld=>?_)
                refine wpAnyH_take (i:=0) (oi:={dst:=some 88,op:=Op.fieldAddr 42 (Operand.tmp 5) 6,type:=0,pos := "ref.go:156",after:=#[],guard:=none}) (v := ?v701) rfl (by kernel_rfl) (by kernel_rfl) (by kernel_rfl) (fun _ _ _ h=>h) (Or.inl ⟨by rfl,?hy701⟩) (by assumption) ?rest701
                case hy701 =>
                 intro w hSw
                 (try dsimp only at hSw)
                 go_simp
                 try with_reducible rfl
                try simp only [Act.put,List.setIfInBounds_toArray,List.set_cons_zero,List.set_cons_succ]
                refine wpAnyH_take (i:=1) (oi:={dst:=some 89,op:=Op.load 38 (Operand.tmp 88),type:=38,pos := "ref.go:156",after:=#[⟨0,.data⟩],guard:=none}) (v := ?v702) rfl (by kernel_rfl) (by kernel_rfl) (by kernel_rfl) (fun _ _ _ h=>h) (Or.inl ⟨by rfl,?hy702⟩) (by assumption) ?rest702
                case hy702 =>
                 intro w hSw
                 (try dsimp only at hSw)
                 go_simp
                 try with_reducible rfl
                try simp only [Act.put,List.setIfInBounds_toArray,List.set_cons_zero,List.set_cons_succ]
                refine wpAnyH_take (i:=2) (oi:={dst:=some 90,op:=Op.move (Operand.tmp 0),type:=79,pos := "ref.go:156",after:=#[],guard:=none}) (v := ?v703) rfl (by kernel_rfl) (by kernel_rfl) (by kernel_rfl) (fun _ _ _ h=>h) (Or.inl ⟨by rfl,?hy703⟩) (by assumption) ?rest703
                case hy703 =>
                 intro w hSw
                 (try dsimp only at hSw)
                 go_simp
                 try with_reducible rfl
                try simp only [Act.put,List.setIfInBounds_toArray,List.set_cons_zero,List.set_cons_succ]
                refine wpAnyH_ready (rs:=[3]) (by kernel_rfl) (by simp) ?_
                refine AllReadyH.cons (o:={dst:=some 91,op:=Op.call {callee:=Callee.value (Operand.func 43),args:=#[Operand.tmp 90],argTypes:=#[79]},type:=3,pos := "ref.go:156",after:=#[⟨2,.data⟩],guard:=none}) rfl (fun K hK=>?_) ?_
                ·go_simp
                 go_at_call 43
                 (with_reducible refine HCC.out.mono ?_)
                 rintro e w5 ⟨nv5,i5,rfl,hi5,h5,s5⟩
                 have K5:=Lib.hid (HD.out.move h5 s5)
                 have HI5:=Lib.hid hi5
                 have HBB:=Lib.hid ((Below.refl w5.heap.size w5).alloc (Nat.le_refl _) (.cells #[.int .i64 i5] 3))
                 have HNW:=Lib.hid (blk_cells (Blk.new w5 3 #[.int .i64 i5]))
                 have g0:=K5.out.xb.cell 16
                 have K6:=Lib.hid (K5.out.kept HBB.out)
                 clear hi5 h5 s5
                 refine hK.out _ _ ?_ (fun hHeld=>?_)
                 ·exact g0
                 ·clear hK K
                  try simp only [Act.put,List.setIfInBounds_toArray,List.set_cons_zero,List.set_cons_succ]
                  refine wpAnyH_ready (rs:=[4]) (by kernel_rfl) (by simp) ?_
                  refine AllReadyH.cons (o:={dst:=some 92,op:=Op.buildSlice 38 1 #[(0,Operand.tmp 91)],type:=38,pos := "ref.go:156",after:=#[⟨3,.data⟩],guard:=none}) rfl (fun K hK=>?_) ?_
                  ·go_simp
                   refine hK.out _ _ ?_ (fun hHeld=>?_)
                   ·exact K6.out.xb.cell 16
                   ·clear hK K
                    try simp only [Act.put,List.setIfInBounds_toArray,List.set_cons_zero,List.set_cons_succ]
                    refine wpAnyH_ready (rs:=[5]) (by kernel_rfl) (by simp) ?_
                    refine AllReadyH.cons (o:={dst:=some 93,op:=Op.call {callee:=Callee.builtin Go.Builtin.append,args:=#[Operand.tmp 89,Operand.tmp 92],argTypes:=#[38,38]},type:=38,pos := "ref.go:156",after:=#[⟨1,.data⟩,⟨4,.data⟩,⟨3,.chain⟩],guard:=none}) rfl (fun K hK=>?_) ?_
                    ·refine step_append_grows (by rfl) _ _ _ (by rfl) 3 i0 _ 1 8 (by kernel_rfl) hi0 hz0 hz1 hz2 (by rfl) (by decide) (some ⟨W.heap.size,0,none⟩) 1 1 [.int .i64 (rows:Int)] (by rfl) (by intro h;cases h) (by rfl) (by rintro b h;cases h;exact blk_cells K6.out.l0) ⟨w5.heap.size,0,none⟩ 1 1 [.int .i64 i5] (by rfl) (by rfl) HNW.out (by simp [Value.oneCell']) (by decide) (by unfold maxLen;omega) (by omega) ?_
                     intro v7 w7 ho hg
                     have hb7:=append_none hg
                     have k7:=K6.out.kept hb7
                     obtain ⟨g,cap,rfl⟩:=row_one ho (by decide)
                     have ho2:w7.ownsRow base 3 1 (.slice (some ⟨g,0,none⟩) 2 cap) 2 [.int .i64 (rows:Int),.int .i64 i5]:=own_base ho (Nat.le_trans hbase K6.out.sp.size)
                     have e0:w7.cell? ⟨W.heap.size+1,16,none⟩=some (L1 W):=k7.xb.cell 16
                     have f0:w7.frozen? ⟨W.heap.size+1,16,none⟩=false:=k7.xb.free 16
                     have k8:=k7.put (cs2:=stC 8 [] 0 (.slice (some ⟨g,0,none⟩) 2 cap) (.slice none 0 0) (.slice none 0 0)) 16 (.slice (some ⟨g,0,none⟩) 2 cap) rfl
                     have HF:=Lib.hid (And.intro k8 (row_far ho2 k7.xb (by decide) 16 (.slice (some ⟨g,0,none⟩) 2 cap)))
                     clear ho hg hb7 k7 ho2 k8
                     refine hK.out _ _ ?_ (fun hHeld=>?_)
                     ·exact e0
                     ·clear hK K
                      try simp only [Act.put,List.setIfInBounds_toArray,List.set_cons_zero,List.set_cons_succ]
                      refine wpAnyH_take (i:=6) (oi:={dst:=some 94,op:=Op.fieldAddr 42 (Operand.tmp 5) 6,type:=0,pos := "ref.go:156",after:=#[⟨0,.phase⟩,⟨1,.phase⟩,⟨2,.phase⟩,⟨3,.phase⟩,⟨4,.phase⟩,⟨5,.phase⟩],guard:=none}) (v := ?v704) rfl (by kernel_rfl) (by kernel_rfl) (by kernel_rfl) (fun _ _ _ h=>h) (Or.inl ⟨by rfl,?hy704⟩) (by assumption) ?rest704
                      case hy704 =>
                       intro w hSw
                       (try dsimp only at hSw)
                       go_simp
                       try with_reducible rfl
                      try simp only [Act.put,List.setIfInBounds_toArray,List.set_cons_zero,List.set_cons_succ]
                      refine wpAnyH_done (by kernel_rfl) ?_ _
                      refine then_step (fun K hK=>?_)
                      go_simp
                      refine hK.out _ _ ?_
                      clear hK K
                      have HWS:=Lib.hid (wants_r kw_shut HF.out.1.rs)
                      go_wp2_with fail
                      refine HWS.out.mono ?_
                      rintro e w9 ⟨rfl,hz,mz⟩
                      rw [← shut_run] at hz
                      have k9:=HF.out.1.moveM hz mz
                      have c4:w9.cell? ⟨r,4,none⟩=some (.int .i64 ((deep:Int)+1)):=k9.rs.box.cell 4
                      have f4:=k9.rs.box.free 4
                      have v4:IntKind.i64.wrap ((deep:Int)+1-1)=(deep:Int):=by rw [IntWalk.i64_in _ (by omega)];omega
                      have v5:IntKind.i64.wrap (deep:Int)=(deep:Int):=IntWalk.i64_in _ (by omega)
                      have mset:Mv r w9 (w9.setCell ⟨r,4,none⟩ (.int .i64 (deep:Int))):=(Stp.refl _ _ _).set 4 _
                      have KZ:=Lib.hid (k9.moveM k9.rs.leave mset)
                      have HRZ:=Lib.hid (row_mv (row_mv HF.out.2 mz (ints_ne HF.out.1.rs HF.out.2)) mset (ints_ne k9.rs (row_mv HF.out.2 mz (ints_ne HF.out.1.rs HF.out.2))))
                      clear hz mz k9 mset e0 f0 c16
                      go_wp2_with fail
                      go_meet
                      have hzz:goP (M.bind (wants kw_open) fun _=>inner) (.ok (ts1,ns))=thenX (goP pq (deeperR deep st2)) fun a=>M.bind (wants kw_shut) fun _=>M.pure a:=open_then HI.out.2.2 HST2.out
                      have hkz:=KZ.out
                      rw [← hzz] at hkz
                      exact cut_of (z:=goP (M.bind (wants kw_open) fun _=>inner) (.ok (ts1,ns))) HX.out hkz fun a ts' ns' e=>(by
                       rw [hzz] at e
                       obtain ⟨tq,nq',hq⟩:=shut_index e
                       have h3:=HI5.out _ _ _ hq
                       have hroomz:ns'.length<5000:=by
                        have h8:=wants_room HRM2.out HI.out.2.1 e
                        exact h8
                       refine ⟨hroomz,stepM 8 [] 0 [rows,a] [] [] (.slice (some ⟨g,0,none⟩) 2 cap) (.slice none 0 0) (.slice none 0 0),rfl,⟨?_,nil_row,nil_row⟩,rfl⟩
                       have h4:=HRZ.out
                       rw [h3] at h4
                       exact h4)
                    exact AllReadyH.nil
                  exact AllReadyH.nil
                exact AllReadyH.nil
              | false =>
                have hsee:=is_r [117,110,105,111,110] Kw7.out.rs
                rw [hs] at hsee
                have HS:=Lib.hid hsee
                have Nw8:=Lib.hid hs
                clear hsee hs
                go_wp2_with fail
                refine HS.out.mono ?_
                rintro e w8 ⟨rfl,hz⟩
                have Kw8:=Lib.hid (Kw7.out.kept hz)
                have HFL:=Lib.hid (fail_r Kw8.out.rs)
                clear hz HS
                go_wp2_with fail
                refine HFL.out.mono ?_
                rintro e w9 ⟨rfl,hz,mz⟩
                have K9:=Lib.hid (Kw8.out.moveM hz mz)
                clear hz mz
                go_wp2_with fail
                go_meet
                have hfz:∃ er,(thenX y fun a=>stepOf inner cond a)=.error er∧failR (stOf y)=.error er:=by
                 rcases y with er | ⟨rows,ts,ns⟩
                 ·exact ⟨er,rfl,rfl⟩
                 ·exact ⟨_,st_none (seesR_none Nw2.out) (seesR_none Nw3.out) (seesR_none Nw4.out) (seesR_none Nw5.out) (seesR_none Nw6.out) (seesR_none Nw7.out) (seesR_none Nw8.out),rfl⟩
                obtain ⟨er,he1,he2⟩:=hfz
                have hk9:=K9.out
                rw [he2] at hk9
                exact cut_of (α:=Nat) (z:=.error er) (f:=fun _=>node 0 []) he1 hk9 fun a ts' ns' e=>by cases e
 case rest =>
  obtain ⟨st2,nd,nv2,kd,s,n,lv,mv,av,hx,hidx,hrf,hsp,hxb,hok⟩:=hcut
  have HX:=Lib.hid (And.intro hx hidx)
  have HSP:=Lib.hid hsp
  have HXB:=Lib.hid hxb
  have HL:=Lib.hid (lay_r nd (stC kd s n lv mv av).toArray hrf (Nat.le_trans hbase hsp.size) (fun ts ns e=>by
   obtain ⟨h1,m,h2,h3,h4⟩:=hok ts ns e
   exact ⟨h1,m,by rw [h2],h3,h4⟩))
  clear hx hidx hrf hsp hxb hok
  go_wp2_with (refine wpList_load_mid (by rfl) 42 (.tmp 5) (by rfl) (W.heap.size+1) 0 (by rfl) (stC kd s n lv mv av) _ (box_range HXB.out) undNode (by rfl) sizeNode ?_)
  refine HL.out.mono ?_
  rintro e wz ⟨nvz,iz,rfl,hiz,hz,sz⟩
  have HE:=Lib.hid (And.intro (show ∀ a ts ns,(thenX y fun a=>stepOf inner cond a)=.ok (a,ts,ns)→iz=(a:Int) from fun a ts ns e=>by
   obtain ⟨ts',ns',e1,rfl⟩:=HX.out.2 a ts ns e
   exact hiz _ _ e1) (And.intro (show RF base r tv T deep (stOf (thenX y fun a=>stepOf inner cond a)) nvz wz by rw [HX.out.1];exact hz) (HSP.out.trans sz)))
  clear hiz hz sz
  go_wp2_with fail
  exact bodyPost_ret (results_tmp rfl _ _ _) rfl ⟨_,_,rfl,HE.out⟩
end
end Go.Proofs.YtnaehhpikhlppaaGreatDoor
