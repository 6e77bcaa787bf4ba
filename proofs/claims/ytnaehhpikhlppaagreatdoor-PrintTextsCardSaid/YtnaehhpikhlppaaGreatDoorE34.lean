/- Several texts of the proof, joined. -/
import Derived.Test.YtnaehhpikhlppaaGreatDoorE33
import Derived.Test.YtnaehhpikhlppaaGreatDoorE20
import Derived.Test.YtnaehhpikhlppaaGreatDoorE14
set_option maxHeartbeats 4000000
set_option maxRecDepth 100000
set_option linter.unusedVariables false
set_option linter.unusedSimpArgs false
namespace Go.Proofs.YtnaehhpikhlppaaGreatDoor
open Go.RowKit LexS ParS BigFrame
theorem qbox {w2 w3:World} {nv:Value} (h:w2.alloc (.cells #[nv] 25)=w3):Below w2.heap.size w2 w3∧Blk w3 w2.heap.size 25 #[nv]:=by
 subst h
 exact ⟨(Below.refl _ _).alloc (Nat.le_refl _) _,Blk.new w2 25 #[nv]⟩
structure Fine (q:Qr) (ns:List Nd):Prop extends Good q ns where
 back:parseAll (pQuery 16) q.tok=(ns,0,0)
theorem Fine.parse {q:Qr} {ns:List Nd} (h:Fine q ns) {xs:List Tok} (hx:xs.map tk=q.tok):parseS xs=(ns,0,0):=by
 unfold parseS
 rw [hx,h.back]
theorem fine_of {s:Bytes} {ns:List Nd} {a:Nat} (h:queryS s=(ns,a,0)):∃ q,Fine q ns∧q.deep≤16∧((spell q.tok).length≤2048→queryS (spell q.tok)=(ns,0,0)):=by
 obtain ⟨q,h1,h2,h3,h4,h5,h6,h7,h8⟩:=text_back h
 have hp:∃ l n,parseS l=(ns,n,0):=by
  unfold queryS at h
  rcases hx:lexS s with ⟨l,b,e⟩
  rw [hx] at h
  dsimp only at h
  by_cases he:e≠0
  ·rw [if_pos he] at h
   injection h with _ h5
   injection h5 with _ h7
   exact absurd h7 he
  ·rw [if_neg he] at h
   rcases hp:parseS l with ⟨ns2,n,f⟩
   rw [hp] at h
   dsimp only at h
   by_cases hf:f=0
   ·subst hf
    rw [if_pos rfl] at h
    injection h with h4 _
    subst h4
    exact ⟨l,n,hp⟩
   ·rw [if_neg hf] at h
    rcases hz:l[n]? with _ | t
    all_goals
     rw [hz] at h
     injection h with _ h5
     injection h5 with _ h7
     exact absurd h7 hf
 obtain ⟨l,n,hp⟩:=hp
 obtain ⟨t1,t2,t3⟩:=parse_tree hp
 exact ⟨q,⟨⟨h1,⟨h2,h6,h5⟩,tree_qt t1,fits_qt t1,t3,qt_last t1⟩,h7⟩,h3,h8⟩
section
variable {q:Qr} {ns:List Nd} {g cap:Nat}
theorem Fine.spell (h:Fine q ns):spell q.tok=q.textB:=(query_mid q h.qin.ok).2
theorem check_fine (hq:Fine q ns) (w:World) (hn:NR w (.slice (some ⟨g,0,none⟩) ns.length cap) ns) (hp:PW w) :
 Calls Tryz.prog 11 #[.agg #[.slice (some ⟨g,0,none⟩) ns.length cap]] w fun e w'=>e=.returned (.int .i64 0)∧Below w.heap.size w w':=by
 obtain ⟨W,hW⟩:∃ W,W=w.alloc (.cells #[.slice (some ⟨g,0,none⟩) ns.length cap] 25):=⟨_,rfl⟩
 have hbW:Below w.heap.size w W:=by rw [hW];exact (Below.refl _ _).alloc (Nat.le_refl _) _
 have x0:Blk W w.heap.size 25 #[.slice (some ⟨g,0,none⟩) ns.length cap]:=by rw [hW];exact Blk.new w _ _
 have c0:W.cell? ⟨w.heap.size,0,none⟩=some (.slice (some ⟨g,0,none⟩) ns.length cap):=x0.cell 0
 have HW:=Lib.hid hW
 have HRW:=Lib.hid (show ∀ (K:World→Prop),K W→K (w.alloc (.cells #[.slice (some ⟨g,0,none⟩) ns.length cap] 25)) from fun K h=>by rw [← HW.out];exact h)
 have HQ:=Lib.hid hq
 have HN:=Lib.hid hn
 have HP:=Lib.hid hp
 have HX:=Lib.hid x0
 have HBW:=Lib.hid hbW
 have HT:=Lib.hid (text_good hq.toGood W (hn.stayP hbW) (hp.kept hbW))
 clear hW hn hp hq x0 hbW
 go_enter Tryz.func11,Tryz.ntmps11
 go_upto_region 1 with fail
 refine HRW.out _ ?_
 go_wp2_with fail
 refine HT.out.mono ?_
 rintro e w2 ⟨rfl,hb2⟩
 have HB2:=Lib.hid (HBW.out.trans (hb2.mono HBW.out.size))
 have HX2:=Lib.hid (HX.out.kept hb2)
 have htk:=tokens_any HQ.out.qin.lex HQ.out.qin.few w2 (HP.out.gw.kept HB2.out)
 rw [HQ.out.spell] at htk
 have HTK:=Lib.hid htk
 clear hb2 htk c0
 go_wp2_with fail
 refine HTK.out.mono ?_
 rintro e w3 ⟨v,xs,rfl,hxs,hrow,hb3⟩
 have hps:=parse_any (own_base hrow (Nat.zero_le _))
 rw [HQ.out.parse hxs] at hps
 have HPS:=Lib.hid hps
 have HB3:=Lib.hid (chain HB2.out hb3)
 have HX3:=Lib.hid (HX2.out.kept hb3)
 clear hps hrow hb3 hxs
 go_wp2_with fail
 refine HPS.out.mono ?_
 rintro e w4 ⟨nv,rfl,hns,hb4⟩
 dsimp only at hns
 have HNR:=Lib.hid hns.nr
 have HB4:=Lib.hid (chain HB3.out hb4)
 have HX4:=Lib.hid (HX3.out.kept hb4)
 obtain ⟨po,pc,rfl⟩:∃ o c,nv=.slice o ns.length c:=by
  obtain ⟨p,c,h,_⟩:=HNR.out
  exact ⟨p,c,h⟩
 have HBX:=Lib.hid (fun w5 h5=>qbox (w2:=w4) (w3:=w5) (nv:=.slice po ns.length pc) h5)
 clear hns hb4
 go_upto_region 6 with fail
 generalize hw5:World.alloc _ _=w5
 obtain ⟨hb5,hx5⟩:=HBX.out w5 hw5
 have c1:w5.cell? ⟨w4.heap.size,0,none⟩=some (.slice po ns.length pc):=hx5.cell 0
 have c0:w5.cell? ⟨w.heap.size,0,none⟩=some (.slice (some ⟨g,0,none⟩) ns.length cap):=(HX4.out.kept hb5).cell 0
 have HB5:=Lib.hid (chain HB4.out hb5)
 have HEF:=Lib.hid (equalfunc_p (HNR.out.stayP hb5) (HN.out.stayP (chain HB4.out hb5)))
 clear hw5 hb5 hx5
 go_wp2_with fail
 refine HEF.out.mono ?_
 rintro e w6 ⟨rfl,hb6⟩
 have HB6:=Lib.hid (chain HB5.out hb6)
 clear hb6 c0 c1
 go_wp2_with fail
 exact bodyPost_ret (results_tmp rfl _ _ _) rfl ⟨rfl,HB6.out⟩
def shortV (t:Bytes):Value:=if 2048<t.length then .tuple #[.string ⟨#[]⟩,.int .i64 2] else .tuple #[.string (BA t),.int .i64 0]
theorem print_fine (hq:Fine q ns) (w:World) (hn:NR w (.slice (some ⟨g,0,none⟩) ns.length cap) ns) (hp:PW w) :
 Calls Tryz.prog 9 #[.agg #[.slice (some ⟨g,0,none⟩) ns.length cap]] w fun e w'=>e=.returned (shortV q.textB)∧Below w.heap.size w w':=by
 obtain ⟨W,hW⟩:∃ W,W=w.alloc (.cells #[.slice (some ⟨g,0,none⟩) ns.length cap] 25):=⟨_,rfl⟩
 have hbW:Below w.heap.size w W:=by rw [hW];exact (Below.refl _ _).alloc (Nat.le_refl _) _
 have x0:Blk W w.heap.size 25 #[.slice (some ⟨g,0,none⟩) ns.length cap]:=by rw [hW];exact Blk.new w _ _
 have c0:W.cell? ⟨w.heap.size,0,none⟩=some (.slice (some ⟨g,0,none⟩) ns.length cap):=x0.cell 0
 have HW:=Lib.hid hW
 have HRW:=Lib.hid (show ∀ (K:World→Prop),K W→K (w.alloc (.cells #[.slice (some ⟨g,0,none⟩) ns.length cap] 25)) from fun K h=>by rw [← HW.out];exact h)
 have HX:=Lib.hid x0
 have HBW:=Lib.hid hbW
 have HC:=Lib.hid (check_fine hq W (hn.stayP hbW) (hp.kept hbW))
 have HT:=Lib.hid (fun w' (hb:Below W.heap.size W w')=>text_good hq.toGood w' ((hn.stayP hbW).stayP hb) ((hp.kept hbW).kept hb))
 have hsh:=short_any (BA q.textB)
 rw [text_size] at hsh
 obtain ⟨tt,htt⟩:∃ tt,tt=q.textB:=⟨_,rfl⟩
 rw [← htt] at hsh HT ⊢
 have HSH:=Lib.hid hsh
 clear hW hn hp hq x0 hbW hsh htt
 go_enter Tryz.func9,Tryz.ntmps9
 go_upto_region 1 with fail
 refine HRW.out _ ?_
 go_wp2_with fail
 refine HC.out.mono ?_
 rintro e w2 ⟨rfl,hb2⟩
 have HB2:=Lib.hid hb2
 have c0:w2.cell? ⟨w.heap.size,0,none⟩=some (.slice (some ⟨g,0,none⟩) ns.length cap):=(HX.out.kept hb2).cell 0
 clear hb2
 go_wp2_with fail
 refine (HT.out _ HB2.out).mono ?_
 rintro e w3 ⟨rfl,hb3⟩
 have HB3:=Lib.hid (HBW.out.trans ((chain HB2.out hb3).mono HBW.out.size))
 clear hb3 c0
 go_wp2_with fail
 refine (HSH.out _).mono ?_
 rintro e w4 ⟨rfl,rfl⟩
 by_cases hl:2048<tt.length
 ·rw [if_pos hl]
  go_wp2_with fail
  exact bodyPost_ret (v:=.tuple #[.string ⟨#[]⟩,.int .i64 2]) (by simp [results,Tryz.results9,go_sem]) rfl ⟨by unfold shortV;rw [if_pos hl],HB3.out⟩
 ·rw [if_neg hl]
  go_wp2_with fail
  exact bodyPost_ret (v:=.tuple #[.string (BA tt),.int .i64 0]) (by simp [results,Tryz.results9,go_sem]) rfl ⟨by unfold shortV;rw [if_neg hl],HB3.out⟩
end
end Go.Proofs.YtnaehhpikhlppaaGreatDoor

namespace Go.Proofs.YtnaehhpikhlppaaGreatDoor
open Go.RowKit LexS ParS BigFrame
attribute [local go_sem] World.cell?_alloc_some cell_drewN_new free_drewN_new cell_drew_new free_drew_new
abbrev RSt:=Except Er (List Tk×List Nd)
def goP {α:Type} (p:M α):RSt→Except Er (α×List Tk×List Nd)
 | .error e=>.error e
 | .ok (ts,ns)=>p ts ns
def stOf {α:Type}:Except Er (α×List Tk×List Nd)→RSt
 | .error e=>.error e
 | .ok (_,ts,ns)=>.ok (ts,ns)
def run {α:Type} (p:M α) (st:RSt):RSt:=stOf (goP p st)
def leftR:RSt→Nat
 | .error (k,_)=>k
 | .ok (ts,_)=>ts.length
def codeR:RSt→Nat
 | .error (_,l)=>codeOf l
 | .ok _=>0
def seesR (b:Bytes):RSt→Bool
 | .error _=>false
 | .ok (ts,_)=>isS b ts
def nextR (b:Bytes):RSt→RSt
 | .error e=>.error e
 | .ok (ts,ns)=>.ok ((sees b ts).getD ts,ns)
theorem slice_form {w:World} {b e:Nat} {v:Value} {n size:Nat} {xs:List Value} (h:w.ownsRow b e size v n xs):∃ o cap,v=.slice o n cap:=by
 rcases h.2 with ⟨h1,h2⟩ | ⟨g,cap,cur,h2,_⟩
 ·exact ⟨none,0,by rw [h2];exact h1⟩
 ·exact ⟨_,cap,h2⟩
theorem codeOf_ne (l:Bool):1≤codeOf l∧codeOf l≤120:=by cases l<;>simp [codeOf]
structure RF (base r:Nat) (tv:Value) (T:List Tok) (deep:Nat) (st:RSt) (nv:Value) (W:World):Prop where
 box:Blk W r 81 #[tv,.int .i64 ((T.length-leftR st:Nat):Int),nv,.int .i64 (codeR st:Int),.int .i64 (deep:Int)]
 le:base≤r
 toks:W.ownsRow 0 65 4 tv T.length (toksL T)
 left:leftR st≤T.length
 suf:∀ ts ns,st=.ok (ts,ns)→ts=(T.map tk).drop (T.length-ts.length)
 few:T.length≤1024
 nodes:∃ ns,NS W base nv ns∧ns.length≤5000∧∀ ts ns',st=.ok (ts,ns')→ns'=ns
section
variable {base r deep d2:Nat} {tv nv nv':Value} {T:List Tok} {st st2:RSt} {ts ts1:List Tk} {ns:List Nd} {W W':World}
theorem RF.kept (h:RF base r tv T deep st nv W) (hb:Below W.heap.size W W'):RF base r tv T deep st nv W':=by
 obtain ⟨ns,h1,h2⟩:=h.nodes
 exact ⟨h.box.kept hb,h.le,own_kept h.toks hb,h.left,h.suf,h.few,ns,h1.kept hb,h2⟩
theorem RF.r_ne (h:RF base r tv T deep st nv W):nv.ownBlock≠some r:=by
 intro e
 obtain ⟨ns,h1,_⟩:=h.nodes
 obtain ⟨_,cur,hc⟩:=h1.block e
 have:=block_types hc h.box
 cases this
theorem RF.t_ne (h:RF base r tv T deep st nv W):tv.ownBlock≠some r:=by
 intro e
 obtain ⟨cur,hc⟩:=row_block h.toks e
 have:=block_types hc h.box
 cases this
theorem RF.row {b2 size n:Nat} {e:TypeId} {v:Value} {xs:List Value} (h:RF base r tv T deep st nv W) (s:Stp r nv W nv' W') (ho:W.ownsRow b2 e size v n xs) (h1:e≠81) (h2:e≠42):W'.ownsRow b2 e size v n xs:=by
 refine row_stp ho s fun k hk=>?_
 obtain ⟨cur,hc⟩:=row_block ho hk
 refine ⟨fun e1=>?_,fun e1=>?_⟩
 ·subst e1
  exact h1 (block_types hc h.box)
 ·obtain ⟨ns,hn,_⟩:=h.nodes
  obtain ⟨_,cur2,hc2⟩:=hn.block e1
  exact h2 (block_types hc hc2)
theorem RF.mok {m:NodeM} (h:RF base r tv T deep st nv W) (hm:MOk W base m) (s:Stp r nv W nv' W'):MOk W' base m :=
 ⟨h.row s hm.l (by decide) (by decide),h.row s hm.names (by decide) (by decide),h.row s hm.aggs (by decide) (by decide)⟩
theorem RF.put (h:RF base r tv T deep st nv W) (i:Nat) (u:Value) (hc:(#[tv,.int .i64 ((T.length-leftR st2:Nat):Int),nv,.int .i64 (codeR st2:Int),.int .i64 (d2:Int)]:Array Value)=(#[tv,.int .i64 ((T.length-leftR st:Nat):Int),nv,.int .i64 (codeR st:Int),.int .i64 (deep:Int)]:Array Value).setIfInBounds i u)
 (hl:leftR st2≤T.length) (hs:∀ ts ns,st2=.ok (ts,ns)→ts=(T.map tk).drop (T.length-ts.length)) (hn:∀ ts ns,st2=.ok (ts,ns)→∃ ts',st=.ok (ts',ns)) :
 RF base r tv T d2 st2 nv (W.setCell ⟨r,i,none⟩ u):=by
 have s:Stp r nv W nv (W.setCell ⟨r,i,none⟩ u):=(Stp.refl r nv W).set i u
 obtain ⟨ns,⟨ms,h1,h2,h3⟩,h5,h4⟩:=h.nodes
 refine ⟨by rw [hc];exact h.box.put i u,h.le,h.row s h.toks (by decide) (by decide),hl,hs,h.few,ns,⟨ms,h1,?_,fun m hm=>h.mok (h3 m hm) s⟩,h5,fun ts ns' e=>?_⟩
 ·refine ⟨h2.1,?_⟩
  rcases h2.2 with h4 | ⟨g,cap,cur,rfl,h5,h6,h7⟩
  ·exact .inl h4
  ·refine .inr ⟨g,cap,cur,rfl,h5,?_,h7⟩
   rw [← h6]
   simp only [World.setCell,Array.getElem?_modify]
   rw [if_neg (fun e=>h.r_ne (by rw [e];rfl))]
 ·obtain ⟨ts',e'⟩:=hn ts ns' e
  exact h4 ts' ns' e'
theorem RF.next {t:Tk} (h:RF base r tv T deep (.ok (t::ts1,ns)) nv W) {a:Int} (ha:a=((T.length-(t::ts1).length:Nat):Int)+1):RF base r tv T deep (.ok (ts1,ns)) nv (W.setCell ⟨r,1,none⟩ (.int .i64 a)):=by
 have hs:(t::ts1).length≤T.length:=h.left
 simp only [List.length_cons] at hs
 have hsf:=h.suf _ _ rfl
 have e1:T.length-ts1.length=T.length-(t::ts1).length+1:=by rw [List.length_cons];omega
 refine h.put 1 _ ?_ (show ts1.length≤T.length by omega) (fun ts ns e=>?_) (fun ts ns e=>?_)
 ·rw [ha]
  show (#[tv,.int .i64 ((T.length-ts1.length:Nat):Int),nv,.int .i64 0,.int .i64 (deep:Int)]:Array Value)=_
  rw [e1]
  simp [leftR,codeR]
 ·cases e
  rw [e1,← List.drop_drop,← hsf]
  rfl
 ·cases e
  exact ⟨_,rfl⟩
theorem RF.fails (h:RF base r tv T deep (.ok (ts,ns)) nv W):RF base r tv T deep (.error (ts.length,false)) nv (W.setCell ⟨r,3,none⟩ (.int .i64 120)) :=
 h.put 3 _ (by simp [leftR,codeR,codeOf]) h.left (fun ts ns e=>by cases e) (fun ts ns e=>by cases e)
theorem is_r (b:Bytes) (h:RF base r tv T deep st nv W):Calls Tryz.prog 111 #[RP r,.string (BA b)] W fun e W'=>e=.returned (.bool (seesR b st))∧Below W.heap.size W W':=by
 obtain ⟨p,cap,rfl,hcap,hmax,hrow⟩:=row_any h.toks
 have hfew:=h.few
 rcases st with ⟨k,long⟩ | ⟨ts,ns⟩
 ·have c3:W.cell? ⟨r,3,none⟩=some (.int .i64 (codeOf long:Int)):=h.box.cell 3
  have hc:=codeOf_ne long
  obtain ⟨c,hcc⟩:∃ c,c=codeOf long:=⟨_,rfl⟩
  rw [← hcc] at c3 hc
  have q1:((c:Int) == 0)=false:=by rw [beq_eq_false_iff_ne];omega
  have q2:¬ (c:Int)=0:=by omega
  clear hrow h hc hcc
  go_enter Tryz.func111,Tryz.ntmps111
  go_wp2_with fail
  go_big_quiet (fail)
  go_wp2_with fail
  go_ret
  exact ⟨rfl,by first | exact below_drewN (Below.refl _ _) _ | exact (Below.refl _ _).drew⟩
 ·have c3:W.cell? ⟨r,3,none⟩=some (.int .i64 0):=h.box.cell 3
  cases ts with
  | nil =>
    have c0:W.cell? ⟨r,0,none⟩=some (.slice p T.length cap):=h.box.cell 0
    have c1:W.cell? ⟨r,1,none⟩=some (.int .i64 (T.length:Int)):=h.box.cell 1
    have q1:¬ (T.length:Int)<(T.length:Int):=by omega
    have q2:decide ((T.length:Int)<(T.length:Int))=false:=decide_eq_false q1
    clear hrow h
    go_enter Tryz.func111,Tryz.ntmps111
    go_wp2_with fail
    go_big_quiet (fail)
    go_wp2_with fail
    go_ret
    exact ⟨rfl,by first | exact below_drewN (Below.refl _ _) _ | exact (Below.refl _ _).drew⟩
  | cons t ts1 =>
    obtain ⟨u,hu,hut,hlt⟩:=tok_at (h.suf _ _ rfl) h.left rfl
    obtain ⟨i,hi⟩:∃ i,i=T.length-(t::ts1).length:=⟨_,rfl⟩
    rw [← hi] at hu hlt
    obtain ⟨g,rfl,_,_,hcells⟩:=hrow (by rintro rfl;simp at hlt)
    obtain ⟨d0,d1,d2,d3⟩:=hcells i u hu
    have c0:W.cell? ⟨r,0,none⟩=some (.slice (some ⟨g,0,none⟩) T.length cap):=h.box.cell 0
    have c1:W.cell? ⟨r,1,none⟩=some (.int .i64 (i:Int)):=by rw [hi];exact h.box.cell 1
    have q2:decide ((i:Int)<(T.length:Int))=true:=decide_eq_true (by omega)
    have q3:decide (i<T.length)=true:=decide_eq_true (by omega)
    have q4:(0:Int)≤(i:Int):=by omega
    have q5:(i:Int)<(T.length:Int):=by omega
    have hv:seesR b (.ok (t::ts1,ns))=((decide (u.kind=1) || decide (u.kind=4)) && decide (u.s=b)):=by
     show isS b (t::ts1)=_
     rw [isS_cons,← hut];rfl
    have HV:=Lib.hid hv
    clear hcells hrow h hi hu hut hv
    by_cases k1:u.kind=1
    ·have e1:((u.kind:Int) == 1)=true:=by rw [beq_iff_eq];omega
     have e1':(u.kind:Int)=1:=by omega
     have HV2:=Lib.hid (show ((decide (u.kind=1) || decide (u.kind=4)) && decide (u.s=b))=(u.s == b) by rw [k1,Bool.eq_iff_iff];simp)
     clear k1
     go_enter Tryz.func111,Tryz.ntmps111
     go_wp2_with fail
     go_big_quiet (fail)
     go_wp2_with fail
     go_ret
     refine ⟨congrArg (fun x=>Ending.returned (.bool x)) ?_,by first | exact below_drewN (Below.refl _ _) _ | exact (Below.refl _ _).drew⟩
     rw [HV.out,HV2.out]
    ·have e1:((u.kind:Int) == 1)=false:=by rw [beq_eq_false_iff_ne];omega
     have e1':¬ (u.kind:Int)=1:=by omega
     by_cases k4:u.kind=4
     ·have e4:((u.kind:Int) == 4)=true:=by rw [beq_iff_eq];omega
      have e4':(u.kind:Int)=4:=by omega
      have HV2:=Lib.hid (show ((decide (u.kind=1) || decide (u.kind=4)) && decide (u.s=b))=(u.s == b) by rw [k4,Bool.eq_iff_iff];simp)
      clear k1 k4
      go_enter Tryz.func111,Tryz.ntmps111
      go_wp2_with fail
      go_big_quiet (fail)
      go_wp2_with fail
      go_ret
      refine ⟨congrArg (fun x=>Ending.returned (.bool x)) ?_,by first | exact below_drewN (Below.refl _ _) _ | exact (Below.refl _ _).drew⟩
      rw [HV.out,HV2.out]
     ·have e4:((u.kind:Int) == 4)=false:=by rw [beq_eq_false_iff_ne];omega
      have e4':¬ (u.kind:Int)=4:=by omega
      have HV2:=Lib.hid (show ((decide (u.kind=1) || decide (u.kind=4)) && decide (u.s=b))=false by rw [decide_eq_false k1,decide_eq_false k4];rfl)
      clear k1 k4
      go_enter Tryz.func111,Tryz.ntmps111
      go_wp2_with fail
      go_big_quiet (fail)
      go_wp2_with fail
      go_ret
      refine ⟨congrArg (fun x=>Ending.returned (.bool x)) ?_,by first | exact below_drewN (Below.refl _ _) _ | exact (Below.refl _ _).drew⟩
      rw [HV.out,HV2.out]
theorem seesR_ok {b:Bytes} (h:seesR b st=true):∃ t ts1 ns,st=.ok (t::ts1,ns)∧nextR b st=.ok (ts1,ns)∧sees b (t::ts1)=some ts1:=by
 rcases st with e | ⟨ts,ns⟩
 ·cases h
 ·have h':isS b ts=true:=h
  cases ts with
  | nil=>cases h'
  | cons t ts1 =>
    rw [isS_cons] at h'
    have hs:sees b (t::ts1)=some ts1:=by rw [sees_cons,if_pos h']
    exact ⟨t,ts1,ns,rfl,by show (Except.ok ((sees b (t::ts1)).getD _,ns):RSt)=_;rw [hs];rfl,hs⟩
theorem seesR_no {b:Bytes} (h:seesR b st=false):nextR b st=st:=by
 rcases st with e | ⟨ts,ns⟩
 ·rfl
 ·have h':isS b ts=false:=h
  unfold isS at h'
  show (Except.ok ((sees b ts).getD ts,ns):RSt)=_
  cases hs:sees b ts with
  | none=>rfl
  | some x=>rw [hs] at h';cases h'
theorem sees_r (b:Bytes) (h:RF base r tv T deep st nv W) :
 Calls Tryz.prog 67 #[RP r,.string (BA b)] W fun e W'=>e=.returned (.bool (seesR b st))∧RF base r tv T deep (nextR b st) nv W'∧Mv r W W':=by
 have HI:=Lib.hid (is_r b h)
 have H:=Lib.hid h
 have hfew:=h.few
 clear h
 cases hs:seesR b st with
 | false =>
   have hi:=HI.out
   rw [hs] at hi
   rw [seesR_no hs]
   clear hs HI
   have HI:=Lib.hid hi
   clear hi
   go_enter Tryz.func67,Tryz.ntmps67
   go_wp2_with fail
   refine HI.out.mono ?_
   rintro e w1 ⟨rfl,hb⟩
   go_wp2_with fail
   go_ret
   exact ⟨rfl,H.out.kept hb,Stp.of hb⟩
 | true =>
   have hi:=HI.out
   rw [hs] at hi
   obtain ⟨t,ts1,ns,rfl,h2,_⟩:=seesR_ok hs
   rw [h2]
   clear hs HI h2
   have HI:=Lib.hid hi
   clear hi
   go_enter Tryz.func67,Tryz.ntmps67
   go_wp2_with fail
   refine HI.out.mono ?_
   rintro e w1 ⟨rfl,hb⟩
   have H1:=Lib.hid (H.out.kept hb)
   have S1:=Lib.hid (Stp.of (r:=r) (nv:=.slice none 0 0) hb)
   obtain ⟨i,hi⟩:∃ i,i=T.length-(t::ts1).length:=⟨_,rfl⟩
   have c1:w1.cell? ⟨r,1,none⟩=some (.int .i64 (i:Int)):=by rw [hi];exact H1.out.box.cell 1
   have f1:=H1.out.box.free 1
   have hi2:(i:Int)≤1024:=by omega
   have H2:=Lib.hid (H1.out.next (a:=(i:Int)+1) (by rw [hi]))
   clear hi hb
   go_wp2_with fail
   go_ret
   exact ⟨rfl,H2.out,S1.out.set 1 _⟩
def failR:RSt→RSt
 | .error e=>.error e
 | .ok (ts,_)=>.error (ts.length,false)
theorem fail_r (h:RF base r tv T deep st nv W) :
 Calls Tryz.prog 69 #[RP r] W fun e W'=>e=.returned (.tuple #[])∧RF base r tv T deep (failR st) nv W'∧Mv r W W':=by
 have H:=Lib.hid h
 rcases st with ⟨k,long⟩ | ⟨ts,ns⟩
 ·have c3:W.cell? ⟨r,3,none⟩=some (.int .i64 (codeOf long:Int)):=h.box.cell 3
  have hc:=codeOf_ne long
  obtain ⟨c,hcc⟩:∃ c,c=codeOf long:=⟨_,rfl⟩
  rw [← hcc] at c3 hc
  have q1:((c:Int) == 0)=false:=by rw [beq_eq_false_iff_ne];omega
  have q2:¬ (c:Int)=0:=by omega
  clear h hc hcc
  go_enter Tryz.func69,Tryz.ntmps69
  go_wp2_with fail
  exact bodyPost_end (v:=.tuple #[]) (results_none rfl _ _ _) rfl ⟨rfl,H.out,Stp.refl _ _ _⟩
 ·have c3:W.cell? ⟨r,3,none⟩=some (.int .i64 0):=h.box.cell 3
  have f3:=h.box.free 3
  clear h
  go_enter Tryz.func69,Tryz.ntmps69
  go_wp2_with fail
  exact bodyPost_end (v:=.tuple #[]) (results_none rfl _ _ _) rfl ⟨rfl,H.out.fails,(Stp.refl _ _ _).set 3 _⟩
theorem run_wants (b:Bytes) (st:RSt):run (wants b) st=if seesR b st then nextR b st else failR st:=by
 rcases st with e | ⟨ts,ns⟩
 ·rfl
 ·show stOf (wants b ts ns)=if (sees b ts).isSome then (Except.ok ((sees b ts).getD ts,ns):RSt) else Except.error (ts.length,false)
  unfold wants
  cases sees b ts<;>rfl
theorem wants_r (b:Bytes) (h:RF base r tv T deep st nv W) :
 Calls Tryz.prog 79 #[RP r,.string (BA b)] W fun e W'=>e=.returned (.tuple #[])∧RF base r tv T deep (run (wants b) st) nv W'∧Mv r W W':=by
 have hi:=sees_r b h
 rw [run_wants]
 cases hs:seesR b st with
 | true =>
   rw [hs] at hi
   have HI:=Lib.hid hi
   clear h hs hi
   rw [if_pos rfl]
   go_enter Tryz.func79,Tryz.ntmps79
   go_wp2_with fail
   refine HI.out.mono ?_
   rintro e w1 ⟨rfl,h1,s1⟩
   have H1:=Lib.hid (And.intro h1 s1)
   clear h1 s1
   go_wp2_with fail
   exact bodyPost_end (v:=.tuple #[]) (results_none rfl _ _ _) rfl ⟨rfl,H1.out⟩
 | false =>
   rw [hs,seesR_no hs] at hi
   have HI:=Lib.hid hi
   clear h hs hi
   rw [if_neg (by decide)]
   go_enter Tryz.func79,Tryz.ntmps79
   go_wp2_with fail
   refine HI.out.mono ?_
   rintro e w1 ⟨rfl,h1,s1⟩
   have H1:=Lib.hid (And.intro h1 s1)
   clear h1 s1
   go_wp2_with fail
   refine (fail_r H1.out.1).mono ?_
   rintro e w2 ⟨rfl,h2,s2⟩
   have H2:=Lib.hid (And.intro h2 (Stp.trans H1.out.2 s2))
   clear h2 s2
   go_wp2_with fail
   exact bodyPost_end (v:=.tuple #[]) (results_none rfl _ _ _) rfl ⟨rfl,H2.out⟩
end
end Go.Proofs.YtnaehhpikhlppaaGreatDoor
