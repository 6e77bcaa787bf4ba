/- Several texts of the proof, joined. -/
import Derived.Test.YtnaehhpikhlppaaGreatDoorE35
set_option maxHeartbeats 4000000
set_option maxRecDepth 100000
set_option linter.unusedVariables false
set_option linter.unusedSimpArgs false
namespace Go.Proofs.YtnaehhpikhlppaaGreatDoor
open Go.RowKit LexS ParS BigFrame
attribute [local go_sem] field_tok1 field_tok2
attribute [local go_sem] World.cell?_alloc_some cell_drewN_new free_drewN_new cell_drew_new free_drew_new
def deeperR (deep:Nat):RSt→RSt
 | .error e=>.error e
 | .ok (ts,ns)=>if deep<16 then .ok (ts,ns) else .error (ts.length+1,true)
section
variable {base r deep d2:Nat} {tv nv nv':Value} {T:List Tok} {st st2:RSt} {ts ts1:List Tk} {ns:List Nd} {W W' Wk w1 w2:World}
theorem RF.again (h:RF base r tv T deep st nv W) (m:Mv r W W') (hb:Blk W' r 81 #[tv,.int .i64 ((T.length-leftR st2:Nat):Int),nv,.int .i64 (codeR st2:Int),.int .i64 (d2:Int)])
 (hl:leftR st2≤T.length) (hs:∀ ts ns,st2=.ok (ts,ns)→ts=(T.map tk).drop (T.length-ts.length)) (hn:∀ ts ns,st2=.ok (ts,ns)→∃ ts',st=.ok (ts',ns)):RF base r tv T d2 st2 nv W':=by
 have s:=m.stp nv
 obtain ⟨ns,⟨ms,h1,h2,h3⟩,h5,h4⟩:=h.nodes
 exact ⟨hb,h.le,h.row s h.toks (by decide) (by decide),hl,hs,h.few,ns,⟨ms,h1,row_mv h2 m h.r_ne,fun x hx=>h.mok (h3 x hx) s⟩,h5,fun ts ns' e=>by
  obtain ⟨ts',e'⟩:=hn ts ns' e
  exact h4 ts' ns' e'⟩
theorem RF.depth (h:RF base r tv T deep st nv W) {a:Int} (ha:a=(d2:Int)):RF base r tv T d2 st nv (W.setCell ⟨r,4,none⟩ (.int .i64 a)) :=
 h.put 4 _ (by rw [ha];simp) h.left h.suf (fun ts ns e=>⟨ts,e⟩)
theorem RF.toolong (h:RF base r tv T deep (.ok (ts,ns)) nv W) (hl:ts.length<T.length) {a:Int} (ha:a=((T.length-ts.length:Nat):Int)-1) :
 RF base r tv T deep (.error (ts.length+1,true)) nv ((W.setCell ⟨r,3,none⟩ (.int .i64 2)).setCell ⟨r,1,none⟩ (.int .i64 a)):=by
 have m:Mv r W ((W.setCell ⟨r,3,none⟩ (.int .i64 2)).setCell ⟨r,1,none⟩ (.int .i64 a)):=((Stp.refl _ _ _).set 3 _).set 1 _
 refine h.again m ?_ (show ts.length+1≤T.length by omega) (fun ts ns e=>by cases e) (fun ts ns e=>by cases e)
 have hb:=(h.box.put 3 (.int .i64 2)).put 1 (.int .i64 a)
 have e:a=((T.length-(ts.length+1):Nat):Int):=by rw [ha];omega
 subst e
 simpa [leftR,codeR,codeOf] using hb
theorem deeper_r (h:RF base r tv T deep st nv W) (hd:deep≤100) (hl:∀ ts ns,st=.ok (ts,ns)→ts.length<T.length) :
 Calls Tryz.prog 124 #[RP r] W fun e W'=>e=.returned (.tuple #[])∧RF base r tv T (deep+1) (deeperR deep st) nv W'∧Mv r W W':=by
 have H:=Lib.hid h
 have HL:=Lib.hid hl
 have hfew:=h.few
 have c4:W.cell? ⟨r,4,none⟩=some (.int .i64 (deep:Int)):=h.box.cell 4
 have f4:=h.box.free 4
 have f3:=h.box.free 3
 have f1:=h.box.free 1
 rcases st with ⟨k,long⟩ | ⟨ts,ns⟩
 ·have c3:W.cell? ⟨r,3,none⟩=some (.int .i64 (codeOf long:Int)):=h.box.cell 3
  have hc:=codeOf_ne long
  obtain ⟨c,hcc⟩:∃ c,c=codeOf long:=⟨_,rfl⟩
  rw [← hcc] at c3 hc
  have q1:((c:Int) == 0)=false:=by rw [beq_eq_false_iff_ne];omega
  have q2:¬ (c:Int)=0:=by omega
  clear h hc hcc hl
  go_enter Tryz.func124,Tryz.ntmps124
  go_wp2_with fail
  exact bodyPost_end (v:=.tuple #[]) (results_none rfl _ _ _) rfl ⟨rfl,H.out.depth (by omega),(Stp.refl _ _ _).set 4 _⟩
 ·have c3:W.cell? ⟨r,3,none⟩=some (.int .i64 0):=h.box.cell 3
  by_cases hlt:deep<16
  ·have q1:decide ((16:Int)≤(deep:Int))=false:=decide_eq_false (by omega)
   have q2:¬ (16:Int)≤(deep:Int):=by omega
   have q3:decide (16≤deep)=false:=decide_eq_false (by omega)
   have e1:deeperR deep (.ok (ts,ns))=.ok (ts,ns):=if_pos hlt
   rw [e1]
   clear h hl hlt e1
   go_enter Tryz.func124,Tryz.ntmps124
   go_wp2_with fail
   exact bodyPost_end (v:=.tuple #[]) (results_none rfl _ _ _) rfl ⟨rfl,H.out.depth (by omega),(Stp.refl _ _ _).set 4 _⟩
  ·have q1:decide ((16:Int)≤(deep:Int))=true:=decide_eq_true (by omega)
   have q2:(16:Int)≤(deep:Int):=by omega
   have q3:decide (16≤deep)=true:=decide_eq_true (by omega)
   have e1:deeperR deep (.ok (ts,ns))=.error (ts.length+1,true):=if_neg hlt
   rw [e1]
   obtain ⟨i,hi⟩:∃ i,i=T.length-ts.length:=⟨_,rfl⟩
   have c1:W.cell? ⟨r,1,none⟩=some (.int .i64 (i:Int)):=by rw [hi];exact h.box.cell 1
   have hi2:(i:Int)≤1024:=by omega
   have hi3:(0:Int)≤(i:Int)-1:=by have:=hl _ _ rfl;omega
   have v1:IntKind.i64.wrap ((i:Int)-1)=(i:Int)-1:=IntWalk.i64_in _ (by omega)
   have HF:=Lib.hid (h.toolong (hl _ _ rfl) (a:=(i:Int)-1) (by rw [hi]))
   clear h hl hlt e1 hi
   go_enter Tryz.func124,Tryz.ntmps124
   go_wp2_with fail
   exact bodyPost_end (v:=.tuple #[]) (results_none rfl _ _ _) rfl ⟨rfl,HF.out.depth (by omega),(((Stp.refl _ _ _).set 3 _).set 1 _).set 4 _⟩
end
end Go.Proofs.YtnaehhpikhlppaaGreatDoor

namespace Go.Proofs.YtnaehhpikhlppaaGreatDoor
open Go.RowKit LexS ParS BigFrame
attribute [local go_sem] field_tok1 field_tok2
attribute [local go_sem] World.cell?_alloc_some cell_drewN_new free_drewN_new cell_drew_new free_drew_new
def kw_true:Bytes:=[116,114,117,101]
def kw_false:Bytes:=[102,97,108,115,101]
theorem isW_eq {w:Bytes} {t:Tk} (h:isW w t=true):t.s=w:=by
 unfold isW at h
 simp at h
 exact h.2
theorem val_true {t:Tk} {ts1:List Tk} {ns:List Nd} (h:isW kw_true t=true):value (t::ts1) ns=.ok (⟨3,1,[]⟩,ts1,ns):=by
 have e:=isW_eq h
 have h2:isW kw_false t=false:=by
  unfold isW
  rw [e]
  simp [kw_true,kw_false]
 have e1:sees kw_false (t::ts1)=none:=by rw [sees_cons,h2];rfl
 have e2:sees kw_true (t::ts1)=some ts1:=by rw [sees_cons,h];rfl
 have hc:choice kw_bools 1 (t::ts1)=(2,ts1):=by
  show (match sees kw_false (t::ts1) with | some x=>(1,x) | none=>match sees kw_true (t::ts1) with | some x=>(2,x) | none=>(0,t::ts1))=_
  rw [e1,e2]
 rw [value_eq,hc]
 rfl
theorem val_false {t:Tk} {ts1:List Tk} {ns:List Nd} (h:isW kw_false t=true):value (t::ts1) ns=.ok (⟨3,0,[]⟩,ts1,ns):=by
 have e1:sees kw_false (t::ts1)=some ts1:=by rw [sees_cons,h];rfl
 have hc:choice kw_bools 1 (t::ts1)=(1,ts1):=by
  show (match sees kw_false (t::ts1) with | some x=>(1,x) | none=>match sees kw_true (t::ts1) with | some x=>(2,x) | none=>(0,t::ts1))=_
  rw [e1]
 rw [value_eq,hc]
 rfl
theorem val_rest {ts:List Tk} {ns:List Nd} (h1:isS kw_true ts=false) (h2:isS kw_false ts=false):value ts ns=valueT ts ns:=by
 have e1:sees kw_false ts=none:=by
  unfold isS at h2
  cases h:sees kw_false ts with
  | none=>rfl
  | some x=>rw [h] at h2;cases h2
 have e2:sees kw_true ts=none:=by
  unfold isS at h1
  cases h:sees kw_true ts with
  | none=>rfl
  | some x=>rw [h] at h1;cases h1
 have hc:choice kw_bools 1 ts=(0,ts):=by
  show (match sees kw_false ts with | some x=>(1,x) | none=>match sees kw_true ts with | some x=>(2,x) | none=>(0,ts))=_
  rw [e1,e2]
 rw [value_eq,hc]
 rfl
def ValP (base r:Nat) (tv:Value) (T:List Tok) (deep:Nat) (st:RSt) (nv:Value) (W:World) (e:Ending) (W':World):Prop :=
 ∃ v:Val,e=.returned (.agg (valA v))∧(∀ v' ts ns,goP value st=.ok (v',ts,ns)→v'=v)∧RF base r tv T deep (run value st) nv W'∧Mv r W W'
section
variable {base r deep d2:Nat} {tv nv nv':Value} {T:List Tok} {st st2:RSt} {ts ts1:List Tk} {ns:List Nd} {W W' Wk w1 w2:World}
theorem value_r2 (h1:seesR kw_true st=false) (h2:seesR kw_false st=false) (hk:∀ t ts1 ns,st=.ok (t::ts1,ns)→t.kind=2) (hne:∀ ns,st≠.ok ([],ns)):run value st=run (take 2) st∧∀ v' ts ns,goP value st=.ok (v',ts,ns)→v'=⟨1,(tokR 2 st).n,[]⟩:=by
 rcases st with e | ⟨ts,ns⟩
 ·exact ⟨rfl,fun v' ts ns e=>by cases e⟩
 ·have hv:value ts ns=valueT ts ns:=val_rest h1 h2
  cases ts with
  | nil=>exact absurd rfl (hne ns)
  | cons t ts1 =>
    have hk2:=hk t ts1 ns rfl
    have e1:valueT (t::ts1) ns=.ok (⟨1,t.n,[]⟩,ts1,ns):=if_pos hk2
    have e2:take 2 (t::ts1) ns=.ok (t,ts1,ns):=if_pos hk2
    unfold run tokR goP
    dsimp only
    rw [hv,e1,e2]
    exact ⟨rfl,fun v' ts ns e=>by cases e;rfl⟩
theorem value_r3 (h1:seesR kw_true st=false) (h2:seesR kw_false st=false) (hk:∀ t ts1 ns,st=.ok (t::ts1,ns)→t.kind≠2):run value st=run (take 3) st∧∀ v' ts ns,goP value st=.ok (v',ts,ns)→v'=⟨2,0,(tokR 3 st).s⟩:=by
 rcases st with e | ⟨ts,ns⟩
 ·exact ⟨rfl,fun v' ts ns e=>by cases e⟩
 ·have hv:value ts ns=valueT ts ns:=val_rest h1 h2
  unfold run tokR goP
  dsimp only
  rw [hv]
  cases ts with
  | nil=>exact ⟨rfl,fun v' ts ns e=>by cases e⟩
  | cons t ts1 =>
    have hk2:=hk t ts1 ns rfl
    have e1:valueT (t::ts1) ns=if t.kind=3 then .ok (⟨2,0,t.s⟩,ts1,ns) else .error (ts1.length+1,false):=if_neg hk2
    have e2:take 3 (t::ts1) ns=if t.kind=3 then .ok (t,ts1,ns) else .error (ts1.length+1,false):=rfl
    rw [e1,e2]
    by_cases h3:t.kind=3
    ·rw [if_pos h3,if_pos h3]
     exact ⟨rfl,fun v' ts ns e=>by cases e;rfl⟩
    ·rw [if_neg h3,if_neg h3]
     exact ⟨rfl,fun v' ts ns e=>by cases e⟩
theorem run_take_left {k:Nat} (e:run (take k) st=.ok (ts,ns)):∃ ts',st=.ok (ts',ns):=by
 rcases st with er | ⟨ts2,ns2⟩
 ·cases e
 ·cases ts2 with
  | nil=>cases e
  | cons t ts1 =>
    have e2:take k (t::ts1) ns2=if t.kind=k then .ok (t,ts1,ns2) else .error (ts1.length+1,false):=rfl
    unfold run goP at e
    dsimp only at e
    rw [e2] at e
    by_cases h3:t.kind=k
    ·rw [if_pos h3] at e
     cases e
     exact ⟨_,rfl⟩
    ·rw [if_neg h3] at e
     cases e
theorem val_retR {v:Val} (h:RF base r tv T deep st nv W) (h1:RF base r tv T deep st2 nv w1) (m:Mv r W w1) (x:Blk w1 W.heap.size 37 zeroVal) (nr:r≠W.heap.size) (hn:∀ ts ns,st2=.ok (ts,ns)→∃ ts',st=.ok (ts',ns)) :
 Blk (putVal w1 W.heap.size v) W.heap.size 37 (valA v)∧RF base r tv T deep st2 nv (putVal w1 W.heap.size v)∧Mv r W (putVal w1 W.heap.size v) :=
 ⟨putVal_blk x,h.again (putVal_mv m (Nat.le_refl _)) (putVal_far h1.box nr) h1.left h1.suf hn,putVal_mv m (Nat.le_refl _)⟩
theorem value_r (h:RF base r tv T deep st nv W):Calls Tryz.prog 150 #[RP r] W (ValP base r tv T deep st nv W):=by
 obtain ⟨W1,hW1⟩:∃ W1,W1=W.alloc (.cells zeroVal 37):=⟨_,rfl⟩
 have hb1:Below W.heap.size W W1:=by rw [hW1];exact (Below.refl _ _).alloc (Nat.le_refl _) _
 have hx:Blk W1 W.heap.size 37 zeroVal:=by rw [hW1];exact Blk.new W _ _
 have HW:=Lib.hid hW1
 have HX:=Lib.hid hx
 have HB:=Lib.hid hb1
 have nr:r≠W.heap.size:=Nat.ne_of_lt h.box.lt
 have HR:=Lib.hid h
 have HS1:=Lib.hid (sees_r kw_true (h.kept hb1))
 have hfew:=h.few
 clear h hb1 hx hW1
 cases hs1:seesR kw_true st with
 | true =>
   obtain ⟨t,ts1,ns,rfl,hn,hsee⟩:=seesR_ok hs1
   have hi:=HS1.out
   rw [hs1,hn] at hi
   have HV:=Lib.hid (val_true (ts1:=ts1) (ns:=ns) (show isW kw_true t=true by rw [← isS_cons kw_true t ts1];exact hs1))
   have HI:=Lib.hid hi
   clear hs1 hn hsee hi HS1
   go_enter Tryz.func150,Tryz.ntmps150
   go_wp2_with fail
   rw [show W.alloc (.cells zeroVal 37)=W1 from HW.out.symm]
   refine HI.out.mono ?_
   rintro e w4 ⟨rfl,h4,m4⟩
   have X4:=Lib.hid (m4.blk HX.out nr.symm)
   have M4:=Lib.hid ((Stp.of (r:=r) (nv:=.slice none 0 0) HB.out).trans m4)
   have H4:=Lib.hid h4
   clear h4 m4
   have e0:w4.cell? ⟨W.heap.size,0,none⟩=some (.int .i64 0):=X4.out.cell 0
   have e1:w4.cell? ⟨W.heap.size,1,none⟩=some (.int .i64 0):=X4.out.cell 1
   have e2:w4.cell? ⟨W.heap.size,2,none⟩=some (.string ⟨#[]⟩):=X4.out.cell 2
   have e3:w4.cell? ⟨W.heap.size,3,none⟩=some (.int .i64 0):=X4.out.cell 3
   have e4:w4.cell? ⟨W.heap.size,4,none⟩=some (.int .i64 0):=X4.out.cell 4
   have e5:w4.cell? ⟨W.heap.size,5,none⟩=some (.int .i64 0):=X4.out.cell 5
   have e6:w4.cell? ⟨W.heap.size,6,none⟩=some (.int .i64 0):=X4.out.cell 6
   have e7:w4.cell? ⟨W.heap.size,7,none⟩=some (.int .i64 0):=X4.out.cell 7
   have e8:w4.cell? ⟨W.heap.size,8,none⟩=some (.int .i64 0):=X4.out.cell 8
   have e9:w4.cell? ⟨W.heap.size,9,none⟩=some (.int .i64 0):=X4.out.cell 9
   have e10:w4.cell? ⟨W.heap.size,10,none⟩=some (.int .i64 0):=X4.out.cell 10
   have f0:=X4.out.free 0
   have f1:=X4.out.free 1
   have f2:=X4.out.free 2
   have f3:=X4.out.free 3
   have f4:=X4.out.free 4
   have f5:=X4.out.free 5
   have f6:=X4.out.free 6
   have f7:=X4.out.free 7
   have f8:=X4.out.free 8
   have f9:=X4.out.free 9
   have f10:=X4.out.free 10
   go_wp2_with fail
   have H5:=val_retR (v:=⟨3,1,[]⟩) HR.out H4.out M4.out X4.out nr (fun ts ns e=>by cases e;exact ⟨_,rfl⟩)
   exact bodyPost_ret (valA_read Tryz.results150 rfl _ H5.1) rfl ⟨_,rfl,(fun v' ts' ns' e=>by
    have e2:value (t::ts1) ns=.ok (v',ts',ns'):=e
    rw [HV.out] at e2
    cases e2
    rfl),(by show RF base r tv T deep (stOf (value (t::ts1) ns)) nv _;rw [HV.out];exact H5.2.1),H5.2.2⟩
 | false =>
   have hi:=HS1.out
   rw [hs1,seesR_no hs1] at hi
   have HI:=Lib.hid hi
   have HNT:=Lib.hid hs1
   clear hs1 hi HS1
   go_enter Tryz.func150,Tryz.ntmps150
   go_wp2_with fail
   rw [show W.alloc (.cells zeroVal 37)=W1 from HW.out.symm]
   refine HI.out.mono ?_
   rintro e w2 ⟨rfl,h2,m2⟩
   have X2:=Lib.hid (m2.blk HX.out nr.symm)
   have M2:=Lib.hid ((Stp.of (r:=r) (nv:=.slice none 0 0) HB.out).trans m2)
   have HS2:=Lib.hid (sees_r kw_false h2)
   clear h2 m2 HI
   cases hs2:seesR kw_false st with
   | true =>
     obtain ⟨t,ts1,ns,rfl,hn,hsee⟩:=seesR_ok hs2
     have hi:=HS2.out
     rw [hs2,hn] at hi
     have HV:=Lib.hid (val_false (ts1:=ts1) (ns:=ns) (show isW kw_false t=true by rw [← isS_cons kw_false t ts1];exact hs2))
     have HI:=Lib.hid hi
     clear hs2 hn hsee hi HS2
     go_wp2_with fail
     refine HI.out.mono ?_
     rintro e w4 ⟨rfl,h4,m4⟩
     have X4:=Lib.hid (m4.blk X2.out nr.symm)
     have M4:=Lib.hid (M2.out.trans m4)
     have H4:=Lib.hid h4
     clear h4 m4
     have e0:w4.cell? ⟨W.heap.size,0,none⟩=some (.int .i64 0):=X4.out.cell 0
     have e1:w4.cell? ⟨W.heap.size,1,none⟩=some (.int .i64 0):=X4.out.cell 1
     have e2:w4.cell? ⟨W.heap.size,2,none⟩=some (.string ⟨#[]⟩):=X4.out.cell 2
     have e3:w4.cell? ⟨W.heap.size,3,none⟩=some (.int .i64 0):=X4.out.cell 3
     have e4:w4.cell? ⟨W.heap.size,4,none⟩=some (.int .i64 0):=X4.out.cell 4
     have e5:w4.cell? ⟨W.heap.size,5,none⟩=some (.int .i64 0):=X4.out.cell 5
     have e6:w4.cell? ⟨W.heap.size,6,none⟩=some (.int .i64 0):=X4.out.cell 6
     have e7:w4.cell? ⟨W.heap.size,7,none⟩=some (.int .i64 0):=X4.out.cell 7
     have e8:w4.cell? ⟨W.heap.size,8,none⟩=some (.int .i64 0):=X4.out.cell 8
     have e9:w4.cell? ⟨W.heap.size,9,none⟩=some (.int .i64 0):=X4.out.cell 9
     have e10:w4.cell? ⟨W.heap.size,10,none⟩=some (.int .i64 0):=X4.out.cell 10
     have f0:=X4.out.free 0
     have f1:=X4.out.free 1
     have f2:=X4.out.free 2
     have f3:=X4.out.free 3
     have f4:=X4.out.free 4
     have f5:=X4.out.free 5
     have f6:=X4.out.free 6
     have f7:=X4.out.free 7
     have f8:=X4.out.free 8
     have f9:=X4.out.free 9
     have f10:=X4.out.free 10
     go_wp2_with fail
     have H5:=val_retR (v:=⟨3,0,[]⟩) HR.out H4.out M4.out X4.out nr (fun ts ns e=>by cases e;exact ⟨_,rfl⟩)
     exact bodyPost_ret (valA_read Tryz.results150 rfl _ H5.1) rfl ⟨_,rfl,(fun v' ts' ns' e=>by
      have e2:value (t::ts1) ns=.ok (v',ts',ns'):=e
      rw [HV.out] at e2
      cases e2
      rfl),(by show RF base r tv T deep (stOf (value (t::ts1) ns)) nv _;rw [HV.out];exact H5.2.1),H5.2.2⟩
   | false =>
     have hi:=HS2.out
     rw [hs2,seesR_no hs2] at hi
     have HI:=Lib.hid hi
     have HNF:=Lib.hid hs2
     clear hs2 hi HS2
     go_wp2_with fail
     refine HI.out.mono ?_
     rintro e w3 ⟨rfl,h3,m3⟩
     have X3:=Lib.hid (m3.blk X2.out nr.symm)
     have M3:=Lib.hid (M2.out.trans m3)
     obtain ⟨p,cap,rfl,hcap,hmax,hrow⟩:=row_any h3.toks
     obtain ⟨i,hi⟩:∃ i,i=T.length-leftR st:=⟨_,rfl⟩
     have c0:w3.cell? ⟨r,0,none⟩=some (.slice p T.length cap):=h3.box.cell 0
     have c1:w3.cell? ⟨r,1,none⟩=some (.int .i64 (i:Int)):=by rw [hi];exact h3.box.cell 1
     have HQ:=Lib.hid (fun n=>h3.kept (below_drewN (Below.refl w3.heap.size w3) n))
     have MQ:=Lib.hid (fun n=>(M3.out).trans (Stp.of (r:=r) (nv:=.slice none 0 0) (below_drewN (Below.refl w3.heap.size w3) n)))
     have XQ:=Lib.hid (fun n=>(X3.out.drewN n))
     have hleft:=h3.left
     have hsuf:=h3.suf
     have q4:(0:Int)≤(i:Int):=by omega
     by_cases hlt:i<T.length
     case neg =>
      have q1:¬ ((i:Int)<(T.length:Int)):=by omega
      have q2:decide ((i:Int)<(T.length:Int))=false:=decide_eq_false q1
      have q3:decide (i<T.length)=false:=decide_eq_false hlt
      have HV:=Lib.hid (value_r3 HNT.out HNF.out (fun t ts1 ns e=>by
       subst e
       exfalso
       simp only [leftR,List.length_cons] at hi hleft
       omega))
      have HN:=Lib.hid (fun n=>kind_r 3 (HQ.out n))
      clear h3 m3 hrow hleft hsuf hi hlt
      go_wp2_with fail
      go_big_quiet (fail)
      go_wp2_with fail
      refine (HN.out _).mono ?_
      rintro e w4 ⟨tok,rfl,⟨ta,rfl⟩,h4,m4⟩
      have X4:=Lib.hid (m4.blk (XQ.out nq) nr.symm)
      have M4:=Lib.hid ((MQ.out nq).trans m4)
      have H4:=Lib.hid h4
      obtain ⟨tt,htt⟩:∃ tt,tt=tokR 3 st:=⟨_,rfl⟩
      have HTT:=Lib.hid htt
      rw [← htt]
      clear h4 m4 htt
      have e0:w4.cell? ⟨W.heap.size,0,none⟩=some (.int .i64 0):=X4.out.cell 0
      have e1:w4.cell? ⟨W.heap.size,1,none⟩=some (.int .i64 0):=X4.out.cell 1
      have e2:w4.cell? ⟨W.heap.size,2,none⟩=some (.string ⟨#[]⟩):=X4.out.cell 2
      have e3:w4.cell? ⟨W.heap.size,3,none⟩=some (.int .i64 0):=X4.out.cell 3
      have e4:w4.cell? ⟨W.heap.size,4,none⟩=some (.int .i64 0):=X4.out.cell 4
      have e5:w4.cell? ⟨W.heap.size,5,none⟩=some (.int .i64 0):=X4.out.cell 5
      have e6:w4.cell? ⟨W.heap.size,6,none⟩=some (.int .i64 0):=X4.out.cell 6
      have e7:w4.cell? ⟨W.heap.size,7,none⟩=some (.int .i64 0):=X4.out.cell 7
      have e8:w4.cell? ⟨W.heap.size,8,none⟩=some (.int .i64 0):=X4.out.cell 8
      have e9:w4.cell? ⟨W.heap.size,9,none⟩=some (.int .i64 0):=X4.out.cell 9
      have e10:w4.cell? ⟨W.heap.size,10,none⟩=some (.int .i64 0):=X4.out.cell 10
      have f0:=X4.out.free 0
      have f1:=X4.out.free 1
      have f2:=X4.out.free 2
      have f3:=X4.out.free 3
      have f4:=X4.out.free 4
      have f5:=X4.out.free 5
      have f6:=X4.out.free 6
      have f7:=X4.out.free 7
      have f8:=X4.out.free 8
      have f9:=X4.out.free 9
      have f10:=X4.out.free 10
      go_wp2_with fail
      have H5:=val_retR (v:=⟨2,0,tt.s⟩) HR.out H4.out M4.out X4.out nr (fun ts ns e=>run_take_left e)
      exact bodyPost_ret (valA_read Tryz.results150 rfl _ H5.1) rfl ⟨_,rfl,by rw [HTT.out];exact HV.out.2,by rw [HV.out.1];exact H5.2.1,H5.2.2⟩
     case pos =>
      obtain ⟨u,hu⟩:∃ u,T[i]?=some u:=⟨T[i],List.getElem?_eq_getElem hlt⟩
      obtain ⟨g,rfl,_,hg,hcells⟩:=hrow (by rintro rfl;simp at hlt)
      obtain ⟨d0,_,_,_⟩:=hcells i u hu
      have q1:((i:Int)<(T.length:Int)):=by omega
      have q2:decide ((i:Int)<(T.length:Int))=true:=decide_eq_true q1
      have q3:decide (i<T.length)=true:=decide_eq_true hlt
      have hku:∀ t ts1 ns,st=.ok (t::ts1,ns)→t.kind=u.kind:=fun t ts1 ns e=>by
       subst e
       obtain ⟨u',hu',hut,_⟩:=tok_at (hsuf _ _ rfl) hleft rfl
       have:T[i]?=some u':=by rw [hi];exact hu'
       rw [hu] at this
       injection this with this
       rw [this,← hut]
       rfl
      obtain ⟨kd,hkd⟩:∃ kd,kd=u.kind:=⟨_,rfl⟩
      rw [← hkd] at d0 hku
      by_cases hk:kd=2
      ·subst hk
       have q6:(((2:Nat):Int) == 2)=true:=by decide
       have HV:=Lib.hid (value_r2 HNT.out HNF.out hku (fun ns e=>by
        subst e
        have:T.length-0=i:=hi.symm
        omega))
       have HN:=Lib.hid (fun n=>kind_r 2 (HQ.out n))
       clear h3 m3 hrow hleft hsuf hi hlt hcells hku hkd hu
       go_wp2_with fail
       go_big_quiet (fail)
       go_wp2_with fail
       refine (HN.out _).mono ?_
       rintro e w4 ⟨tok,rfl,⟨ta,rfl⟩,h4,m4⟩
       have X4:=Lib.hid (m4.blk (XQ.out nq) nr.symm)
       have M4:=Lib.hid ((MQ.out nq).trans m4)
       have H4:=Lib.hid h4
       obtain ⟨tt,htt⟩:∃ tt,tt=tokR 2 st:=⟨_,rfl⟩
       have HTT:=Lib.hid htt
       rw [← htt]
       clear h4 m4 htt
       have e0:w4.cell? ⟨W.heap.size,0,none⟩=some (.int .i64 0):=X4.out.cell 0
       have e1:w4.cell? ⟨W.heap.size,1,none⟩=some (.int .i64 0):=X4.out.cell 1
       have e2:w4.cell? ⟨W.heap.size,2,none⟩=some (.string ⟨#[]⟩):=X4.out.cell 2
       have e3:w4.cell? ⟨W.heap.size,3,none⟩=some (.int .i64 0):=X4.out.cell 3
       have e4:w4.cell? ⟨W.heap.size,4,none⟩=some (.int .i64 0):=X4.out.cell 4
       have e5:w4.cell? ⟨W.heap.size,5,none⟩=some (.int .i64 0):=X4.out.cell 5
       have e6:w4.cell? ⟨W.heap.size,6,none⟩=some (.int .i64 0):=X4.out.cell 6
       have e7:w4.cell? ⟨W.heap.size,7,none⟩=some (.int .i64 0):=X4.out.cell 7
       have e8:w4.cell? ⟨W.heap.size,8,none⟩=some (.int .i64 0):=X4.out.cell 8
       have e9:w4.cell? ⟨W.heap.size,9,none⟩=some (.int .i64 0):=X4.out.cell 9
       have e10:w4.cell? ⟨W.heap.size,10,none⟩=some (.int .i64 0):=X4.out.cell 10
       have f0:=X4.out.free 0
       have f1:=X4.out.free 1
       have f2:=X4.out.free 2
       have f3:=X4.out.free 3
       have f4:=X4.out.free 4
       have f5:=X4.out.free 5
       have f6:=X4.out.free 6
       have f7:=X4.out.free 7
       have f8:=X4.out.free 8
       have f9:=X4.out.free 9
       have f10:=X4.out.free 10
       go_wp2_with fail
       have H5:=val_retR (v:=⟨1,tt.n,[]⟩) HR.out H4.out M4.out X4.out nr (fun ts ns e=>run_take_left e)
       exact bodyPost_ret (valA_read Tryz.results150 rfl _ H5.1) rfl ⟨_,rfl,by rw [HTT.out];exact HV.out.2,by rw [HV.out.1];exact H5.2.1,H5.2.2⟩
      ·have q6:((kd:Int) == 2)=false:=by rw [beq_eq_false_iff_ne];omega
       have q7:¬ (kd:Int)=2:=by omega
       have HV:=Lib.hid (value_r3 HNT.out HNF.out (fun t ts1 ns e=>by rw [hku t ts1 ns e];exact hk))
       have HN:=Lib.hid (fun n=>kind_r 3 (HQ.out n))
       clear h3 m3 hrow hleft hsuf hi hlt hcells hku hkd hu hk
       go_wp2_with fail
       go_big_quiet (fail)
       go_wp2_with fail
       refine (HN.out _).mono ?_
       rintro e w4 ⟨tok,rfl,⟨ta,rfl⟩,h4,m4⟩
       have X4:=Lib.hid (m4.blk (XQ.out nq) nr.symm)
       have M4:=Lib.hid ((MQ.out nq).trans m4)
       have H4:=Lib.hid h4
       obtain ⟨tt,htt⟩:∃ tt,tt=tokR 3 st:=⟨_,rfl⟩
       have HTT:=Lib.hid htt
       rw [← htt]
       clear h4 m4 htt
       have e0:w4.cell? ⟨W.heap.size,0,none⟩=some (.int .i64 0):=X4.out.cell 0
       have e1:w4.cell? ⟨W.heap.size,1,none⟩=some (.int .i64 0):=X4.out.cell 1
       have e2:w4.cell? ⟨W.heap.size,2,none⟩=some (.string ⟨#[]⟩):=X4.out.cell 2
       have e3:w4.cell? ⟨W.heap.size,3,none⟩=some (.int .i64 0):=X4.out.cell 3
       have e4:w4.cell? ⟨W.heap.size,4,none⟩=some (.int .i64 0):=X4.out.cell 4
       have e5:w4.cell? ⟨W.heap.size,5,none⟩=some (.int .i64 0):=X4.out.cell 5
       have e6:w4.cell? ⟨W.heap.size,6,none⟩=some (.int .i64 0):=X4.out.cell 6
       have e7:w4.cell? ⟨W.heap.size,7,none⟩=some (.int .i64 0):=X4.out.cell 7
       have e8:w4.cell? ⟨W.heap.size,8,none⟩=some (.int .i64 0):=X4.out.cell 8
       have e9:w4.cell? ⟨W.heap.size,9,none⟩=some (.int .i64 0):=X4.out.cell 9
       have e10:w4.cell? ⟨W.heap.size,10,none⟩=some (.int .i64 0):=X4.out.cell 10
       have f0:=X4.out.free 0
       have f1:=X4.out.free 1
       have f2:=X4.out.free 2
       have f3:=X4.out.free 3
       have f4:=X4.out.free 4
       have f5:=X4.out.free 5
       have f6:=X4.out.free 6
       have f7:=X4.out.free 7
       have f8:=X4.out.free 8
       have f9:=X4.out.free 9
       have f10:=X4.out.free 10
       go_wp2_with fail
       have H5:=val_retR (v:=⟨2,0,tt.s⟩) HR.out H4.out M4.out X4.out nr (fun ts ns e=>run_take_left e)
       exact bodyPost_ret (valA_read Tryz.results150 rfl _ H5.1) rfl ⟨_,rfl,by rw [HTT.out];exact HV.out.2,by rw [HV.out.1];exact H5.2.1,H5.2.2⟩
end
end Go.Proofs.YtnaehhpikhlppaaGreatDoor
