/- Several texts of the proof, joined. -/
import Derived.Test.YtnaehhpikhlppaaGreatDoorE10
import Derived.OrdersHeld
import Derived.Deep.RegionHeld
set_option maxHeartbeats 4000000
set_option maxRecDepth 100000
set_option linter.unusedVariables false
set_option linter.unusedSimpArgs false
namespace Go.Proofs.YtnaehhpikhlppaaGreatDoor
open Go.RowKit LexS ParS BigFrame
theorem field_tok1 (k n a:Int) (s:ByteArray) (W:World):(Instr.field 65 (.agg #[.int .i64 k,.string s,.int .i64 n,.int .i64 a]) 1).run Tryz.prog W=.ok (.string s) W:=by kernel_rfl
theorem field_tok2 (k n a:Int) (s:ByteArray) (W:World):(Instr.field 65 (.agg #[.int .i64 k,.string s,.int .i64 n,.int .i64 a]) 2).run Tryz.prog W=.ok (.int .i64 n) W:=by kernel_rfl
attribute [local go_sem] field_tok1 field_tok2
attribute [local go_sem] World.cell?_alloc_some cell_drewN_new free_drewN_new cell_drew_new free_drew_new
section
variable {base r deep:Nat} {tv nv nv':Value} {T:List Tok} {ts ts1:List Tk} {ns:List Nd} {W W':World}
theorem take_no {k:Nat} (h:RS base r tv T deep ts ns nv W) (hk:∀ t ts1,ts=t::ts1→t.kind≠k) :
 Calls Tryz.prog 141 #[RP r,.int .i64 (k:Int)] W fun e W'=>e=Bad T ts.length false∧Mv r W W':=by
 obtain ⟨p,cap,rfl,hcap,hmax,hrow⟩:=row_any h.toks
 have hfew:=h.few
 obtain ⟨W0,hW0⟩:∃ W0,W0=W.alloc (.cells #[.int .i64 0,.string ⟨#[]⟩,.int .i64 0,.int .i64 0] 65):=⟨_,rfl⟩
 have hb0:Below W.heap.size W W0:=by rw [hW0];exact (Below.refl _ _).alloc (Nat.le_refl _) _
 have H0:=h.kept hb0
 have HF:=Lib.hid (fun n=>H0.kept (below_drewN (Below.refl W0.heap.size W0) n))
 have HB:=Lib.hid (fun n=>(Stp.of (r:=r) (nv:=.slice none 0 0) (hb0.trans ((below_drewN (Below.refl _ W0) n).mono hb0.size))))
 have c0:W0.cell? ⟨r,0,none⟩=some (.slice p T.length cap):=H0.box.cell 0
 obtain ⟨i,hi⟩:∃ i,i=T.length-ts.length:=⟨_,rfl⟩
 have c1:W0.cell? ⟨r,1,none⟩=some (.int .i64 (i:Int)):=by rw [hi];exact H0.box.cell 1
 have HW:=Lib.hid hW0
 cases ts with
 | nil =>
   have hi':i=T.length:=hi
   subst hi'
   have q1:(T.length:Int)≤(T.length:Int):=by omega
   have q2:decide ((T.length:Int)≤(T.length:Int))=true:=decide_eq_true q1
   clear hrow h H0 hb0 hi
   go_enter Tryz.func141,Tryz.ntmps141
   go_wp2_with fail
   rw [show W.alloc (.cells #[.int .i64 0,.string ⟨#[]⟩,.int .i64 0,.int .i64 0] 65)=W0 from HW.out.symm]
   clear hW0
   go_big_quiet (fail)
   go_wp2_with fail
   refine (fail_any (HF.out _)).mono ?_
   rintro e w2 ⟨rfl,rfl⟩
   unfold Bad
   go_wp2_with fail
   exact ⟨rfl,rfl,HB.out _⟩
 | cons t ts1 =>
   obtain ⟨u,hu,hut,hlt⟩:=tok_at h.suf h.short rfl
   rw [← hi] at hu hlt
   obtain ⟨g,rfl,_,hg,hcells⟩:=hrow (by rintro rfl;simp at hlt)
   obtain ⟨d0,d1,d2,d3⟩:=hcells i u hu
   obtain ⟨kd,hkd⟩:∃ kd,kd=u.kind:=⟨_,rfl⟩
   have hkt:kd≠k:=by
    have:=hk t ts1 rfl
    rw [← hut] at this
    intro e
    exact this (by rw [← e,hkd];rfl)
   rw [← hkd] at d0
   have d0:=keepc hb0 d0
   have q1:¬ (T.length:Int)≤(i:Int):=by omega
   have q2:decide ((T.length:Int)≤(i:Int))=false:=decide_eq_false q1
   have q3:decide (T.length≤i)=false:=decide_eq_false (by omega)
   have q4:(0:Int)≤(i:Int):=by omega
   have q5:(i:Int)<(T.length:Int):=by omega
   have q6:((kd:Int) != (k:Int))=true:=by rw [bne_iff_ne];omega
   have q7:(kd != k)=true:=by rw [bne_iff_ne];exact hkt
   clear hcells hrow h hi hu hut hkd hkt H0 hb0 d1 d2 d3 hk
   go_enter Tryz.func141,Tryz.ntmps141
   go_wp2_with fail
   rw [show W.alloc (.cells #[.int .i64 0,.string ⟨#[]⟩,.int .i64 0,.int .i64 0] 65)=W0 from HW.out.symm]
   clear hW0
   go_big_quiet (fail)
   go_wp2_with fail
   refine (fail_any (HF.out _)).mono ?_
   rintro e w2 ⟨rfl,rfl⟩
   unfold Bad
   go_wp2_with fail
   exact ⟨rfl,rfl,HB.out _⟩
theorem word_yes {t:Tk} (h:RS base r tv T deep ts ns nv W) (ht:ts=t::ts1) (hk:t.kind=1) :
 Calls Tryz.prog 103 #[RP r] W fun e W'=>e=.returned (.string (BA t.s))∧RS base r tv T deep ts1 ns nv W'∧Mv r W W':=by
 have hi:=take_yes h ht
 rw [hk] at hi
 have HI:=Lib.hid hi
 clear h ht hi hk
 go_enter Tryz.func103,Tryz.ntmps103
 go_wp2_with fail
 refine HI.out.mono ?_
 rintro e w1 ⟨v,rfl,⟨a,rfl⟩,h1,s1⟩
 have H1:=Lib.hid (And.intro h1 s1)
 clear h1 s1
 go_wp2_with fail
 go_ret
 exact ⟨rfl,H1.out⟩
theorem number_yes {t:Tk} (h:RS base r tv T deep ts ns nv W) (ht:ts=t::ts1) (hk:t.kind=2) :
 Calls Tryz.prog 105 #[RP r] W fun e W'=>e=.returned (.int .i64 t.n)∧RS base r tv T deep ts1 ns nv W'∧Mv r W W':=by
 have hi:=take_yes h ht
 rw [hk] at hi
 have HI:=Lib.hid hi
 clear h ht hi hk
 go_enter Tryz.func105,Tryz.ntmps105
 go_wp2_with fail
 refine HI.out.mono ?_
 rintro e w1 ⟨v,rfl,⟨a,rfl⟩,h1,s1⟩
 have H1:=Lib.hid (And.intro h1 s1)
 clear h1 s1
 go_wp2_with fail
 go_ret
 exact ⟨rfl,H1.out⟩
theorem word_no (h:RS base r tv T deep ts ns nv W) (hk:∀ t ts1,ts=t::ts1→t.kind≠1) :
 Calls Tryz.prog 103 #[RP r] W fun e W'=>e=Bad T ts.length false∧Mv r W W':=by
 have HI:=Lib.hid (take_no h hk)
 clear h hk
 go_enter Tryz.func103,Tryz.ntmps103
 go_wp2_with fail
 refine HI.out.mono ?_
 rintro e w1 ⟨rfl,s1⟩
 unfold Bad
 go_wp2_with fail
 exact ⟨rfl,rfl,s1⟩
theorem number_no (h:RS base r tv T deep ts ns nv W) (hk:∀ t ts1,ts=t::ts1→t.kind≠2) :
 Calls Tryz.prog 105 #[RP r] W fun e W'=>e=Bad T ts.length false∧Mv r W W':=by
 have HI:=Lib.hid (take_no h hk)
 clear h hk
 go_enter Tryz.func105,Tryz.ntmps105
 go_wp2_with fail
 refine HI.out.mono ?_
 rintro e w1 ⟨rfl,s1⟩
 unfold Bad
 go_wp2_with fail
 exact ⟨rfl,rfl,s1⟩
theorem Mv.blk {g:Nat} {t:TypeId} {cs:Array Value} (h:Mv r W W') (hb:Blk W g t cs) (h1:g≠r):Blk W' g t cs:=Stp.blk h hb h1 (fun e=>by cases e)
theorem choice_cons (w:Bytes) (l:List Bytes) (i:Nat) (ts:List Tk):choice (w::l) i ts=match sees w ts with | some ts1=>(i,ts1) | none=>choice l (i+1) ts:=rfl
structure ChK (base r deep:Nat) (tv nv:Value) (T:List Tok) (ts:List Tk) (ns:List Nd) (ws:List Bytes) (gl:Nat) (W:World) (j:Nat) (W':World):Prop where
 le:j≤ws.length
 eq:choice ws 1 ts=choice (ws.drop j) (j+1) ts
 rs:RS base r tv T deep ts ns nv W'
 mv:Mv r W W'
 blk:Blk W' gl 9 (strsL ws).toArray
theorem index_any {ws:List Bytes} {gl:Nat} (h:RS base r tv T deep ts ns nv W) (hg:Blk W gl 9 (strsL ws).toArray) (hl:ws.length≤1000) :
 Calls Tryz.prog 125 #[.slice (some ⟨gl,0,none⟩) ws.length ws.length,.func (.func 104) #[RP r] #[]] W fun e W' =>
  e=.returned (.int .i64 (((choice ws 1 ts).1:Int)-1))∧RS base r tv T deep (choice ws 1 ts).2 ns nv W'∧Mv r W W':=by
 have hgr:gl≠r:=by
  intro e
  subst e
  have:=block_types hg h.box
  cases this
 have H0:=Lib.hid (show ChK base r deep tv nv T ts ns ws gl W 0 W from ⟨Nat.zero_le _,rfl,h,Stp.refl _ _ _,hg⟩)
 clear h hg
 go_enter Tryz.func125,Tryz.ntmps125
 go_wp2_with fail
 go_loopg [8] (ws.length+1) (fun gk c wr => ∃ j:Nat,ws.length<j+gk∧c=.int .i64 (j:Int)∧ChK base r deep tv nv T ts ns ws gl W j wr)
 case atStart=>exact ⟨0,by omega,rfl,H0.out⟩
 case round =>
  obtain ⟨j,hgk,rfl,hk⟩:=hrel
  have hle:=hk.le
  have HK:=Lib.hid hk
  clear hk H0
  by_cases hj:j<ws.length
  ·obtain ⟨b,hb⟩:∃ b,ws[j]?=some b:=⟨ws[j],List.getElem?_eq_getElem hj⟩
   have c0:wr.cell? ⟨gl,j,none⟩=some (.string (BA b)):=by
    rw [HK.out.blk.cell j]
    simp [strsL,hb]
   have hd:ws.drop j=b::ws.drop (j+1):=by
    rw [List.drop_eq_getElem_cons hj]
    rw [List.getElem?_eq_getElem hj] at hb
    injection hb with hb
    rw [hb]
   have hch:choice ws 1 ts=choice (b::ws.drop (j+1)) (j+1) ts:=by rw [HK.out.eq,hd]
   have k1:(j:Int)<(ws.length:Int):=by omega
   have k2:decide ((j:Int)<(ws.length:Int))=true:=decide_eq_true k1
   have k3:decide (j<ws.length)=true:=decide_eq_true hj
   have k4:(0:Int)≤(j:Int):=by omega
   have v1:IntKind.i64.wrap ((j:Int)+1)=(j:Int)+1:=IntWalk.i64_in _ (by omega)
   rcases hs:sees b ts with _ | ts1
   ·have HN:=Lib.hid (show choice ws 1 ts=choice (ws.drop (j+1)) (j+1+1) ts by rw [hch,choice_cons,hs])
    have HS:=Lib.hid (sees_no HK.out.rs hs)
    clear hb hd hch hs
    go_wp2_with fail
    refine HS.out.mono ?_
    rintro e w1 ⟨rfl,h1,m1⟩
    have HK2:=Lib.hid (show ChK base r deep tv nv T ts ns ws gl W (j+1) w1 from ⟨by omega,HN.out,h1,HK.out.mv.trans m1,m1.blk HK.out.blk hgr⟩)
    clear h1 m1
    go_wp2_with fail
    go_roundg (ws.length-j)
    case measure=>omega
    case rel=>exact ⟨j+1,by omega,by go_num,HK2.out⟩
   ·have HN:=Lib.hid (show choice ws 1 ts=(j+1,ts1) by rw [hch,choice_cons,hs])
    have HS:=Lib.hid (sees_yes HK.out.rs hs)
    clear hb hd hch hs
    go_wp2_with fail
    refine HS.out.mono ?_
    rintro e w1 ⟨rfl,h1,m1⟩
    have HF:=Lib.hid (And.intro h1 (HK.out.mv.trans m1))
    clear h1 m1
    go_wp2_with fail
    go_ret
    rw [HN.out]
    exact ⟨congrArg (fun x:Int=>Ending.returned (.int .i64 x)) (show (j:Int)=(((j+1:Nat):Int)-1) by omega),HF.out⟩
  ·obtain rfl:j=ws.length:=by omega
   have k1:¬ ((ws.length:Int)<(ws.length:Int)):=by omega
   have k2:decide ((ws.length:Int)<(ws.length:Int))=false:=decide_eq_false k1
   have k3:decide (ws.length<ws.length)=false:=decide_eq_false (by omega)
   have HN:=Lib.hid (show choice ws 1 ts=(0,ts) by rw [HK.out.eq,List.drop_length];rfl)
   have HF:=Lib.hid (And.intro HK.out.rs HK.out.mv)
   clear hj hle hgk
   go_wp2_with fail
   go_ret
   rw [HN.out]
   exact ⟨rfl,HF.out⟩
theorem choice_le:∀ (ws:List Bytes) (i:Nat) (ts:List Tk),0<i→(choice ws i ts).1<i+ws.length
 | [],i,ts,h=>h
 | w::ws,i,ts,h=>by
   unfold choice
   split
   ·simp
   ·have:=choice_le ws (i+1) ts (by omega)
    simp only [List.length_cons]
    omega
theorem choice_any {ws:List Bytes} {gl:Nat} (h:RS base r tv T deep ts ns nv W) (hg:Blk W gl 9 (strsL ws).toArray) (hl:ws.length≤1000) :
 Calls Tryz.prog 143 #[RP r,.slice (some ⟨gl,0,none⟩) ws.length ws.length] W fun e W' =>
  e=.returned (.int .i64 ((choice ws 1 ts).1:Int))∧RS base r tv T deep (choice ws 1 ts).2 ns nv W'∧Mv r W W':=by
 have hmf:∀ (fn:Fn) (first cap:Array Value) (w:World),(Instr.makeFunc fn first cap).run Tryz.prog w=.ok (.func fn first cap) w:=fun _ _ _ _=>rfl
 have HI:=Lib.hid (index_any h hg hl)
 have hc:=choice_le ws 1 ts (by decide)
 obtain ⟨k,hk⟩:∃ k,k=(choice ws 1 ts).1:=⟨_,rfl⟩
 rw [← hk] at hc
 have HK:=Lib.hid hk
 clear h hg hk
 go_enter Tryz.func143,Tryz.ntmps143
 go_wp2_with fail
 refine HI.out.mono ?_
 rintro e w1 ⟨rfl,h1,m1⟩
 rw [← HK.out]
 have HF:=Lib.hid (And.intro h1 m1)
 clear h1 m1
 go_wp2_with fail
 go_ret
 exact ⟨congrArg (fun x:Int=>Ending.returned (.int .i64 x)) (show 1+((k:Int)-1)=((choice ws 1 ts).1:Int) by rw [← HK.out];omega),HF.out⟩
end
end Go.Proofs.YtnaehhpikhlppaaGreatDoor

namespace Go
section
variable {P:Program} {ops:Array Oper} {o:Oper} {Q:Exit→Act→World→Prop} {S:World→Prop}
def lastOk (ops:Array Oper) (o:Oper):Bool :=
 (List.range ops.size).all (fun i=>(o.after.any fun e=>Region.binds .any e && e.on == i) || (o.after.any fun e=>Region.binds .any e && ((ops[e.on]?).map fun x=>x.after.any fun d=>Region.binds .any d && d.on == i).getD false))
 && o.after.all (fun e => !Region.binds .any e || decide (e.on<ops.size))
 && (List.range ops.size).all fun i=>((ops[i]?).map fun x=>x.after.all (fun e => !Region.binds .any e || decide (e.on<i)) && (match x.guard with | none=>true | some (g,_)=>decide (g<ops.size))).getD false
def ThenOp (P:Program) (ops:Array Oper) (n:Nat) (Q:Exit→Act→World→Prop):Exit→Act→World→Prop
 | .normal,a,w=>wpOp P ops Q n (fun a w=>Q .normal a w) a w
 | e,a,w=>Q e a w
structure LastOk (ops:Array Oper) (o:Oper):Prop where
 all:∀ i,i<ops.size→(∃ e∈o.after,Region.binds .any e=true∧e.on=i)∨∃ e∈o.after,Region.binds .any e=true∧∃ x,ops[e.on]?=some x∧∃ d∈x.after,Region.binds .any d=true∧d.on=i
 own:∀ e∈o.after,Region.binds .any e=true→e.on<ops.size
 elder:∀ (i:Nat) (x:Oper),ops[i]?=some x→∀ e∈x.after,Region.binds .any e=true→e.on<i
 guard:∀ (i:Nat) (x:Oper),ops[i]?=some x→∀ g b,x.guard=some (g,b)→g<ops.size
theorem lastOk_spec (h:lastOk ops o=true):LastOk ops o:=by
 simp only [lastOk,Bool.and_eq_true,List.all_eq_true,List.mem_range] at h
 obtain ⟨⟨h1,h2⟩,h3⟩:=h
 have h3':∀ (i:Nat) (x:Oper),ops[i]?=some x→(x.after.all (fun e => !Region.binds .any e || decide (e.on<i)) && (match x.guard with | none=>true | some (g,_)=>decide (g<ops.size)))=true:=by
  intro i x hx
  have hi:i<ops.size:=by
   rcases Nat.lt_or_ge i ops.size with h | h
   ·exact h
   ·rw [Array.getElem?_eq_none h] at hx;cases hx
  have:=h3 i hi
  rw [hx] at this
  simpa using this
 refine ⟨fun i hi=>?_,fun e he hb=>?_,fun i x hx e he hb=>?_,fun i x hx g b hg=>?_⟩
 ·have h1':=h1 i hi
  rw [Bool.or_eq_true] at h1'
  rcases h1' with h1' | h1'
  ·obtain ⟨j,hj,h⟩:=Array.any_iff_exists.1 h1'
   obtain ⟨_,_,h⟩:=h
   simp only [Bool.and_eq_true,beq_iff_eq] at h
   exact .inl ⟨o.after[j],Array.getElem_mem hj,h.1,h.2⟩
  ·obtain ⟨j,hj,h⟩:=Array.any_iff_exists.1 h1'
   obtain ⟨_,_,h⟩:=h
   rw [Bool.and_eq_true] at h
   refine .inr ⟨o.after[j],Array.getElem_mem hj,h.1,?_⟩
   cases hx:ops[o.after[j].on]? with
   | none=>rw [hx] at h;simp at h
   | some x =>
     rw [hx] at h
     obtain ⟨k,hk,h2'⟩:=Array.any_iff_exists.1 (by simpa using h.2:(x.after.any fun d=>Region.binds .any d && d.on == i)=true)
     obtain ⟨_,_,h2'⟩:=h2'
     simp only [Bool.and_eq_true,beq_iff_eq] at h2'
     exact ⟨x,rfl,x.after[k],Array.getElem_mem hk,h2'.1,h2'.2⟩
 ·have:=Array.all_eq_true_iff_forall_mem.1 h2 e he
  simp only [hb,Bool.not_true,Bool.false_or,decide_eq_true_eq] at this
  exact this
 ·have:=h3' i x hx
  rw [Bool.and_eq_true] at this
  have:=Array.all_eq_true_iff_forall_mem.1 this.1 e he
  simp only [hb,Bool.not_true,Bool.false_or,decide_eq_true_eq] at this
  exact this
 ·have:=h3' i x hx
  rw [Bool.and_eq_true,hg] at this
  simpa using this.2
theorem all_listed (hc:LastOk ops o) {listed:Array Bool} (h:Region.ready .any ops listed=[]):∀ i,i<ops.size→listed.getD i true=true:=by
 intro i
 induction i using Nat.strongRecOn with
 | ind i ih =>
   intro hi
   cases hl:listed.getD i true with
   | true=>rfl
   | false =>
     have hx:ops[i]?=some ops[i]:=Array.getElem?_eq_getElem hi
     have hm:i∈Region.ready .any ops listed:=mem_ready.2 ⟨hl,ops[i],hx,fun e he hb=>by
      have hlt:=hc.elder i _ hx e he hb
      have h1:=ih e.on hlt (Nat.lt_trans hlt hi)
      rcases Nat.lt_or_ge e.on listed.size with h' | h'
      ·simpa [h'] using h1
      ·have:listed.getD i true=true:=by simp [Array.getElem?_eq_none (Nat.le_trans h' (Nat.le_of_lt hlt))]
       rw [this] at hl;cases hl⟩
     rw [h] at hm
     cases hm
theorem getD_push {listed:Array Bool} {i:Nat} {b d:Bool} (h:i<listed.size):(listed.push b).getD i d=listed.getD i d:=by
 simp [Array.getElem?_push,Nat.ne_of_lt h]
theorem getD_last {listed:Array Bool} {b d:Bool}:(listed.push b).getD listed.size d=b:=by simp
theorem get_push {ops:Array Oper} {o:Oper} {i:Nat} (h:i<ops.size):(ops.push o)[i]?=ops[i]?:=by
 simp [Array.getElem?_push,Nat.ne_of_lt h]
theorem get_some {ops:Array Oper} {i:Nat} {x:Oper} (h:ops[i]?=some x):i<ops.size:=by
 rcases Nat.lt_or_ge i ops.size with h' | h'
 ·exact h'
 ·rw [Array.getElem?_eq_none h'] at h;cases h
theorem ready_push (hc:LastOk ops o) {listed:Array Bool} (hs:listed.size=ops.size) {i:Nat} (hi:i<ops.size):i∈Region.ready .any (ops.push o) (listed.push false)↔i∈Region.ready .any ops listed:=by
 rw [mem_ready,mem_ready,getD_push (by omega),get_push hi]
 constructor
 ·rintro ⟨h1,x,hx,h2⟩
  exact ⟨h1,x,hx,fun e he hb=>by rw [← getD_push (b:=false) (by have:=hc.elder i x hx e he hb;omega)];exact h2 e he hb⟩
 ·rintro ⟨h1,x,hx,h2⟩
  exact ⟨h1,x,hx,fun e he hb=>by rw [getD_push (by have:=hc.elder i x hx e he hb;omega)];exact h2 e he hb⟩
def Closed (ops:Array Oper) (listed:Array Bool):Prop := ∀ (j:Nat) (x:Oper),ops[j]?=some x→listed.getD j true=true→∀ d∈x.after,Region.binds .any d=true→listed.getD d.on true=true
theorem ready_last (hc:LastOk ops o) {listed:Array Bool} (hs:listed.size=ops.size) (hcl:Closed ops listed):ops.size∈Region.ready .any (ops.push o) (listed.push false)↔∀ i,i<ops.size→listed.getD i true=true:=by
 rw [mem_ready]
 have hn:(ops.push o)[ops.size]?=some o:=by simp
 constructor
 ·rintro ⟨_,x,hx,h2⟩ i hi
  rw [hn] at hx
  injection hx with hx
  subst hx
  have direct:∀ e∈o.after,Region.binds .any e=true→e.on<ops.size→listed.getD e.on true=true:=by
   intro e he hb hlt
   have:=h2 e he hb
   rw [getD_push (by omega)] at this
   have hl:e.on<listed.size:=by omega
   simpa [hl] using this
  rcases hc.all i hi with ⟨e,he,hb,rfl⟩ | ⟨e,he,hb,x,hx,d,hd,hdb,rfl⟩
  ·exact direct e he hb hi
  ·exact hcl e.on x hx (direct e he hb (get_some hx)) d hd hdb
 ·intro h
  refine ⟨by rw [← hs];exact getD_last,o,hn,fun e he hb=>?_⟩
  have hl:=hc.own e he hb
  rw [getD_push (by omega)]
  have hl':e.on<listed.size:=by omega
  have:=h e.on hl
  simpa [hl'] using this
theorem ready_lt {md:Region.Mode} {ops:Array Oper} {listed:Array Bool} {i:Nat} (h:i∈Region.ready md ops listed):i<ops.size:=by
 obtain ⟨_,x,hx,_⟩:=mem_ready.1 h
 exact get_some hx
theorem closed_set {ops:Array Oper} {listed:Array Bool} (hcl:Closed ops listed) {i:Nat} (hi:i∈Region.ready .any ops listed):Closed ops (listed.setIfInBounds i true):=by
 have up:∀ k,listed.getD k true=true→(listed.setIfInBounds i true).getD k true=true:=by
  intro k hk
  simp only [Array.getD_eq_getD_getElem?,Array.getElem?_setIfInBounds] at hk ⊢
  split
  ·split<;>rfl
  ·exact hk
 intro j x hx hj d hd hb
 by_cases e:j=i
 ·subst e
  obtain ⟨_,y,hy,h2⟩:=mem_ready.1 hi
  rw [hx] at hy
  injection hy with hy
  subst hy
  have:=h2 d hd hb
  refine up _ ?_
  rcases Nat.lt_or_ge d.on listed.size with h' | h'
  ·simpa [h'] using this
  ·simp [Array.getElem?_eq_none h']
 ·refine up _ (hcl j x hx ?_ d hd hb)
  simp only [Array.getD_eq_getD_getElem?,Array.getElem?_setIfInBounds] at hj ⊢
  rw [if_neg (fun h=>e h.symm)] at hj
  exact hj
theorem wp_then {n:Nat} {ops':Array Oper} {x:Oper} {a:Act} {w:World} {K:Act→World→Prop} (h:x.wp P a w K (ThenOp P ops' n Q)):x.wp P a w K Q:=by
 unfold Oper.wp at *
 generalize (execOp a.eval x).run P w=r at *
 cases r with
 | ok v w' =>
   cases v<;>simp only [Oper.upon] at h ⊢
   case enter f args=>exact Calls.mono h fun e w'' he=>by cases e<;>exact he
   all_goals exact h
 | halt v w'=>cases v<;>simp only [Oper.upon] at h ⊢ <;> exact h
theorem wpOp_push (hc:LastOk ops o) {i:Nat} (hi:i<ops.size) {n:Nat} {ops':Array Oper} {K:Act→World→Prop} {a:Act} {w:World} (h:wpOp P ops (ThenOp P ops' n Q) i K a w):wpOp P (ops.push o) Q i K a w:=by
 unfold wpOp at *
 rw [get_push hi]
 have hx:ops[i]?=some ops[i]:=Array.getElem?_eq_getElem hi
 simp only [hx] at h ⊢
 have hw:Region.wanted ops[i] (yielded (ops.push o) a.tmps)=Region.wanted ops[i] (yielded ops a.tmps):=by
  unfold Region.wanted
  cases hg:ops[i].guard with
  | none=>rfl
  | some gb =>
    obtain ⟨g,b⟩:=gb
    have:=hc.guard i _ hx g b hg
    simp only [yielded]
    rw [get_push this]
 rw [hw]
 split
 ·rename_i hwt
  rw [if_pos hwt] at h
  exact h.imp wp_then id
 ·rename_i hwt
  rw [if_neg hwt] at h
  exact h
theorem wpAny_last (hc:LastOk ops o):∀ (fuel:Nat) (listed:Array Bool) (a:Act) (w:World),listed.size=ops.size→Closed ops listed →
 wpAny P .any ops (ThenOp P (ops.push o) ops.size Q) fuel listed a w→wpAny P .any (ops.push o) Q (fuel+1) (listed.push false) a w:=by
 have fin:∀ (fuel:Nat) (listed:Array Bool) (a:Act) (w:World),listed.size=ops.size→Closed ops listed→Region.ready .any ops listed=[]→ThenOp P (ops.push o) ops.size Q .normal a w→wpAny P .any (ops.push o) Q (fuel+1) (listed.push false) a w:=by
  intro fuel listed a w hs hcl hr hq
  have hall:=all_listed hc hr
  have hlast:=(ready_last hc hs hcl).2 hall
  refine ⟨fun h0=>(by rw [h0] at hlast;cases hlast),fun i hi=>?_⟩
  have hlt:=ready_lt hi
  rw [Array.size_push] at hlt
  rcases Nat.lt_or_ge i ops.size with h' | h'
  ·have:=(ready_push hc hs h').1 hi
   rw [hr] at this
   cases this
  ·obtain rfl:i=ops.size:=by omega
   have hnone:Region.ready .any (ops.push o) ((listed.push false).setIfInBounds ops.size true)=[]:=by
    rw [← hs,show (listed.push false).setIfInBounds listed.size true=listed.push true by
     apply Array.ext'
     simp [List.set_append_right]]
    refine List.eq_nil_iff_forall_not_mem.2 fun j hj=>?_
    have h1:=(mem_ready.1 hj).1
    have h2:=ready_lt hj
    rw [Array.size_push] at h2
    rcases Nat.lt_or_ge j ops.size with h3 | h3
    ·rw [getD_push (by omega),hall j h3] at h1
     cases h1
    ·obtain rfl:j=listed.size:=by omega
     rw [getD_last] at h1
     cases h1
   refine wpOp_mono (fun a' w' hq'=>?_) hq
   cases fuel with
   | zero=>exact ⟨hnone,hq'⟩
   | succ fuel=>exact ⟨fun _=>hq',by rw [hnone];intro j hj;cases hj⟩
 intro fuel
 induction fuel with
 | zero=>intro listed a w hs hcl h;exact fin 0 listed a w hs hcl h.1 h.2
 | succ fuel ih =>
   intro listed a w hs hcl h
   rcases hr:Region.ready .any ops listed with _ | ⟨r,rs⟩
   ·exact fin (fuel+1) listed a w hs hcl hr (h.1 hr)
   ·have hmem:r∈Region.ready .any ops listed:=by rw [hr];exact List.mem_cons_self
    have hrlt:=ready_lt hmem
    refine ⟨fun h0=>?_,fun i hi=>?_⟩
    ·have:=(ready_push (o:=o) hc hs hrlt).2 hmem
     rw [h0] at this
     cases this
    ·have hlt:=ready_lt hi
     rw [Array.size_push] at hlt
     rcases Nat.lt_or_ge i ops.size with h' | h'
     ·have hi':=(ready_push hc hs h').1 hi
      have hp:=wpOp_push (Q:=Q) hc h' (h.2 i hi')
      rw [show (listed.push false).setIfInBounds i true=(listed.setIfInBounds i true).push false by
       apply Array.ext'
       simp [List.set_append_left,hs,h']]
      exact wpOp_mono (fun a' w' hh=>ih _ a' w' (by simpa using hs) (closed_set hcl hi') hh) hp
     ·obtain rfl:i=ops.size:=by omega
      have:=(ready_last hc hs hcl).1 hi r hrlt
      rw [(mem_ready.1 hmem).1] at this
      cases this
theorem then_step {a:Act} {w:World} (h:∀ K':Act→World→Prop,Shut (∀ a w,Q .normal a w→K' a w)→if Region.wanted o (yielded (ops.push o) a.tmps)=true then Oper.wp P o a w K' Q else K' (a.put o.dst undef) w):ThenOp P (ops.push o) ops.size Q .normal a w :=
 wpOp_step (by simp) (fun K' hK=>h K' hK)
theorem wp_region_last {id:Nat} {a:Act} {w:World} (hm:P.follows .mixedOrders=true) (hc:lastOk ops o=true) (hS:S w.drew)
 (h:S w.drew→wpAnyH P .any ops (ThenOp P (ops.push o) ops.size Q) S ops.size (Array.replicate ops.size false) a w.drew):(Code.region id (ops.push o) true).wp P Q a w:=by
 refine wp_region_any hm ?_
 have:=wpAny_last (Q:=Q) (lastOk_spec hc) ops.size (Array.replicate ops.size false) a w.drew (by simp) (fun j x hx hj=>by
  have:=get_some hx
  simp [this] at hj) (wpAny_of_held _ _ _ _ (h hS))
 rw [show (ops.push o).size=ops.size+1 from Array.size_push _,show Array.replicate (ops.size+1) false=(Array.replicate ops.size false).push false from Array.replicate_succ]
 exact this
end
end Go
