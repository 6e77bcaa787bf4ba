/- Several texts of the proof, joined. -/
import Derived.Test.YtnaehhpikhlppaaGreatDoorE20
import Derived.Test.YtnaehhpikhlppaaGreatDoorE11
import Derived.Test.YtnaehhpikhlppaaGreatDoorE14
import Derived.Test.YtnaehhpikhlppaaGreatDoorE16
import Derived.Test.YtnaehhpikhlppaaGreatDoorE18
import Derived.Deep.RegionHeld3
set_option maxHeartbeats 4000000
set_option maxRecDepth 100000
set_option linter.unusedVariables false
set_option linter.unusedSimpArgs false
namespace Go.Proofs.YtnaehhpikhlppaaGreatDoor
open Go.RowKit LexS ParS BigFrame
attribute [local go_sem] World.cell?_alloc_some cell_drewN_new free_drewN_new cell_drew_new free_drew_new
def NR (W:World) (v:Value) (ns:List Nd):Prop := ∃ p cap,v=.slice p ns.length cap∧ns.length≤cap∧ns.length≤maxLen∧(ns ≠ []→∃ g,p=some ⟨g,0,none⟩ ∧
 ∀ (i:Nat) (nd:Nd),ns[i]?=some nd→∃ (m:NodeM) (b:Nat),m.node=nd∧MOk W b m∧W.rangeAt g (i*19) m.cells)
theorem NS.nr {W:World} {b:Nat} {v:Value} {ns:List Nd} (h:NS W b v ns):NR W v ns:=by
 obtain ⟨p,cap,h1,h2,h3,h4⟩:=nodes_row h
 refine ⟨p,cap,h1,h2,h3,fun hne=>?_⟩
 obtain ⟨g,hg,_,_,hc⟩:=h4 hne
 refine ⟨g,hg,fun i nd hi=>?_⟩
 obtain ⟨m,hm,hk,hcell⟩:=hc i nd hi
 exact ⟨m,b,hm,hk,fun j u hj=>hcell j u (List.getElem?_eq_some_iff.1 hj).1 hj⟩
theorem range_kept {W W':World} {g o:Nat} {cs:List Value} (hb:Below W.heap.size W W') (h:W.rangeAt g o cs):W'.rangeAt g o cs:=fun j u hj=>keepc hb (h j u hj)
theorem s_kept {W W':World} {a b g1 g2 o1 o2:Nat} {v1 v2:Value} {cs1 cs2:List Value} (hb:Below W.heap.size W W') (h1:W.cell? ⟨a,0,none⟩=some v1) (h2:W.cell? ⟨b,0,none⟩=some v2) (h3:W.rangeAt g1 o1 cs1) (h4:W.rangeAt g2 o2 cs2) :
 W'.cell? ⟨a,0,none⟩=some v1∧W'.cell? ⟨b,0,none⟩=some v2∧W'.rangeAt g1 o1 cs1∧W'.rangeAt g2 o2 cs2:=⟨keepc hb h1,keepc hb h2,range_kept hb h3,range_kept hb h4⟩
theorem same_trees {W:World} {va vb:Value} {ns:List Nd} (ha:NR W va ns) (hb:NR W vb ns) :
 Calls Tryz.prog 12 #[.agg #[va],.agg #[vb]] W fun e W'=>e=.returned (.bool true)∧Below W.heap.size W W':=by
 obtain ⟨p1,c1,rfl,_,h128,ha3⟩:=ha
 obtain ⟨p2,c2,rfl,_,_,hb3⟩:=hb
 simp only [maxLen] at h128
 obtain ⟨W2,hW2⟩:∃ W2,W2=(W.alloc (.cells #[.slice p1 ns.length c1] 25)).alloc (.cells #[.slice p2 ns.length c2] 25):=⟨_,rfl⟩
 have hb2:Below W.heap.size W W2:=by rw [hW2];exact ((Below.refl _ _).alloc (Nat.le_refl _) _).alloc (by rw [World.size_alloc];omega) _
 have x0:W2.cell? ⟨W.heap.size,0,none⟩=some (.slice p1 ns.length c1):=by
  rw [hW2]
  exact ((Blk.new W 25 #[.slice p1 ns.length c1]).kept ((Below.refl _ _).alloc (Nat.le_refl _) _)).cell 0
 have y0:W2.cell? ⟨W.heap.size+1,0,none⟩=some (.slice p2 ns.length c2):=by
  rw [hW2]
  have:=(Blk.new (W.alloc (.cells #[.slice p1 ns.length c1] 25)) 25 #[.slice p2 ns.length c2]).cell 0
  rwa [World.size_alloc] at this
 have HX:=Lib.hid (And.intro x0 y0)
 have HA:=Lib.hid (And.intro ha3 hb3)
 have HB2:=Lib.hid hb2
 have HW2:=Lib.hid hW2
 have r2:∀ (K:World→Prop),K W2→K ((W.alloc (.cells #[.slice p1 ns.length c1] 25)).alloc (.cells #[.slice p2 ns.length c2] 25)):=fun K h=>by rw [← HW2.out];exact h
 have HR2:=Lib.hid r2
 clear hW2 r2 hb2 ha3 hb3
 go_enter Tryz.func12,Tryz.ntmps12
 go_upto_region 1 with fail
 refine HR2.out _ ?_
 go_wp2_with fail
 go_loopg [5] (ns.length+1) (fun gk c wr => ∃ i:Nat,i≤ns.length∧ns.length<i+gk∧c=.int .i64 (i:Int)∧Below W2.heap.size W2 wr)
 case atStart=>exact ⟨0,Nat.zero_le _,by omega,rfl,Below.refl _ _⟩
 case round =>
  obtain ⟨i,hi,hgk,rfl,hbr⟩:=hrel
  have HBR:=Lib.hid hbr
  clear x0 y0
  have x0:=keepc hbr HX.out.1
  have y0:=keepc hbr HX.out.2
  clear hbr
  by_cases hlt:i<ns.length
  ·have hne:ns ≠ []:=by intro h;rw [h] at hlt;simp at hlt
   obtain ⟨g1,rfl,hg1⟩:=HA.out.1 hne
   obtain ⟨g2,rfl,hg2⟩:=HA.out.2 hne
   obtain ⟨nd,hnd⟩:∃ nd,ns[i]?=some nd:=⟨ns[i],List.getElem?_eq_getElem hlt⟩
   obtain ⟨⟨nd1,lv,nv,av⟩,b1,e1,m1,q1⟩:=hg1 i nd hnd
   obtain ⟨⟨nd2,lv2,nv2,av2⟩,b2,e2,m2,q2⟩:=hg2 i nd hnd
   dsimp only at e1 e2
   have e1:=e1.symm
   have e2:=e2.symm
   subst e1
   subst e2
   have hb3:Below W.heap.size W wr.drew:=(HB2.out.trans (HBR.out.mono HB2.out.size)).drew
   have HSN:=Lib.hid (same_node (m1.kept hb3) (m2.kept hb3))
   have ss:=And.intro x0 (And.intro y0 (And.intro (range_kept hb3 q1) (range_kept hb3 q2)))
   have n1:(i:Int)<(ns.length:Int):=by omega
   have n2:(0:Int)≤(i:Int):=by omega
   have n3:decide ((i:Int)<(ns.length:Int))=true:=decide_eq_true n1
   have w1_:IntKind.i64.wrap ((i:Int)+1)=(i:Int)+1:=IntWalk.i64_in _ (by omega)
   clear hg1 hg2 hnd m1 m2 q1 q2 hb3
   go_wp2_with fail
   refine wp_region_held_drew (S:=fun w'=>w'.cell? ⟨W.heap.size,0,none⟩=some (.slice (some ⟨g1,0,none⟩) ns.length c1)∧w'.cell? ⟨W.heap.size+1,0,none⟩=some (.slice (some ⟨g2,0,none⟩) ns.length c2)∧w'.rangeAt g1 (i*19) (NodeM.cells ⟨nd,lv,nv,av⟩)∧w'.rangeAt g2 (i*19) (NodeM.cells ⟨nd,lv2,nv2,av2⟩)) (by kernel_rfl) ss (fun hHeld=>?_)
   refine wpAnyH_take (i:=0) (oi:={dst:=some 20,op:=Op.fieldAddr 25 (Operand.tmp 2) 0,type:=0,pos := "ref.go:315",after:=#[],guard:=none}) (v := ?v1) rfl (by kernel_rfl) (by kernel_rfl) (by kernel_rfl) (fun _ _ _ h=>h) (Or.inl ⟨by rfl,?hy1⟩) (by assumption) ?rest1
   case hy1 =>
    intro w hSw
    (try dsimp only at hSw)
    go_simp
    try with_reducible rfl
   try simp only [Act.put,List.setIfInBounds_toArray,List.set_cons_zero,List.set_cons_succ]
   refine wpAnyH_take (i:=1) (oi:={dst:=some 21,op:=Op.load 23 (Operand.tmp 20),type:=23,pos := "ref.go:315",after:=#[⟨0,.data⟩],guard:=none}) (v := ?v2) rfl (by kernel_rfl) (by kernel_rfl) (by kernel_rfl) (fun _ _ _ h=>h) (Or.inl ⟨by rfl,?hy2⟩) (by assumption) ?rest2
   case hy2 =>
    intro w hSw
    (try dsimp only at hSw)
    go_simp
    try with_reducible rfl
   try simp only [Act.put,List.setIfInBounds_toArray,List.set_cons_zero,List.set_cons_succ]
   refine wpAnyH_take (i:=2) (oi:={dst:=some 22,op:=Op.move (Operand.tmp 5),type:=3,pos := "ref.go:315",after:=#[],guard:=none}) (v := ?v3) rfl (by kernel_rfl) (by kernel_rfl) (by kernel_rfl) (fun _ _ _ h=>h) (Or.inl ⟨by rfl,?hy3⟩) (by assumption) ?rest3
   case hy3 =>
    intro w hSw
    (try dsimp only at hSw)
    go_simp
    try with_reducible rfl
   try simp only [Act.put,List.setIfInBounds_toArray,List.set_cons_zero,List.set_cons_succ]
   refine wpAnyH_take (i:=3) (oi:={dst:=some 23,op:=Op.indexAddr 23 (Operand.tmp 21) (Operand.tmp 22),type:=0,pos := "ref.go:315",after:=#[⟨1,.data⟩,⟨2,.data⟩],guard:=none}) (v := ?v4) rfl (by kernel_rfl) (by kernel_rfl) (by kernel_rfl) (fun _ _ _ h=>h) (Or.inl ⟨by rfl,?hy4⟩) (by assumption) ?rest4
   case hy4 =>
    intro w hSw
    (try dsimp only at hSw)
    go_simp
    try with_reducible rfl
   try simp only [Act.put,List.setIfInBounds_toArray,List.set_cons_zero,List.set_cons_succ]
   refine' wpAnyH_take (i:=4) (oi:={dst:=some 24,op:=Op.load 42 (Operand.tmp 23),type:=42,pos := "ref.go:315",after:=#[⟨3,.data⟩],guard:=none}) (v:=_) rfl (by kernel_rfl) (by kernel_rfl) (by kernel_rfl) (fun _ _ _ h=>h) (yieldsIf_load_mid (by rfl) _ _ rfl _ _ rfl _ _ ?hS1 ?hu1 ?hd1 ?hi1) (by assumption) ?restm1
   case hS1=>intro w hSw;(try dsimp only at hSw);exact hSw.2.2.1
   case hu1=>exact undNode
   case hd1=>rfl
   case hi1=>exact sizeNode
   try simp only [Act.put,List.setIfInBounds_toArray,List.set_cons_zero,List.set_cons_succ]
   refine wpAnyH_take (i:=5) (oi:={dst:=some 25,op:=Op.fieldAddr 25 (Operand.tmp 3) 0,type:=0,pos := "ref.go:315",after:=#[],guard:=none}) (v := ?v5) rfl (by kernel_rfl) (by kernel_rfl) (by kernel_rfl) (fun _ _ _ h=>h) (Or.inl ⟨by rfl,?hy5⟩) (by assumption) ?rest5
   case hy5 =>
    intro w hSw
    (try dsimp only at hSw)
    go_simp
    try with_reducible rfl
   try simp only [Act.put,List.setIfInBounds_toArray,List.set_cons_zero,List.set_cons_succ]
   refine wpAnyH_take (i:=6) (oi:={dst:=some 26,op:=Op.load 23 (Operand.tmp 25),type:=23,pos := "ref.go:315",after:=#[⟨5,.data⟩],guard:=none}) (v := ?v6) rfl (by kernel_rfl) (by kernel_rfl) (by kernel_rfl) (fun _ _ _ h=>h) (Or.inl ⟨by rfl,?hy6⟩) (by assumption) ?rest6
   case hy6 =>
    intro w hSw
    (try dsimp only at hSw)
    go_simp
    try with_reducible rfl
   try simp only [Act.put,List.setIfInBounds_toArray,List.set_cons_zero,List.set_cons_succ]
   refine wpAnyH_take (i:=7) (oi:={dst:=some 27,op:=Op.move (Operand.tmp 5),type:=3,pos := "ref.go:315",after:=#[],guard:=none}) (v := ?v7) rfl (by kernel_rfl) (by kernel_rfl) (by kernel_rfl) (fun _ _ _ h=>h) (Or.inl ⟨by rfl,?hy7⟩) (by assumption) ?rest7
   case hy7 =>
    intro w hSw
    (try dsimp only at hSw)
    go_simp
    try with_reducible rfl
   try simp only [Act.put,List.setIfInBounds_toArray,List.set_cons_zero,List.set_cons_succ]
   refine wpAnyH_take (i:=8) (oi:={dst:=some 28,op:=Op.indexAddr 23 (Operand.tmp 26) (Operand.tmp 27),type:=0,pos := "ref.go:315",after:=#[⟨6,.data⟩,⟨7,.data⟩],guard:=none}) (v := ?v8) rfl (by kernel_rfl) (by kernel_rfl) (by kernel_rfl) (fun _ _ _ h=>h) (Or.inl ⟨by rfl,?hy8⟩) (by assumption) ?rest8
   case hy8 =>
    intro w hSw
    (try dsimp only at hSw)
    go_simp
    try with_reducible rfl
   try simp only [Act.put,List.setIfInBounds_toArray,List.set_cons_zero,List.set_cons_succ]
   refine' wpAnyH_take (i:=9) (oi:={dst:=some 29,op:=Op.load 42 (Operand.tmp 28),type:=42,pos := "ref.go:315",after:=#[⟨8,.data⟩],guard:=none}) (v:=_) rfl (by kernel_rfl) (by kernel_rfl) (by kernel_rfl) (fun _ _ _ h=>h) (yieldsIf_load_mid (by rfl) _ _ rfl _ _ rfl _ _ ?hS2 ?hu2 ?hd2 ?hi2) (by assumption) ?restm2
   case hS2=>intro w hSw;(try dsimp only at hSw);exact hSw.2.2.2
   case hu2=>exact undNode
   case hd2=>rfl
   case hi2=>exact sizeNode
   try simp only [Act.put,List.setIfInBounds_toArray,List.set_cons_zero,List.set_cons_succ]
   refine wpAnyH_ready (rs:=[10]) (by kernel_rfl) (by simp) ?_
   refine AllReadyH.cons (o:={dst:=some 30,op:=Op.call {callee:=Callee.value (Operand.func 16),args:=#[Operand.tmp 24,Operand.tmp 29],argTypes:=#[42,42]},type:=4,pos := "ref.go:315",after:=#[⟨4,.data⟩,⟨9,.data⟩],guard:=none}) rfl (fun K hK=>?_) ?_
   ·go_simp
    go_at_call 16
    (with_reducible refine HSN.out.mono ?_)
    rintro e w5 ⟨rfl,b5⟩
    have s5:=s_kept (b5.mono (Nat.le_refl _)) ss.1 ss.2.1 ss.2.2.1 ss.2.2.2
    have HB5:=Lib.hid (show Below W2.heap.size W2 w5 from chain HBR.out.drew b5)
    clear b5
    refine hK.out _ _ ?_ (fun hHeld=>?_)
    ·exact s5
    ·clear hK K
     try simp only [Act.put,List.setIfInBounds_toArray,List.set_cons_zero,List.set_cons_succ]
     refine wpAnyH_take (i:=11) (oi:={dst:=some 31,op:=Op.unOp UnOp.not 4 (Operand.tmp 30),type:=4,pos := "ref.go:315",after:=#[⟨10,.data⟩],guard:=none}) (v := ?v9) rfl (by kernel_rfl) (by kernel_rfl) (by kernel_rfl) (fun _ _ _ h=>h) (Or.inl ⟨by rfl,?hy9⟩) (by assumption) ?rest9
     case hy9 =>
      intro w hSw
      (try dsimp only at hSw)
      go_simp
      try with_reducible rfl
     try simp only [Act.put,List.setIfInBounds_toArray,List.set_cons_zero,List.set_cons_succ]
     refine wpAnyH_done (by kernel_rfl) ?_ _
     go_wp2_with fail
     go_roundg (ns.length-i)
     case measure=>omega
     case rel=>exact ⟨i+1,by omega,by omega,rfl,HB5.out⟩
   exact AllReadyH.nil
  ·have n1:¬ (i:Int)<(ns.length:Int):=by omega
   have n3:decide ((i:Int)<(ns.length:Int))=false:=decide_eq_false n1
   go_wp2_with fail
   exact bodyPost_ret (results_tmp rfl _ _ _) rfl ⟨rfl,HB2.out.trans (HBR.out.mono HB2.out.size)⟩
end Go.Proofs.YtnaehhpikhlppaaGreatDoor

namespace Go.Proofs.YtnaehhpikhlppaaGreatDoor
open Go.RowKit LexS ParS BigFrame
def signB (k:Nat):Bytes:=if k=0 then [] else 32::(signW k++[32])
def stepB (k:Nat):Bytes:=if k<2 then [] else if k<7 then stepW k++[32] else stepW k++[32,40]
def aggC (k:Nat):Bytes:=if k=0 then [] else if k=1 then aggW 1 else aggW k++[32]
theorem signB_len (k:Nat):(signB k).length≤4:=by
 unfold signB
 split
 ·exact Nat.zero_le _
 ·have:(signW k).length≤2:=by
   unfold signW kw_signs
   have h:k-1=0∨k-1=1∨k-1=2∨k-1=3∨k-1=4∨k-1=5∨6≤k-1:=by omega
   rcases h with h | h | h | h | h | h | h
   ·rw [h];decide
   ·rw [h];decide
   ·rw [h];decide
   ·rw [h];decide
   ·rw [h];decide
   ·rw [h];decide
   ·rw [List.getD_eq_getElem?_getD,List.getElem?_eq_none (by simpa using h)]
    exact Nat.zero_le _
  simp
  omega
theorem valB_len {v:Val} (hv:ValOk v) (hn : -9223372036854775808≤v.n∧v.n≤9223372036854775807) (hs:v.s.length≤64):(valB v).length≤130:=by
 unfold valB
 split
 ·have:=(itoa_small v.n hn.1 hn.2).1
  omega
 ·split
  ·have:=quote_len v.s
   omega
  ·split<;>decide
structure PW (W:World):Prop where
 gw:GW W
 signs:∀ k,k<7→W.cell? ⟨0,k,none⟩=some (.string (BA (signB k)))
 steps:∀ k,k<9→W.cell? ⟨1,k,none⟩=some (.string (BA (stepB k)))
 aggs:∀ k,k<7→W.cell? ⟨2,k,none⟩=some (.string (BA (aggC k)))
theorem PW.kept {W W1:World} (h:PW W) (hb:Below W.heap.size W W1):PW W1 :=
 ⟨h.gw.kept hb,fun k hk=>keepc hb (h.signs k hk),fun k hk=>keepc hb (h.steps k hk),fun k hk=>keepc hb (h.aggs k hk)⟩
theorem NR.stayP {W W':World} {v:Value} {ns:List Nd} (hb:Below W.heap.size W W') (h:NR W v ns):NR W' v ns:=by
 obtain ⟨p,cap,h1,h2,h3,h4⟩:=h
 refine ⟨p,cap,h1,h2,h3,fun hne=>?_⟩
 obtain ⟨g,hg,hc⟩:=h4 hne
 refine ⟨g,hg,fun i nd hi=>?_⟩
 obtain ⟨m,b,hm,hk,hr⟩:=hc i nd hi
 exact ⟨m,b,hm,hk.kept hb,range_kept hb hr⟩
theorem nr_rangeP {W:World} {g n cap:Nat} {ns:List Nd} (h:NR W (.slice (some ⟨g,0,none⟩) n cap) ns) {i:Nat} {nd:Nd} (hi:ns[i]?=some nd):∃ (m:NodeM) (b:Nat),m.node=nd∧MOk W b m∧W.rangeAt g (i*19) m.cells∧n=ns.length∧ns.length≤maxLen:=by
 obtain ⟨p,c,h1,_,h3,h4⟩:=h
 obtain ⟨g',hg,hc⟩:=h4 (by rintro rfl;simp at hi)
 injection h1 with e1 e2 e3
 rw [hg] at e1
 injection e1 with e1
 injection e1 with e1
 subst e1
 obtain ⟨m,b,k1,k2,k3⟩:=hc i nd hi
 exact ⟨m,b,k1,k2,k3,e2,h3⟩
theorem MOk.onesP {W:World} {b:Nat} {m:NodeM} (h:MOk W b m):m.cells.toArray.all (·.oneCell')=true:=by
 obtain ⟨nd,lv,nv,av⟩:=m
 obtain ⟨kd,s,n,fr,to_,v,l,nm,ag⟩:=nd
 obtain ⟨p1,c1,e1⟩:=row_slice h.l
 obtain ⟨p2,c2,e2⟩:=row_slice h.names
 obtain ⟨p3,c3,e3⟩:=row_slice h.aggs
 dsimp only at e1 e2 e3
 exact one_nd kd s n fr to_ v (by rw [e1];rfl) (by rw [e2];rfl) (by rw [e3];rfl) l nm ag
structure CK (w:World) (nb:Nat) (nv:Value) (ns:List Nd) (m:NodeM) (W:World):Prop where
 below:Below w.heap.size w W
 pw:PW W
 box:Blk W w.heap.size 75 #[nv]
 nd:Blk W nb 42 m.cells.toArray
 nr:NR W nv ns
 rows:∃ b,MOk W b m
theorem CK.kept {w W W':World} {nb:Nat} {nv:Value} {ns:List Nd} {m:NodeM} (h:CK w nb nv ns m W) (hb:Below W.heap.size W W'):CK w nb nv ns m W' :=
 ⟨chain h.below hb,h.pw.kept hb,h.box.kept hb,h.nd.kept hb,h.nr.stayP hb,by obtain ⟨b,hm⟩:=h.rows;exact ⟨b,hm.kept hb⟩⟩
theorem CK.drew {w W:World} {nb:Nat} {nv:Value} {ns:List Nd} {m:NodeM} (h:CK w nb nv ns m W):CK w nb nv ns m W.drew:=h.kept (Below.refl _ _).drew
abbrev boxed (w:World) (nv:Value):World:=w.alloc (.cells #[nv] 75)
theorem CK.start {w w4:World} {nv:Value} {ns:List Nd} {m:NodeM} {b:Nat} (hp:PW w) (hn:NR w nv ns) (hm:MOk w b m) (h4:((boxed w nv).alloc (.cells zeroNd 42)).setCells (w.heap.size+1) 0 m.cells=w4):CK w (w.heap.size+1) nv ns m w4:=by
 have hb1:Below w.heap.size w (boxed w nv):=(Below.refl _ _).alloc (Nat.le_refl _) _
 have hs1:(boxed w nv).heap.size=w.heap.size+1:=by rw [World.size_alloc]
 rw [← hs1] at h4
 obtain ⟨hb4,hk4⟩:=nd_stored (m:=m) h4
 have hb:=chain hb1 hb4
 have hx:Blk (boxed w nv) w.heap.size 75 #[nv]:=Blk.new _ _ _
 exact ⟨hb,hp.kept hb,hx.kept hb4,by rw [← hs1];exact hk4,hn.stayP hb,b,hm.kept hb⟩
theorem CK.there (w:World) (nv:Value):((boxed w nv).alloc (.cells zeroNd 42)).there (w.heap.size+1) 0 19:=by
 have:=nd_there (boxed w nv)
 rwa [World.size_alloc] at this
section
variable {w W:World} {nb:Nat} {nv:Value} {ns:List Nd} {m:NodeM} {nd:Nd}
theorem CK.c0 (h:CK w nb nv ns m W) (hm:m.node=nd):W.cell? ⟨nb,0,none⟩=some (.int .i64 (nd.kind:Int)):=by subst hm;exact h.nd.cell 0
theorem CK.c1 (h:CK w nb nv ns m W) (hm:m.node=nd):W.cell? ⟨nb,1,none⟩=some (.string (BA nd.s)):=by subst hm;exact h.nd.cell 1
theorem CK.c2 (h:CK w nb nv ns m W) (hm:m.node=nd):W.cell? ⟨nb,2,none⟩=some (.int .i64 nd.n):=by subst hm;exact h.nd.cell 2
theorem CK.c7 (h:CK w nb nv ns m W) (hm:m.node=nd):W.cell? ⟨nb,7,none⟩=some (.string (BA nd.v.s)):=by subst hm;exact h.nd.cell 7
theorem CK.cv (h:CK w nb nv ns m W) (hm:m.node=nd):W.cell? ⟨nb,5,none⟩=some (.int .i64 (nd.v.kind:Int))∧W.cell? ⟨nb,6,none⟩=some (.int .i64 nd.v.n)∧W.cell? ⟨nb,7,none⟩=some (.string (BA nd.v.s))∧W.cell? ⟨nb,8,none⟩=some (.int .i64 0)∧W.cell? ⟨nb,9,none⟩=some (.int .i64 0)∧W.cell? ⟨nb,10,none⟩=some (.int .i64 0)∧W.cell? ⟨nb,11,none⟩=some (.int .i64 0)∧W.cell? ⟨nb,12,none⟩=some (.int .i64 0)∧W.cell? ⟨nb,13,none⟩=some (.int .i64 0)∧W.cell? ⟨nb,14,none⟩=some (.int .i64 0)∧W.cell? ⟨nb,15,none⟩=some (.int .i64 0):=by
 subst hm
 exact ⟨h.nd.cell 5,h.nd.cell 6,h.nd.cell 7,h.nd.cell 8,h.nd.cell 9,h.nd.cell 10,h.nd.cell 11,h.nd.cell 12,h.nd.cell 13,h.nd.cell 14,h.nd.cell 15⟩
theorem CK.gw (h:CK w nb nv ns m W):GW W:=h.pw.gw
end
def CondP (w:World) (t:Bytes) (e:Ending) (w':World):Prop:=e=.returned (.string (BA t))∧Below w.heap.size w w'
section
variable {w:World} {g cap i:Nat} {ns:List Nd}
theorem cond_has {s t:Bytes} (wanted:Nat) (hw:wanted≤3) (hi:ns[i]?=some {node 15 [] with s:=s,v:=⟨2,0,t⟩}) (hn:NR w (.slice (some ⟨g,0,none⟩) ns.length cap) ns) (hp:PW w) (hs:s.length≤130) (ht:t.length≤64) :
 Calls Tryz.prog 32 #[.agg #[.slice (some ⟨g,0,none⟩) ns.length cap],.int .i64 (i:Int),.int .i64 (wanted:Int)] w (CondP w (s++[32,104,97,115,32]++quoteS t)):=by
 obtain ⟨m,b,hm,hk,hr,_,hml⟩:=nr_rangeP hn hi
 have hlt:i<ns.length:=(List.getElem?_eq_some_iff.1 hi).1
 simp only [maxLen] at hml
 have a0:(0:Int)≤(i:Int):=by omega
 have a1:(i:Int)<(ns.length:Int):=by omega
 have w0:decide ((3:Int)<(wanted:Int))=false:=decide_eq_false (by omega)
 have w1':¬ (3:Int)<(wanted:Int):=by omega
 have hone:=hk.onesP
 have HR:=Lib.hid (range_kept (W':=boxed w (.slice (some ⟨g,0,none⟩) ns.length cap)) ((Below.refl _ _).alloc (Nat.le_refl _) _) hr)
 have hth:=CK.there w (.slice (some ⟨g,0,none⟩) ns.length cap)
 have ht1:=tight_any 15
 have HS:=Lib.hid (fun w4 h4=>CK.start (w4:=w4) hp hn hk h4)
 have HM:=Lib.hid hm
 have hq:=quote_any (BA t) (by rw [text_size];omega)
 rw [text_list] at hq
 have z1:(BA s).size≤130:=by rw [text_size];exact hs
 have z1':((BA s).size:Int)≤130:=by omega
 have z2:(BA (quoteS t)).size≤130:=by rw [text_size];have:=quote_len t;omega
 have z2':((BA (quoteS t)).size:Int)≤130:=by omega
 have HQ:=Lib.hid hq
 have y1:s.length+5≤9223372036854775807:=by omega
 have y2:(BA s).size+(⟨#[32,104,97,115,32]⟩:ByteArray).size≤9223372036854775807:=by rw [text_size];show s.length+5≤_;omega
 have hql:=quote_len t
 have y3:s.length+5+(quoteS t).length≤9223372036854775807:=by omega
 have y4:(BA s++(⟨#[32,104,97,115,32]⟩:ByteArray)).size+(BA (quoteS t)).size≤9223372036854775807:=by rw [ByteArray.size_append,text_size,text_size];show s.length+5+_≤_;omega
 have y5:(BA s++(⟨#[32,104,97,115,32]⟩:ByteArray)).size+(quoteS t).length≤9223372036854775807:=by rw [ByteArray.size_append,text_size];show s.length+5+_≤_;omega
 have v1:=Nat.not_lt.2 y1
 have v2:=Nat.not_lt.2 y2
 have v3:=Nat.not_lt.2 y3
 have v4:=Nat.not_lt.2 y4
 have v5:=Nat.not_lt.2 y5
 clear hq
 clear hi hn hp hm hk hr hml
 go_enter Tryz.func32,Tryz.ntmps32
 go_wp2_with (first
  | (refine wpList_load_mid (by rfl) 42 (.tmp 12) (by rfl) g (i*19) (by rfl) m.cells _ HR.out undNode (by rfl) sizeNode ?_)
  | (refine wpList_store_mid (by rfl) 42 (.tmp 7) (.tmp 13) (by rfl) (w.heap.size+1) 0 m.cells.toArray (by rfl) (by rfl) hth sizeNode hone ?_
     generalize hw4:World.setCells _ _ _ _=w4
     have hc:=HS.out w4 hw4
     have k0:=hc.c0 HM.out
     have c1:=hc.c1 HM.out
     have c7:=hc.c7 HM.out
     dsimp only [node] at k0 c1 c7
     have HC:=Lib.hid hc
     clear hw4 hth hone hc))
 refine (ht1 _).mono ?_
 rintro e w5 ⟨rfl,rfl⟩
 go_wp2_with fail
 have hk3:=HC.out.drew
 clear k0
 go_region_held3 (fun w'=>w'.cell? ⟨w.heap.size+1,1,none⟩=some (.string (BA s))∧w'.cell? ⟨w.heap.size+1,7,none⟩=some (.string (BA t)))
  (go_keep)
  (first | (go_at_call 58;(with_reducible refine (HQ.out _ (CK.gw (by assumption))).mono ?_);rintro e w9 ⟨rfl,hb1⟩;have hk3:=CK.kept (by assumption) hb1;have c1:=hk3.c1 HM.out;have c7:=hk3.c7 HM.out;dsimp only [node] at c1 c7;clear hb1))
 all_goals go_wp2_with fail
 all_goals exact bodyPost_ret (results_tmp rfl _ _ _) rfl ⟨by show Ending.returned (Value.string (BA s++(⟨#[32,104,97,115,32]⟩:ByteArray)++BA (quoteS t)))=_;exact congrArg (fun x=>Ending.returned (Value.string x)) (cat3 s [32,104,97,115,32] (quoteS t)),hk3.below⟩
theorem cond_cmp {s:Bytes} {n:Nat} {v:Val} (wanted:Nat) (hw:wanted≤3) (hi:ns[i]?=some {node 14 [] with s:=s,n:=(n:Int),v:=v}) (hn:NR w (.slice (some ⟨g,0,none⟩) ns.length cap) ns) (hp:PW w) (hs:s.length≤130) (n1:1≤n) (n2:n≤6)
 (hv:ValOk v) (hvn : -9223372036854775808≤v.n∧v.n≤9223372036854775807) (hvs:v.s.length≤64) :
 Calls Tryz.prog 32 #[.agg #[.slice (some ⟨g,0,none⟩) ns.length cap],.int .i64 (i:Int),.int .i64 (wanted:Int)] w (CondP w (s++(32::(signW n++[32]))++valB v)):=by
 obtain ⟨m,b,hm,hk,hr,_,hml⟩:=nr_rangeP hn hi
 have hlt:i<ns.length:=(List.getElem?_eq_some_iff.1 hi).1
 simp only [maxLen] at hml
 have a0:(0:Int)≤(i:Int):=by omega
 have a1:(i:Int)<(ns.length:Int):=by omega
 have w0:decide ((3:Int)<(wanted:Int))=false:=decide_eq_false (by omega)
 have w1':¬ (3:Int)<(wanted:Int):=by omega
 have hone:=hk.onesP
 have HR:=Lib.hid (range_kept (W':=boxed w (.slice (some ⟨g,0,none⟩) ns.length cap)) ((Below.refl _ _).alloc (Nat.le_refl _) _) hr)
 have hth:=CK.there w (.slice (some ⟨g,0,none⟩) ns.length cap)
 have ht1:=tight_any 14
 have HS:=Lib.hid (fun w4 h4=>CK.start (w4:=w4) hp hn hk h4)
 have HM:=Lib.hid hm
 have hq:=vtext_any hv hvn.1 hvn.2 hvs
 have hql:=valB_len hv hvn hvs
 have e0:signB n=32::(signW n++[32]):=by unfold signB;rw [if_neg (by omega)]
 have hsl:=signB_len n
 obtain ⟨sb,hsb⟩:∃ sb,sb=signB n:=⟨_,rfl⟩
 rw [← e0,← hsb]
 rw [← hsb] at hsl
 obtain ⟨vb,hvb⟩:∃ vb,vb=valB v:=⟨_,rfl⟩
 rw [← hvb] at hq hql ⊢
 have b0:(0:Int)≤(n:Int):=by omega
 have b1:(n:Int)<7:=by omega
 have HSB:=Lib.hid hsb
 have n7:n<7:=by omega
 have y1:s.length+sb.length≤9223372036854775807:=by omega
 have y2:(BA s).size+(BA sb).size≤9223372036854775807:=by rw [text_size,text_size];omega
 have y4:(BA s++BA sb).size+(BA vb).size≤9223372036854775807:=by rw [ByteArray.size_append,text_size,text_size,text_size];omega
 have y5:(BA s++BA sb).size+vb.length≤9223372036854775807:=by rw [ByteArray.size_append,text_size,text_size];omega
 have y3:s.length+sb.length+vb.length≤9223372036854775807:=by omega
 have v1:=Nat.not_lt.2 y1
 have v2:=Nat.not_lt.2 y2
 have v3:=Nat.not_lt.2 y3
 have v4:=Nat.not_lt.2 y4
 have v5:=Nat.not_lt.2 y5
 have HQ:=Lib.hid hq
 clear hq e0 hvb hsb hv hvn hvs
 clear hi hn hp hm hk hr hml
 go_enter Tryz.func32,Tryz.ntmps32
 go_wp2_with (first
  | (refine wpList_load_mid (by rfl) 42 (.tmp 12) (by rfl) g (i*19) (by rfl) m.cells _ HR.out undNode (by rfl) sizeNode ?_)
  | (refine wpList_store_mid (by rfl) 42 (.tmp 7) (.tmp 13) (by rfl) (w.heap.size+1) 0 m.cells.toArray (by rfl) (by rfl) hth sizeNode hone ?_
     generalize hw4:World.setCells _ _ _ _=w4
     have hc:=HS.out w4 hw4
     have k0:=hc.c0 HM.out
     have c1:=hc.c1 HM.out
     have c2:=hc.c2 HM.out
     obtain ⟨d5,d6,d7,d8,d9,d10,d11,d12,d13,d14,d15⟩:=hc.cv HM.out
     have gs:=hc.pw.signs n n7
     rw [← HSB.out] at gs
     dsimp only [node] at k0 c1 c2 d5 d6 d7
     have HC:=Lib.hid hc
     clear hw4 hth hone hc))
 refine (ht1 _).mono ?_
 rintro e w5 ⟨rfl,rfl⟩
 go_wp2_with fail
 have hk3:=HC.out.drew
 clear k0
 go_region_held3 (fun w'=>w'.cell? ⟨w.heap.size+1,1,none⟩=some (.string (BA s))∧w'.cell? ⟨w.heap.size+1,2,none⟩=some (.int .i64 (n:Int))∧w'.cell? ⟨0,n,none⟩=some (.string (BA sb)) ∧
  w'.cell? ⟨w.heap.size+1,5,none⟩=some (.int .i64 (v.kind:Int))∧w'.cell? ⟨w.heap.size+1,6,none⟩=some (.int .i64 v.n)∧w'.cell? ⟨w.heap.size+1,7,none⟩=some (.string (BA v.s)) ∧
  w'.cell? ⟨w.heap.size+1,8,none⟩=some (.int .i64 0)∧w'.cell? ⟨w.heap.size+1,9,none⟩=some (.int .i64 0)∧w'.cell? ⟨w.heap.size+1,10,none⟩=some (.int .i64 0)∧w'.cell? ⟨w.heap.size+1,11,none⟩=some (.int .i64 0) ∧
  w'.cell? ⟨w.heap.size+1,12,none⟩=some (.int .i64 0)∧w'.cell? ⟨w.heap.size+1,13,none⟩=some (.int .i64 0)∧w'.cell? ⟨w.heap.size+1,14,none⟩=some (.int .i64 0)∧w'.cell? ⟨w.heap.size+1,15,none⟩=some (.int .i64 0))
  (go_keep)
  (first | (go_at_call 59;(with_reducible refine (HQ.out _ (CK.gw (by assumption))).mono ?_);rintro e w9 ⟨rfl,hb1⟩;have hk3:=CK.kept (by assumption) hb1;have c1:=hk3.c1 HM.out;have c2:=hk3.c2 HM.out;obtain ⟨d5,d6,d7,d8,d9,d10,d11,d12,d13,d14,d15⟩:=hk3.cv HM.out;have gs:=hk3.pw.signs n n7;rw [← HSB.out] at gs;dsimp only [node] at c1 c2 d5 d6 d7;clear hb1))
 all_goals go_wp2_with fail
 all_goals exact bodyPost_ret (results_tmp rfl _ _ _) rfl ⟨by show Ending.returned (Value.string (BA s++BA sb++BA vb))=_;exact congrArg (fun x=>Ending.returned (Value.string x)) (cat3 s sb vb),hk3.below⟩
end
end Go.Proofs.YtnaehhpikhlppaaGreatDoor
