/- Several texts of the proof, joined. -/
import Derived.Test.YtnaehhpikhlppaaGreatDoorE19
import Derived.Deep.CutBlock
import Derived.Test.YtnaehhpikhlppaaGreatDoorE9
import Derived.Laws.StructEq
set_option maxHeartbeats 4000000
set_option maxRecDepth 100000
set_option linter.unusedVariables false
set_option linter.unusedSimpArgs false
namespace Go.Proofs.YtnaehhpikhlppaaGreatDoor
open Go.RowKit LexS ParS BigFrame
attribute [local go_sem] field_tok1 field_tok2
attribute [local go_sem] World.cell?_alloc_some cell_drewN_new free_drewN_new cell_drew_new free_drew_new
def PostAll (W:World) (x:List Nd×Nat×Nat) (e:Ending) (W':World):Prop :=
 ∃ nv,e=.returned (.tuple #[.agg #[nv],.int .i64 (x.2.1:Int),.int .i64 (x.2.2:Int)])∧NS W' W.heap.size nv x.1∧Below W.heap.size W W'
theorem nil_NS {W:World} {b:Nat}:NS W b (.slice none 0 0) []:=⟨[],rfl,nil_row,fun m hm=>by cases hm⟩
theorem three_boxes (W:World):∃ W3,W3=((W.alloc (.cells #[.slice none 0 0] 25)).alloc (.cells #[.int .i64 0] 3)).alloc (.cells #[.int .i64 0] 26)∧Below W.heap.size W W3 ∧
 Blk W3 W.heap.size 25 #[.slice none 0 0]∧Blk W3 (W.heap.size+1) 3 #[.int .i64 0]∧Blk W3 (W.heap.size+1+1) 26 #[.int .i64 0]∧W3.heap.size=W.heap.size+3:=by
 refine ⟨_,rfl,?_,?_,?_,?_,?_⟩
 ·exact (((Below.refl _ _).alloc (Nat.le_refl _) _).alloc (by rw [World.size_alloc];omega) _).alloc (by rw [World.size_alloc,World.size_alloc];omega) _
 ·exact ((Blk.new W _ _).kept ((Below.refl _ _).alloc (Nat.le_refl _) _)).kept ((Below.refl _ _).alloc (Nat.le_refl _) _)
 ·have:=(Blk.new (W.alloc (.cells #[.slice none 0 0] 25)) 3 #[.int .i64 0]).kept ((Below.refl _ _).alloc (Nat.le_refl _) (.cells #[.int .i64 0] 26))
  rwa [World.size_alloc] at this
 ·have:=Blk.new ((W.alloc (.cells #[.slice none 0 0] 25)).alloc (.cells #[.int .i64 0] 3)) 26 #[.int .i64 0]
  rwa [World.size_alloc,World.size_alloc] at this
 ·rw [World.size_alloc,World.size_alloc,World.size_alloc]
theorem far3 {W:World} {g b:Nat} {t:TypeId} {cs:Array Value} (h:Blk W g t cs) (hn:g≠b) (u:Value):Blk (W.setCell ⟨b,0,none⟩ u) g t cs:=h.far (show g≠(⟨b,0,none⟩:Addr).block from hn) u
theorem boxes_put {W Wx:World} {u0 x0 c0 u x c:Value} {t0 t1 t2:TypeId} (h0:Blk Wx W.heap.size t0 #[u0]) (h1:Blk Wx (W.heap.size+1) t1 #[x0]) (h2:Blk Wx (W.heap.size+1+1) t2 #[c0]) (hb:Below W.heap.size W Wx) :
 Blk (((Wx.setCell ⟨W.heap.size,0,none⟩ u).setCell ⟨W.heap.size+1,0,none⟩ x).setCell ⟨W.heap.size+1+1,0,none⟩ c) W.heap.size t0 #[u]∧Blk (((Wx.setCell ⟨W.heap.size,0,none⟩ u).setCell ⟨W.heap.size+1,0,none⟩ x).setCell ⟨W.heap.size+1+1,0,none⟩ c) (W.heap.size+1) t1 #[x] ∧
 Blk (((Wx.setCell ⟨W.heap.size,0,none⟩ u).setCell ⟨W.heap.size+1,0,none⟩ x).setCell ⟨W.heap.size+1+1,0,none⟩ c) (W.heap.size+1+1) t2 #[c]∧Below W.heap.size W (((Wx.setCell ⟨W.heap.size,0,none⟩ u).setCell ⟨W.heap.size+1,0,none⟩ x).setCell ⟨W.heap.size+1+1,0,none⟩ c) :=
 ⟨far3 (far3 (h0.put 0 u) (by omega) x) (by omega) c,far3 ((far3 h1 (by omega) u).put 0 x) (by omega) c,(far3 (far3 h2 (by omega) u) (by omega) x).put 0 c,
  ((hb.setCell (p:=⟨W.heap.size,0,none⟩) (Nat.le_refl _) u).setCell (p:=⟨W.heap.size+1,0,none⟩) (Nat.le_succ _) x).setCell (p:=⟨W.heap.size+1+1,0,none⟩) (Nat.le_succ_of_le (Nat.le_succ _)) c⟩
theorem boxes_on {W W4 w5:World} {r:Nat} {nv5 u0 x0 c0:Value} {t0 t1 t2:TypeId} (h0:Blk W4 W.heap.size t0 #[u0]) (h1:Blk W4 (W.heap.size+1) t1 #[x0]) (h2:Blk W4 (W.heap.size+1+1) t2 #[c0]) (hb:Below W.heap.size W W4)
 (s:Stp r (.slice none 0 0) W4 nv5 w5) (hr:W.heap.size+3≤r):Blk w5 W.heap.size t0 #[u0]∧Blk w5 (W.heap.size+1) t1 #[x0]∧Blk w5 (W.heap.size+1+1) t2 #[c0]∧Below W.heap.size W w5 :=
 ⟨s.blk h0 (by omega) (fun e=>by cases e),s.blk h1 (by omega) (fun e=>by cases e),s.blk h2 (by omega) (fun e=>by cases e),hb.trans (s.below (by omega) (fun k hk=>by cases hk) hb.size)⟩
theorem own_high {W W':World} {b size n:Nat} {e:TypeId} {v:Value} {xs:List Value} (h:W.ownsRow b e size v n xs) (hk:∀ k,b≤k→W'.heap[k]?=W.heap[k]?):W'.ownsRow b e size v n xs:=by
 refine ⟨h.1,?_⟩
 rcases h.2 with h2 | ⟨g,cap,cur,h2,h3,h4,h5⟩
 ·exact .inl h2
 ·exact .inr ⟨g,cap,cur,h2,h3,(hk g h3).trans h4,h5⟩
theorem NS.high {W W':World} {b b':Nat} {v:Value} {ns:List Nd} (h:NS W b v ns) (hk:∀ k,b≤k→W'.heap[k]?=W.heap[k]?) (hb:b'≤b):NS W' b' v ns:=by
 obtain ⟨ms,h1,h2,h3⟩:=h
 exact ⟨ms,h1,own_base (own_high h2 hk) hb,fun m hm=>⟨own_base (own_high (h3 m hm).l hk) hb,own_base (own_high (h3 m hm).names hk) hb,own_base (own_high (h3 m hm).aggs hk) hb⟩⟩
theorem nodes_put {W:World} {b a:Nat} {v u x c:Value} {ns:List Nd} (h:NS W b v ns) (ha:a+3≤b):NS (((W.setCell ⟨a,0,none⟩ u).setCell ⟨a+1,0,none⟩ x).setCell ⟨a+1+1,0,none⟩ c) a v ns :=
 h.high (fun k hk=>by
  rw [Below.heap_setCell _ _ _ _ (show k≠a+1+1 by omega),Below.heap_setCell _ _ _ _ (show k≠a+1 by omega),Below.heap_setCell _ _ _ _ (show k≠a by omega)]) (by omega)
section
variable {W':World} {a0 a1 a2:Nat} {tmps:Array Value} {nv:Value} {x c:Int} {R:Ending→World→Prop}
theorem res3 (ht0:tmps[4]?.getD undef=.pointer (some ⟨a0,0,none⟩)) (ht1:tmps[5]?.getD undef=.pointer (some ⟨a1,0,none⟩)) (ht2:tmps[6]?.getD undef=.pointer (some ⟨a2,0,none⟩))
 (h0:Blk W' a0 25 #[nv]) (h1:Blk W' a1 3 #[.int .i64 x]) (h2:Blk W' a2 26 #[.int .i64 c]):(results Tryz.f52 tmps).run Tryz.prog W'=.ok (.tuple #[.agg #[nv],.int .i64 x,.int .i64 c]) W':=by
 have e0:W'.cell? ⟨a0,0,none⟩=some nv:=h0.cell 0
 have e1:W'.cell? ⟨a1,0,none⟩=some (.int .i64 x):=h1.cell 0
 have e2:W'.cell? ⟨a2,0,none⟩=some (.int .i64 c):=h2.cell 0
 simp [results,Tryz.results52,go_sem,ht0,ht1,ht2,e0,e1,e2]
theorem leave_ret {a0:Nat} (ht0:tmps[4]?.getD undef=.pointer (some ⟨a0,0,none⟩)) (ht1:tmps[5]?.getD undef=.pointer (some ⟨a0+1,0,none⟩)) (ht2:tmps[6]?.getD undef=.pointer (some ⟨a0+1+1,0,none⟩))
 (h0:Blk W' a0 25 #[nv]) (h1:Blk W' (a0+1) 3 #[.int .i64 x]) (h2:Blk W' (a0+1+1) 26 #[.int .i64 c]) (hR:R (.returned (.tuple #[.agg #[nv],.int .i64 x,.int .i64 c])) W') :
 bodyPostD Tryz.prog Tryz.f52 R .ret {tmps:=tmps,defers:=[{target:=.fn (.func 100) #[.pointer (some ⟨a0,0,none⟩),.pointer (some ⟨a0+1,0,none⟩),.pointer (some ⟨a0+1+1,0,none⟩)],args:=#[]}]} W':=by
 show Leaves _ _ _ _ _ _ _
 refine leaves_cons (f:=100) (args:=#[.pointer (some ⟨a0,0,none⟩),.pointer (some ⟨a0+1,0,none⟩),.pointer (some ⟨a0+1+1,0,none⟩)]) (by simp) (by simp [go_sem]) ?_
 refine idle.mono ?_
 rintro e u' w'' ⟨rfl,rfl,rfl⟩
 exact ⟨_,res3 ht0 ht1 ht2 h0 h1 h2,hR⟩
theorem leave_bad {a0:Nat} (ht0:tmps[4]?.getD undef=.pointer (some ⟨a0,0,none⟩)) (ht1:tmps[5]?.getD undef=.pointer (some ⟨a0+1,0,none⟩)) (ht2:tmps[6]?.getD undef=.pointer (some ⟨a0+1+1,0,none⟩))
 (h0:Blk W' a0 25 #[.slice none 0 0]) (h1:Blk W' (a0+1) 3 #[.int .i64 0]) (h2:Blk W' (a0+1+1) 26 #[.int .i64 0])
 (hR:∀ w2,Below a0 W' w2→R (.returned (.tuple #[.agg #[.slice none 0 0],.int .i64 x,.int .i64 c])) w2) :
 bodyPostD Tryz.prog Tryz.f52 R (.panic [{v:=.iface 145 (.agg #[.int .i64 x,.int .i64 c]),recovered:=false}]) {tmps:=tmps,defers:=[{target:=.fn (.func 100) #[.pointer (some ⟨a0,0,none⟩),.pointer (some ⟨a0+1,0,none⟩),.pointer (some ⟨a0+1+1,0,none⟩)],args:=#[]}]} W':=by
 show Leaves _ _ _ _ _ _ _
 refine leaves_cons (f:=100) (args:=#[.pointer (some ⟨a0,0,none⟩),.pointer (some ⟨a0+1,0,none⟩),.pointer (some ⟨a0+1+1,0,none⟩)]) (by simp) (by simp [go_sem]) ?_
 refine (caught (B:=a0) h0 h1 h2 (by omega) (by omega) (by omega) (by omega) (by omega) (by omega)).mono ?_
 rintro e u' w'' ⟨rfl,rfl,hb,k0,k1,k2⟩
 exact ⟨_,res3 ht0 ht1 ht2 k0 k1 k2,hR _ hb⟩
end
section
variable {W:World} {tv:Value} {T:List Tok}
theorem all_query {q:M Nat} (hq:Reads 53 q 0) (nq:Cost 0 0 q) (htoks:W.ownsRow 0 65 4 tv T.length (toksL T)) :
 Calls Tryz.prog 52 #[tv,.func (.func 53) #[] #[]] W (PostAll W (parseAll q (T.map tk))):=by
 have hmf:=hmfA
 have hmx:=htoks.1
 obtain ⟨to_,tc,rfl⟩:=row_slice htoks
 obtain ⟨W3,hW3,hb3,k0,k1,k2,hsz⟩:=three_boxes W
 have HSZ:=Lib.hid hsz
 clear hsz
 have HW3:=Lib.hid hW3
 have HB3:=Lib.hid hb3
 have HK3:=Lib.hid (And.intro k0 (And.intro k1 k2))
 have c0:W3.cell? ⟨W.heap.size,0,none⟩=some (.slice none 0 0):=k0.cell 0
 have c1:W3.cell? ⟨W.heap.size+1,0,none⟩=some (.int .i64 0):=k1.cell 0
 have c2:W3.cell? ⟨W.heap.size+1+1,0,none⟩=some (.int .i64 0):=k2.cell 0
 have f0:=k0.free 0
 have f1:=k1.free 0
 have f2:=k2.free 0
 have r3:∀ (K:World→Prop),K W3→K (((W.alloc (.cells #[.slice none 0 0] 25)).alloc (.cells #[.int .i64 0] 3)).alloc (.cells #[.int .i64 0] 26)):=fun K h=>by rw [← HW3.out];exact h
 have hn01:W.heap.size≠W.heap.size+1:=by omega
 have hn02:W.heap.size≠W.heap.size+1+1:=by omega
 have hn12:W.heap.size+1≠W.heap.size+1+1:=by omega
 have HT:=Lib.hid htoks
 have HQ:=Lib.hid (And.intro hq nq)
 clear hb3 k0 k1 k2 htoks hq nq
 by_cases hlen:1024<T.length
 case pos =>
  have HE:=Lib.hid (show parseAll q (T.map tk)=([],0,2) by unfold parseAll;rw [if_pos (by simpa using hlen)])
  have hl2:(1024:Int)<(T.length:Int):=by omega
  have hl3:decide ((1024:Int)<(T.length:Int))=true:=decide_eq_true hl2
  have HF:=Lib.hid (boxes_put HK3.out.1 HK3.out.2.1 HK3.out.2.2 (u:=.slice none 0 0) (x:=.int .i64 0) (c:=.int .i64 2) HB3.out)
  go_enter_defers Tryz.func52,Tryz.ntmps52
  go_upto_region 1 with fail
  refine r3 _ ?_
  clear hW3
  go_wp2_with fail
  exact leave_ret rfl rfl rfl HF.out.1 HF.out.2.1 HF.out.2.2.1 ⟨_,by rw [HE.out];rfl,by rw [HE.out];exact nil_NS,HF.out.2.2.2⟩
 case neg =>
  have hl2:¬ (1024:Int)<(T.length:Int):=by omega
  have hl3:decide ((1024:Int)<(T.length:Int))=false:=decide_eq_false hl2
  obtain ⟨W4,hW4⟩:∃ W4,W4=W3.alloc (.cells #[.slice to_ T.length tc,.int .i64 0,.int .i64 0,.slice none 0 0] 147):=⟨_,rfl⟩
  have hb4:Below W3.heap.size W3 W4:=by rw [hW4];exact (Below.refl _ _).alloc (Nat.le_refl _) _
  have h4:RS W3.heap.size W3.heap.size (.slice to_ T.length tc) T 0 (T.map tk) [] (.slice none 0 0) W4:=by
   refine ⟨?_,Nat.le_refl _,own_kept (own_kept HT.out HB3.out) hb4,by simp,by simp,by omega,nil_NS⟩
   rw [hW4,List.length_map,Nat.sub_self]
   exact Blk.new W3 _ _
  have hsz4:W4.heap.size=W3.heap.size+1:=by rw [hW4];exact World.size_alloc _ _
  have HC:=Lib.hid (HQ.out.1 _ _ _ _ _ _ _ _ h4 (by omega) (by simp;omega))
  have HK4:=Lib.hid (And.intro (HK3.out.1.kept hb4) (And.intro (HK3.out.2.1.kept hb4) (HK3.out.2.2.kept hb4)))
  have HB4:=Lib.hid (HB3.out.trans (hb4.mono HB3.out.size))
  have HW4:=Lib.hid hW4
  have hcost:=HQ.out.2 (T.map tk) []
  clear h4 hb4 hsz4
  go_enter_defers Tryz.func52,Tryz.ntmps52
  go_upto_region 1 with fail
  refine r3 _ ?_
  clear hW3
  go_wp2_with fail
  rw [show W3.alloc (.cells #[.slice to_ T.length tc,.int .i64 0,.int .i64 0,.slice none 0 0] 147)=W4 from HW4.out.symm]
  clear hW4
  refine HC.out.mono ?_
  rintro e w5 hp
  rcases hr:q (T.map tk) [] with ⟨k,long⟩ | ⟨a,ts1,ns1⟩
  ·rw [hr] at hp
   obtain ⟨rfl,nv5,s5⟩:=hp
   have HE:=Lib.hid (show parseAll q (T.map tk)=([],T.length-k,codeOf long) by unfold parseAll;rw [if_neg (by simpa using hlen),hr];simp)
   have HF:=Lib.hid (boxes_on HK4.out.1 HK4.out.2.1 HK4.out.2.2 HB4.out s5 (Nat.le_of_eq HSZ.out.symm))
   clear hr s5
   unfold Bad
   go_wp2_with fail
   exact leave_bad rfl rfl rfl HF.out.1 HF.out.2.1 HF.out.2.2.1 fun w6 hb6=>⟨_,by rw [HE.out],by rw [HE.out];exact nil_NS,HF.out.2.2.2.trans hb6⟩
  rw [hr] at hp
  obtain ⟨nv5,rfl,h5,s5⟩:=hp
  have HF:=Lib.hid (boxes_on HK4.out.1 HK4.out.2.1 HK4.out.2.2 HB4.out s5 (Nat.le_of_eq HSZ.out.symm))
  have H5:=Lib.hid h5
  obtain ⟨no,nc,rfl⟩:∃ o c,nv5=.slice o ns1.length c:=by
   obtain ⟨ms,_,ho,_⟩:=h5.nodes
   exact row_slice ho
  obtain ⟨i,hi⟩:∃ i,i=T.length-ts1.length:=⟨_,rfl⟩
  have b1:w5.cell? ⟨W3.heap.size,1,none⟩=some (.int .i64 (i:Int)):=by rw [hi];exact h5.box.cell 1
  have b3:w5.cell? ⟨W3.heap.size,3,none⟩=some (.slice no ns1.length nc):=h5.box.cell 3
  have hsh:=h5.short
  clear h5 s5 c0 c1 c2 f0 f1 f2
  cases hz:ts1 with
  | cons t1 tr =>
    have hlt:(i:Int)<(T.length:Int):=by rw [hz] at hsh hi;simp only [List.length_cons] at hsh hi;omega
    have hd:decide ((i:Int)<(T.length:Int))=true:=decide_eq_true hlt
    have HE:=Lib.hid (show parseAll q (T.map tk)=([],T.length-ts1.length,120) by
     unfold parseAll
     rw [if_neg (by simpa using hlen),hr]
     dsimp only
     rw [if_pos (by rw [hz];simp),List.length_map])
    have HFL:=Lib.hid (fail_any H5.out)
    clear hr hz hi
    go_wp2_with fail
    refine HFL.out.mono ?_
    rintro e w6 ⟨rfl,rfl⟩
    unfold Bad
    go_wp2_with fail
    exact leave_bad rfl rfl rfl HF.out.1 HF.out.2.1 HF.out.2.2.1 fun w6 hb6=>⟨_,by rw [HE.out];rfl,by rw [HE.out];exact nil_NS,HF.out.2.2.2.trans hb6⟩
  | nil =>
    have hlt:¬ (i:Int)<(T.length:Int):=by rw [hz] at hi;simp only [List.length_nil] at hi;omega
    have hd:decide ((i:Int)<(T.length:Int))=false:=decide_eq_false hlt
    have c0:w5.cell? ⟨W.heap.size,0,none⟩=some (.slice none 0 0):=HF.out.1.cell 0
    have c1:w5.cell? ⟨W.heap.size+1,0,none⟩=some (.int .i64 0):=HF.out.2.1.cell 0
    have c2:w5.cell? ⟨W.heap.size+1+1,0,none⟩=some (.int .i64 0):=HF.out.2.2.1.cell 0
    have f0:=HF.out.1.free 0
    have f1:=HF.out.2.1.free 0
    have f2:=HF.out.2.2.1.free 0
    have hns:=hcost _ _ _ hr
    by_cases hmany:128<ns1.length
    ·have HE:=Lib.hid (show parseAll q (T.map tk)=([],0,2) by
      unfold parseAll
      rw [if_neg (by simpa using hlen),hr]
      dsimp only
      rw [if_neg (by rw [hz];simp),if_pos hmany])
     have hm2:(128:Int)<(ns1.length:Int):=by omega
     have hm3:decide ((128:Int)<(ns1.length:Int))=true:=decide_eq_true hm2
     have HG:=Lib.hid (boxes_put HF.out.1 HF.out.2.1 HF.out.2.2.1 (u:=.slice none 0 0) (x:=.int .i64 0) (c:=.int .i64 2) HF.out.2.2.2)
     clear hr hz hi
     go_wp2_with fail
     exact leave_ret rfl rfl rfl HG.out.1 HG.out.2.1 HG.out.2.2.1 ⟨_,by rw [HE.out];rfl,by rw [HE.out];exact nil_NS,HG.out.2.2.2⟩
    ·have HE:=Lib.hid (show parseAll q (T.map tk)=(ns1,0,0) by
      unfold parseAll
      rw [if_neg (by simpa using hlen),hr]
      dsimp only
      rw [if_neg (by rw [hz];simp),if_neg hmany])
     have hm2:¬ (128:Int)<(ns1.length:Int):=by omega
     have hm3:decide ((128:Int)<(ns1.length:Int))=false:=decide_eq_false hm2
     have HG:=Lib.hid (boxes_put HF.out.1 HF.out.2.1 HF.out.2.2.1 (u:=.slice no ns1.length nc) (x:=.int .i64 0) (c:=.int .i64 0) HF.out.2.2.2)
     have HN:=Lib.hid (nodes_put H5.out.nodes (u:=.slice no ns1.length nc) (x:=.int .i64 0) (c:=.int .i64 0) (a:=W.heap.size) (Nat.le_of_eq HSZ.out.symm))
     clear hr hz hi
     go_wp2_with fail
     exact leave_ret rfl rfl rfl HG.out.1 HG.out.2.1 HG.out.2.2.1 ⟨_,by rw [HE.out];rfl,by rw [HE.out];exact HN.out,HG.out.2.2.2⟩
end
end Go.Proofs.YtnaehhpikhlppaaGreatDoor

namespace Go.Proofs.YtnaehhpikhlppaaGreatDoor
open Go.RowKit LexS ParS BigFrame
attribute [local go_sem] World.cell?_alloc_some cell_drewN_new free_drewN_new cell_drew_new free_drew_new
section
variable {W:World} {tv:Value} {T:List Tok}
theorem res_q {f:Func} {r q u g:Nat} {tmps:Array Value} {w:World} {nv b c:Value} (hf:f.results=#[.cell r 25,.tmp q,.tmp u]) (ht:tmps[r]?.getD undef=.pointer (some ⟨g,0,none⟩)) (hq:tmps[q]?.getD undef=b) (hu:tmps[u]?.getD undef=c)
 (h:Blk w g 25 #[nv]):(results f tmps).run Tryz.prog w=.ok (.tuple #[.agg #[nv],b,c]) w:=by
 have e0:w.cell? ⟨g,0,none⟩=some nv:=h.cell 0
 simp [results,hf,go_sem,ht,hq,hu,e0]
theorem cost_query (d:Nat):Cost 0 0 (pQuery d):=cost_queryOf (cost_step (cost_inner d) (cost_pCond d))
theorem one_put {W W0 w1:World} {nv:Value} {ns:List Nd} (hb0:Below W.heap.size W W0) (hs0:W.heap.size<W0.heap.size) (k0:Blk W0 W.heap.size 25 #[.slice none 0 0]) (hn:NS w1 W0.heap.size nv ns) (hb:Below W0.heap.size W0 w1) :
 Blk (w1.setCell ⟨W.heap.size,0,none⟩ nv) W.heap.size 25 #[nv]∧NS (w1.setCell ⟨W.heap.size,0,none⟩ nv) W.heap.size nv ns∧Below W.heap.size W (w1.setCell ⟨W.heap.size,0,none⟩ nv) :=
 ⟨(k0.kept hb).put 0 nv,hn.high (fun k hk=>Below.heap_setCell _ _ _ _ (show k≠W.heap.size by omega)) (by omega),(hb0.trans (hb.mono (Nat.le_of_lt hs0))).setCell (p:=⟨W.heap.size,0,none⟩) (Nat.le_refl _) nv⟩
theorem parse_any (htoks:W.ownsRow 0 65 4 tv T.length (toksL T)):Calls Tryz.prog 29 #[tv] W (PostAll W (parseS T)):=by
 obtain ⟨W0,hW0⟩:∃ W0,W0=W.alloc (.cells #[.slice none 0 0] 25):=⟨_,rfl⟩
 have hb0:Below W.heap.size W W0:=by rw [hW0];exact (Below.refl _ _).alloc (Nat.le_refl _) _
 have k0:Blk W0 W.heap.size 25 #[.slice none 0 0]:=by rw [hW0];exact Blk.new W _ _
 have hs0:W.heap.size<W0.heap.size:=k0.lt
 have HA:=Lib.hid (all_query (pQuery_reads 16 0 rfl) (cost_query 16) (own_kept htoks hb0))
 have HK:=Lib.hid (And.intro hb0 (And.intro hs0 k0))
 have HW0:=Lib.hid hW0
 clear hb0 k0 hs0 htoks
 go_enter Tryz.func29,Tryz.ntmps29
 go_wp2_with fail
 rw [show W.alloc (.cells #[.slice none 0 0] 25)=W0 from HW0.out.symm]
 clear hW0
 refine HA.out.mono ?_
 rintro e w1 ⟨nv,rfl,hn,hb⟩
 obtain ⟨no,nc,rfl⟩:∃ o c,nv=.slice o (parseS T).1.length c:=by
  obtain ⟨ms,_,ho,_⟩:=hn
  exact row_slice ho
 have k1:=HK.out.2.2.kept hb
 have c0:w1.cell? ⟨W.heap.size,0,none⟩=some (.slice none 0 0):=k1.cell 0
 have f0:=k1.free 0
 have HF:=Lib.hid (one_put HK.out.1 HK.out.2.1 HK.out.2.2 hn hb)
 clear hn hb k1
 go_wp2_with fail
 exact bodyPost_ret (res_q Tryz.results29 rfl rfl rfl HF.out.1) rfl ⟨_,rfl,HF.out.2.1,HF.out.2.2⟩
end
end Go.Proofs.YtnaehhpikhlppaaGreatDoor

namespace Go.Proofs.YtnaehhpikhlppaaGreatDoor
open Go.RowKit LexS ParS BigFrame
attribute [local go_sem] World.cell?_alloc_some cell_drewN_new free_drewN_new cell_drew_new free_drew_new
end Go.Proofs.YtnaehhpikhlppaaGreatDoor
namespace Go.Proofs.YtnaehhpikhlppaaGreatDoor
open Go.RowKit LexS ParS BigFrame
theorem cellsM_cons (a:NodeM) (l:List NodeM):cellsM (a::l)=a.cells++cellsM l:=by simp [cellsM]
theorem cellsM_get:∀ (l:List NodeM) (i:Nat) (t:NodeM) (j:Nat),l[i]?=some t→j<19→(cellsM l)[i*19+j]?=t.cells[j]?
 | [],i,t,j,h,_=>by simp at h
 | a::l,0,t,j,h,hj=>by
   simp only [List.getElem?_cons_zero,Option.some.injEq] at h
   subst h
   rw [cellsM_cons,Nat.zero_mul,Nat.zero_add,List.getElem?_append_left (by simp [NodeM.cells];omega)]
 | a::l,i+1,t,j,h,hj=>by
   have ha:a.cells.length=19:=rfl
   rw [cellsM_cons,List.getElem?_append_right (by rw [ha];omega),ha]
   have:(i+1)*19+j-19=i*19+j:=by omega
   rw [this]
   exact cellsM_get l i t j (by simpa using h) hj
theorem nodes_row {W:World} {base:Nat} {nv:Value} {ns:List Nd} (h:NS W base nv ns) :
 ∃ p cap,nv=.slice p ns.length cap∧ns.length≤cap∧ns.length≤maxLen∧(ns ≠ []→∃ g,p=some ⟨g,0,none⟩∧base≤g∧g<W.heap.size ∧
   ∀ i nd,ns[i]?=some nd→∃ m:NodeM,m.node=nd∧MOk W base m∧∀ j v,j<19→m.cells[j]?=some v→W.cell? ⟨g,i*19+j,none⟩=some v):=by
 obtain ⟨ms,hms,ho,hall⟩:=h
 have hf:=fun g hg=>ho.cells (g:=g) hg
 have hlt:=ho.lt
 have hlen:ms.length=ns.length:=by rw [← hms,List.length_map]
 rcases ho.2 with ⟨h1,h2⟩ | ⟨g,cap,cur,h2,h3,h4,h5,h6,_⟩
 ·exact ⟨none,0,by rw [h2];exact h1,by omega,by rw [h2];exact Nat.zero_le _,fun hc=>absurd (List.eq_nil_of_length_eq_zero h2) hc⟩
 ·subst h2
  refine ⟨_,cap,rfl,h5,Nat.le_trans h5 h6,fun _=>⟨g,rfl,h3,(hlt g rfl).2,fun i nd hi=>?_⟩⟩
  have hi2:(ms.map (·.node))[i]?=some nd:=by rw [hms];exact hi
  rw [List.getElem?_map] at hi2
  obtain ⟨m,hm,hmn⟩:=Option.map_eq_some_iff.1 hi2
  refine ⟨m,hmn,hall m (List.mem_of_getElem? hm),fun j v hj hv=>?_⟩
  have:=hf g rfl (i*19+j) v (by rw [cellsM_get ms i m j hm hj];exact hv)
  rwa [Addr.add_lit,Nat.zero_add] at this
theorem ints_row {W:World} {base:Nat} {v:Value} {l:List Nat} (h:W.ownsRow base 3 1 v l.length (intsL l)) :
 ∃ p cap,v=.slice p l.length cap∧l.length≤cap∧l.length≤maxLen∧(l ≠ []→∃ g,p=some ⟨g,0,none⟩∧∀ (i x:Nat),l[i]?=some x→W.cell? ⟨g,i,none⟩=some (.int .i64 (x:Int))):=by
 have hf:=fun g hg=>h.cells (g:=g) hg
 rcases h.2 with ⟨h1,h2⟩ | ⟨g,cap,cur,h2,h3,h4,h5,h6,_⟩
 ·exact ⟨none,0,by rw [h2];exact h1,by omega,by rw [h2];exact Nat.zero_le _,fun hc=>absurd (List.eq_nil_of_length_eq_zero h2) hc⟩
 ·subst h2
  refine ⟨_,cap,rfl,h5,Nat.le_trans h5 h6,fun _=>⟨g,rfl,fun i x hi=>?_⟩⟩
  have:=hf g rfl i (.int .i64 (x:Int)) (by unfold intsL;rw [List.getElem?_map,hi];rfl)
  rwa [Addr.add_lit,Nat.zero_add] at this
end Go.Proofs.YtnaehhpikhlppaaGreatDoor
namespace Go.Proofs.YtnaehhpikhlppaaGreatDoor
open Go.RowKit LexS ParS BigFrame
attribute [local go_sem] World.cell?_alloc_some cell_drewN_new free_drewN_new cell_drew_new free_drew_new
end Go.Proofs.YtnaehhpikhlppaaGreatDoor

namespace Go.Proofs.YtnaehhpikhlppaaGreatDoor
open Go.RowKit LexS ParS BigFrame
theorem undVal:Tryz.prog.underlying 37=some (.struct (Tryz.prog.fieldsOf 37)):=by kernel_rfl
theorem stVal:Tryz.prog.stoodInHeld 37=false:=by kernel_rfl
theorem fldVal:(Tryz.prog.fieldsOf 37).toList=[⟨"Kind",3,0,false,"","",0⟩,⟨"N",3,1,false,"","",8⟩,⟨"S",9,2,false,"","",16⟩,⟨"H",35,3,false,"","",32⟩]:=by kernel_rfl
abbrev zero8:Value:=.agg #[.int .i64 0,.int .i64 0,.int .i64 0,.int .i64 0,.int .i64 0,.int .i64 0,.int .i64 0,.int .i64 0]
theorem eqZero (W:World):(Op.equalIn 9999 35 zero8 zero8).run Tryz.prog W=.ok true W:=by kernel_rfl
theorem partH (v:Val) (W:World):(part 35 (valA v) 3).run Tryz.prog W=.ok zero8 W:=by kernel_rfl
theorem partS (v:Val) (W:World):(part 9 (valA v) 2).run Tryz.prog W=.ok (.string (BA v.s)) W:=by kernel_rfl
theorem partN (v:Val) (W:World):(part 3 (valA v) 1).run Tryz.prog W=.ok (.int .i64 v.n) W:=by kernel_rfl
theorem partK (v:Val) (W:World):(part 3 (valA v) 0).run Tryz.prog W=.ok (.int .i64 (v.kind:Int)) W:=by kernel_rfl
theorem undI:Tryz.prog.underlying 3=some (.int .i64):=by kernel_rfl
theorem undS:Tryz.prog.underlying 9=some .string:=by kernel_rfl
theorem eq_val (v:Val) (W:World):(Op.equalIn 10000 37 (.agg (valA v)) (.agg (valA v))).run Tryz.prog W=.ok true W:=by
 rw [run_equalIn_agg (P:=Tryz.prog) W 9999 37 (valA v) (valA v) undVal stVal,fldVal]
 simp only [Op.eqFields,Sem.run_bind,Sem.run_ite,partK,partN,partS,partH,Result.andThen_ok,eqZero,run_equalIn_int (P:=Tryz.prog) _ 9998 3 .i64 .i64 _ _ undI,run_equalIn_string (P:=Tryz.prog) _ 9998 9 _ _ undS,beq_self_eq_true]
 simp
attribute [local go_sem] eqZero
theorem row_cells {W:World} {base size n:Nat} {e:TypeId} {v:Value} {xs:List Value} (h:W.ownsRow base e size v n xs) :
 ∃ p cap,v=.slice p n cap∧n≤cap∧n≤maxLen∧(0<n→∃ g,p=some ⟨g,0,none⟩∧∀ (j:Nat) (u:Value),xs[j]?=some u→W.cell? ⟨g,j,none⟩=some u):=by
 have hf:=fun g hg=>h.cells (g:=g) hg
 rcases h.2 with ⟨h1,h2⟩ | ⟨g,cap,cur,h2,h3,h4,h5,h6,_⟩
 ·exact ⟨none,0,by rw [h2];exact h1,by omega,by rw [h2];exact Nat.zero_le _,fun hc=>by omega⟩
 ·subst h2
  refine ⟨_,cap,rfl,h5,Nat.le_trans h5 h6,fun _=>⟨g,rfl,fun j u hj=>?_⟩⟩
  have:=hf g rfl j u hj
  rwa [Addr.add_lit,Nat.zero_add] at this
theorem intsL_get {l:List Nat} {i x:Nat} (h:l[i]?=some x):(intsL l)[i]?=some (.int .i64 (x:Int)):=by
 unfold intsL
 rw [List.getElem?_map,h]
 rfl
theorem strsL_get {l:List Bytes} {i:Nat} {x:Bytes} (h:l[i]?=some x):(strsL l)[i]?=some (.string (BA x)):=by
 unfold strsL
 rw [List.getElem?_map,h]
 rfl
theorem aggsL_cons (a:Nat×Bytes) (l:List (Nat×Bytes)):aggsL (a::l)=[.int .i64 (a.1:Int),.string (BA a.2)]++aggsL l:=by simp [aggsL]
theorem aggsL_get:∀ (l:List (Nat×Bytes)) (i:Nat) (a:Nat×Bytes),l[i]?=some a→(aggsL l)[i*2]?=some (.int .i64 (a.1:Int))∧(aggsL l)[i*2+1]?=some (.string (BA a.2))
 | [],i,a,h=>by simp at h
 | b::l,0,a,h=>by
   simp only [List.getElem?_cons_zero,Option.some.injEq] at h
   subst h
   rw [aggsL_cons]
   exact ⟨rfl,rfl⟩
 | b::l,i+1,a,h=>by
   have:=aggsL_get l i a (by simpa using h)
   rw [aggsL_cons,show (i+1)*2=(i*2)+2 by omega]
   exact this
theorem same_node {W:World} {nd:Nd} {lv nv av lv2 nv2 av2:Value} {b1 b2:Nat} (h1:MOk W b1 ⟨nd,lv,nv,av⟩) (h2:MOk W b2 ⟨nd,lv2,nv2,av2⟩) :
 Calls Tryz.prog 16 #[.agg (NodeM.cells ⟨nd,lv,nv,av⟩).toArray,.agg (NodeM.cells ⟨nd,lv2,nv2,av2⟩).toArray] W fun e W'=>e=.returned (.bool true)∧Below W.heap.size W W':=by
 obtain ⟨x,hx⟩:∃ x,x=(NodeM.cells ⟨nd,lv,nv,av⟩).toArray:=⟨_,rfl⟩
 obtain ⟨y,hy⟩:∃ y,y=(NodeM.cells ⟨nd,lv2,nv2,av2⟩).toArray:=⟨_,rfl⟩
 obtain ⟨w2,hw2⟩:∃ w2,w2=(W.alloc (.cells x 42)).alloc (.cells y 42):=⟨_,rfl⟩
 have hb2:Below W.heap.size W w2:=by rw [hw2];exact ((Below.refl _ _).alloc (Nat.le_refl _) _).alloc (by rw [World.size_alloc];omega) _
 have x0:Blk w2 W.heap.size 42 (NodeM.cells ⟨nd,lv,nv,av⟩).toArray:=by
  rw [hw2,← hx]
  exact (Blk.new W _ _).kept ((Below.refl _ _).alloc (Nat.le_refl _) _)
 have y0:Blk w2 (W.heap.size+1) 42 (NodeM.cells ⟨nd,lv2,nv2,av2⟩).toArray:=by
  rw [hw2,← hy]
  have:=Blk.new (W.alloc (.cells x 42)) 42 y
  rwa [World.size_alloc] at this
 rw [← hx,← hy]
 have M1:=Lib.hid (h1.kept hb2)
 have M2:=Lib.hid (h2.kept hb2)
 have HW2:=Lib.hid hw2
 have HB2:=Lib.hid hb2
 obtain ⟨pl,cl,hlv,_,ql2,ql3⟩:=row_cells (M1.out.l)
 obtain ⟨pl2,cl2,hlv2,_,_,rl3⟩:=row_cells (M2.out.l)
 obtain ⟨pn,cn,hnv,_,qn2,qn3⟩:=row_cells M1.out.names
 obtain ⟨pn2,cn2,hnv2,_,_,rn3⟩:=row_cells M2.out.names
 obtain ⟨pa,ca,hav,_,qa2,qa3⟩:=row_cells M1.out.aggs
 obtain ⟨pa2,ca2,hav2,_,_,ra3⟩:=row_cells M2.out.aggs
 dsimp only at hlv hlv2 hnv hnv2 hav hav2 ql2 ql3 rl3 qn2 qn3 rn3 qa2 qa3 ra3
 have HL:=Lib.hid (And.intro ql3 rl3)
 have HN:=Lib.hid (And.intro qn3 rn3)
 have HA:=Lib.hid (And.intro qa3 ra3)
 simp only [maxLen] at ql2 qn2 qa2
 clear ql3 rl3 qn3 rn3 qa3 ra3
 subst hlv hlv2 hnv hnv2 hav hav2
 have c0:w2.cell? ⟨W.heap.size,0,none⟩=some (.int .i64 (nd.kind:Int)):=x0.cell 0
 have c1:w2.cell? ⟨W.heap.size,1,none⟩=some (.string (BA nd.s)):=x0.cell 1
 have c2:w2.cell? ⟨W.heap.size,2,none⟩=some (.int .i64 nd.n):=x0.cell 2
 have c3:w2.cell? ⟨W.heap.size,3,none⟩=some (.int .i64 nd.from_):=x0.cell 3
 have c4:w2.cell? ⟨W.heap.size,4,none⟩=some (.int .i64 nd.to_):=x0.cell 4
 have c5:w2.cell? ⟨W.heap.size,5,none⟩=some (.int .i64 (nd.v.kind:Int)):=x0.cell 5
 have c6:w2.cell? ⟨W.heap.size,6,none⟩=some (.int .i64 nd.v.n):=x0.cell 6
 have c7:w2.cell? ⟨W.heap.size,7,none⟩=some (.string (BA nd.v.s)):=x0.cell 7
 have c8:w2.cell? ⟨W.heap.size,8,none⟩=some (.int .i64 0):=x0.cell 8
 have c9:w2.cell? ⟨W.heap.size,9,none⟩=some (.int .i64 0):=x0.cell 9
 have c10:w2.cell? ⟨W.heap.size,10,none⟩=some (.int .i64 0):=x0.cell 10
 have c11:w2.cell? ⟨W.heap.size,11,none⟩=some (.int .i64 0):=x0.cell 11
 have c12:w2.cell? ⟨W.heap.size,12,none⟩=some (.int .i64 0):=x0.cell 12
 have c13:w2.cell? ⟨W.heap.size,13,none⟩=some (.int .i64 0):=x0.cell 13
 have c14:w2.cell? ⟨W.heap.size,14,none⟩=some (.int .i64 0):=x0.cell 14
 have c15:w2.cell? ⟨W.heap.size,15,none⟩=some (.int .i64 0):=x0.cell 15
 have c16:w2.cell? ⟨W.heap.size,16,none⟩=some (.slice pl nd.l.length cl):=x0.cell 16
 have c17:w2.cell? ⟨W.heap.size,17,none⟩=some (.slice pn nd.names.length cn):=x0.cell 17
 have c18:w2.cell? ⟨W.heap.size,18,none⟩=some (.slice pa nd.aggs.length ca):=x0.cell 18
 have d0:w2.cell? ⟨W.heap.size+1,0,none⟩=some (.int .i64 (nd.kind:Int)):=y0.cell 0
 have d1:w2.cell? ⟨W.heap.size+1,1,none⟩=some (.string (BA nd.s)):=y0.cell 1
 have d2:w2.cell? ⟨W.heap.size+1,2,none⟩=some (.int .i64 nd.n):=y0.cell 2
 have d3:w2.cell? ⟨W.heap.size+1,3,none⟩=some (.int .i64 nd.from_):=y0.cell 3
 have d4:w2.cell? ⟨W.heap.size+1,4,none⟩=some (.int .i64 nd.to_):=y0.cell 4
 have d5:w2.cell? ⟨W.heap.size+1,5,none⟩=some (.int .i64 (nd.v.kind:Int)):=y0.cell 5
 have d6:w2.cell? ⟨W.heap.size+1,6,none⟩=some (.int .i64 nd.v.n):=y0.cell 6
 have d7:w2.cell? ⟨W.heap.size+1,7,none⟩=some (.string (BA nd.v.s)):=y0.cell 7
 have d8:w2.cell? ⟨W.heap.size+1,8,none⟩=some (.int .i64 0):=y0.cell 8
 have d9:w2.cell? ⟨W.heap.size+1,9,none⟩=some (.int .i64 0):=y0.cell 9
 have d10:w2.cell? ⟨W.heap.size+1,10,none⟩=some (.int .i64 0):=y0.cell 10
 have d11:w2.cell? ⟨W.heap.size+1,11,none⟩=some (.int .i64 0):=y0.cell 11
 have d12:w2.cell? ⟨W.heap.size+1,12,none⟩=some (.int .i64 0):=y0.cell 12
 have d13:w2.cell? ⟨W.heap.size+1,13,none⟩=some (.int .i64 0):=y0.cell 13
 have d14:w2.cell? ⟨W.heap.size+1,14,none⟩=some (.int .i64 0):=y0.cell 14
 have d15:w2.cell? ⟨W.heap.size+1,15,none⟩=some (.int .i64 0):=y0.cell 15
 have d16:w2.cell? ⟨W.heap.size+1,16,none⟩=some (.slice pl2 nd.l.length cl2):=y0.cell 16
 have d17:w2.cell? ⟨W.heap.size+1,17,none⟩=some (.slice pn2 nd.names.length cn2):=y0.cell 17
 have d18:w2.cell? ⟨W.heap.size+1,18,none⟩=some (.slice pa2 nd.aggs.length ca2):=y0.cell 18
 have r2:∀ (K:World→Prop),K w2→K ((W.alloc (.cells x 42)).alloc (.cells y 42)):=fun K h=>by rw [← HW2.out];exact h
 have HR2:=Lib.hid r2
 clear hx hy hw2 r2 x0 y0 hb2 h1 h2
 go_enter Tryz.func16,Tryz.ntmps16
 go_upto_region 1 with fail
 refine HR2.out _ ?_
 go_wp2_with fail
 go_loopg [5] (nd.l.length+1) (fun gk c wr => ∃ i:Nat,i≤nd.l.length∧nd.l.length<i+gk∧c=.int .i64 (i:Int)∧Drawn w2 wr)
 case atStart=>exact ⟨0,Nat.zero_le _,by omega,rfl,0,rfl⟩
 case round =>
  obtain ⟨i,hi,hgk,rfl,k,rfl⟩:=hrel
  by_cases hlt:i<nd.l.length
  ·obtain ⟨g,rfl,hg⟩:=HL.out.1 (by omega)
   obtain ⟨g2,rfl,hg2⟩:=HL.out.2 (by omega)
   obtain ⟨x_,hx_⟩:∃ x,nd.l[i]?=some x:=⟨nd.l[i],List.getElem?_eq_getElem hlt⟩
   have u1:=hg _ _ (intsL_get hx_)
   have u2:=hg2 _ _ (intsL_get hx_)
   have n1:(i:Int)<(nd.l.length:Int):=by omega
   have n2:(0:Int)≤(i:Int):=by omega
   have n3:decide ((i:Int)<(nd.l.length:Int))=true:=decide_eq_true n1
   have w1_:IntKind.i64.wrap ((i:Int)+1)=(i:Int)+1:=IntWalk.i64_in _ (by omega)
   clear hg hg2 hx_
   go_wp2_with fail
   go_region
   go_wp2_with fail
   go_roundg (nd.l.length-i)
   case measure=>omega
   case rel=>exact ⟨i+1,by omega,by omega,rfl,Drawn.more ⟨k,rfl⟩ 1⟩
  ·have n1:¬ (i:Int)<(nd.l.length:Int):=by omega
   have n3:decide ((i:Int)<(nd.l.length:Int))=false:=decide_eq_false n1
   clear hi hgk hlt
   go_wp2_with fail
   go_loopg [6] (nd.names.length+1) (fun gk c wr => ∃ i:Nat,i≤nd.names.length∧nd.names.length<i+gk∧c=.int .i64 (i:Int)∧Drawn w2 wr)
   case atStart=>exact ⟨0,Nat.zero_le _,by omega,rfl,_,rfl⟩
   case round =>
    obtain ⟨i,hi,hgk,rfl,k,rfl⟩:=hrel
    by_cases hlt:i<nd.names.length
    ·obtain ⟨g,rfl,hg⟩:=HN.out.1 (by omega)
     obtain ⟨g2,rfl,hg2⟩:=HN.out.2 (by omega)
     obtain ⟨x_,hx_⟩:∃ x,nd.names[i]?=some x:=⟨nd.names[i],List.getElem?_eq_getElem hlt⟩
     have u1:=hg _ _ (strsL_get hx_)
     have u2:=hg2 _ _ (strsL_get hx_)
     have n1:(i:Int)<(nd.names.length:Int):=by omega
     have n2:(0:Int)≤(i:Int):=by omega
     have n3:decide ((i:Int)<(nd.names.length:Int))=true:=decide_eq_true n1
     have w1_:IntKind.i64.wrap ((i:Int)+1)=(i:Int)+1:=IntWalk.i64_in _ (by omega)
     clear hg hg2 hx_
     go_wp2_with fail
     go_region
     go_wp2_with fail
     go_roundg (nd.names.length-i)
     case measure=>omega
     case rel=>exact ⟨i+1,by omega,by omega,rfl,Drawn.more ⟨k,rfl⟩ 1⟩
    ·have n1:¬ (i:Int)<(nd.names.length:Int):=by omega
     have n3:decide ((i:Int)<(nd.names.length:Int))=false:=decide_eq_false n1
     clear hi hgk hlt
     go_wp2_with fail
     go_loopg [7] (nd.aggs.length+1) (fun gk c wr => ∃ i:Nat,i≤nd.aggs.length∧nd.aggs.length<i+gk∧c=.int .i64 (i:Int)∧Drawn w2 wr)
     case atStart=>exact ⟨0,Nat.zero_le _,by omega,rfl,_,rfl⟩
     case round =>
      obtain ⟨i,hi,hgk,rfl,k,rfl⟩:=hrel
      by_cases hlt:i<nd.aggs.length
      ·obtain ⟨g,rfl,hg⟩:=HA.out.1 (by omega)
       obtain ⟨g2,rfl,hg2⟩:=HA.out.2 (by omega)
       obtain ⟨x_,hx_⟩:∃ x,nd.aggs[i]?=some x:=⟨nd.aggs[i],List.getElem?_eq_getElem hlt⟩
       have u1:=hg _ _ (aggsL_get _ _ _ hx_).1
       have u2:=hg _ _ (aggsL_get _ _ _ hx_).2
       have u3:=hg2 _ _ (aggsL_get _ _ _ hx_).1
       have u4:=hg2 _ _ (aggsL_get _ _ _ hx_).2
       have n1:(i:Int)<(nd.aggs.length:Int):=by omega
       have n2:(0:Int)≤(i:Int):=by omega
       have n3:decide ((i:Int)<(nd.aggs.length:Int))=true:=decide_eq_true n1
       have w1_:IntKind.i64.wrap ((i:Int)+1)=(i:Int)+1:=IntWalk.i64_in _ (by omega)
       clear hg hg2 hx_
       go_wp2_with fail
       go_region
       go_wp2_with fail
       go_roundg (nd.aggs.length-i)
       case measure=>omega
       case rel=>exact ⟨i+1,by omega,by omega,rfl,Drawn.more ⟨k,rfl⟩ 1⟩
      ·have n1:¬ (i:Int)<(nd.aggs.length:Int):=by omega
       have n3:decide ((i:Int)<(nd.aggs.length:Int))=false:=decide_eq_false n1
       clear hi hgk hlt
       go_wp2_with fail
       exact bodyPost_ret (results_tmp rfl _ _ _) rfl ⟨rfl,HB2.out.trans ⟨rfl,rfl,rfl,Nat.le_refl _,fun _ _=>rfl⟩⟩
end Go.Proofs.YtnaehhpikhlppaaGreatDoor
