/- Several texts of the proof, joined. -/
import Derived.Test.YtnaehhpikhlppaaGreatDoorE29
import Derived.Test.YtnaehhpikhlppaaGreatDoorE31
import Derived.Deep.CutBlock
set_option maxHeartbeats 4000000
set_option maxRecDepth 100000
set_option linter.unusedVariables false
set_option linter.unusedSimpArgs false
namespace Go.Proofs.YtnaehhpikhlppaaGreatDoor
open Go.RowKit LexS ParS BigFrame
theorem valid_any {v:Val} (h:ValOk v) (hs:v.s.length≤64) (w:World):Calls Tryz.prog 85 #[.agg (valA v)] w fun e w'=>e=.returned (.bool true)∧Below w.heap.size w w':=by
 obtain ⟨k,n,s⟩:=v
 unfold ValOk at h
 dsimp only at h hs
 rcases h with ⟨rfl,rfl⟩ | ⟨rfl,rfl⟩ | ⟨rfl,rfl,hn⟩
 ·exact valid_int n w
 ·exact valid_str s hs w
 ·exact valid_bool n hn w
def Wds (w0:World) (v:Value) (ws:List Bytes) (W:World):Prop:=(∃ b,W.ownsRow b 9 1 v ws.length (strsL ws))∧(∀ s∈ws,LexT (wd s))∧Below w0.heap.size w0 W
theorem Wds.slice {w0 W:World} {v:Value} {ws:List Bytes} (h:Wds w0 v ws W):∃ o c,v=.slice o ws.length c:=by
 obtain ⟨⟨b,hb⟩,_⟩:=h
 exact row_slice hb
theorem Wds.clone {w0 W:World} {v:Value} {ws:List Bytes} (h:Wds w0 v ws W) (hl:ws.length≤100000) (W1:World) (hb:Below W.heap.size W W1) :
 Calls Tryz.prog 84 #[v] W1 fun e W' => ∃ u,e=.returned u∧W'.ownsRow W1.heap.size 9 1 u ws.length (strsL ws)∧Below W1.heap.size W1 W':=by
 obtain ⟨⟨b,hr⟩,_⟩:=h
 exact clone_strs hr hl W1 hb
theorem Wds.more {w0 W W2 W3:World} {v u v':Value} {ws:List Bytes} {s:Bytes} {b:Nat} (h:Wds w0 v ws W) (hs:LexT (wd s)) (hb:Below W.heap.size W W2) (ho:W3.ownsRow b 9 1 v' (ws.length+1) (strsL ws++[.string (BA s)])) (hg:W2.grownBy W3 u.ownBlock)
 (hu:∀ k,u.ownBlock=some k→W.heap.size≤k):Wds w0 v' (ws++[s]) W3:=by
 obtain ⟨_,h2,h3⟩:=h
 refine ⟨⟨b,?_⟩,?_,?_⟩
 ·rw [List.length_append]
  show W3.ownsRow b 9 1 v' (ws.length+1) (strsL (ws++[s]))
  rw [show strsL (ws++[s])=strsL ws++[.string (BA s)] by simp [strsL]]
  exact ho
 ·intro x hx
  rcases List.mem_append.1 hx with hx | hx
  ·exact h2 x hx
  ·rw [List.mem_singleton] at hx
   subst hx
   exact hs
 ·exact (chain h3 hb).grown hg (chain h3 hb).size (fun k hk=>Nat.le_trans h3.size (hu k hk))
abbrev zeroV:Value:=.agg (valA ⟨0,0,[]⟩)
attribute [local go_sem] eqZero
theorem eql_zero (W:World):(binOp .eql 37 zeroV zeroV).run Tryz.prog W=.ok (.bool true) W:=by
 rw [run_eql_struct]
 rw [eq_val]
 rfl
theorem eql_other {v:Val} (h:v.kind≠0) (W:World):(binOp .eql 37 (.agg (valA v)) zeroV).run Tryz.prog W=.ok (.bool false) W:=by
 rw [run_eql_struct,run_equalIn_agg (P:=Tryz.prog) W 9999 37 (valA v) (valA ⟨0,0,[]⟩) undVal stVal,fldVal]
 have e2:((v.kind:Int) == 0)=false:=by rw [beq_eq_false_iff_ne];omega
 simp only [Op.eqFields,Sem.run_bind,Sem.run_ite,partK,Result.andThen_ok,run_equalIn_int (P:=Tryz.prog) _ 9998 3 .i64 .i64 _ _ undI]
 simp [e2]
theorem shaped_any {W:World} {m:NodeM} {b i:Nat} {ms:List Nd} (hm:MOk W b m) (hfit:Fit 0 ms i m.node) (hin:NdIn m.node) (hi:i≤1000) (hg:GW W) :
 Calls Tryz.prog 44 #[.int .i64 (i:Int),.agg m.cells.toArray] W fun e W'=>e=.returned (.bool true)∧Below W.heap.size W W':=by
 obtain ⟨⟨kd,s,n,fr,to_,v,l,nm,ag⟩,lv,nv,av⟩:=m
 obtain ⟨y,hy⟩:∃ y,y=(NodeM.cells ⟨⟨kd,s,n,fr,to_,v,l,nm,ag⟩,lv,nv,av⟩).toArray:=⟨_,rfl⟩
 obtain ⟨w2,hw2⟩:∃ w2,w2=(W.alloc (.cells #[.int .i64 (i:Int)] 3)).alloc (.cells y 42):=⟨_,rfl⟩
 have hb2:Below W.heap.size W w2:=by rw [hw2];exact ((Below.refl _ _).alloc (Nat.le_refl _) _).alloc (by rw [World.size_alloc];omega) _
 have x0:Blk w2 W.heap.size 3 #[.int .i64 (i:Int)]:=by
  rw [hw2]
  exact (Blk.new W _ _).kept ((Below.refl _ _).alloc (Nat.le_refl _) _)
 have y0:Blk w2 (W.heap.size+1) 42 (NodeM.cells ⟨⟨kd,s,n,fr,to_,v,l,nm,ag⟩,lv,nv,av⟩).toArray:=by
  rw [hw2,← hy]
  have:=Blk.new (W.alloc (.cells #[.int .i64 (i:Int)] 3)) 42 y
  rwa [World.size_alloc] at this
 have hlt2:W.heap.size+1<w2.heap.size:=y0.lt
 rw [← hy]
 have M:=Lib.hid (hm.kept hb2)
 have HB2:=Lib.hid hb2
 have HY0:=Lib.hid y0
 have HG2:=Lib.hid (hg.kept hb2)
 have HIN:=Lib.hid hin
 obtain ⟨hkd,hlen,hbel,_,_,_⟩:=hfit
 dsimp only at hkd hlen hbel
 have HIX:=Lib.hid (index_below (i:=i) (b:=W.heap.size) M.out.l (fun k hk=>by
  obtain ⟨j,hj⟩:=List.getElem?_of_mem hk
  have:=(hbel j k hj).2.1
  omega) w2 (Below.refl _ _) (x0.cell 0))
 have HWN:=Lib.hid (show Wds w2 nv nm w2 from ⟨⟨_,M.out.names⟩,HIN.out.names,Below.refl _ _⟩)
 obtain ⟨pl,cl,hlv,_,ql2,_⟩:=row_cells M.out.l
 obtain ⟨pn,cn,hnv,_,qn2,_⟩:=row_cells M.out.names
 obtain ⟨pa,ca,hav,_,qa2,qa3⟩:=row_cells M.out.aggs
 dsimp only at hlv hnv hav qa3
 have hfn:=HIN.out.few
 dsimp only at hfn
 have HA:=Lib.hid (show ∀ W',Below w2.heap.size w2 W'→∀ (k:Nat) (x:Nat×Bytes),ag[k]?=some x→∃ q,pa=some ⟨q,0,none⟩∧W'.cell? ⟨q,k*2,none⟩=some (.int .i64 (x.1:Int))∧W'.cell? ⟨q,k*2+1,none⟩=some (.string (BA x.2)) by
  intro W' hb k x hx
  obtain ⟨q,hq,hc⟩:=qa3 (by have:=(List.getElem?_eq_some_iff.1 hx).1;show 0<ag.length;omega)
  exact ⟨q,hq,keepc hb (hc _ _ (aggsL_get _ _ _ hx).1),keepc hb (hc _ _ (aggsL_get _ _ _ hx).2)⟩)
 subst hlv hnv hav
 have CELLS:=Lib.hid (show ∀ W',Below w2.heap.size w2 W'→Blk W' (W.heap.size+1) 42 (NodeM.cells ⟨⟨kd,s,n,fr,to_,v,l,nm,ag⟩,.slice pl l.length cl,.slice pn nm.length cn,.slice pa ag.length ca⟩).toArray from fun W' hb=>HY0.out.kept hb)
 have c0:w2.cell? ⟨W.heap.size+1,0,none⟩=some (.int .i64 (kd:Int)):=y0.cell 0
 have c16:w2.cell? ⟨W.heap.size+1,16,none⟩=some (.slice pl l.length cl):=y0.cell 16
 have c17:w2.cell? ⟨W.heap.size+1,17,none⟩=some (.slice pn nm.length cn):=y0.cell 17
 have r2:∀ (K:World→Prop),K w2→K ((W.alloc (.cells #[.int .i64 (i:Int)] 3)).alloc (.cells y 42)):=fun K h=>by rw [← hw2];exact h
 have HR2:=Lib.hid r2
 have HKD:=Lib.hid hkd
 have HLEN:=Lib.hid hlen
 have hllen:l.length≤2:=by
  rw [hlen]
  unfold rowsOf condsOf
  repeat' split
  all_goals omega
 clear hy hw2 r2 x0 y0 hb2 hm hin hg hbel hkd hlen qa3 ql2 qn2 qa2
 go_enter Tryz.func44,Tryz.ntmps44
 go_upto_region 1 with fail
 refine HR2.out _ ?_
 go_wp2_with fail
 refine HIX.out.mono ?_
 rintro e w3 ⟨rfl,rfl⟩
 go_upto_block 0 with (fail)
 go_cut [6,7] (fun s6 s7 wx => ∃ ws,s6=.int .i64 (l.length:Int)∧Wds w3 s7 ws wx∧ws.length≤1025)
 case first =>
  have hkd:=HKD.out
  have hlen:=HLEN.out
  have hkk:kd=1∨kd=2∨kd=3∨kd=4∨kd=5∨kd=6∨kd=7∨kd=8∨kd=11∨kd=12∨kd=13∨kd=14∨kd=15:=by unfold known at hkd;omega
  rcases hkk with rfl | rfl | rfl | rfl | rfl | rfl | rfl | rfl | rfl | rfl | rfl | rfl | rfl
  ·have HL2:=Lib.hid (show l.length=0 from hlen)
   have HLX:=Lib.hid (show LexT (wd s) from HIN.out.own (by show (1:Nat)=1∨(1:Nat)=6∨(1:Nat)=14∨(1:Nat)=15;omega))
   obtain ⟨ws,hws⟩:∃ ws,ws=nm:=⟨_,rfl⟩
   have hwl:ws.length≤1024:=by rw [hws];exact hfn.1
   have HWD:=Lib.hid (show Wds w3 (.slice pn nm.length cn) ws w3 by rw [hws];exact HWN.out)
   have HCL:=Lib.hid (HWD.out.clone (by omega))
   have hs1:w3.drew.cell? ⟨W.heap.size+1,1,none⟩=some (.string (BA s)):=HY0.out.cell 1
   have HS0:=Lib.hid (show w3.cell? ⟨W.heap.size+1,1,none⟩=some (.string (BA s)) from HY0.out.cell 1)
   clear hkd hlen hws
   go_wp2_with fail
   have B1:=Lib.hid (show Below w3.heap.size w3 w3.drew from (Below.refl _ _).drew)
   have B2:=Lib.hid (show Below w3.heap.size w3 (w3.alloc (.cells #[.string (BA s)] 9)).drew from ((Below.refl _ _).alloc (Nat.le_refl _) _).drew)
   have E5:=Lib.hid (show (w3.alloc (.cells #[.string (BA s)] 9)).drew.heap.size=w3.heap.size+1 from World.size_alloc _ _)
   have NB:=Lib.hid (show Blk (w3.alloc (.cells #[.string (BA s)] 9)).drew w3.heap.size 9 #[.string (BA s)] from Blk.new w3 9 #[.string (BA s)])
   obtain ⟨i0,hi0,hz0,hz1,hz2⟩:=info_parts infoStr
   go_region_held3 (fun w'=>w'.cell? ⟨W.heap.size+1,1,none⟩=some (.string (BA s)))
    (first | assumption | exact keepc B2.out HS0.out | exact keepc ((Below.refl _ _).alloc (Nat.le_refl _) _) (by assumption) | go_keep)
    (first
     | (go_at_call 84;(with_reducible refine (HCL.out _ B1.out).mono ?_);rintro e w9 ⟨u,rfl,hr9,hb9⟩;have c1:=keepc (chain B1.out hb9) HS0.out;obtain ⟨o9,cp9,rfl⟩:=row_slice hr9;have HA9:=Lib.hid (And.intro hr9 (chain B1.out hb9));clear hr9 hb9)
     | (go_at_call 84;(with_reducible refine (HCL.out _ B2.out).mono ?_);rintro e w9 ⟨u,rfl,hr9,hb9⟩;have c1:=keepc (chain B2.out hb9) HS0.out;obtain ⟨o9,cp9,rfl⟩:=row_slice hr9;rw [E5.out] at hr9;have HB9:=Lib.hid (And.intro hr9 (And.intro (chain B2.out hb9) (NB.out.kept hb9)));clear hr9 hb9)
     | (rw [if_pos (by rfl)];refine wp_append_own _ _ _ _ (by rfl) w3.heap.size 9 i0 _ 1 16 (by kernel_rfl) hi0 hz0 hz1 hz2 (by rfl) (by decide) _ ws.length (strsL ws) (by rfl) (own_kept HA9.out.1 ((Below.refl _ _).alloc (Nat.le_refl _) _)) ⟨w9.heap.size,0,none⟩ 1 1 [.string (BA s)] (by rfl) (by rfl) (fun j u hu=>blk_cells (Blk.new w9 9 #[.string (BA s)]) j u (by simpa using hu)) (by simp [Value.oneCell']) (by simp only [maxLen];omega) (by omega) (by rw [World.size_alloc];exact Nat.le_trans HA9.out.2.size (Nat.le_succ _)) ?_;intro v' w' ho' hgr _;have HF:=Lib.hid (HWD.out.more HLX.out (HA9.out.2.alloc HA9.out.2.size _) ho' hgr (fun k hk=>(HA9.out.1.lt k hk).1));have c2:=hgr.cell (keepc (show Below w9.heap.size w9 _ from (Below.refl _ _).alloc (Nat.le_refl _) _) c1) (fun e=>by have h9:=(HA9.out.1.lt (W.heap.size+1) e.symm).1;have e2:w3.drew.heap.size=w3.heap.size:=rfl;omega);clear ho' hgr)
     | (rw [if_pos (by rfl)];refine wp_append_own _ _ _ _ (by rfl) (w3.heap.size+1) 9 i0 _ 1 16 (by kernel_rfl) hi0 hz0 hz1 hz2 (by rfl) (by decide) _ ws.length (strsL ws) (by rfl) HB9.out.1 ⟨w3.heap.size,0,none⟩ 1 1 [.string (BA s)] (by rfl) (by rfl) (fun j u hu=>blk_cells HB9.out.2.2 j u (by simpa using hu)) (by simp [Value.oneCell']) (by simp only [maxLen];omega) (by omega) (HB9.out.2.2.lt) ?_;intro v' w' ho' hgr _;have HF:=Lib.hid (HWD.out.more HLX.out HB9.out.2.1 ho' hgr (fun k hk=>Nat.le_trans (Nat.le_succ _) (HB9.out.1.lt k hk).1));have c2:=hgr.cell c1 (fun e=>by have h9:=(HB9.out.1.lt (W.heap.size+1) e.symm).1;omega);clear ho' hgr))
   all_goals go_wp2_with fail
   all_goals go_meet
   all_goals exact ⟨ws++[s],by rw [HL2.out];rfl,HF.out,by rw [List.length_append];show ws.length+1≤1025;omega⟩
  ·have HL2:=Lib.hid (show l.length=2 from hlen)
   clear hkd hlen
   go_wp2_with fail
   go_meet
   exact ⟨nm,by rw [HL2.out];rfl,HWN.out,by omega⟩
  ·have HL2:=Lib.hid (show l.length=1 from hlen)
   clear hkd hlen
   go_wp2_with fail
   go_meet
   exact ⟨nm,by rw [HL2.out];rfl,HWN.out,by omega⟩
  ·have HL2:=Lib.hid (show l.length=1 from hlen)
   clear hkd hlen
   go_wp2_with fail
   go_meet
   exact ⟨nm,by rw [HL2.out];rfl,HWN.out,by omega⟩
  ·have HL2:=Lib.hid (show l.length=1 from hlen)
   clear hkd hlen
   go_wp2_with fail
   go_meet
   exact ⟨nm,by rw [HL2.out];rfl,HWN.out,by omega⟩
  ·have HL2:=Lib.hid (show l.length=1 from hlen)
   have HLX:=Lib.hid (show LexT (wd s) from HIN.out.own (by show (6:Nat)=1∨(6:Nat)=6∨(6:Nat)=14∨(6:Nat)=15;omega))
   obtain ⟨ws,hws⟩:∃ ws,ws=nm:=⟨_,rfl⟩
   have hwl:ws.length≤1024:=by rw [hws];exact hfn.1
   have HWD:=Lib.hid (show Wds w3 (.slice pn nm.length cn) ws w3 by rw [hws];exact HWN.out)
   have HCL:=Lib.hid (HWD.out.clone (by omega))
   have hs1:w3.drew.cell? ⟨W.heap.size+1,1,none⟩=some (.string (BA s)):=HY0.out.cell 1
   have HS0:=Lib.hid (show w3.cell? ⟨W.heap.size+1,1,none⟩=some (.string (BA s)) from HY0.out.cell 1)
   clear hkd hlen hws
   go_wp2_with fail
   have B1:=Lib.hid (show Below w3.heap.size w3 w3.drew from (Below.refl _ _).drew)
   have B2:=Lib.hid (show Below w3.heap.size w3 (w3.alloc (.cells #[.string (BA s)] 9)).drew from ((Below.refl _ _).alloc (Nat.le_refl _) _).drew)
   have E5:=Lib.hid (show (w3.alloc (.cells #[.string (BA s)] 9)).drew.heap.size=w3.heap.size+1 from World.size_alloc _ _)
   have NB:=Lib.hid (show Blk (w3.alloc (.cells #[.string (BA s)] 9)).drew w3.heap.size 9 #[.string (BA s)] from Blk.new w3 9 #[.string (BA s)])
   obtain ⟨i0,hi0,hz0,hz1,hz2⟩:=info_parts infoStr
   go_region_held3 (fun w'=>w'.cell? ⟨W.heap.size+1,1,none⟩=some (.string (BA s)))
    (first | assumption | exact keepc B2.out HS0.out | exact keepc ((Below.refl _ _).alloc (Nat.le_refl _) _) (by assumption) | go_keep)
    (first
     | (go_at_call 84;(with_reducible refine (HCL.out _ B1.out).mono ?_);rintro e w9 ⟨u,rfl,hr9,hb9⟩;have c1:=keepc (chain B1.out hb9) HS0.out;obtain ⟨o9,cp9,rfl⟩:=row_slice hr9;have HA9:=Lib.hid (And.intro hr9 (chain B1.out hb9));clear hr9 hb9)
     | (go_at_call 84;(with_reducible refine (HCL.out _ B2.out).mono ?_);rintro e w9 ⟨u,rfl,hr9,hb9⟩;have c1:=keepc (chain B2.out hb9) HS0.out;obtain ⟨o9,cp9,rfl⟩:=row_slice hr9;rw [E5.out] at hr9;have HB9:=Lib.hid (And.intro hr9 (And.intro (chain B2.out hb9) (NB.out.kept hb9)));clear hr9 hb9)
     | (rw [if_pos (by rfl)];refine wp_append_own _ _ _ _ (by rfl) w3.heap.size 9 i0 _ 1 16 (by kernel_rfl) hi0 hz0 hz1 hz2 (by rfl) (by decide) _ ws.length (strsL ws) (by rfl) (own_kept HA9.out.1 ((Below.refl _ _).alloc (Nat.le_refl _) _)) ⟨w9.heap.size,0,none⟩ 1 1 [.string (BA s)] (by rfl) (by rfl) (fun j u hu=>blk_cells (Blk.new w9 9 #[.string (BA s)]) j u (by simpa using hu)) (by simp [Value.oneCell']) (by simp only [maxLen];omega) (by omega) (by rw [World.size_alloc];exact Nat.le_trans HA9.out.2.size (Nat.le_succ _)) ?_;intro v' w' ho' hgr _;have HF:=Lib.hid (HWD.out.more HLX.out (HA9.out.2.alloc HA9.out.2.size _) ho' hgr (fun k hk=>(HA9.out.1.lt k hk).1));have c2:=hgr.cell (keepc (show Below w9.heap.size w9 _ from (Below.refl _ _).alloc (Nat.le_refl _) _) c1) (fun e=>by have h9:=(HA9.out.1.lt (W.heap.size+1) e.symm).1;have e2:w3.drew.heap.size=w3.heap.size:=rfl;omega);clear ho' hgr)
     | (rw [if_pos (by rfl)];refine wp_append_own _ _ _ _ (by rfl) (w3.heap.size+1) 9 i0 _ 1 16 (by kernel_rfl) hi0 hz0 hz1 hz2 (by rfl) (by decide) _ ws.length (strsL ws) (by rfl) HB9.out.1 ⟨w3.heap.size,0,none⟩ 1 1 [.string (BA s)] (by rfl) (by rfl) (fun j u hu=>blk_cells HB9.out.2.2 j u (by simpa using hu)) (by simp [Value.oneCell']) (by simp only [maxLen];omega) (by omega) (HB9.out.2.2.lt) ?_;intro v' w' ho' hgr _;have HF:=Lib.hid (HWD.out.more HLX.out HB9.out.2.1 ho' hgr (fun k hk=>Nat.le_trans (Nat.le_succ _) (HB9.out.1.lt k hk).1));have c2:=hgr.cell c1 (fun e=>by have h9:=(HB9.out.1.lt (W.heap.size+1) e.symm).1;omega);clear ho' hgr))
   all_goals go_wp2_with fail
   all_goals go_meet
   all_goals exact ⟨ws++[s],by rw [HL2.out];rfl,HF.out,by rw [List.length_append];show ws.length+1≤1025;omega⟩
  ·have HL2:=Lib.hid (show l.length=2 from hlen)
   clear hkd hlen
   go_wp2_with fail
   go_meet
   exact ⟨nm,by rw [HL2.out];rfl,HWN.out,by omega⟩
  ·have HL2:=Lib.hid (show l.length=2 from hlen)
   clear hkd hlen
   go_wp2_with fail
   go_meet
   exact ⟨nm,by rw [HL2.out];rfl,HWN.out,by omega⟩
  ·have HL2:=Lib.hid (show l.length=2 from hlen)
   clear hkd hlen
   go_wp2_with fail
   go_meet
   exact ⟨nm,by rw [HL2.out];rfl,HWN.out,by omega⟩
  ·have HL2:=Lib.hid (show l.length=2 from hlen)
   clear hkd hlen
   go_wp2_with fail
   go_meet
   exact ⟨nm,by rw [HL2.out];rfl,HWN.out,by omega⟩
  ·have HL2:=Lib.hid (show l.length=1 from hlen)
   clear hkd hlen
   go_wp2_with fail
   go_meet
   exact ⟨nm,by rw [HL2.out];rfl,HWN.out,by omega⟩
  ·have HL2:=Lib.hid (show l.length=0 from hlen)
   have HLX:=Lib.hid (show LexT (wd s) from HIN.out.own (by show (14:Nat)=1∨(14:Nat)=6∨(14:Nat)=14∨(14:Nat)=15;omega))
   obtain ⟨ws,hws⟩:∃ ws,ws=nm:=⟨_,rfl⟩
   have hwl:ws.length≤1024:=by rw [hws];exact hfn.1
   have HWD:=Lib.hid (show Wds w3 (.slice pn nm.length cn) ws w3 by rw [hws];exact HWN.out)
   have HCL:=Lib.hid (HWD.out.clone (by omega))
   have hs1:w3.drew.cell? ⟨W.heap.size+1,1,none⟩=some (.string (BA s)):=HY0.out.cell 1
   have HS0:=Lib.hid (show w3.cell? ⟨W.heap.size+1,1,none⟩=some (.string (BA s)) from HY0.out.cell 1)
   clear hkd hlen hws
   go_wp2_with fail
   have B1:=Lib.hid (show Below w3.heap.size w3 w3.drew from (Below.refl _ _).drew)
   have B2:=Lib.hid (show Below w3.heap.size w3 (w3.alloc (.cells #[.string (BA s)] 9)).drew from ((Below.refl _ _).alloc (Nat.le_refl _) _).drew)
   have E5:=Lib.hid (show (w3.alloc (.cells #[.string (BA s)] 9)).drew.heap.size=w3.heap.size+1 from World.size_alloc _ _)
   have NB:=Lib.hid (show Blk (w3.alloc (.cells #[.string (BA s)] 9)).drew w3.heap.size 9 #[.string (BA s)] from Blk.new w3 9 #[.string (BA s)])
   obtain ⟨i0,hi0,hz0,hz1,hz2⟩:=info_parts infoStr
   go_region_held3 (fun w'=>w'.cell? ⟨W.heap.size+1,1,none⟩=some (.string (BA s)))
    (first | assumption | exact keepc B2.out HS0.out | exact keepc ((Below.refl _ _).alloc (Nat.le_refl _) _) (by assumption) | go_keep)
    (first
     | (go_at_call 84;(with_reducible refine (HCL.out _ B1.out).mono ?_);rintro e w9 ⟨u,rfl,hr9,hb9⟩;have c1:=keepc (chain B1.out hb9) HS0.out;obtain ⟨o9,cp9,rfl⟩:=row_slice hr9;have HA9:=Lib.hid (And.intro hr9 (chain B1.out hb9));clear hr9 hb9)
     | (go_at_call 84;(with_reducible refine (HCL.out _ B2.out).mono ?_);rintro e w9 ⟨u,rfl,hr9,hb9⟩;have c1:=keepc (chain B2.out hb9) HS0.out;obtain ⟨o9,cp9,rfl⟩:=row_slice hr9;rw [E5.out] at hr9;have HB9:=Lib.hid (And.intro hr9 (And.intro (chain B2.out hb9) (NB.out.kept hb9)));clear hr9 hb9)
     | (rw [if_pos (by rfl)];refine wp_append_own _ _ _ _ (by rfl) w3.heap.size 9 i0 _ 1 16 (by kernel_rfl) hi0 hz0 hz1 hz2 (by rfl) (by decide) _ ws.length (strsL ws) (by rfl) (own_kept HA9.out.1 ((Below.refl _ _).alloc (Nat.le_refl _) _)) ⟨w9.heap.size,0,none⟩ 1 1 [.string (BA s)] (by rfl) (by rfl) (fun j u hu=>blk_cells (Blk.new w9 9 #[.string (BA s)]) j u (by simpa using hu)) (by simp [Value.oneCell']) (by simp only [maxLen];omega) (by omega) (by rw [World.size_alloc];exact Nat.le_trans HA9.out.2.size (Nat.le_succ _)) ?_;intro v' w' ho' hgr _;have HF:=Lib.hid (HWD.out.more HLX.out (HA9.out.2.alloc HA9.out.2.size _) ho' hgr (fun k hk=>(HA9.out.1.lt k hk).1));have c2:=hgr.cell (keepc (show Below w9.heap.size w9 _ from (Below.refl _ _).alloc (Nat.le_refl _) _) c1) (fun e=>by have h9:=(HA9.out.1.lt (W.heap.size+1) e.symm).1;have e2:w3.drew.heap.size=w3.heap.size:=rfl;omega);clear ho' hgr)
     | (rw [if_pos (by rfl)];refine wp_append_own _ _ _ _ (by rfl) (w3.heap.size+1) 9 i0 _ 1 16 (by kernel_rfl) hi0 hz0 hz1 hz2 (by rfl) (by decide) _ ws.length (strsL ws) (by rfl) HB9.out.1 ⟨w3.heap.size,0,none⟩ 1 1 [.string (BA s)] (by rfl) (by rfl) (fun j u hu=>blk_cells HB9.out.2.2 j u (by simpa using hu)) (by simp [Value.oneCell']) (by simp only [maxLen];omega) (by omega) (HB9.out.2.2.lt) ?_;intro v' w' ho' hgr _;have HF:=Lib.hid (HWD.out.more HLX.out HB9.out.2.1 ho' hgr (fun k hk=>Nat.le_trans (Nat.le_succ _) (HB9.out.1.lt k hk).1));have c2:=hgr.cell c1 (fun e=>by have h9:=(HB9.out.1.lt (W.heap.size+1) e.symm).1;omega);clear ho' hgr))
   all_goals go_wp2_with fail
   all_goals go_meet
   all_goals exact ⟨ws++[s],by rw [HL2.out];rfl,HF.out,by rw [List.length_append];show ws.length+1≤1025;omega⟩
  ·have HL2:=Lib.hid (show l.length=0 from hlen)
   have HLX:=Lib.hid (show LexT (wd s) from HIN.out.own (by show (15:Nat)=1∨(15:Nat)=6∨(15:Nat)=14∨(15:Nat)=15;omega))
   obtain ⟨ws,hws⟩:∃ ws,ws=nm:=⟨_,rfl⟩
   have hwl:ws.length≤1024:=by rw [hws];exact hfn.1
   have HWD:=Lib.hid (show Wds w3 (.slice pn nm.length cn) ws w3 by rw [hws];exact HWN.out)
   have HCL:=Lib.hid (HWD.out.clone (by omega))
   have hs1:w3.drew.cell? ⟨W.heap.size+1,1,none⟩=some (.string (BA s)):=HY0.out.cell 1
   have HS0:=Lib.hid (show w3.cell? ⟨W.heap.size+1,1,none⟩=some (.string (BA s)) from HY0.out.cell 1)
   clear hkd hlen hws
   go_wp2_with fail
   have B1:=Lib.hid (show Below w3.heap.size w3 w3.drew from (Below.refl _ _).drew)
   have B2:=Lib.hid (show Below w3.heap.size w3 (w3.alloc (.cells #[.string (BA s)] 9)).drew from ((Below.refl _ _).alloc (Nat.le_refl _) _).drew)
   have E5:=Lib.hid (show (w3.alloc (.cells #[.string (BA s)] 9)).drew.heap.size=w3.heap.size+1 from World.size_alloc _ _)
   have NB:=Lib.hid (show Blk (w3.alloc (.cells #[.string (BA s)] 9)).drew w3.heap.size 9 #[.string (BA s)] from Blk.new w3 9 #[.string (BA s)])
   obtain ⟨i0,hi0,hz0,hz1,hz2⟩:=info_parts infoStr
   go_region_held3 (fun w'=>w'.cell? ⟨W.heap.size+1,1,none⟩=some (.string (BA s)))
    (first | assumption | exact keepc B2.out HS0.out | exact keepc ((Below.refl _ _).alloc (Nat.le_refl _) _) (by assumption) | go_keep)
    (first
     | (go_at_call 84;(with_reducible refine (HCL.out _ B1.out).mono ?_);rintro e w9 ⟨u,rfl,hr9,hb9⟩;have c1:=keepc (chain B1.out hb9) HS0.out;obtain ⟨o9,cp9,rfl⟩:=row_slice hr9;have HA9:=Lib.hid (And.intro hr9 (chain B1.out hb9));clear hr9 hb9)
     | (go_at_call 84;(with_reducible refine (HCL.out _ B2.out).mono ?_);rintro e w9 ⟨u,rfl,hr9,hb9⟩;have c1:=keepc (chain B2.out hb9) HS0.out;obtain ⟨o9,cp9,rfl⟩:=row_slice hr9;rw [E5.out] at hr9;have HB9:=Lib.hid (And.intro hr9 (And.intro (chain B2.out hb9) (NB.out.kept hb9)));clear hr9 hb9)
     | (rw [if_pos (by rfl)];refine wp_append_own _ _ _ _ (by rfl) w3.heap.size 9 i0 _ 1 16 (by kernel_rfl) hi0 hz0 hz1 hz2 (by rfl) (by decide) _ ws.length (strsL ws) (by rfl) (own_kept HA9.out.1 ((Below.refl _ _).alloc (Nat.le_refl _) _)) ⟨w9.heap.size,0,none⟩ 1 1 [.string (BA s)] (by rfl) (by rfl) (fun j u hu=>blk_cells (Blk.new w9 9 #[.string (BA s)]) j u (by simpa using hu)) (by simp [Value.oneCell']) (by simp only [maxLen];omega) (by omega) (by rw [World.size_alloc];exact Nat.le_trans HA9.out.2.size (Nat.le_succ _)) ?_;intro v' w' ho' hgr _;have HF:=Lib.hid (HWD.out.more HLX.out (HA9.out.2.alloc HA9.out.2.size _) ho' hgr (fun k hk=>(HA9.out.1.lt k hk).1));have c2:=hgr.cell (keepc (show Below w9.heap.size w9 _ from (Below.refl _ _).alloc (Nat.le_refl _) _) c1) (fun e=>by have h9:=(HA9.out.1.lt (W.heap.size+1) e.symm).1;have e2:w3.drew.heap.size=w3.heap.size:=rfl;omega);clear ho' hgr)
     | (rw [if_pos (by rfl)];refine wp_append_own _ _ _ _ (by rfl) (w3.heap.size+1) 9 i0 _ 1 16 (by kernel_rfl) hi0 hz0 hz1 hz2 (by rfl) (by decide) _ ws.length (strsL ws) (by rfl) HB9.out.1 ⟨w3.heap.size,0,none⟩ 1 1 [.string (BA s)] (by rfl) (by rfl) (fun j u hu=>blk_cells HB9.out.2.2 j u (by simpa using hu)) (by simp [Value.oneCell']) (by simp only [maxLen];omega) (by omega) (HB9.out.2.2.lt) ?_;intro v' w' ho' hgr _;have HF:=Lib.hid (HWD.out.more HLX.out HB9.out.2.1 ho' hgr (fun k hk=>Nat.le_trans (Nat.le_succ _) (HB9.out.1.lt k hk).1));have c2:=hgr.cell c1 (fun e=>by have h9:=(HB9.out.1.lt (W.heap.size+1) e.symm).1;omega);clear ho' hgr))
   all_goals go_wp2_with fail
   all_goals go_meet
   all_goals exact ⟨ws++[s],by rw [HL2.out];rfl,HF.out,by rw [List.length_append];show ws.length+1≤1025;omega⟩
 case rest =>
 obtain ⟨ws0,rfl,hw0,hwl0⟩:=hcut
 have HW0:=Lib.hid hw0
 have d18:wc.cell? ⟨W.heap.size+1,18,none⟩=some (.slice pa ag.length ca):=(CELLS.out wc hw0.2.2).cell 18
 clear hw0 c0 c16 c17
 go_wp2_with fail
 go_loopg [7,59] (ag.length+1) (fun gk s7 c wr => ∃ (k:Nat) (ws:List Bytes),k≤ag.length∧ag.length<k+gk∧c=.int .i64 (k:Int)∧Wds w3 s7 ws wr∧ws.length≤1025+k)
 case atStart=>exact ⟨0,ws0,Nat.zero_le _,by omega,rfl,HW0.out,by omega⟩
 case round =>
  obtain ⟨k,ws,hk,hgk,rfl,hw,hwl⟩:=hrel
  obtain ⟨o7,c7,rfl⟩:=hw.slice
  have HW:=Lib.hid hw
  clear hw d18
  by_cases hlt:k<ag.length
  ·obtain ⟨x,hx⟩:∃ x,ag[k]?=some x:=⟨ag[k],List.getElem?_eq_getElem hlt⟩
   obtain ⟨q,rfl,u1,u2⟩:=HA.out wr HW.out.2.2 k x hx
   obtain ⟨hok,hlx⟩:=HIN.out.aggs x (List.mem_of_getElem? hx)
   obtain ⟨ak,ac⟩:=x
   dsimp only at u1 u2 hlx
   have hak:1≤ak∧ak≤6:=by
    rcases hok with e | ⟨e1,e2⟩
    ·have:=congrArg Prod.fst e
     dsimp only at this
     omega
    ·exact ⟨Nat.le_trans (by omega) e1,e2⟩
   have HBX:=Lib.hid (fun w5 h5=>agg_box (wr:=wr) (w5:=w5) (k:=ak) (c:=ac) h5)
   have n1:(k:Int)<(ag.length:Int):=by omega
   have n2:(0:Int)≤(k:Int):=by omega
   have n3:decide ((k:Int)<(ag.length:Int))=true:=decide_eq_true n1
   have n4:¬ (ak:Int)<1:=by omega
   have n4':decide ((ak:Int)<1)=false:=decide_eq_false n4
   have n5:¬ (6:Int)<(ak:Int):=by omega
   have n5':decide ((6:Int)<(ak:Int))=false:=decide_eq_false n5
   have w1_:IntKind.i64.wrap ((k:Int)+1)=(k:Int)+1:=IntWalk.i64_in _ (by omega)
   clear hx hok
   go_upto_region 27 with fail
   generalize hw5:World.alloc _ _=w5
   obtain ⟨hb5,hx5⟩:=HBX.out w5 hw5
   have e0:w5.cell? ⟨wr.heap.size,0,none⟩=some (.int .i64 (ak:Int)):=hx5.cell 0
   have hs1:w5.drew.cell? ⟨wr.heap.size,1,none⟩=some (.string (BA ac)):=hx5.cell 1
   have HS0:=Lib.hid (show w5.cell? ⟨wr.heap.size,1,none⟩=some (.string (BA ac)) from hx5.cell 1)
   have HWD:=Lib.hid (show Wds w3 (.slice o7 ws.length c7) ws w5 from ⟨by obtain ⟨b,hb⟩:=HW.out.1;exact ⟨b,own_kept hb hb5⟩,HW.out.2.1,chain HW.out.2.2 hb5⟩)
   have hlt5:wr.heap.size<w5.heap.size:=hx5.lt
   clear hw5 hb5 hx5 u1 u2
   by_cases h1:ak=1
   ·subst h1
    go_wp2_with fail
    go_roundg (ag.length-k)
    case measure=>omega
    case rel=>exact ⟨k+1,ws,by omega,by omega,rfl,HWD.out,by omega⟩
   ·have HLX:=Lib.hid (hlx h1)
    have n6:((ak:Int) == 1)=false:=by rw [beq_eq_false_iff_ne];omega
    have n7:((ak:Int) != 1)=true:=by rw [bne_iff_ne];omega
    have HCL:=Lib.hid (HWD.out.clone (by omega))
    clear hlx
    go_wp2_with fail
    have B1:=Lib.hid (show Below w5.heap.size w5 w5.drew from (Below.refl _ _).drew)
    have B2:=Lib.hid (show Below w5.heap.size w5 (w5.alloc (.cells #[.string (BA ac)] 9)).drew from ((Below.refl _ _).alloc (Nat.le_refl _) _).drew)
    have E5:=Lib.hid (show (w5.alloc (.cells #[.string (BA ac)] 9)).drew.heap.size=w5.heap.size+1 from World.size_alloc _ _)
    have NB:=Lib.hid (show Blk (w5.alloc (.cells #[.string (BA ac)] 9)).drew w5.heap.size 9 #[.string (BA ac)] from Blk.new w5 9 #[.string (BA ac)])
    obtain ⟨i0,hi0,hz0,hz1,hz2⟩:=info_parts infoStr
    go_region_held3 (fun w'=>w'.cell? ⟨wr.heap.size,1,none⟩=some (.string (BA ac)))
     (first | assumption | exact keepc B2.out HS0.out | exact keepc ((Below.refl _ _).alloc (Nat.le_refl _) _) (by assumption) | go_keep)
     (first
      | (go_at_call 84;(with_reducible refine (HCL.out _ B1.out).mono ?_);rintro e w9 ⟨u,rfl,hr9,hb9⟩;have c1:=keepc (chain B1.out hb9) HS0.out;obtain ⟨o9,cp9,rfl⟩:=row_slice hr9;have HA9:=Lib.hid (And.intro hr9 (chain B1.out hb9));clear hr9 hb9)
      | (go_at_call 84;(with_reducible refine (HCL.out _ B2.out).mono ?_);rintro e w9 ⟨u,rfl,hr9,hb9⟩;have c1:=keepc (chain B2.out hb9) HS0.out;obtain ⟨o9,cp9,rfl⟩:=row_slice hr9;rw [E5.out] at hr9;have HB9:=Lib.hid (And.intro hr9 (And.intro (chain B2.out hb9) (NB.out.kept hb9)));clear hr9 hb9)
      | (rw [if_pos (by rfl)];refine wp_append_own _ _ _ _ (by rfl) w5.heap.size 9 i0 _ 1 16 (by kernel_rfl) hi0 hz0 hz1 hz2 (by rfl) (by decide) _ ws.length (strsL ws) (by rfl) (own_kept HA9.out.1 ((Below.refl _ _).alloc (Nat.le_refl _) _)) ⟨w9.heap.size,0,none⟩ 1 1 [.string (BA ac)] (by rfl) (by rfl) (fun j u hu=>blk_cells (Blk.new w9 9 #[.string (BA ac)]) j u (by simpa using hu)) (by simp [Value.oneCell']) (by simp only [maxLen];omega) (by omega) (by rw [World.size_alloc];exact Nat.le_trans HA9.out.2.size (Nat.le_succ _)) ?_;intro v' w' ho' hgr _;have HF:=Lib.hid (HWD.out.more HLX.out (HA9.out.2.alloc HA9.out.2.size _) ho' hgr (fun k hk=>(HA9.out.1.lt k hk).1));have c2:=hgr.cell (keepc (show Below w9.heap.size w9 _ from (Below.refl _ _).alloc (Nat.le_refl _) _) c1) (fun e=>by have h9:=(HA9.out.1.lt (wr.heap.size) e.symm).1;have e2:w5.drew.heap.size=w5.heap.size:=rfl;omega);clear ho' hgr)
      | (rw [if_pos (by rfl)];refine wp_append_own _ _ _ _ (by rfl) (w5.heap.size+1) 9 i0 _ 1 16 (by kernel_rfl) hi0 hz0 hz1 hz2 (by rfl) (by decide) _ ws.length (strsL ws) (by rfl) HB9.out.1 ⟨w5.heap.size,0,none⟩ 1 1 [.string (BA ac)] (by rfl) (by rfl) (fun j u hu=>blk_cells HB9.out.2.2 j u (by simpa using hu)) (by simp [Value.oneCell']) (by simp only [maxLen];omega) (by omega) (HB9.out.2.2.lt) ?_;intro v' w' ho' hgr _;have HF:=Lib.hid (HWD.out.more HLX.out HB9.out.2.1 ho' hgr (fun k hk=>Nat.le_trans (Nat.le_succ _) (HB9.out.1.lt k hk).1));have c2:=hgr.cell c1 (fun e=>by have h9:=(HB9.out.1.lt (wr.heap.size) e.symm).1;omega);clear ho' hgr))
    all_goals go_wp2_with fail
    all_goals go_roundg (ag.length-k)
    all_goals first
     | omega
     | exact ⟨k+1,ws++[ac],by omega,by omega,rfl,HF.out,by rw [List.length_append];show ws.length+1≤1025+(k+1);omega⟩
  ·have hke:k=ag.length:=by omega
   subst hke
   have n1:¬ (ag.length:Int)<(ag.length:Int):=by omega
   have n3:decide ((ag.length:Int)<(ag.length:Int))=false:=decide_eq_false n1
   have hcs:=CELLS.out wr HW.out.2.2
   have d0:wr.cell? ⟨W.heap.size+1,0,none⟩=some (.int .i64 (kd:Int)):=hcs.cell 0
   have d2:wr.cell? ⟨W.heap.size+1,2,none⟩=some (.int .i64 n):=hcs.cell 2
   have d5:wr.cell? ⟨W.heap.size+1,5,none⟩=some (.int .i64 (v.kind:Int)):=hcs.cell 5
   have d6:wr.cell? ⟨W.heap.size+1,6,none⟩=some (.int .i64 v.n):=hcs.cell 6
   have d7:wr.cell? ⟨W.heap.size+1,7,none⟩=some (.string (BA v.s)):=hcs.cell 7
   have d8:wr.cell? ⟨W.heap.size+1,8,none⟩=some (.int .i64 0):=hcs.cell 8
   have d9:wr.cell? ⟨W.heap.size+1,9,none⟩=some (.int .i64 0):=hcs.cell 9
   have d10:wr.cell? ⟨W.heap.size+1,10,none⟩=some (.int .i64 0):=hcs.cell 10
   have d11:wr.cell? ⟨W.heap.size+1,11,none⟩=some (.int .i64 0):=hcs.cell 11
   have d12:wr.cell? ⟨W.heap.size+1,12,none⟩=some (.int .i64 0):=hcs.cell 12
   have d13:wr.cell? ⟨W.heap.size+1,13,none⟩=some (.int .i64 0):=hcs.cell 13
   have d14:wr.cell? ⟨W.heap.size+1,14,none⟩=some (.int .i64 0):=hcs.cell 14
   have d15:wr.cell? ⟨W.heap.size+1,15,none⟩=some (.int .i64 0):=hcs.cell 15
   have d16:wr.cell? ⟨W.heap.size+1,16,none⟩=some (.slice pl l.length cl):=hcs.cell 16
   have hnv:v.kind≠4:=by
    rcases HIN.out.val with e | ⟨e,_⟩
    ·have e:v=⟨0,0,[]⟩:=e
     rw [e]
     decide
    ·unfold ValOk at e
     dsimp only at e
     omega
   have n8:((v.kind:Int) == 4)=false:=by rw [beq_eq_false_iff_ne];omega
   have HCW:=Lib.hid (show ∀ W',Below wr.heap.size wr W'→Calls Tryz.prog 86 #[.slice o7 ws.length c7,.func (.func 87) #[] #[]] W' fun e W''=>e=.returned (.bool false)∧Below W'.heap.size W' W'' from fun W' hb=>by
    obtain ⟨⟨b,hr⟩,hl,hbb⟩:=HW.out
    exact contains_words hr hl W' hb (HG2.out.kept (chain hbb hb)))
   have HFB:=Lib.hid (HB2.out.trans (HW.out.2.2.mono HB2.out.size))
   have ez:=eql_zero
   clear hcs hnv
   by_cases h14:kd=14
   ·subst h14
    have hsg:=HIN.out.sign rfl
    dsimp only at hsg
    have g1:¬ n<1:=by have:=hsg.1;show ¬ n<1;omega
    have g1':decide (n<1)=false:=decide_eq_false g1
    have g2:¬ 6<n:=by have:=hsg.2;show ¬ 6<n;omega
    have g2':decide (6<n)=false:=decide_eq_false g2
    clear hsg
    rcases HIN.out.val with hv | ⟨hv,hvn,hvs⟩
    ·have hv:v=⟨0,0,[]⟩:=hv
     subst hv
     dsimp only at d5 d6 d7
     go_wp2_with fail
     refine (HCW.out _ (Below.refl _ _)).mono ?_
     rintro e w6 ⟨rfl,hb6⟩
     have HB6:=Lib.hid (chain HFB.out hb6)
     clear hb6
     go_wp2_with fail
     exact bodyPost_ret (results_tmp rfl _ _ _) rfl ⟨rfl,HB6.out⟩
    ·have hvk:v.kind≠0:=by
      unfold ValOk at hv
      dsimp only at hv
      omega
     have eo0:((v.kind:Int) == 0)=false:=by rw [beq_eq_false_iff_ne];omega
     have eo1:¬ (v.kind:Int)=0:=by omega
     have eo:∀ W',(binOp .eql 37 (.agg #[.int .i64 (v.kind:Int),.int .i64 v.n,.string (BA v.s),.int .i64 0,.int .i64 0,.int .i64 0,.int .i64 0,.int .i64 0,.int .i64 0,.int .i64 0,.int .i64 0]) (.agg #[.int .i64 0,.int .i64 0,.string ⟨#[]⟩,.int .i64 0,.int .i64 0,.int .i64 0,.int .i64 0,.int .i64 0,.int .i64 0,.int .i64 0,.int .i64 0])).run Tryz.prog W'=.ok (.bool false) W':=eql_other hvk
     have HV:=Lib.hid (valid_any hv hvs wr)
     clear hv hvn hvs hvk
     go_wp2_with fail
     refine HV.out.mono ?_
     rintro e w5 ⟨rfl,hb5⟩
     have HB5:=Lib.hid hb5
     clear hb5 d0 d2 d5 d6 d7 d8 d9 d10 d11 d12 d13 d14 d15 d16
     go_wp2_with fail
     refine (HCW.out _ HB5.out).mono ?_
     rintro e w6 ⟨rfl,hb6⟩
     have HB6:=Lib.hid (chain HFB.out (HB5.out.trans (hb6.mono HB5.out.size)))
     clear hb6
     go_wp2_with fail
     exact bodyPost_ret (results_tmp rfl _ _ _) rfl ⟨rfl,HB6.out⟩
   ·have g1:((kd:Int) == 14)=false:=by rw [beq_eq_false_iff_ne];omega
    rcases HIN.out.val with hv | ⟨hv,hvn,hvs⟩
    ·have hv:v=⟨0,0,[]⟩:=hv
     subst hv
     dsimp only at d5 d6 d7
     go_wp2_with fail
     refine (HCW.out _ (Below.refl _ _)).mono ?_
     rintro e w6 ⟨rfl,hb6⟩
     have HB6:=Lib.hid (chain HFB.out hb6)
     clear hb6
     go_wp2_with fail
     exact bodyPost_ret (results_tmp rfl _ _ _) rfl ⟨rfl,HB6.out⟩
    ·have hvk:v.kind≠0:=by
      unfold ValOk at hv
      dsimp only at hv
      omega
     have eo0:((v.kind:Int) == 0)=false:=by rw [beq_eq_false_iff_ne];omega
     have eo1:¬ (v.kind:Int)=0:=by omega
     have eo:∀ W',(binOp .eql 37 (.agg #[.int .i64 (v.kind:Int),.int .i64 v.n,.string (BA v.s),.int .i64 0,.int .i64 0,.int .i64 0,.int .i64 0,.int .i64 0,.int .i64 0,.int .i64 0,.int .i64 0]) (.agg #[.int .i64 0,.int .i64 0,.string ⟨#[]⟩,.int .i64 0,.int .i64 0,.int .i64 0,.int .i64 0,.int .i64 0,.int .i64 0,.int .i64 0,.int .i64 0])).run Tryz.prog W'=.ok (.bool false) W':=eql_other hvk
     have HV:=Lib.hid (valid_any hv hvs wr)
     clear hv hvn hvs hvk
     go_wp2_with fail
     refine HV.out.mono ?_
     rintro e w5 ⟨rfl,hb5⟩
     have HB5:=Lib.hid hb5
     clear hb5 d0 d2 d5 d6 d7 d8 d9 d10 d11 d12 d13 d14 d15 d16
     go_wp2_with fail
     refine (HCW.out _ HB5.out).mono ?_
     rintro e w6 ⟨rfl,hb6⟩
     have HB6:=Lib.hid (chain HFB.out (HB5.out.trans (hb6.mono HB5.out.size)))
     clear hb6
     go_wp2_with fail
     exact bodyPost_ret (results_tmp rfl _ _ _) rfl ⟨rfl,HB6.out⟩
end Go.Proofs.YtnaehhpikhlppaaGreatDoor
