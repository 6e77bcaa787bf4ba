/- Several texts of the proof, joined. -/
import Derived.Test.YtnaehhpikhlppaaGreatDoorE11
import Derived.Deep.AppendLies
import Derived.Deep.MidRow
import Derived.Test.YtnaehhpikhlppaaGreatDoorE4
set_option maxHeartbeats 4000000
set_option maxRecDepth 100000
set_option linter.unusedVariables false
set_option linter.unusedSimpArgs false
namespace Go.Proofs.YtnaehhpikhlppaaGreatDoor
open Go.RowKit LexS ParS BigFrame
attribute [local go_sem] World.cell?_alloc_some cell_drewN_new free_drewN_new cell_drew_new free_drew_new
theorem undNode:Tryz.prog.underlying 42=some (.struct (Tryz.prog.fieldsOf 42)):=by kernel_rfl
theorem sizeNode:(Tryz.prog.info? 42).map (·.size)=some 19:=by kernel_rfl
theorem fold19 (c0 c1 c2 c3 c4 c5 c6 c7 c8 c9 c10 c11 c12 c13 c14 c15 c16 c17 c18:Value):(List.foldl (fun (cs:Array Value) (x:Value×Nat)=>cs.setIfInBounds x.snd x.fst) #[.int .i64 0,.string ⟨#[]⟩,.int .i64 0,.int .i64 0,.int .i64 0,.int .i64 0,.int .i64 0,.string ⟨#[]⟩,.int .i64 0,.int .i64 0,.int .i64 0,.int .i64 0,.int .i64 0,.int .i64 0,.int .i64 0,.int .i64 0,.slice none 0 0,.slice none 0 0,.slice none 0 0] [c0,c1,c2,c3,c4,c5,c6,c7,c8,c9,c10,c11,c12,c13,c14,c15,c16,c17,c18].zipIdx)=[c0,c1,c2,c3,c4,c5,c6,c7,c8,c9,c10,c11,c12,c13,c14,c15,c16,c17,c18].toArray:=by kernel_rfl
theorem fold_nd (cs:List Value) (h:cs.length=19):(List.foldl (fun (cs:Array Value) (x:Value×Nat)=>cs.setIfInBounds x.snd x.fst) #[.int .i64 0,.string ⟨#[]⟩,.int .i64 0,.int .i64 0,.int .i64 0,.int .i64 0,.int .i64 0,.string ⟨#[]⟩,.int .i64 0,.int .i64 0,.int .i64 0,.int .i64 0,.int .i64 0,.int .i64 0,.int .i64 0,.int .i64 0,.slice none 0 0,.slice none 0 0,.slice none 0 0] cs.zipIdx)=cs.toArray:=by
 match cs,h with
 | [c0,c1,c2,c3,c4,c5,c6,c7,c8,c9,c10,c11,c12,c13,c14,c15,c16,c17,c18],_=>exact fold19 _ _ _ _ _ _ _ _ _ _ _ _ _ _ _ _ _ _ _
def zeroNd:Array Value:=#[.int .i64 0,.string ⟨#[]⟩,.int .i64 0,.int .i64 0,.int .i64 0,.int .i64 0,.int .i64 0,.string ⟨#[]⟩,.int .i64 0,.int .i64 0,.int .i64 0,.int .i64 0,.int .i64 0,.int .i64 0,.int .i64 0,.int .i64 0,.slice none 0 0,.slice none 0 0,.slice none 0 0]
theorem infoNode:(Tryz.prog.info? 42).map (fun i=>(i.zero,i.size,i.bytes))=some (some (.agg zeroNd),19,216):=by kernel_rfl
theorem cellsM_app (ms:List NodeM) (m:NodeM):cellsM ms++m.cells=cellsM (ms++[m]):=by simp [cellsM]
section
variable {base r deep:Nat} {tv nv nv':Value} {T:List Tok} {ts ts1:List Tk} {ns:List Nd} {W Wk W':World}
theorem Stp.grown {v:Value} {g:Nat} (hb:Below W.heap.size W Wk) (hg:Wk.grownBy W' nv.ownBlock) (hv:v.ownBlock=some g) (hgH:nv.ownBlock=some g∨g=Wk.heap.size):Stp r nv W v W' :=
 ⟨hg.os.trans hb.os,hg.tape.trans hb.tape,hg.output.trans hb.output,Nat.le_trans hb.size hg.size,fun i hi h1 h2=>by
  rw [hg.block i (Nat.lt_of_lt_of_le hi hb.size) (Ne.symm h2)]
  exact hb.block i hi,fun k hk=>by
  rw [hv] at hk
  injection hk with hk
  subst hk
  rcases hgH with e | e
  ·exact .inl e
  ·right;rw [e];exact hb.size⟩
theorem lay_fin {m:NodeM} {ms:List NodeM} {g cap:Nat} (h:RS base r tv T deep ts ns nv W) (hm:MOk W base m) (hms:ms.map (·.node)=ns) (hall:∀ x∈ms,MOk W base x) (hb:Below W.heap.size W Wk)
 (ho:W'.ownsRow base 42 19 (.slice (some ⟨g,0,none⟩) (ns.length+1) cap) (ns.length+1) (cellsM ms++m.cells)) (hg:Wk.grownBy W' nv.ownBlock) (hgH:nv.ownBlock=some g∨g=Wk.heap.size) :
 RS base r tv T deep ts (ns++[m.node]) (.slice (some ⟨g,0,none⟩) (ns.length+1) cap) (W'.setCell ⟨r,3,none⟩ (.slice (some ⟨g,0,none⟩) (ns.length+1) cap)) ∧
  Stp r nv W (.slice (some ⟨g,0,none⟩) (ns.length+1) cap) (W'.setCell ⟨r,3,none⟩ (.slice (some ⟨g,0,none⟩) (ns.length+1) cap)):=by
 have s1:Stp r nv W (.slice (some ⟨g,0,none⟩) (ns.length+1) cap) W':=Stp.grown hb hg rfl hgH
 have s:=s1.set 3 (.slice (some ⟨g,0,none⟩) (ns.length+1) cap)
 have hbox:Blk W' r 147 #[tv,.int .i64 ((T.length-ts.length:Nat):Int),.int .i64 (deep:Int),nv]:=(hg.block r (Nat.lt_of_lt_of_le h.box.lt hb.size) (fun e=>h.r_ne e.symm)).trans (h.box.kept hb)
 have hgr:g≠r:=by
  intro e
  obtain ⟨cur,hc⟩:=row_block ho rfl
  rw [e] at hc
  have:=block_types hc hbox
  cases this
 refine ⟨⟨hbox.put 3 _,h.le,h.row s h.toks (by decide) (by decide),h.suf,h.short,h.few,ms++[m],by simp [hms],?_,?_⟩,s⟩
 ·rw [← cellsM_app,List.length_append]
  refine ⟨ho.1,?_⟩
  rcases ho.2 with ⟨h4,_⟩ | ⟨g',cap',cur,h4,h5,h6,h7⟩
  ·cases h4
  ·refine .inr ⟨g',cap',cur,h4,h5,?_,h7⟩
   rw [← h6]
   simp only [World.setCell,Array.getElem?_modify]
   injection h4 with h4
   injection h4 with h4
   injection h4 with h4
   rw [if_neg (fun e=>hgr (by rw [e,h4]))]
 ·intro x hx
  rcases List.mem_append.1 hx with hx | hx
  ·exact (hall x hx).row h s
  ·rw [List.mem_singleton.1 hx]
   exact hm.row h s
theorem one_cells (m:NodeM) (hm:MOk W base m):∀ u∈m.cells,u.oneCell'=true:=by
 have hs:∀ {b2 size n:Nat} {e:TypeId} {v:Value} {xs:List Value},W.ownsRow b2 e size v n xs→v.oneCell'=true:=by
  intro b2 size n e v xs ho
  rcases ho.2 with ⟨rfl,_⟩ | ⟨g,cap,cur,rfl,_⟩<;>rfl
 intro u hu
 simp only [NodeM.cells,List.mem_cons,List.not_mem_nil,or_false] at hu
 rcases hu with rfl | rfl | rfl | rfl | rfl | rfl | rfl | rfl | rfl | rfl | rfl | rfl | rfl | rfl | rfl | rfl | rfl | rfl | rfl
 all_goals first | rfl | exact hs hm.l | exact hs hm.names | exact hs hm.aggs
theorem lay_any (m:NodeM) (h:RS base r tv T deep ts ns nv W) (hm:MOk W base m) (hn:ns.length≤100000) (hbase:base≤W.heap.size) :
 Calls Tryz.prog 106 #[RP r,.agg #[.int .i64 (m.node.kind:Int),.string (BA m.node.s),.int .i64 m.node.n,.int .i64 m.node.from_,.int .i64 m.node.to_,.int .i64 (m.node.v.kind:Int),.int .i64 m.node.v.n,.string (BA m.node.v.s),
 .int .i64 0,.int .i64 0,.int .i64 0,.int .i64 0,.int .i64 0,.int .i64 0,.int .i64 0,.int .i64 0,m.lv,m.nv,m.av]] W fun e W' => ∃ nv',e=.returned (.int .i64 (ns.length:Int))∧RS base r tv T deep ts (ns++[m.node]) nv' W'∧Stp r nv W nv' W':=by
 obtain ⟨ms,hms,hrow,hall⟩:=h.nodes
 have h1:=one_cells m hm
 have hcl:m.cells.length=19:=rfl
 obtain ⟨cs,hcs⟩:∃ cs,cs=m.cells:=⟨_,rfl⟩
 rw [show (Value.agg #[.int .i64 (m.node.kind:Int),.string (BA m.node.s),.int .i64 m.node.n,.int .i64 m.node.from_,.int .i64 m.node.to_,.int .i64 (m.node.v.kind:Int),.int .i64 m.node.v.n,.string (BA m.node.v.s),
 .int .i64 0,.int .i64 0,.int .i64 0,.int .i64 0,.int .i64 0,.int .i64 0,.int .i64 0,.int .i64 0,m.lv,m.nv,m.av])=.agg cs.toArray by rw [hcs];rfl]
 rw [← hcs] at h1 hcl
 obtain ⟨W0,hW0⟩:∃ W0,W0=W.alloc (.cells cs.toArray 42):=⟨_,rfl⟩
 have hb0:Below W.heap.size W W0:=by rw [hW0];exact (Below.refl _ _).alloc (Nat.le_refl _) _
 have hx0:Blk W0 W.heap.size 42 cs.toArray:=by rw [hW0];exact Blk.new W _ _
 have H0:=h.kept hb0
 have HR0:=own_kept hrow hb0
 have c3:W0.cell? ⟨r,3,none⟩=some nv:=H0.box.cell 3
 have f3:=H0.box.free 3
 have HH:=Lib.hid h
 have HM:=Lib.hid hm
 have HA:=Lib.hid hall
 have HC:=Lib.hid hcs
 have HW:=Lib.hid hW0
 have HX:=Lib.hid hx0
 have HB:=Lib.hid hb0
 have hrow':=hrow
 clear h hm hall hcs H0 hx0 hb0 hrow
 go_enter Tryz.func106,Tryz.ntmps106
 go_wp2_with fail
 rw [show W.alloc (.cells cs.toArray 42)=W0 from HW.out.symm]
 clear hW0
 obtain ⟨i0,hi0,hz0,hz1,hz2⟩:=info_parts infoNode
 have hsz:(Tryz.prog.info? 42).map (·.size)=some cs.length:=by rw [hcl];exact sizeNode
 have hbs:=fold_nd cs hcl
 obtain ⟨Wk,hWk⟩:∃ Wk,Wk=(W0.alloc (.cells cs.toArray 42)).drew:=⟨_,rfl⟩
 have hbk:Below W0.heap.size W0 Wk:=by rw [hWk];exact ((Below.refl _ _).alloc (Nat.le_refl _) _).drew
 have HBK:=Lib.hid (chain HB.out hbk)
 have HRA:=Lib.hid (own_kept HR0 hbk)
 have hrng:W0.rangeAt W.heap.size 0 cs:=by
  intro j v hj
  rw [Nat.zero_add,HX.out.cell j]
  simpa using hj
 have hS0:W0.drew.cell? ⟨r,3,none⟩=some nv∧W0.drew.rangeAt W.heap.size 0 cs:=⟨c3,hrng⟩
 have hS1:Wk.cell? ⟨r,3,none⟩=some nv∧Wk.rangeAt W.heap.size 0 cs:=⟨keepc hbk c3,fun j v hj=>keepc hbk (hrng j v hj)⟩
 have c3b:=hS1.1
 have f3b:Wk.frozen? ⟨r,3,none⟩=false:=((HH.out.kept HBK.out).box).free 3
 have HN:=Lib.hid (show ∀ (j:Nat) u,cs[j]?=some u→Wk.cell? ((⟨W0.heap.size,0,none⟩:Addr).add j)=some u by
  intro j u hu
  rw [hWk]
  have:=blk_cells (Blk.new W0 42 cs.toArray).drew j u (by simpa using hu)
  exact this)
 have hnw:nv.ownBlock≠some W.heap.size:=fun e=>by
  have:=hrow'.lt _ e
  omega
 have hS2:∀ w1:World,w1.cell? ⟨r,3,none⟩=some nv→Wk.grownBy w1 nv.ownBlock→w1.cell? ⟨r,3,none⟩=some nv∧w1.rangeAt W.heap.size 0 cs:=fun w1 h1 hg=>⟨h1,fun j v hj=>hg.cell (hS1.2 j v hj) (fun e=>hnw e.symm)⟩
 have hr2:r<Wk.heap.size:=Nat.lt_of_lt_of_le HH.out.box.lt HBK.out.size
 have hbs2:base≤Wk.heap.size:=Nat.le_trans hbase HBK.out.size
 have hmx:ns.length+1≤maxLen:=by unfold maxLen;omega
 have hby:(ns.length+1)*216≤140737488355328:=by omega
 have hcl1:cs.length=1*19:=by rw [hcl]
 have HWK:=Lib.hid hWk
 clear hWk
 rw [show (#[{dst:=some 5,op:=Op.move (Operand.tmp 0),type:=112,pos := "parse.go:65",after:=#[],guard:=none},{dst:=some 6,op:=Op.move (Operand.tmp 0),type:=112,pos := "parse.go:65",after:=#[],guard:=none},{dst:=some 7,op:=Op.nilCheck (Operand.tmp 6),type:=0,pos := "parse.go:65",after:=#[⟨1,.data⟩],guard:=none},{dst:=some 8,op:=Op.fieldAddr 147 (Operand.tmp 7) 3,type:=0,pos := "parse.go:65",after:=#[⟨2,.data⟩],guard:=none},{dst:=some 9,op:=Op.load 23 (Operand.tmp 8),type:=23,pos := "parse.go:65",after:=#[⟨3,.data⟩],guard:=none},{dst:=some 10,op:=Op.load 42 (Operand.tmp 3),type:=42,pos := "parse.go:65",after:=#[],guard:=none},{dst:=some 11,op:=Op.buildSlice 23 1 #[(0,Operand.tmp 10)],type:=23,pos := "parse.go:65",after:=#[⟨5,.data⟩],guard:=none},{dst:=some 12,op:=Op.call {callee:=Callee.builtin Go.Builtin.append,args:=#[Operand.tmp 9,Operand.tmp 11],argTypes:=#[23,23]},type:=23,pos := "parse.go:65",after:=#[⟨4,.data⟩,⟨6,.data⟩],guard:=none},{dst:=some 13,op:=Op.nilCheck (Operand.tmp 5),type:=0,pos := "parse.go:65",after:=#[⟨0,.data⟩,⟨0,.phase⟩,⟨1,.phase⟩,⟨2,.phase⟩,⟨3,.phase⟩,⟨4,.phase⟩,⟨5,.phase⟩,⟨6,.phase⟩,⟨7,.phase⟩],guard:=none},{dst:=some 14,op:=Op.fieldAddr 147 (Operand.tmp 13) 3,type:=0,pos := "parse.go:65",after:=#[⟨8,.data⟩,⟨0,.phase⟩,⟨1,.phase⟩,⟨2,.phase⟩,⟨3,.phase⟩,⟨4,.phase⟩,⟨5,.phase⟩,⟨6,.phase⟩,⟨7,.phase⟩],guard:=none},{dst:=none,op:=Op.store 23 (Operand.tmp 14) (Operand.tmp 12),type:=0,pos := "parse.go:65",after:=#[⟨9,.data⟩,⟨7,.data⟩,⟨7,.chain⟩,⟨0,.phase⟩,⟨1,.phase⟩,⟨2,.phase⟩,⟨3,.phase⟩,⟨4,.phase⟩,⟨5,.phase⟩,⟨6,.phase⟩,⟨7,.phase⟩],guard:=none}]:Array Oper)=Array.push #[{dst:=some 5,op:=Op.move (Operand.tmp 0),type:=112,pos := "parse.go:65",after:=#[],guard:=none},{dst:=some 6,op:=Op.move (Operand.tmp 0),type:=112,pos := "parse.go:65",after:=#[],guard:=none},{dst:=some 7,op:=Op.nilCheck (Operand.tmp 6),type:=0,pos := "parse.go:65",after:=#[⟨1,.data⟩],guard:=none},{dst:=some 8,op:=Op.fieldAddr 147 (Operand.tmp 7) 3,type:=0,pos := "parse.go:65",after:=#[⟨2,.data⟩],guard:=none},{dst:=some 9,op:=Op.load 23 (Operand.tmp 8),type:=23,pos := "parse.go:65",after:=#[⟨3,.data⟩],guard:=none},{dst:=some 10,op:=Op.load 42 (Operand.tmp 3),type:=42,pos := "parse.go:65",after:=#[],guard:=none},{dst:=some 11,op:=Op.buildSlice 23 1 #[(0,Operand.tmp 10)],type:=23,pos := "parse.go:65",after:=#[⟨5,.data⟩],guard:=none},{dst:=some 12,op:=Op.call {callee:=Callee.builtin Go.Builtin.append,args:=#[Operand.tmp 9,Operand.tmp 11],argTypes:=#[23,23]},type:=23,pos := "parse.go:65",after:=#[⟨4,.data⟩,⟨6,.data⟩],guard:=none},{dst:=some 13,op:=Op.nilCheck (Operand.tmp 5),type:=0,pos := "parse.go:65",after:=#[⟨0,.data⟩,⟨0,.phase⟩,⟨1,.phase⟩,⟨2,.phase⟩,⟨3,.phase⟩,⟨4,.phase⟩,⟨5,.phase⟩,⟨6,.phase⟩,⟨7,.phase⟩],guard:=none},{dst:=some 14,op:=Op.fieldAddr 147 (Operand.tmp 13) 3,type:=0,pos := "parse.go:65",after:=#[⟨8,.data⟩,⟨0,.phase⟩,⟨1,.phase⟩,⟨2,.phase⟩,⟨3,.phase⟩,⟨4,.phase⟩,⟨5,.phase⟩,⟨6,.phase⟩,⟨7,.phase⟩],guard:=none}] {dst:=none,op:=Op.store 23 (Operand.tmp 14) (Operand.tmp 12),type:=0,pos := "parse.go:65",after:=#[⟨9,.data⟩,⟨7,.data⟩,⟨7,.chain⟩,⟨0,.phase⟩,⟨1,.phase⟩,⟨2,.phase⟩,⟨3,.phase⟩,⟨4,.phase⟩,⟨5,.phase⟩,⟨6,.phase⟩,⟨7,.phase⟩],guard:=none} from rfl]
 refine wp_region_last (S:=fun w'=>w'.cell? ⟨r,3,none⟩=some nv∧w'.rangeAt W.heap.size 0 cs) (by kernel_rfl) (by kernel_rfl) hS0 (fun hHeld=>?_)
 refine wpAnyH_take (i:=0) (oi:={dst:=some 5,op:=Op.move (Operand.tmp 0),type:=112,pos := "parse.go:65",after:=#[],guard:=none}) (v := ?v1) rfl (by kernel_rfl) (by kernel_rfl) (by kernel_rfl) (fun _ _ _ h=>h) (Or.inl ⟨by rfl,?hy1⟩) (by assumption) ?rest1
 case hy1 =>
  intro w hSw
  (try dsimp only at hSw)
  go_simp
  try with_reducible rfl
 try simp only [Act.put,List.setIfInBounds_toArray,List.set_cons_zero,List.set_cons_succ]
 refine wpAnyH_take (i:=1) (oi:={dst:=some 6,op:=Op.move (Operand.tmp 0),type:=112,pos := "parse.go:65",after:=#[],guard:=none}) (v := ?v2) rfl (by kernel_rfl) (by kernel_rfl) (by kernel_rfl) (fun _ _ _ h=>h) (Or.inl ⟨by rfl,?hy2⟩) (by assumption) ?rest2
 case hy2 =>
  intro w hSw
  (try dsimp only at hSw)
  go_simp
  try with_reducible rfl
 try simp only [Act.put,List.setIfInBounds_toArray,List.set_cons_zero,List.set_cons_succ]
 refine wpAnyH_take (i:=2) (oi:={dst:=some 7,op:=Op.nilCheck (Operand.tmp 6),type:=0,pos := "parse.go:65",after:=#[⟨1,.data⟩],guard:=none}) (v := ?v3) rfl (by kernel_rfl) (by kernel_rfl) (by kernel_rfl) (fun _ _ _ h=>h) (Or.inl ⟨by rfl,?hy3⟩) (by assumption) ?rest3
 case hy3 =>
  intro w hSw
  (try dsimp only at hSw)
  go_simp
  try with_reducible rfl
 try simp only [Act.put,List.setIfInBounds_toArray,List.set_cons_zero,List.set_cons_succ]
 refine wpAnyH_take (i:=3) (oi:={dst:=some 8,op:=Op.fieldAddr 147 (Operand.tmp 7) 3,type:=0,pos := "parse.go:65",after:=#[⟨2,.data⟩],guard:=none}) (v := ?v4) rfl (by kernel_rfl) (by kernel_rfl) (by kernel_rfl) (fun _ _ _ h=>h) (Or.inl ⟨by rfl,?hy4⟩) (by assumption) ?rest4
 case hy4 =>
  intro w hSw
  (try dsimp only at hSw)
  go_simp
  try with_reducible rfl
 try simp only [Act.put,List.setIfInBounds_toArray,List.set_cons_zero,List.set_cons_succ]
 refine wpAnyH_take (i:=4) (oi:={dst:=some 9,op:=Op.load 23 (Operand.tmp 8),type:=23,pos := "parse.go:65",after:=#[⟨3,.data⟩],guard:=none}) (v := ?v5) rfl (by kernel_rfl) (by kernel_rfl) (by kernel_rfl) (fun _ _ _ h=>h) (Or.inl ⟨by rfl,?hy5⟩) (by assumption) ?rest5
 case hy5 =>
  intro w hSw
  (try dsimp only at hSw)
  go_simp
  try with_reducible rfl
 try simp only [Act.put,List.setIfInBounds_toArray,List.set_cons_zero,List.set_cons_succ]
 refine' wpAnyH_take (i:=5) (oi:={dst:=some 10,op:=Op.load 42 (Operand.tmp 3),type:=42,pos := "parse.go:65",after:=#[],guard:=none}) (v:=_) rfl (by kernel_rfl) (by kernel_rfl) (by kernel_rfl) (fun _ _ _ h=>h) (yieldsIf_load_mid (by rfl) _ _ rfl _ _ rfl _ _ ?hS ?hu ?hd ?hi) (by assumption) ?rest
 case hS=>intro w hSw;(try dsimp only at hSw);exact hSw.2
 case hu=>exact undNode
 case hd=>rfl
 case hi=>exact hsz
 try simp only [Act.put,List.setIfInBounds_toArray,List.set_cons_zero,List.set_cons_succ]
 refine wpAnyH_ready (rs:=[6]) (by kernel_rfl) (by simp) ?_
 refine AllReadyH.cons (o:={dst:=some 11,op:=Op.buildSlice 23 1 #[(0,Operand.tmp 10)],type:=23,pos := "parse.go:65",after:=#[⟨5,.data⟩],guard:=none}) rfl (fun K hK=>?_) ?_
 ·go_simp
  rw [show (W0.alloc (Obj.cells cs.toArray 42)).drew=Wk from HWK.out.symm]
  refine hK.out _ _ ?_ (fun hHeld=>?_)
  ·exact hS1
  ·clear hK K
   try simp only [Act.put,List.setIfInBounds_toArray,List.set_cons_zero,List.set_cons_succ]
   refine wpAnyH_ready (rs:=[7]) (by kernel_rfl) (by simp) ?_
   refine AllReadyH.cons (o:={dst:=some 12,op:=Op.call {callee:=Callee.builtin Go.Builtin.append,args:=#[Operand.tmp 9,Operand.tmp 11],argTypes:=#[23,23]},type:=23,pos := "parse.go:65",after:=#[⟨4,.data⟩,⟨6,.data⟩],guard:=none}) rfl (fun K hK=>?_) ?_
   ·refine step_append_lies _ (by rfl) _ _ _ (by rfl) base 42 i0 _ 19 216 (by kernel_rfl) hi0 hz0 hz1 hz2 (by rfl) (by decide) _ ns.length (cellsM ms) (by rfl) HRA.out ⟨W0.heap.size,0,none⟩ 1 1 cs (by rfl) hcl1 HN.out h1 (by decide) hmx hby hbs2 _ rfl ?_
    intro g cap w1 ho hg hgH hlt
    have HF:=Lib.hid (And.intro ho (And.intro hg hgH))
    have c3:w1.cell? ⟨r,3,none⟩=some nv:=hg.cell c3b (fun e=>HH.out.r_ne e.symm)
    have f3:w1.frozen? ⟨r,3,none⟩=false:=(World.frozen?_of_block (hg.block r hr2 (fun e=>HH.out.r_ne e.symm))).trans f3b
    clear ho hg hgH hlt
    refine hK.out _ _ ?_ (fun hHeld=>?_)
    ·exact hS2 w1 c3 HF.out.2.1
    ·clear hK K
     try simp only [Act.put,List.setIfInBounds_toArray,List.set_cons_zero,List.set_cons_succ]
     refine wpAnyH_take (i:=8) (oi:={dst:=some 13,op:=Op.nilCheck (Operand.tmp 5),type:=0,pos := "parse.go:65",after:=#[⟨0,.data⟩,⟨0,.phase⟩,⟨1,.phase⟩,⟨2,.phase⟩,⟨3,.phase⟩,⟨4,.phase⟩,⟨5,.phase⟩,⟨6,.phase⟩,⟨7,.phase⟩],guard:=none}) (v := ?v6) rfl (by kernel_rfl) (by kernel_rfl) (by kernel_rfl) (fun _ _ _ h=>h) (Or.inl ⟨by rfl,?hy6⟩) (by assumption) ?rest6
     case hy6 =>
      intro w hSw
      (try dsimp only at hSw)
      go_simp
      try with_reducible rfl
     try simp only [Act.put,List.setIfInBounds_toArray,List.set_cons_zero,List.set_cons_succ]
     refine wpAnyH_take (i:=9) (oi:={dst:=some 14,op:=Op.fieldAddr 147 (Operand.tmp 13) 3,type:=0,pos := "parse.go:65",after:=#[⟨8,.data⟩,⟨0,.phase⟩,⟨1,.phase⟩,⟨2,.phase⟩,⟨3,.phase⟩,⟨4,.phase⟩,⟨5,.phase⟩,⟨6,.phase⟩,⟨7,.phase⟩],guard:=none}) (v := ?v7) rfl (by kernel_rfl) (by kernel_rfl) (by kernel_rfl) (fun _ _ _ h=>h) (Or.inl ⟨by rfl,?hy7⟩) (by assumption) ?rest7
     case hy7 =>
      intro w hSw
      (try dsimp only at hSw)
      go_simp
      try with_reducible rfl
     try simp only [Act.put,List.setIfInBounds_toArray,List.set_cons_zero,List.set_cons_succ]
     refine wpAnyH_done (by kernel_rfl) ?_ _
     refine then_step (fun K hK=>?_)
     go_simp
     refine hK.out _ _ ?_
     clear hK K
     have HE:=Lib.hid (lay_fin HH.out HM.out hms HA.out HBK.out (by rw [← HC.out];exact HF.out.1) HF.out.2.1 HF.out.2.2)
     go_wp2_with fail
     go_ret
     exact ⟨_,rfl,HE.out⟩
   exact AllReadyH.nil
 exact AllReadyH.nil
end
end Go.Proofs.YtnaehhpikhlppaaGreatDoor

namespace Go.Proofs.YtnaehhpikhlppaaGreatDoor.ParS
open LexS
def Cost {α:Type} (c l:Nat) (p:M α):Prop := ∀ ts ns a ts1 ns1,p ts ns=.ok (a,ts1,ns1)→ns1.length+ts1.length+c≤ns.length+ts.length+l
theorem Cost.le {α:Type} {c l c' l':Nat} {p:M α} (h:Cost c l p) (hc:c'+l≤c+l'):Cost c' l' p:=fun ts ns a ts1 ns1 hp=>by
 have:=h ts ns a ts1 ns1 hp
 omega
theorem cost_bind {α β:Type} {p:M α} {f:α→M β} {c1 l1 c2 l2:Nat} (hp:Cost c1 l1 p) (hf:∀ a,Cost c2 l2 (f a)):Cost (c1+c2) (l1+l2) (M.bind p f):=by
 intro ts ns b ts2 ns2 h
 obtain ⟨a,ts1,ns1,h1,h2⟩:=bind_ok h
 have e1:=hp _ _ _ _ _ h1
 have e2:=hf a _ _ _ _ _ h2
 omega
theorem cost_pure {α:Type} (a:α):Cost 0 0 (M.pure a):=by
 intro ts ns b ts1 ns1 h
 cases h
 omega
theorem cost_lay (n:Nd):Cost 0 1 (lay n):=by
 intro ts ns b ts1 ns1 h
 cases h
 simp
 omega
theorem cost_deep {α:Type} (c l:Nat):Cost c l (M.deep:M α):=by
 intro ts ns b ts1 ns1 h
 cases h
theorem sees_len {w:Bytes} {ts ts1:List Tk} (h:sees w ts=some ts1):ts1.length+1=ts.length:=by
 cases ts with
 | nil=>cases h
 | cons t r =>
   rw [sees_cons] at h
   split at h
   ·injection h with h
    subst h
    simp
   ·cases h
theorem cost_take (k:Nat):Cost 1 0 (take k):=by
 intro ts ns a ts1 ns1 h
 unfold take at h
 split at h
 ·cases h
 ·split at h
  ·cases h
   simp
   omega
  ·cases h
theorem cost_wants (w:Bytes):Cost 1 0 (wants w):=by
 intro ts ns a ts1 ns1 h
 unfold wants at h
 split at h
 ·rename_i ts2 hs
  cases h
  have:=sees_len hs
  omega
 ·cases h
theorem choice_len:∀ {l:List Bytes} {i k:Nat} {ts ts1:List Tk},choice l i ts=(k,ts1)→ts1.length≤ts.length∧(k=0∨ts1.length+1=ts.length)
 | [],i,k,ts,ts1,h=>by
   cases h
   exact ⟨Nat.le_refl _,.inl rfl⟩
 | w::l,i,k,ts,ts1,h=>by
   unfold choice at h
   split at h
   ·rename_i ts2 hs
    cases h
    have:=sees_len hs
    exact ⟨by omega,.inr this⟩
   ·exact choice_len h
theorem cost_manyGo {α:Type} {f:M α} (hf:Cost 0 0 f):∀ (k:Nat) (acc:List α),Cost 0 0 (manyGo f k acc)
 | 0,acc=>cost_pure acc
 | k+1,acc=>by
   intro ts ns b ts2 ns2 h
   unfold manyGo at h
   split at h
   ·cases h
    omega
   ·rename_i ts1 hs
    have e1:=sees_len hs
    have e2:=cost_bind hf (fun a=>cost_manyGo hf k (acc++[a])) _ _ _ _ _ h
    omega
theorem cost_many {α:Type} {f:M α} (hf:Cost 0 0 f):Cost 0 0 (many f):=cost_bind hf fun a ts ns b ts1 ns1 h=>cost_manyGo hf _ _ _ _ _ _ _ h
theorem cost_name:Cost 0 0 name:=(cost_bind (cost_take 1) fun _=>cost_pure _).le (by omega)
theorem cost_names:Cost 0 0 names:=cost_many cost_name
theorem cost_agg:Cost 0 0 agg:=by
 intro ts ns b ts2 ns2 h
 unfold agg at h
 split at h
 ·cases h
 ·rename_i ts1 hs
  have:=(choice_len hs).1
  cases h
  omega
 ·rename_i k ts1 hs
  have e1:=(choice_len hs).1
  have e2:=cost_bind (cost_take 1) (fun _=>cost_pure _) _ _ _ _ _ h
  omega
theorem cost_aggs:Cost 0 0 aggs:=cost_many cost_agg
theorem cost_value:Cost 0 0 value:=by
 intro ts ns b ts2 ns2 h
 unfold value at h
 split at h
 ·rename_i ts1 hs
  have:=(choice_len hs).1
  cases h
  omega
 ·rename_i ts1 hs
  have:=(choice_len hs).1
  cases h
  omega
 ·split at h
  ·cases h
  ·split at h
   ·cases h;simp
   ·split at h
    ·cases h;simp
    ·cases h
theorem cost_leaf:Cost 0 0 leaf:=by
 intro ts ns a ts2 ns2 h
 obtain ⟨t,ts1,ns1,h1,h2⟩:=bind_ok h
 have e1:=cost_take 1 _ _ _ _ _ h1
 split at h2
 ·rename_i ts3 hs
  have e2:=sees_len hs
  have e3:=cost_bind (cost_take 3) (fun u=>cost_lay _) _ _ _ _ _ h2
  omega
 ·split at h2
  ·cases h2
  ·rename_i k ts3 hs
   have e2:=(choice_len hs).1
   have e3:=cost_bind cost_value (fun u=>cost_lay _) _ _ _ _ _ h2
   omega
theorem cost_joinedGo {w:Bytes} {kind:Nat} {read:M Nat} (hr:Cost 0 0 read):∀ (k a:Nat),Cost 0 0 (joinedGo w kind read k a)
 | 0,a=>cost_pure a
 | k+1,a=>by
   intro ts ns b ts2 ns2 h
   unfold joinedGo at h
   split at h
   ·cases h
    omega
   ·rename_i ts1 hs
    have e1:=sees_len hs
    have e2:=cost_bind hr (fun b=>cost_bind (cost_lay (node kind [a,b])) (cost_joinedGo hr k)) _ _ _ _ _ h
    omega
theorem cost_joined {w:Bytes} {kind:Nat} {read:M Nat} (hr:Cost 0 0 read):Cost 0 0 (joined w kind read):=cost_bind hr fun a ts ns b ts1 ns1 h=>cost_joinedGo hr _ _ _ _ _ _ _ h
theorem cost_both {n:M Nat} (h:Cost 0 0 n):Cost 0 0 (bothOf n):=cost_joined h
theorem cost_cond {n:M Nat} (h:Cost 0 0 n):Cost 0 0 (condOf n):=cost_joined (cost_joined h)
theorem cost_shut {n:M Nat} (h:Cost 0 0 n):Cost 0 0 (shut n):=(cost_bind h fun _=>cost_bind (cost_wants _) fun _=>cost_pure _).le (by omega)
theorem cost_notOf {p q:M Nat} (hp:Cost 0 0 p) (hq:Cost 0 0 q):Cost 0 0 (notOf p q):=by
 intro ts ns a ts2 ns2 h
 unfold notOf at h
 split at h
 ·rename_i ts1 hs
  have e1:=sees_len hs
  have e2:=cost_bind hp (fun a=>cost_lay (node 13 [a])) _ _ _ _ _ h
  omega
 ·split at h
  ·rename_i ts1 hs
   have e1:=sees_len hs
   have e2:=hq _ _ _ _ _ h
   omega
  ·exact cost_leaf _ _ _ _ _ h
theorem cost_not (d:Nat):Cost 0 0 (pNot d):=by
 induction d with
 | zero=>exact cost_notOf (cost_deep _ _) (cost_deep _ _)
 | succ d ih=>exact cost_notOf ih (cost_shut (cost_cond ih))
theorem cost_pCond (d:Nat):Cost 0 0 (pCond d):=cost_cond (cost_not d)
theorem cost_step {inner cond:M Nat} (hi:Cost 0 0 inner) (hc:Cost 0 0 cond) (rows:Nat):Cost 0 0 (stepOf inner cond rows):=by
 intro ts ns a ts2 ns2 h
 unfold stepOf at h
 split at h
 ·rename_i ts1 hs
  have e1:=(choice_len hs).2
  have e2:=cost_bind hc (fun c=>cost_lay (node 2 [rows,c])) _ _ _ _ _ h
  omega
 ·rename_i ts1 hs
  have e1:=(choice_len hs).2
  have e2:=cost_bind cost_names (fun l=>cost_lay _) _ _ _ _ _ h
  omega
 ·rename_i ts1 hs
  have e1:=(choice_len hs).2
  have e2:=cost_bind (cost_take 2) (fun l=>cost_lay _) _ _ _ _ _ h
  omega
 ·rename_i ts1 hs
  have e1:=(choice_len hs).2
  obtain ⟨c,ts3,ns3,h3,h4⟩:=bind_ok h
  have e3:ns3.length+ts3.length≤ns.length+ts1.length:=by
   split at h3
   ·cases h3;omega
   ·have:=cost_names _ _ _ _ _ h3
    omega
  have e2:=cost_bind (cost_wants kw_colon) (fun _=>cost_bind cost_aggs fun a=>cost_lay _) _ _ _ _ _ h4
  omega
 ·rename_i ts1 hs
  have e1:=(choice_len hs).2
  have e2:=cost_bind (cost_take 2) (fun t=>cost_bind (cost_wants kw_by) fun _=>cost_bind (cost_take 1) fun u=>cost_lay _) _ _ _ _ _ h
  omega
 ·rename_i ts1 hs
  have e1:=(choice_len hs).2
  have e2:=cost_bind (cost_wants kw_open) (fun _=>cost_bind hi fun i=>cost_lay (node 7 [rows,i])) _ _ _ _ _ h
  omega
 ·rename_i ts1 hs
  have e1:=(choice_len hs).2
  have e2:=cost_bind (cost_wants kw_open) (fun _=>cost_bind hi fun i=>cost_lay (node 8 [rows,i])) _ _ _ _ _ h
  omega
 ·cases h
theorem cost_stepsGo {step:Nat→M Nat} (hs:∀ a,Cost 0 0 (step a)):∀ (k a:Nat),Cost 0 0 (stepsGo step k a)
 | 0,a=>cost_pure a
 | k+1,a=>by
   intro ts ns b ts2 ns2 h
   unfold stepsGo at h
   split at h
   ·cases h
    omega
   ·rename_i ts1 he
    have e1:=sees_len he
    have e2:=cost_bind (hs a) (fun b=>cost_stepsGo hs k b) _ _ _ _ _ h
    omega
theorem cost_times:Cost 0 0 times:=by
 intro ts ns a ts2 ns2 h
 unfold times at h
 split at h
 ·rename_i ts1 hs
  have e1:=sees_len hs
  have e2:=cost_bind (cost_take 2) (fun f=>cost_bind (cost_wants kw_to) fun _=>cost_bind (cost_take 2) fun g=>cost_pure (f.n,g.n)) _ _ _ _ _ h
  omega
 ·cases h
  omega
theorem cost_queryOf {step:Nat→M Nat} (hs:∀ a,Cost 0 0 (step a)):Cost 0 0 (queryOf step) :=
 (cost_bind (cost_wants kw_fetch) fun _=>cost_bind (cost_take 1) fun t=>cost_bind cost_times fun x=>cost_bind (cost_lay _) fun a ts ns b ts1 ns1 h=>cost_stepsGo hs _ _ _ _ _ _ _ h).le (by omega)
theorem cost_inner (d:Nat):Cost 0 0 (pInner d):=by
 induction d with
 | zero=>exact cost_deep _ _
 | succ d ih=>exact cost_shut (cost_queryOf (cost_step ih (cost_pCond d)))
end Go.Proofs.YtnaehhpikhlppaaGreatDoor.ParS
