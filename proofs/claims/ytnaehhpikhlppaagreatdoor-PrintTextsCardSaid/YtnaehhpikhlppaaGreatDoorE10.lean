/- Several texts of the proof, joined. -/
import Derived.Test.YtnaehhpikhlppaaGreatDoorE3
import Derived.Test.YtnaehhpikhlppaaGreatDoorE9
import Derived.Deep.RegionLaw
set_option maxHeartbeats 4000000
set_option maxRecDepth 100000
set_option linter.unusedVariables false
set_option linter.unusedSimpArgs false
namespace Go.Proofs.YtnaehhpikhlppaaGreatDoor
open Go.RowKit LexS ParS
abbrev BA (l:Bytes):ByteArray:=⟨l.toArray⟩
structure NodeM where
 node:Nd
 lv:Value
 nv:Value
 av:Value
def NodeM.cells (m:NodeM):List Value:=[.int .i64 (m.node.kind:Int),.string (BA m.node.s),.int .i64 m.node.n,.int .i64 m.node.from_,.int .i64 m.node.to_,.int .i64 (m.node.v.kind:Int),.int .i64 m.node.v.n,.string (BA m.node.v.s),
 .int .i64 0,.int .i64 0,.int .i64 0,.int .i64 0,.int .i64 0,.int .i64 0,.int .i64 0,.int .i64 0,m.lv,m.nv,m.av]
def intsL (l:List Nat):List Value:=l.map fun (i:Nat)=>.int .i64 (i:Int)
def strsL (l:List Bytes):List Value:=l.map fun s=>.string (BA s)
def aggsL (l:List (Nat×Bytes)):List Value:=l.flatMap fun a=>[.int .i64 (a.1:Int),.string (BA a.2)]
structure MOk (W:World) (base:Nat) (m:NodeM):Prop where
 l:W.ownsRow base 3 1 m.lv m.node.l.length (intsL m.node.l)
 names:W.ownsRow base 9 1 m.nv m.node.names.length (strsL m.node.names)
 aggs:W.ownsRow base 85 2 m.av m.node.aggs.length (aggsL m.node.aggs)
def cellsM (ms:List NodeM):List Value:=ms.flatMap NodeM.cells
def NS (W:World) (base:Nat) (v:Value) (ns:List Nd):Prop := ∃ ms:List NodeM,ms.map (·.node)=ns∧W.ownsRow base 42 19 v ns.length (cellsM ms)∧∀ m∈ms,MOk W base m
structure Stp (r:Nat) (nv:Value) (W:World) (nv':Value) (W':World):Prop where
 os:W'.os=W.os
 tape:W'.tape=W.tape
 output:W'.output=W.output
 size:W.heap.size≤W'.heap.size
 block:∀ i,i<W.heap.size→i≠r→nv.ownBlock≠some i→W'.heap[i]?=W.heap[i]?
 own:∀ k,nv'.ownBlock=some k→nv.ownBlock=some k∨W.heap.size≤k
section
variable {r base:Nat} {nv nv' nv'':Value} {W W' W'':World}
theorem Stp.of (h:Below W.heap.size W W'):Stp r nv W nv W':=⟨h.os,h.tape,h.output,h.size,fun i hi _ _=>h.block i hi,fun k hk=>.inl hk⟩
theorem Stp.refl (r:Nat) (nv:Value) (W:World):Stp r nv W nv W:=Stp.of (Below.refl _ _)
theorem Stp.trans (h:Stp r nv W nv' W') (k:Stp r nv' W' nv'' W''):Stp r nv W nv'' W'' :=
 ⟨k.os.trans h.os,k.tape.trans h.tape,k.output.trans h.output,Nat.le_trans h.size k.size,fun i hi h1 h2=>by
  rw [k.block i (Nat.lt_of_lt_of_le hi h.size) h1 (fun e=>by
   rcases h.own i e with e' | e'
   ·exact h2 e'
   ·omega)]
  exact h.block i hi h1 h2,fun i hi=>by
  rcases k.own i hi with e | e
  ·exact h.own i e
  ·exact .inr (Nat.le_trans h.size e)⟩
theorem Stp.below (h:Stp r nv W nv' W') (hr:base≤r) (hn:∀ k,nv.ownBlock=some k→base≤k) (hb:base≤W.heap.size):Below base W W' :=
 ⟨h.os,h.tape,h.output,h.size,fun i hi=>h.block i (by omega) (by omega) (fun e=>by have:=hn i e;omega)⟩
theorem Stp.blk {g:Nat} {t:TypeId} {cs:Array Value} (h:Stp r nv W nv' W') (hb:Blk W g t cs) (h1:g≠r) (h2:nv.ownBlock≠some g):Blk W' g t cs:=(h.block g hb.lt h1 h2).trans hb
theorem Stp.set (h:Stp r nv W nv' W') (i:Nat) (u:Value):Stp r nv W nv' (W'.setCell ⟨r,i,none⟩ u) :=
 ⟨h.os,h.tape,h.output,by simpa [World.setCell] using h.size,fun j hj h1 h2=>by
  rw [← h.block j hj h1 h2]
  simp only [World.setCell,Array.getElem?_modify]
  rw [if_neg (fun e=>h1 e.symm)],h.own⟩
theorem Stp.drew (h:Stp r nv W nv' W'):Stp r nv W nv' W'.drew:=⟨h.os,h.tape,h.output,h.size,h.block,h.own⟩
theorem row_block {e:TypeId} {size n:Nat} {v:Value} {xs:List Value} (h:W.ownsRow base e size v n xs) {k:Nat} (hk:v.ownBlock=some k):∃ cur,W.heap[k]?=some (.cells cur e (0,0)):=by
 rcases h.2 with ⟨rfl,_⟩ | ⟨g,cap,cur,rfl,_,h4,_⟩
 ·cases hk
 ·injection hk with hk
  subst hk
  exact ⟨cur,h4⟩
theorem row_stp {b2:Nat} {e:TypeId} {size n:Nat} {v:Value} {xs:List Value} (h:W.ownsRow b2 e size v n xs) (s:Stp r nv W nv' W') (hr:∀ k,v.ownBlock=some k→k≠r∧nv.ownBlock≠some k):W'.ownsRow b2 e size v n xs:=by
 refine ⟨h.1,?_⟩
 rcases h.2 with h2 | ⟨g,cap,cur,rfl,h3,h4,h5⟩
 ·exact .inl h2
 ·obtain ⟨e1,e2⟩:=hr g rfl
  exact .inr ⟨g,cap,cur,rfl,h3,(s.block g (Array.getElem?_eq_some_iff.1 h4).1 e1 e2).trans h4,h5⟩
theorem block_types {k:Nat} {c1 c2:Array Value} {t1 t2:TypeId} (h1:W.heap[k]?=some (.cells c1 t1 (0,0))) (h2:W.heap[k]?=some (.cells c2 t2 (0,0))):t1=t2:=by
 rw [h1] at h2
 injection h2 with h2
 injection h2
end
structure RS (base r:Nat) (tv:Value) (T:List Tok) (deep:Nat) (ts:List Tk) (ns:List Nd) (nv:Value) (W:World):Prop where
 box:Blk W r 147 #[tv,.int .i64 ((T.length-ts.length:Nat):Int),.int .i64 (deep:Int),nv]
 le:base≤r
 toks:W.ownsRow 0 65 4 tv T.length (toksL T)
 suf:ts=(T.map tk).drop (T.length-ts.length)
 short:ts.length≤T.length
 few:T.length≤1024
 nodes:NS W base nv ns
section
variable {base r deep:Nat} {tv nv nv':Value} {T:List Tok} {ts ts1:List Tk} {ns:List Nd} {W W':World}
theorem NS.block (h:NS W base nv ns) {k:Nat} (hk:nv.ownBlock=some k):base≤k∧∃ cur,W.heap[k]?=some (.cells cur 42 (0,0)):=by
 obtain ⟨ms,_,ho,_⟩:=h
 exact ⟨(ho.lt k hk).1,row_block ho hk⟩
theorem RS.r_ne (h:RS base r tv T deep ts ns nv W):nv.ownBlock≠some r:=by
 intro e
 obtain ⟨_,cur,hc⟩:=h.nodes.block e
 have:=block_types hc h.box
 cases this
theorem RS.row {b2 size n:Nat} {e:TypeId} {v:Value} {xs:List Value} (h:RS base r tv T deep ts ns nv W) (s:Stp r nv W nv' W') (ho:W.ownsRow b2 e size v n xs) (h1:e≠147) (h2:e≠42):W'.ownsRow b2 e size v n xs:=by
 refine row_stp ho s fun k hk=>?_
 obtain ⟨cur,hc⟩:=row_block ho hk
 refine ⟨fun e1=>?_,fun e1=>?_⟩
 ·subst e1
  exact h1 (block_types hc h.box)
 ·obtain ⟨_,cur2,hc2⟩:=h.nodes.block e1
  exact h2 (block_types hc hc2)
theorem MOk.row {m:NodeM} (hm:MOk W base m) (h:RS base r tv T deep ts ns nv W) (s:Stp r nv W nv' W'):MOk W' base m :=
 ⟨h.row s hm.l (by decide) (by decide),h.row s hm.names (by decide) (by decide),h.row s hm.aggs (by decide) (by decide)⟩
theorem MOk.kept {m:NodeM} (hm:MOk W base m) (hb:Below W.heap.size W W'):MOk W' base m:=⟨own_kept hm.l hb,own_kept hm.names hb,own_kept hm.aggs hb⟩
theorem NS.kept (h:NS W base nv ns) (hb:Below W.heap.size W W'):NS W' base nv ns:=by
 obtain ⟨ms,h1,h2,h3⟩:=h
 exact ⟨ms,h1,own_kept h2 hb,fun m hm=>(h3 m hm).kept hb⟩
theorem RS.kept (h:RS base r tv T deep ts ns nv W) (hb:Below W.heap.size W W'):RS base r tv T deep ts ns nv W' :=
 ⟨h.box.kept hb,h.le,own_kept h.toks hb,h.suf,h.short,h.few,h.nodes.kept hb⟩
theorem RS.put (h:RS base r tv T deep ts ns nv W) (i:Nat) (u:Value) {cs:Array Value} (hc:cs=(#[tv,.int .i64 ((T.length-ts.length:Nat):Int),.int .i64 (deep:Int),nv]:Array Value).setIfInBounds i u) :
 Blk (W.setCell ⟨r,i,none⟩ u) r 147 cs∧(W.setCell ⟨r,i,none⟩ u).ownsRow 0 65 4 tv T.length (toksL T)∧NS (W.setCell ⟨r,i,none⟩ u) base nv ns:=by
 have s:Stp r nv W nv (W.setCell ⟨r,i,none⟩ u):=(Stp.refl r nv W).set i u
 refine ⟨by rw [hc];exact h.box.put i u,h.row s h.toks (by decide) (by decide),?_⟩
 obtain ⟨ms,h1,h2,h3⟩:=h.nodes
 refine ⟨ms,h1,?_,fun m hm=>(h3 m hm).row h s⟩
 refine ⟨h2.1,?_⟩
 rcases h2.2 with h4 | ⟨g,cap,cur,rfl,h5,h6,h7⟩
 ·exact .inl h4
 ·refine .inr ⟨g,cap,cur,rfl,h5,?_,h7⟩
  rw [← h6]
  simp only [World.setCell,Array.getElem?_modify]
  rw [if_neg (fun e=>h.r_ne (by rw [e];rfl))]
theorem RS.next (h:RS base r tv T deep ts ns nv W) {t:Tk} (ht:ts=t::ts1) {a:Int} (ha:a=((T.length-ts.length:Nat):Int)+1):RS base r tv T deep ts1 ns nv (W.setCell ⟨r,1,none⟩ (.int .i64 a)):=by
 have hs:=h.short
 rw [ht,List.length_cons] at hs
 have e1:T.length-ts1.length=T.length-ts.length+1:=by rw [ht,List.length_cons];omega
 obtain ⟨h1,h2,h3⟩:=h.put 1 (.int .i64 a) (cs:=#[tv,.int .i64 ((T.length-ts1.length:Nat):Int),.int .i64 (deep:Int),nv]) (by
  rw [ha,e1]
  simp)
 refine ⟨h1,h.le,h2,?_,by omega,h.few,h3⟩
 rw [e1,← List.drop_drop,← h.suf,ht]
 rfl
theorem RS.deeper (h:RS base r tv T deep ts ns nv W) {d2:Nat} {a:Int} (ha:a=(d2:Int)):RS base r tv T d2 ts ns nv (W.setCell ⟨r,2,none⟩ (.int .i64 a)):=by
 obtain ⟨h1,h2,h3⟩:=h.put 2 (.int .i64 a) (cs:=#[tv,.int .i64 ((T.length-ts.length:Nat):Int),.int .i64 (d2:Int),nv]) (by rw [ha];simp)
 exact ⟨h1,h.le,h2,h.suf,h.short,h.few,h3⟩
end
abbrev Mv (r:Nat) (W W':World):Prop:=Stp r (.slice none 0 0) W (.slice none 0 0) W'
section
variable {base r deep d2:Nat} {tv nv:Value} {T:List Tok} {ts ts1:List Tk} {ns:List Nd} {W W':World}
theorem Mv.stp (h:Mv r W W') (nv:Value):Stp r nv W nv W':=⟨h.os,h.tape,h.output,h.size,fun i hi h1 _=>h.block i hi h1 (fun e=>by cases e),fun k hk=>.inl hk⟩
theorem Mv.far (h:Mv r W W') {b:Nat} (hb:W.heap.size≤b) (i:Nat) (u:Value):Mv r W (W'.setCell ⟨b,i,none⟩ u) :=
 ⟨h.os,h.tape,h.output,by simpa [World.setCell] using h.size,fun j hj h1 h2=>by
  rw [← h.block j hj h1 h2]
  simp only [World.setCell,Array.getElem?_modify]
  rw [if_neg (by omega)],fun k hk=>by cases hk⟩
theorem row_mv {b2 size n:Nat} {e:TypeId} {v:Value} {xs:List Value} (ho:W.ownsRow b2 e size v n xs) (m:Mv r W W') (h:v.ownBlock≠some r):W'.ownsRow b2 e size v n xs :=
 row_stp ho m fun k hk=>⟨fun e=>h (by rw [hk,e]),fun e=>by cases e⟩
theorem RS.again (h:RS base r tv T deep ts ns nv W) (m:Mv r W W') (hb:Blk W' r 147 #[tv,.int .i64 ((T.length-ts1.length:Nat):Int),.int .i64 (d2:Int),nv]) (hs:ts1=(T.map tk).drop (T.length-ts1.length)) (hl:ts1.length≤T.length):RS base r tv T d2 ts1 ns nv W':=by
 have s:=m.stp nv
 obtain ⟨ms,h1,h2,h3⟩:=h.nodes
 exact ⟨hb,h.le,h.row s h.toks (by decide) (by decide),hs,hl,h.few,ms,h1,row_mv h2 m h.r_ne,fun x hx=>(h3 x hx).row h s⟩
theorem RS.far {b:Nat} {t:TypeId} {cs:Array Value} (h:RS base r tv T deep ts ns nv W) (hb:Blk W b t cs) (h1:t≠3∧t≠9∧t≠85∧t≠65) (hn:nv.ownBlock≠some b) (hr:b≠r) (i:Nat) (u:Value):RS base r tv T deep ts ns nv (W.setCell ⟨b,i,none⟩ u):=by
 have row:∀ {b2 size n:Nat} {e:TypeId} {v:Value} {xs:List Value},W.ownsRow b2 e size v n xs→(e≠t∨v.ownBlock≠some b)→(W.setCell ⟨b,i,none⟩ u).ownsRow b2 e size v n xs:=by
  intro b2 size n e v xs ho hne
  refine ⟨ho.1,?_⟩
  rcases ho.2 with h4 | ⟨g,cap,cur,rfl,h5,h6,h7⟩
  ·exact .inl h4
  ·refine .inr ⟨g,cap,cur,rfl,h5,?_,h7⟩
   rw [← h6]
   simp only [World.setCell,Array.getElem?_modify]
   rw [if_neg (fun e1=>by
    rcases hne with hne | hne
    ·rw [← e1] at h6
     exact hne (block_types h6 hb)
    ·exact hne (by rw [e1];rfl))]
 obtain ⟨ms,k1,k2,k3⟩:=h.nodes
 exact ⟨h.box.far (Ne.symm hr) _,h.le,row h.toks (.inl (Ne.symm h1.2.2.2)),h.suf,h.short,h.few,ms,k1,row k2 (.inr hn),fun m hm=>⟨row (k3 m hm).l (.inl (Ne.symm h1.1)),row (k3 m hm).names (.inl (Ne.symm h1.2.1)),row (k3 m hm).aggs (.inl (Ne.symm h1.2.2.1))⟩⟩
end
theorem cell?_setCell_ne {w:World} {g o g' o':Nat} {v:Value} (h:g≠g'):(w.setCell ⟨g',o',none⟩ v).cell? ⟨g,o,none⟩=w.cell? ⟨g,o,none⟩:=World.cell?_of_block (Below.heap_setCell w ⟨g',o',none⟩ v g h)
theorem cell_drewN_new (w:World) (n i:Nat) (cs:Array Value) (t:TypeId):((w.drewN n).alloc (.cells cs t)).cell? ⟨w.heap.size,i,none⟩=cs[i]?:=(Blk.new (w.drewN n) t cs).cell i
theorem free_drewN_new (w:World) (n i:Nat) (cs:Array Value) (t:TypeId):((w.drewN n).alloc (.cells cs t)).frozen? ⟨w.heap.size,i,none⟩=false:=(Blk.new (w.drewN n) t cs).free i
theorem cell_drew_new (w:World) (i:Nat) (cs:Array Value) (t:TypeId):(w.drew.alloc (.cells cs t)).cell? ⟨w.heap.size,i,none⟩=cs[i]?:=(Blk.new w.drew t cs).cell i
theorem free_drew_new (w:World) (i:Nat) (cs:Array Value) (t:TypeId):(w.drew.alloc (.cells cs t)).frozen? ⟨w.heap.size,i,none⟩=false:=(Blk.new w.drew t cs).free i
theorem below_box4 (w:World) (n:Nat) (cs:Array Value) (t:TypeId) (a b c d:Value):Below w.heap.size w ((((((w.drewN n).alloc (.cells cs t)).setCell ⟨w.heap.size,0,none⟩ a).setCell ⟨w.heap.size,1,none⟩ b).setCell ⟨w.heap.size,2,none⟩ c).setCell ⟨w.heap.size,3,none⟩ d) :=
 (((((below_drewN (Below.refl _ _) n).alloc (Nat.le_refl _) _).setCell (Nat.le_refl _) _).setCell (Nat.le_refl _) _).setCell (Nat.le_refl _) _).setCell (Nat.le_refl _) _
theorem tok_at {T:List Tok} {ts ts1:List Tk} {t:Tk} (hs:ts=(T.map tk).drop (T.length-ts.length)) (hl:ts.length≤T.length) (ht:ts=t::ts1):∃ u,T[T.length-ts.length]?=some u∧tk u=t∧T.length-ts.length<T.length:=by
 have h0:0<ts.length:=by rw [ht];simp
 have hlt:T.length-ts.length<T.length:=by omega
 refine ⟨T[T.length-ts.length],List.getElem?_eq_getElem hlt,?_,hlt⟩
 have:(T.map tk)[T.length-ts.length]?=some t:=by
  have h1:((T.map tk).drop (T.length-ts.length))[0]?=some t:=by rw [← hs,ht];rfl
  rwa [List.getElem?_drop,Nat.add_zero] at h1
 rw [List.getElem?_map,List.getElem?_eq_getElem hlt] at this
 simpa using this
end Go.Proofs.YtnaehhpikhlppaaGreatDoor

namespace Go.Proofs.YtnaehhpikhlppaaGreatDoor
open Go.RowKit LexS ParS BigFrame
attribute [local go_sem] World.cell?_alloc_some cell_drewN_new free_drewN_new cell_drew_new free_drew_new
abbrev RP (r:Nat):Value:=.pointer (some ⟨r,0,none⟩)
def isS (b:Bytes) (ts:List Tk):Bool:=(sees b ts).isSome
theorem isS_cons (b:Bytes) (t:Tk) (ts:List Tk):isS b (t::ts)=isW b t:=by
 unfold isS
 rw [sees_cons]
 cases isW b t<;>rfl
section
variable {base r deep:Nat} {tv nv nv':Value} {T:List Tok} {ts ts1:List Tk} {ns:List Nd} {W W':World}
theorem is_any (b:Bytes) (h:RS base r tv T deep ts ns nv W):Calls Tryz.prog 142 #[RP r,.string (BA b)] W fun e W'=>e=.returned (.bool (isS b ts))∧Below W.heap.size W W':=by
 obtain ⟨p,cap,rfl,hcap,hmax,hrow⟩:=row_any h.toks
 have hfew:=h.few
 cases ts with
 | nil =>
   have c0:W.drew.cell? ⟨r,0,none⟩=some (.slice p T.length cap):=h.box.drew.cell 0
   have c1:W.drew.cell? ⟨r,1,none⟩=some (.int .i64 (T.length:Int)):=h.box.drew.cell 1
   have c0:W.cell? ⟨r,0,none⟩=some (.slice p T.length cap):=h.box.cell 0
   have c1:W.cell? ⟨r,1,none⟩=some (.int .i64 (T.length:Int)):=h.box.cell 1
   have q1:(T.length:Int)≤(T.length:Int):=by omega
   have q2:decide ((T.length:Int)≤(T.length:Int))=true:=decide_eq_true q1
   clear hrow h
   go_enter Tryz.func142,Tryz.ntmps142
   go_wp2_with fail
   go_big_quiet (fail)
   go_wp2_with fail
   go_ret
   exact ⟨rfl,by first | exact below_drewN (Below.refl _ _) _ | exact (Below.refl _ _).drew⟩
 | cons t ts1 =>
   obtain ⟨u,hu,hut,hlt⟩:=tok_at h.suf h.short rfl
   obtain ⟨i,hi⟩:∃ i,i=T.length-(t::ts1).length:=⟨_,rfl⟩
   rw [← hi] at hu hlt
   obtain ⟨g,rfl,_,_,hcells⟩:=hrow (by rintro rfl;simp at hlt)
   obtain ⟨d0,d1,d2,d3⟩:=hcells i u hu
   have c0:W.cell? ⟨r,0,none⟩=some (.slice (some ⟨g,0,none⟩) T.length cap):=h.box.cell 0
   have c1:W.cell? ⟨r,1,none⟩=some (.int .i64 (i:Int)):=by rw [hi];exact h.box.cell 1
   have q1:¬ (T.length:Int)≤(i:Int):=by omega
   have q2:decide ((T.length:Int)≤(i:Int))=false:=decide_eq_false q1
   have q3:decide (T.length≤i)=false:=decide_eq_false (by omega)
   have q4:(0:Int)≤(i:Int):=by omega
   have q5:(i:Int)<(T.length:Int):=by omega
   have hv:isS b (t::ts1)=((decide (u.kind=1) || decide (u.kind=4)) && decide (u.s=b)):=by rw [isS_cons,← hut];rfl
   have HV:=Lib.hid hv
   have n1:=World.new_ne W _ c0
   have n2:=World.new_ne W _ c1
   have n3:=World.new_ne W _ d0
   have n4:=World.new_ne W _ d1
   have n5:=World.new_ne W _ d2
   have n6:=World.new_ne W _ d3
   clear hcells hrow h hi hu hut hv
   go_enter Tryz.func142,Tryz.ntmps142
   go_wp2_with fail
   go_big_quiet (fail)
   go_wp2_with fail
   go_region_held3 (fun w'=>w'.cell? ⟨r,0,none⟩=some (.slice (some ⟨g,0,none⟩) T.length cap)∧w'.cell? ⟨r,1,none⟩=some (.int .i64 (i:Int))∧w'.cell? ⟨g,i*4,none⟩=some (.int .i64 (u.kind:Int))∧w'.cell? ⟨g,i*4+1,none⟩=some (.string ⟨u.s.toArray⟩)∧w'.cell? ⟨g,i*4+2,none⟩=some (.int .i64 u.n)∧w'.cell? ⟨g,i*4+3,none⟩=some (.int .i64 (u.at_:Int))) (go_keep) (fail)
   go_wp2_with fail
   all_goals
    go_ret
    refine ⟨congrArg (fun x=>Ending.returned (.bool x)) ?_,below_box4 _ _ _ _ _ _ _ _⟩
    rw [HV.out]
    first
     | (have k1:(u.kind:Int)=1:=by assumption
        have k1':u.kind=1:=by omega
        rw [k1',Bool.eq_iff_iff];simp;done)
     | (have k1:¬ (u.kind:Int)=1:=by assumption
        have k2:(u.kind:Int)=4:=by assumption
        have k2':u.kind=4:=by omega
        rw [k2',Bool.eq_iff_iff];simp;done)
     | (have k1:¬ (u.kind:Int)=1:=by assumption
        have k2:¬ (u.kind:Int)=4:=by assumption
        have k1':¬ u.kind=1:=by omega
        have k2':¬ u.kind=4:=by omega
        rw [decide_eq_false k1',decide_eq_false k2'];rfl)
theorem isS_some {b:Bytes} (h:sees b ts=some ts1):isS b ts=true∧∃ t,ts=t::ts1:=by
 refine ⟨by unfold isS;rw [h];rfl,?_⟩
 cases ts with
 | nil=>cases h
 | cons t r =>
   rw [sees_cons] at h
   split at h
   ·injection h with h
    subst h
    exact ⟨t,rfl⟩
   ·cases h
theorem isS_none {b:Bytes} (h:sees b ts=none):isS b ts=false:=by unfold isS;rw [h];rfl
theorem sees_yes {b:Bytes} (h:RS base r tv T deep ts ns nv W) (hs:sees b ts=some ts1) :
 Calls Tryz.prog 104 #[RP r,.string (BA b)] W fun e W'=>e=.returned (.bool true)∧RS base r tv T deep ts1 ns nv W'∧Mv r W W':=by
 obtain ⟨h1,t,ht⟩:=isS_some hs
 have H:=Lib.hid h
 have HT:=Lib.hid ht
 have hi:=is_any b h
 rw [h1] at hi
 have HI:=Lib.hid hi
 clear h hs h1 ht hi
 go_enter Tryz.func104,Tryz.ntmps104
 go_wp2_with fail
 refine HI.out.mono ?_
 rintro e w1 ⟨rfl,hb⟩
 have H1:=Lib.hid (H.out.kept hb)
 have S1:=Lib.hid (Stp.of (r:=r) (nv:=.slice none 0 0) hb)
 have hfew:=H.out.few
 obtain ⟨i,hi⟩:∃ i,i=T.length-ts.length:=⟨_,rfl⟩
 have c1:w1.cell? ⟨r,1,none⟩=some (.int .i64 (i:Int)):=by rw [hi];exact H1.out.box.cell 1
 have f1:=H1.out.box.free 1
 have hi2:(i:Int)≤1024:=by omega
 have H2:=Lib.hid (H1.out.next HT.out (a:=(i:Int)+1) (by rw [hi]))
 clear hi hb
 go_wp2_with fail
 go_ret
 exact ⟨rfl,H2.out,S1.out.set 1 _⟩
theorem sees_no {b:Bytes} (h:RS base r tv T deep ts ns nv W) (hs:sees b ts=none) :
 Calls Tryz.prog 104 #[RP r,.string (BA b)] W fun e W'=>e=.returned (.bool false)∧RS base r tv T deep ts ns nv W'∧Mv r W W':=by
 have hi:=is_any b h
 rw [isS_none hs] at hi
 have H:=Lib.hid h
 have HI:=Lib.hid hi
 clear h hs hi
 go_enter Tryz.func104,Tryz.ntmps104
 go_wp2_with fail
 refine HI.out.mono ?_
 rintro e w1 ⟨rfl,hb⟩
 go_wp2_with fail
 go_ret
 exact ⟨rfl,H.out.kept hb,Stp.of hb⟩
def Bad (T:List Tok) (k:Nat) (long:Bool):Ending:=.panicked [{v:=.iface 145 (.agg #[.int .i64 ((T.length-k:Nat):Int),.int .i64 (codeOf long:Int)]),recovered:=false}]
theorem fail_any (h:RS base r tv T deep ts ns nv W):Calls Tryz.prog 101 #[RP r] W fun e W'=>e=Bad T ts.length false∧W=W':=by
 have c1:W.cell? ⟨r,1,none⟩=some (.int .i64 ((T.length-ts.length:Nat):Int)):=h.box.cell 1
 obtain ⟨i,hi⟩:∃ i,i=T.length-ts.length:=⟨_,rfl⟩
 rw [← hi] at c1
 have HB:=Lib.hid (show Bad T ts.length false=.panicked [{v:=.iface 145 (.agg #[.int .i64 (i:Int),.int .i64 120]),recovered:=false}] by rw [hi];rfl)
 clear hi h
 go_enter Tryz.func101,Tryz.ntmps101
 go_wp2_with fail
 exact ⟨rfl,HB.out.symm,rfl⟩
theorem wants_yes {b:Bytes} (h:RS base r tv T deep ts ns nv W) (hs:sees b ts=some ts1) :
 Calls Tryz.prog 102 #[RP r,.string (BA b)] W fun e W'=>e=.returned (.tuple #[])∧RS base r tv T deep ts1 ns nv W'∧Mv r W W':=by
 have HI:=Lib.hid (sees_yes h hs)
 clear h hs
 go_enter Tryz.func102,Tryz.ntmps102
 go_wp2_with fail
 refine HI.out.mono ?_
 rintro e w1 ⟨rfl,h1,s1⟩
 have H1:=Lib.hid (And.intro h1 s1)
 clear h1 s1
 go_wp2_with fail
 exact bodyPost_end (v:=.tuple #[]) (results_none rfl _ _ _) rfl ⟨rfl,H1.out⟩
theorem wants_no {b:Bytes} (h:RS base r tv T deep ts ns nv W) (hs:sees b ts=none) :
 Calls Tryz.prog 102 #[RP r,.string (BA b)] W fun e W'=>e=Bad T ts.length false∧Mv r W W':=by
 have HI:=Lib.hid (sees_no h hs)
 clear h hs
 go_enter Tryz.func102,Tryz.ntmps102
 go_wp2_with fail
 refine HI.out.mono ?_
 rintro e w1 ⟨rfl,h1,s1⟩
 have H1:=Lib.hid (And.intro h1 s1)
 clear h1 s1
 go_wp2_with fail
 refine (fail_any H1.out.1).mono ?_
 rintro e w2 ⟨rfl,rfl⟩
 unfold Bad
 go_wp2_with fail
 exact ⟨rfl,rfl,H1.out.2⟩
def TokIs (t:Tk) (v:Value):Prop := ∃ a:Int,v=.agg #[.int .i64 (t.kind:Int),.string (BA t.s),.int .i64 t.n,.int .i64 a]
theorem take_yes {t:Tk} (h:RS base r tv T deep ts ns nv W) (ht:ts=t::ts1) :
 Calls Tryz.prog 141 #[RP r,.int .i64 (t.kind:Int)] W fun e W' => ∃ v,e=.returned v∧TokIs t v∧RS base r tv T deep ts1 ns nv W'∧Mv r W W':=by
 obtain ⟨p,cap,rfl,hcap,hmax,hrow⟩:=row_any h.toks
 have hfew:=h.few
 obtain ⟨u,hu,hut,hlt⟩:=tok_at h.suf h.short ht
 obtain ⟨i,hi⟩:∃ i,i=T.length-ts.length:=⟨_,rfl⟩
 rw [← hi] at hu hlt
 obtain ⟨g,rfl,_,hg,hcells⟩:=hrow (by rintro rfl;simp at hlt)
 obtain ⟨d0,d1,d2,d3⟩:=hcells i u hu
 obtain ⟨kd,hk⟩:∃ kd,kd=u.kind:=⟨_,rfl⟩
 have hkt:t.kind=kd:=by rw [← hut,hk];rfl
 rw [← hk] at d0
 rw [hkt]
 have HT:=Lib.hid (show TokIs t (.agg #[.int .i64 (kd:Int),.string ⟨u.s.toArray⟩,.int .i64 u.n,.int .i64 (u.at_:Int)]) from ⟨(u.at_:Int),by rw [hk,← hut];rfl⟩)
 obtain ⟨W0,hW0⟩:∃ W0,W0=W.alloc (.cells #[.int .i64 0,.string ⟨#[]⟩,.int .i64 0,.int .i64 0] 65):=⟨_,rfl⟩
 have hb0:Below W.heap.size W W0:=by rw [hW0];exact (Below.refl _ _).alloc (Nat.le_refl _) _
 have hx0:Blk W0 W.heap.size 65 #[.int .i64 0,.string ⟨#[]⟩,.int .i64 0,.int .i64 0]:=by rw [hW0];exact Blk.new W _ _
 have H0:=h.kept hb0
 have c0:W0.cell? ⟨r,0,none⟩=some (.slice (some ⟨g,0,none⟩) T.length cap):=H0.box.cell 0
 have c1:W0.cell? ⟨r,1,none⟩=some (.int .i64 (i:Int)):=by rw [hi];exact H0.box.cell 1
 have f1:=H0.box.free 1
 have d0:=keepc hb0 d0
 have d1:=keepc hb0 d1
 have d2:=keepc hb0 d2
 have d3:=keepc hb0 d3
 have q1:¬ (T.length:Int)≤(i:Int):=by omega
 have q2:decide ((T.length:Int)≤(i:Int))=false:=decide_eq_false q1
 have q3:decide (T.length≤i)=false:=decide_eq_false (by omega)
 have q4:(0:Int)≤(i:Int):=by omega
 have q5:(i:Int)<(T.length:Int):=by omega
 have q6:((kd:Int) != (kd:Int))=false:=by simp
 have nr:r≠W.heap.size:=Nat.ne_of_lt h.box.lt
 have ng:g≠W.heap.size:=Nat.ne_of_lt hg
 have nr2:W.heap.size≠r:=nr.symm
 have ng2:W.heap.size≠g:=ng.symm
 have nrg:g≠r:=by
  intro e
  subst e
  obtain ⟨cur,hc⟩:=row_block h.toks rfl
  have:=block_types hc h.box
  cases this
 have HH:=Lib.hid H0
 have HR:=Lib.hid h
 have HB:=Lib.hid hb0
 have HX:=Lib.hid hx0
 have HI:=Lib.hid hi
 have HTS:=Lib.hid ht
 have HW:=Lib.hid hW0
 clear hcells hrow h hi hu hut hk hkt H0 hb0 hx0 ht
 go_enter Tryz.func141,Tryz.ntmps141
 go_wp2_with fail
 rw [show W.alloc (.cells #[.int .i64 0,.string ⟨#[]⟩,.int .i64 0,.int .i64 0] 65)=W0 from HW.out.symm]
 clear hW0
 go_big_quiet (fail)
 go_wp2_with fail
 obtain ⟨W2,hW2⟩:∃ W2,W2=(W0.drewN nq).setCell ⟨r,1,none⟩ (.int .i64 ((i:Int)+1)):=⟨_,rfl⟩
 have hbq:Below W0.heap.size W0 (W0.drewN nq):=below_drewN (Below.refl _ _) nq
 have H2:RS base r (.slice (some ⟨g,0,none⟩) T.length cap) T deep ts1 ns nv W2:=by rw [hW2];exact (HH.out.kept hbq).next HTS.out (by rw [HI.out])
 have S2:Mv r W W2:=by rw [hW2];exact (Stp.of (HB.out.trans (hbq.mono HB.out.size))).set 1 _
 have X2:Blk W2 W.heap.size 65 #[.int .i64 0,.string ⟨#[]⟩,.int .i64 0,.int .i64 0]:=by rw [hW2];exact (HX.out.kept hbq).far nr.symm _
 have c0:W2.cell? ⟨r,0,none⟩=some (.slice (some ⟨g,0,none⟩) T.length cap):=H2.box.cell 0
 have c1:W2.cell? ⟨r,1,none⟩=some (.int .i64 ((i:Int)+1)):=by
  have:=H2.box.cell 1
  rw [this]
  have e:T.length-ts1.length=i+1:=by
   have h1:=H2.short
   have h2:=HI.out
   have h3:=HH.out.short
   rw [HTS.out,List.length_cons] at h2 h3
   omega
  rw [e]
  rfl
 have d0:W2.cell? ⟨g,i*4,none⟩=some (.int .i64 (kd:Int)):=by rw [hW2];exact (cell?_setCell_ne nrg).trans d0
 have d1:W2.cell? ⟨g,i*4+1,none⟩=some (.string ⟨u.s.toArray⟩):=by rw [hW2];exact (cell?_setCell_ne nrg).trans d1
 have d2:W2.cell? ⟨g,i*4+2,none⟩=some (.int .i64 u.n):=by rw [hW2];exact (cell?_setCell_ne nrg).trans d2
 have d3:W2.cell? ⟨g,i*4+3,none⟩=some (.int .i64 (u.at_:Int)):=by rw [hW2];exact (cell?_setCell_ne nrg).trans d3
 have e0:W2.cell? ⟨W.heap.size,0,none⟩=some (.int .i64 0):=X2.cell 0
 have e1:W2.cell? ⟨W.heap.size,1,none⟩=some (.string ⟨#[]⟩):=X2.cell 1
 have e2:W2.cell? ⟨W.heap.size,2,none⟩=some (.int .i64 0):=X2.cell 2
 have e3:W2.cell? ⟨W.heap.size,3,none⟩=some (.int .i64 0):=X2.cell 3
 have x0:=X2.free 0
 have x1:=X2.free 1
 have x2:=X2.free 2
 have x3:=X2.free 3
 have HF:=Lib.hid (And.intro H2 (And.intro S2 X2))
 have v1:IntKind.i64.wrap (i:Int)=(i:Int):=IntWalk.i64_in _ (by omega)
 have v2:IntKind.i64.wrap ((i:Int)+1-1)=(i:Int):=by rw [show ((i:Int)+1-1)=(i:Int) by omega];exact v1
 rw [← hW2]
 clear hW2 hbq H2 S2 X2 f1
 go_region_held3 (fun w'=>w'.cell? ⟨r,0,none⟩=some (.slice (some ⟨g,0,none⟩) T.length cap)∧w'.cell? ⟨r,1,none⟩=some (.int .i64 ((i:Int)+1))∧w'.cell? ⟨g,i*4,none⟩=some (.int .i64 (kd:Int))∧w'.cell? ⟨g,i*4+1,none⟩=some (.string ⟨u.s.toArray⟩)∧w'.cell? ⟨g,i*4+2,none⟩=some (.int .i64 u.n)∧w'.cell? ⟨g,i*4+3,none⟩=some (.int .i64 (u.at_:Int))) (go_keep) (fail)
 go_wp2_with fail
 refine bodyPost_ret (v:=.agg #[.int .i64 (kd:Int),.string ⟨u.s.toArray⟩,.int .i64 u.n,.int .i64 (u.at_:Int)]) ?_ rfl ⟨_,rfl,HT.out,?_⟩
 ·simp [results,Tryz.results141,go_sem,e0,e1,e2,e3]
 ·have hs:=HF.out.2.1
  have h2:=HF.out.1
  have m:Mv r W ((((W2.setCell ⟨W.heap.size,0,none⟩ (.int .i64 (kd:Int))).setCell ⟨W.heap.size,1,none⟩ (.string ⟨u.s.toArray⟩)).setCell ⟨W.heap.size,2,none⟩ (.int .i64 u.n)).setCell ⟨W.heap.size,3,none⟩ (.int .i64 (u.at_:Int))).drew :=
   ((((hs.far (Nat.le_refl _) _ _).far (Nat.le_refl _) _ _).far (Nat.le_refl _) _ _).far (Nat.le_refl _) _ _).drew
  exact ⟨HR.out.again m ((((h2.box.far nr _).far nr _).far nr _).far nr _).drew h2.suf h2.short,m⟩
end
end Go.Proofs.YtnaehhpikhlppaaGreatDoor
