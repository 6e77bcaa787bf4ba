/- Several texts of the proof, joined. -/
import Derived.Test.YtnaehhpikhlppaaGreatDoorE3
import Derived.Test.YtnaehhpikhlppaaGreatDoorRows
import Derived.LaidMore
import Derived.LaidHandle
import Derived.LaidSub
import Derived.LaidLaws
import Derived.LaidOnce
import Derived.MakeChecks
import Derived.Handed
import Derived.HandedShaped
import Derived.Shelf.Vars
import Derived.Lib.LaidTab
import Derived.ProofKit
import Derived.Stop.Joined
import Derived.Lay
import Derived.Test.YtnaehhpikhlppaaGreatDoorE21
import Derived.Test.YtnaehhpikhlppaaGreatDoorE14
import Derived.Lib.Join
import Derived.Test.YtnaehhpikhlppaaGreatDoorE18
set_option maxHeartbeats 4000000
set_option maxRecDepth 100000
set_option linter.unusedVariables false
set_option linter.unusedSimpArgs false
namespace Go.Proofs.YtnaehhpikhlppaaGreatDoor
open Go.ChangeShapes Go.WideShapes Go.ChangeAt Go.RowKit
theorem returnsInHanded_of_laid {H:Type} {enc:TypeId×Value→H} {a:Assume} {C:Checked} {os:Os} {f:FuncId} {fn:Func} {s:ChangeSpec} {conds:List PathCond} {apart fresh handsOn again:Bool} {X:World→Array Value→Prop}
 (hX:∀ (w w':World) (args:Array Value),w.heap=w'.heap→X w args→X w' args)
 (own:ownKnob C.prog.godebug=none) (started:os.Started) (noInit:C.prog.inits.idxOf? f=none) (hfn:C.prog.funcs[f]?=some fn)
 (witness:∃ (w:World) (tape:Tape) (i:Input),w.os=os∧(w.forCall tape i).Shaped C.prog∧i.vars=[]∧Input.okWide C.prog (w.forCall tape i) .any w.heap.size f i ∧
  ((s.pre enc C.prog fn conds apart (w.forCall tape i).memory i.args∧X (w.forCall tape i).memory i.args)∧sizedMet enc C.prog fn (OpenSpec.ofChange s) apart (w.forCall tape i).memory i.args)∧a.holds C.prog (lone (Frame.enter C.prog f i.args .normal) [] (w.forCall tape i)))
 (contract:∀ (W:World) (base:Nat) (args:Array Value) (ds gs:List (DataW H)) (before:List MemPlace),
  (∀ (j:Nat) t v,fn.params[j]?=some t→args[j]?=some v→Value.okWide C.prog W .any base t v) →
  DataW.Whole enc C.prog fn.params.toList s.vars apart W args.toList ds gs before →
  conds.all (PathCond.test C.prog ⟨fn.params.toList,ds,s.plain.varTypes C.prog,gs⟩)=true →
  (DataW.weightsEach C.prog (fn.params.toList++s.plain.varTypes C.prog) (ds++gs)).all (·≤reachBytes)=true→X W args →
  W.ShapedOpen C.prog →
  a.holds C.prog (lone (Frame.enter C.prog f args .normal) [] W) →
  Calls C.prog f args W fun e W' => ∃ v,e=.returned v∧s.post enc C.prog fn apart fresh handsOn again W args v W') :
 ReturnsInHanded a C os f .any (fun w args=>(s.pre enc C.prog fn conds apart w args∧X w args)∧sizedMet enc C.prog fn (OpenSpec.ofChange s) apart w args) (s.post enc C.prog fn apart fresh handsOn again):=by
 refine returnsInHanded_of_calls own started noInit witness ?_
 intro w tape i _ hsh _ hok hpre hholds
 obtain ⟨_,_,_,fn',hfn',_,_,_,_,hval⟩:=hok
 have e:fn'=fn:=Option.some.inj (hfn'.symm.trans hfn)
 subst e
 obtain ⟨⟨⟨ds,gs,before,hw,hc⟩,hx⟩,hz⟩:=hpre
 have hw':=DataW.Whole.of_heap (w':=w.forCall tape i) (by rfl) hw
 refine (contract (w.forCall tape i) w.heap.size i.args ds gs before hval hw' hc (hz.weights hw) (hX _ _ _ (by rfl) hx) hsh hholds).mono fun e W' ⟨v,he,hp⟩=>?_
 subst he
 exact ChangeSpec.post_blind hp
theorem iface_cell {P:Program} {w:World} {base:Nat} {sp:Nat→Bool} {held:Bool} {H:Type} {enc:TypeId×Value→H} {fuel:Nat} {t:TypeId} {cs:List Value} {y:DataW H×List MemPlace} {ms}
 (ht:P.underlying t=some (.interface ms)) (h:DataW.trod enc P w base sp held fuel t cs=some y):cs=[.nilIface]∨∃ u v,cs=[.iface u v]:=by
 cases fuel with
 | zero=>simp [DataW.trod] at h
 | succ fuel =>
   match cs with
   | []=>simp [DataW.trod,ht] at h
   | [c] =>
     cases c<;>simp [DataW.trod,ht] at h
     ·exact .inr ⟨_,_,rfl⟩
     ·exact .inl rfl
   | c::d::r=>cases c<;>simp [DataW.trod,ht] at h
def laid10:List (String×DataW Unit):=[("math/bits.deBruijn32tab",Rows.laid_math_bits_deBruijn32tab),("math/bits.deBruijn64tab",Rows.laid_math_bits_deBruijn64tab),("internal/strconv.uint64pow10",Rows.laid_internal_strconv_uint64pow10),("unicode/utf8.acceptRanges",Rows.laid_unicode_utf8_acceptRanges),("strconv.ErrRange",Rows.laid_strconv_ErrRange),("strconv.ErrSyntax",Rows.laid_strconv_ErrSyntax),("catchment/print.steps",Rows.laid_catchment_print_steps),("catchment/print.aggs",Rows.laid_catchment_print_aggs),("catchment/print.signs",Rows.laid_catchment_print_signs),("unicode/utf8.first",Rows.laid_unicode_utf8_first)]
theorem own:ownKnob Tryz.prog.godebug=none:=by kernel_rfl
theorem door_met (os:Os) (args:Array Value):laidMetH Tryz.prog laid10 ((World.laidAll Tryz.prog os laid10).forCall (fun _ _=>0) ⟨#[],args,[]⟩).memory:=by
 rw [MakeChecks.laidMetH_plain _ _ _ (by kernel_rfl)]
 exact laidMet_laidAll _ (by kernel_rfl) (by kernel_rfl)
theorem sentinel_cell {W:World} {n:String} {d:DataW Unit} {g:Nat} (hg:Tryz.prog.globalNamed n=some g) (ht:(Tryz.prog.globals[g]?).map (·.type)=some 166) (h:laidMet Tryz.prog [(n,d)] W) :
 ∃ ev:Value,W.cell? ⟨g,0,none⟩=some ev∧(ev=.nilIface∨∃ te pe,ev=.iface te pe):=by
 obtain ⟨ps,⟨g0,t0,cs0,f0,p0,q0,hg0,ht0,hv0,hd0,_,_⟩,_,_⟩:=h
 obtain rfl:=Option.some.inj (hg.symm.trans hg0)
 obtain rfl:=Option.some.inj (ht.symm.trans ht0)
 have hc:=World.var?_cell hg hv0 0
 obtain ⟨l⟩:=cs0
 rcases iface_cell Tryz.underlying166 hd0 with h | ⟨u,v,h⟩
 ·dsimp only at h;subst h;exact ⟨_,by simpa using hc,.inl rfl⟩
 ·dsimp only at h;subst h;exact ⟨_,by simpa using hc,.inr ⟨_,_,rfl⟩⟩
def strTab {H:Type} (ss:List (List UInt8)):DataW H:=.agg (ss.map fun s=>.lit (.string s))
theorem cells_of_strs {H:Type} {enc:TypeId×Value→H} {P:Program} {w:World} {base:Nat} {sp:Nat→Bool} {held:Bool} {fuel:Nat} {t e:TypeId} {n:Nat} {cs:List Value} {ss:List (List UInt8)} {p:List MemPlace}
 (ht:P.underlying t=some (.array n e)) (he:P.underlying e=some .string) (hce:P.cellsOf e=1) (hct:P.cellsOf t=n)
 (h:DataW.trod enc P w base sp held fuel t cs=some (strTab ss,p)):cs=ss.map fun s=>Value.string ⟨s.toArray⟩:=by
 cases fuel with
 | zero=>simp [DataW.trod] at h
 | succ fuel =>
   simp only [DataW.trod,ht,hce,hct,Nat.mul_one] at h
   split at h
   ·rename_i hl
    obtain ⟨xs,hm,hx⟩:=Option.map_eq_some_iff.1 h
    have hxs:xs.map (·.1)=ss.map fun s=>(DataW.lit (.string s):DataW H):=by
     have:=congrArg Prod.fst hx
     simpa [strTab] using this
    have hxl:xs.length=n:=by simpa using Lib.mapM_length hm
    have hzl:ss.length=n:=by
     have:=congrArg List.length hxs
     simp at this
     omega
    apply List.ext_getElem?
    intro i
    by_cases hi:i<n
    ·obtain ⟨b,hb,hf⟩:=Lib.mapM_at hm i i (by simp [hi])
     obtain ⟨z,hc,rfl,_⟩:=DataW.trod_string he hf
     have h1:cs[i]?=some (.string z):=by
      have:=congrArg (·[0]?) hc
      simpa [List.getElem?_take,List.getElem?_drop] using this
     have h2:(xs.map (·.1))[i]?=some (DataW.lit (.string z.data.toList):DataW H):=by simp [hb]
     rw [hxs] at h2
     simp only [List.getElem?_map,Option.map_eq_some_iff,DataW.lit.injEq,Lit.string.injEq] at h2
     obtain ⟨z',hz',e⟩:=h2
     rw [h1,List.getElem?_map,hz',e]
     rfl
    ·rw [List.getElem?_eq_none (by omega),List.getElem?_eq_none (by simp;omega)]
   ·cases h
theorem strs_cell {W:World} {name:String} {ss:List (List UInt8)} {g:Nat} {t e:TypeId} {n:Nat}
 (hg:Tryz.prog.globalNamed name=some g) (hty:(Tryz.prog.globals[g]?).map (·.type)=some t) (ht:Tryz.prog.underlying t=some (.array n e)) (he:Tryz.prog.underlying e=some .string) (hce:Tryz.prog.cellsOf e=1) (hct:Tryz.prog.cellsOf t=n)
 (h:laidMet Tryz.prog [(name,strTab ss)] W) (i:Nat) (s:List UInt8) (hi:ss[i]?=some s):W.cell? ⟨g,i,none⟩=some (.string ⟨s.toArray⟩):=by
 obtain ⟨ps,⟨g',t',cs,fuel,p,q,hg',ht',hvar,hd,_,_⟩,_⟩:=h
 obtain rfl:=Option.some.inj (hg.symm.trans hg')
 obtain rfl:=Option.some.inj (hty.symm.trans ht')
 have hc:=cells_of_strs ht he hce hct hd
 have:=World.var?_cell hg hvar i
 rw [this]
 have e2:cs=(ss.map fun s=>Value.string ⟨s.toArray⟩).toArray:=by rw [← hc]
 rw [e2]
 simp [hi]
theorem gw_of {W:World} (h:laidMetH Tryz.prog laid10 W) (hsh:W.ShapedOpen Tryz.prog):PW W:=by
 rw [MakeChecks.laidMetH_plain _ _ _ (by kernel_rfl)] at h
 have h1:=laidMet.filter (fun x=>x.1 == "internal/strconv.uint64pow10") h
 have h2:=laidMet.filter (fun x=>x.1 == "strconv.ErrRange") h
 have h3:=laidMet.filter (fun x=>x.1 == "strconv.ErrSyntax") h
 have h4:=laidMet.filter (fun x=>x.1 == "catchment/print.signs") h
 have h5:=laidMet.filter (fun x=>x.1 == "catchment/print.steps") h
 have h6:=laidMet.filter (fun x=>x.1 == "catchment/print.aggs") h
 have e1:laid10.filter (fun x=>x.1 == "internal/strconv.uint64pow10")=[("internal/strconv.uint64pow10",Rows.laid_internal_strconv_uint64pow10)]:=by kernel_rfl
 have e2:laid10.filter (fun x=>x.1 == "strconv.ErrRange")=[("strconv.ErrRange",Rows.laid_strconv_ErrRange)]:=by kernel_rfl
 have e3:laid10.filter (fun x=>x.1 == "strconv.ErrSyntax")=[("strconv.ErrSyntax",Rows.laid_strconv_ErrSyntax)]:=by kernel_rfl
 have e4:laid10.filter (fun x=>x.1 == "catchment/print.signs")=[("catchment/print.signs",strTab ((List.range 7).map signB))]:=by kernel_rfl
 have e5:laid10.filter (fun x=>x.1 == "catchment/print.steps")=[("catchment/print.steps",strTab ((List.range 9).map stepB))]:=by kernel_rfl
 have e6:laid10.filter (fun x=>x.1 == "catchment/print.aggs")=[("catchment/print.aggs",strTab ((List.range 7).map aggC))]:=by kernel_rfl
 rw [e1] at h1
 rw [e2] at h2
 rw [e3] at h3
 rw [e4] at h4
 rw [e5] at h5
 rw [e6] at h6
 have ht:Lib.TabIs Tryz.prog W "internal/strconv.uint64pow10" .u64 Lib.pow10Tab:=Lib.tabIs_of_head (g:=4) (t:=207) (e:=194) (n:=20) (by kernel_rfl) (by kernel_rfl) (by kernel_rfl) (by kernel_rfl) (by kernel_rfl) (by kernel_rfl) h1
 refine ⟨⟨?_,?_,?_,ht,?_⟩,?_,?_,?_⟩
 ·exact cell_of_shapedOpen_int hsh (g:=3) (t:=3) (zero:=#[.int .i64 0]) (of_decide_eq_true (by kernel_rfl)) (by kernel_rfl) (by kernel_rfl) (by kernel_rfl) (by kernel_rfl) (by kernel_rfl)
 ·exact sentinel_cell (by kernel_rfl) (by kernel_rfl) h3
 ·exact sentinel_cell (by kernel_rfl) (by kernel_rfl) h2
 ·have hc:=World.var?_cell (g:=4) (by kernel_rfl) ht 0
  exact World.block_lt_of_cell? W _ (by rw [hc];rfl)
 ·exact fun k hk=>strs_cell (g:=0) (t:=117) (e:=9) (n:=7) (by kernel_rfl) (by kernel_rfl) (by kernel_rfl) (by kernel_rfl) (by kernel_rfl) (by kernel_rfl) h4 k _ (by rw [List.getElem?_map,List.getElem?_range hk];rfl)
 ·exact fun k hk=>strs_cell (g:=1) (t:=138) (e:=9) (n:=9) (by kernel_rfl) (by kernel_rfl) (by kernel_rfl) (by kernel_rfl) (by kernel_rfl) (by kernel_rfl) h5 k _ (by rw [List.getElem?_map,List.getElem?_range hk];rfl)
 ·exact fun k hk=>strs_cell (g:=2) (t:=117) (e:=9) (n:=7) (by kernel_rfl) (by kernel_rfl) (by kernel_rfl) (by kernel_rfl) (by kernel_rfl) (by kernel_rfl) h6 k _ (by rw [List.getElem?_map,List.getElem?_range hk];rfl)
end Go.Proofs.YtnaehhpikhlppaaGreatDoor

namespace Go.Proofs.YtnaehhpikhlppaaGreatDoor.ParS
open LexS
structure QueryIn (q:Qr):Prop where
 ok:q.Ok
 lex:∀ t∈q.tok,LexT t
 few:q.tok.length≤1024
theorem QueryIn.len {q:Qr} (h:QueryIn q):q.textB.length≤134144:=by
 rw [← (query_mid q h.ok).2]
 have:=spell_len h.lex
 have:=h.few
 omega
theorem sep_mem {l:List (List Tk)} {x:List Tk} (h:x∈l):∀ t∈x,t∈sep l:=by
 intro t ht
 cases l with
 | nil=>cases h
 | cons a r =>
   show t∈a++r.flatMap fun y=>sg kw_comma::y
   rcases List.mem_cons.1 h with rfl | h
   ·simp [ht]
   ·refine List.mem_append_right _ (List.mem_flatMap.2 ⟨x,h,by simp [ht]⟩)
theorem join_sep (l:List Bytes):Lib.join l [44,32]=sepB l:=by
 cases l with
 | nil=>rfl
 | cons x r =>
   rw [Lib.join_cons]
   show _=x++r.flatMap fun y=>44::32::y
   rw [List.flatMap_def]
   rfl
section
variable {q r:Qr} {c:Cd} {l:List Bytes} {g:List (Nat×Bytes)} {n f t:Int} {s:Bytes}
theorem QueryIn.inWhere (h:QueryIn (.where_ q c)):QueryIn q∧CondIn 0 c:=by
 have e:Qr.tok (.where_ q c)=q.tok++[sg kw_bar,wd (stepW 2)]++c.tok 0:=rfl
 have hf:=h.few
 rw [e] at hf
 simp at hf
 exact ⟨⟨h.ok.1,fun t ht=>h.lex t (by rw [e];simp [ht]),by omega⟩,⟨h.ok.2,fun t ht=>h.lex t (by rw [e];simp [ht]),by omega⟩⟩
theorem QueryIn.inJoin (h:QueryIn (.join q r)):QueryIn q∧QueryIn r:=by
 have e:Qr.tok (.join q r)=q.tok++[sg kw_bar,wd (stepW 7),sg kw_open]++r.tok++[sg kw_shut]:=rfl
 have hf:=h.few
 rw [e] at hf
 simp at hf
 exact ⟨⟨h.ok.1,fun t ht=>h.lex t (by rw [e];simp [ht]),by omega⟩,⟨h.ok.2,fun t ht=>h.lex t (by rw [e];simp [ht]),by omega⟩⟩
theorem QueryIn.inUnion (h:QueryIn (.union q r)):QueryIn q∧QueryIn r:=by
 have e:Qr.tok (.union q r)=q.tok++[sg kw_bar,wd (stepW 8),sg kw_open]++r.tok++[sg kw_shut]:=rfl
 have hf:=h.few
 rw [e] at hf
 simp at hf
 exact ⟨⟨h.ok.1,fun t ht=>h.lex t (by rw [e];simp [ht]),by omega⟩,⟨h.ok.2,fun t ht=>h.lex t (by rw [e];simp [ht]),by omega⟩⟩
theorem QueryIn.inFetch (h:QueryIn (.fetch s f t)):s.length≤130∧(f≠0∨t≠1099511627775 → -9223372036854775808≤f∧f≤9223372036854775807 ∧ -9223372036854775808≤t∧t≤9223372036854775807):=by
 refine ⟨lexT_small (t:=wd s) (h.lex _ (by simp [Qr.tok])),fun hne=>?_⟩
 have e:Qr.tok (.fetch s f t)=[wd kw_fetch,wd s]++[wd kw_from,nm f,wd kw_to,nm t]:=by
  unfold Qr.tok
  rw [if_neg (by omega)]
 have h1:=lexT_nm (h.lex (nm f) (by rw [e];simp))
 have h2:=lexT_nm (h.lex (nm t) (by rw [e];simp))
 exact ⟨h1.1,h1.2,h2.1,h2.2⟩
theorem QueryIn.inKeep (h:QueryIn (.keep q l)):QueryIn q∧l ≠ []∧l.length≤1024∧∀ s∈l,s.length≤130:=by
 have e:Qr.tok (.keep q l)=q.tok++[sg kw_bar,wd (stepW 3)]++namesT l:=rfl
 have hf:=h.few
 rw [e] at hf
 simp at hf
 have h1:=names_len l
 refine ⟨⟨h.ok.1,fun t ht=>h.lex t (by rw [e];simp [ht]),by omega⟩,h.ok.2,by omega,fun s hs=>lexT_small (t:=wd s) (h.lex _ ?_)⟩
 rw [e]
 exact List.mem_append_right _ (sep_mem (List.mem_map.2 ⟨s,hs,rfl⟩) _ (by simp))
theorem QueryIn.inAlign (h:QueryIn (.align q n)):QueryIn q ∧ -9223372036854775808≤n∧n≤9223372036854775807:=by
 have e:Qr.tok (.align q n)=q.tok++[sg kw_bar,wd (stepW 4),nm n]:=rfl
 have hf:=h.few
 rw [e] at hf
 simp at hf
 exact ⟨⟨h.ok,fun t ht=>h.lex t (by rw [e];simp [ht]),by omega⟩,lexT_nm (h.lex (nm n) (by rw [e];simp))⟩
theorem QueryIn.inTop (h:QueryIn (.top q n s)):QueryIn q∧s.length≤130 ∧ -9223372036854775808≤n∧n≤9223372036854775807:=by
 have e:Qr.tok (.top q n s)=q.tok++[sg kw_bar,wd (stepW 6),nm n,wd kw_by,wd s]:=rfl
 have hf:=h.few
 rw [e] at hf
 simp at hf
 exact ⟨⟨h.ok,fun t ht=>h.lex t (by rw [e];simp [ht]),by omega⟩,lexT_small (t:=wd s) (h.lex _ (by rw [e];simp)),lexT_nm (h.lex (nm n) (by rw [e];simp))⟩
theorem QueryIn.inGroup (h:QueryIn (.group q l g)):QueryIn q∧l.length≤1024∧(∀ s∈l,s.length≤130)∧g ≠ []∧g.length≤1024∧∀ a∈g,AggOk a∧a.2.length≤130:=by
 have e:Qr.tok (.group q l g)=q.tok++[sg kw_bar,wd (stepW 5)]++namesT l++[sg kw_colon]++aggsT g:=rfl
 have hf:=h.few
 rw [e] at hf
 simp at hf
 have h1:=names_len l
 have h2:=aggs_len g
 refine ⟨⟨h.ok.1,fun t ht=>h.lex t (by rw [e];simp [ht]),by omega⟩,by omega,fun s hs=>lexT_small (t:=wd s) (h.lex _ ?_),h.ok.2.2.1,by omega,fun a ha=>⟨h.ok.2.2.2 a ha,?_⟩⟩
 ·have:wd s∈namesT l:=sep_mem (List.mem_map.2 ⟨s,hs,rfl⟩) _ (by simp)
  rw [e]
  simp [this]
 ·have hm:∀ t∈aggT a,LexT t:=fun t ht=>h.lex t (by
   have:t∈aggsT g:=sep_mem (List.mem_map.2 ⟨a,ha,rfl⟩) _ ht
   rw [e]
   simp [this])
  rcases h.ok.2.2.2 a ha with rfl | ⟨h5,h6⟩
  ·exact Nat.zero_le _
  ·unfold aggT at hm
   rw [if_neg (by omega)] at hm
   exact lexT_small (t:=wd a.2) (hm _ (by simp))
end
structure NdIn (nd:Nd):Prop where
 names:∀ s∈nd.names,LexT (wd s)
 own:nd.kind=1∨nd.kind=6∨nd.kind=14∨nd.kind=15→LexT (wd nd.s)
 aggs:∀ a∈nd.aggs,AggOk a∧(a.1≠1→LexT (wd a.2))
 val:nd.v=⟨0,0,[]⟩∨(ValOk nd.v∧(-9223372036854775808≤nd.v.n∧nd.v.n≤9223372036854775807)∧nd.v.s.length≤64)
 sign:nd.kind=14→1≤nd.n∧nd.n≤6
 few:nd.names.length≤1024∧nd.aggs.length≤1024
theorem ndIn_node {k:Nat} {l:List Nat} (h:k≠1∧k≠6∧k≠14∧k≠15):NdIn (node k l) :=
 ⟨fun s hs=>by (cases hs),fun h'=>by have:k=1∨k=6∨k=14∨k=15:=h';omega,fun a ha=>by (cases ha),.inl rfl,fun h'=>by have:k=14:=h';omega,Nat.zero_le _,Nat.zero_le _⟩
theorem CondIn.nds:∀ {c:Cd} {w:Nat},CondIn w c→∀ (b:Nat),∀ nd∈c.flat b,NdIn nd
 | .cmp s n v,w,h,b,nd,hm=>by
   obtain ⟨_,n1,n2,hv,hvn,hvs⟩:=h.inCmp
   have hw:LexT (wd s):=h.base.lex _ (by simp [Cd.tok0,Cd.body])
   have e:nd = {node 14 [] with s:=s,n:=(n:Int),v:=v}:=by simpa [Cd.flat] using hm
   subst e
   exact ⟨fun s hs=>by (cases hs),fun _=>hw,fun a ha=>by (cases ha),.inr ⟨hv,hvn,hvs⟩,fun _=>⟨by show (1:Int)≤(n:Int);omega,by show (n:Int)≤6;omega⟩,Nat.zero_le _,Nat.zero_le _⟩
 | .has s t,w,h,b,nd,hm=>by
   obtain ⟨_,ht⟩:=h.inHas
   have hw:LexT (wd s):=h.base.lex _ (by simp [Cd.tok0,Cd.body])
   have e:nd = {node 15 [] with s:=s,v:=⟨2,0,t⟩}:=by simpa [Cd.flat] using hm
   subst e
   exact ⟨fun s hs=>by (cases hs),fun _=>hw,fun a ha=>by (cases ha),.inr ⟨.inr (.inl ⟨rfl,rfl⟩),⟨by show (_:Int)≤0;omega,by show (0:Int)≤_;omega⟩,ht⟩,fun h'=>by have:(15:Nat)=14:=h';omega,Nat.zero_le _,Nat.zero_le _⟩
 | .not c,w,h,b,nd,hm=>by
   rcases List.mem_append.1 hm with hm | hm
   ·exact h.inNot.nds b nd hm
   ·rw [List.mem_singleton] at hm
    subst hm
    exact ndIn_node (by omega)
 | .and x y,w,h,b,nd,hm=>by
   rcases List.mem_append.1 hm with hm | hm
   ·rcases List.mem_append.1 hm with hm | hm
    ·exact h.inAnd.1.nds b nd hm
    ·exact h.inAnd.2.nds _ nd hm
   ·rw [List.mem_singleton] at hm
    subst hm
    exact ndIn_node (by omega)
 | .or x y,w,h,b,nd,hm=>by
   rcases List.mem_append.1 hm with hm | hm
   ·rcases List.mem_append.1 hm with hm | hm
    ·exact h.inOr.1.nds b nd hm
    ·exact h.inOr.2.nds _ nd hm
   ·rw [List.mem_singleton] at hm
    subst hm
    exact ndIn_node (by omega)
theorem names_lex {l:List Bytes} {X:List Tk} (h:∀ t∈X,LexT t) (hs:∀ t∈namesT l,t∈X):∀ s∈l,LexT (wd s):=fun s hm=>h _ (hs _ (sep_mem (List.mem_map.2 ⟨s,hm,rfl⟩) _ (by simp)))
theorem QueryIn.nds:∀ {q:Qr},QueryIn q→∀ (b:Nat),∀ nd∈q.flat b,NdIn nd
 | .fetch s f t,h,b,nd,hm=>by
   have hw:LexT (wd s):=h.lex _ (by simp [Qr.tok])
   have e:nd = {node 1 [] with s:=s,from_:=f,to_:=t}:=by simpa [Qr.flat] using hm
   subst e
   exact ⟨fun s hs=>by (cases hs),fun _=>hw,fun a ha=>by (cases ha),.inl rfl,fun h'=>by have:(1:Nat)=14:=h';omega,Nat.zero_le _,Nat.zero_le _⟩
 | .where_ q c,h,b,nd,hm=>by
   rcases List.mem_append.1 hm with hm | hm
   ·rcases List.mem_append.1 hm with hm | hm
    ·exact h.inWhere.1.nds b nd hm
    ·exact h.inWhere.2.nds _ nd hm
   ·rw [List.mem_singleton] at hm
    subst hm
    exact ndIn_node (by omega)
 | .keep q l,h,b,nd,hm=>by
   rcases List.mem_append.1 hm with hm | hm
   ·exact h.inKeep.1.nds b nd hm
   ·rw [List.mem_singleton] at hm
    subst hm
    exact ⟨names_lex h.lex fun t ht=>by simp [Qr.tok,ht],fun h'=>by have:(3:Nat)=1∨(3:Nat)=6∨(3:Nat)=14∨(3:Nat)=15:=h';omega,fun a ha=>by (cases ha),.inl rfl,fun h'=>by have:(3:Nat)=14:=h';omega,h.inKeep.2.2.1,Nat.zero_le _⟩
 | .align q n,h,b,nd,hm=>by
   rcases List.mem_append.1 hm with hm | hm
   ·exact h.inAlign.1.nds b nd hm
   ·rw [List.mem_singleton] at hm
    subst hm
    exact ⟨fun s hs=>by (cases hs),fun h'=>by have:(4:Nat)=1∨(4:Nat)=6∨(4:Nat)=14∨(4:Nat)=15:=h';omega,fun a ha=>by (cases ha),.inl rfl,fun h'=>by have:(4:Nat)=14:=h';omega,Nat.zero_le _,Nat.zero_le _⟩
 | .group q l g,h,b,nd,hm=>by
   obtain ⟨h1,h2,_,_,h4,h5⟩:=h.inGroup
   rcases List.mem_append.1 hm with hm | hm
   ·exact h1.nds b nd hm
   ·rw [List.mem_singleton] at hm
    subst hm
    refine ⟨names_lex h.lex fun t ht=>by simp [Qr.tok,ht],fun h'=>by have:(5:Nat)=1∨(5:Nat)=6∨(5:Nat)=14∨(5:Nat)=15:=h';omega,fun a ha=>⟨(h5 a ha).1,fun hne=>?_⟩,.inl rfl,fun h'=>by have:(5:Nat)=14:=h';omega,h2,h4⟩
    have:∀ t∈aggT a,t∈aggsT g:=fun t ht=>sep_mem (List.mem_map.2 ⟨a,ha,rfl⟩) _ ht
    refine h.lex _ ?_
    have:=this (wd a.2) (by unfold aggT;rw [if_neg hne];simp)
    simp [Qr.tok,this]
 | .top q n s,h,b,nd,hm=>by
   have hw:LexT (wd s):=h.lex _ (by simp [Qr.tok])
   rcases List.mem_append.1 hm with hm | hm
   ·exact h.inTop.1.nds b nd hm
   ·rw [List.mem_singleton] at hm
    subst hm
    exact ⟨fun s hs=>by (cases hs),fun _=>hw,fun a ha=>by (cases ha),.inl rfl,fun h'=>by have:(6:Nat)=14:=h';omega,Nat.zero_le _,Nat.zero_le _⟩
 | .join q r,h,b,nd,hm=>by
   rcases List.mem_append.1 hm with hm | hm
   ·rcases List.mem_append.1 hm with hm | hm
    ·exact h.inJoin.1.nds b nd hm
    ·exact h.inJoin.2.nds _ nd hm
   ·rw [List.mem_singleton] at hm
    subst hm
    exact ndIn_node (by omega)
 | .union q r,h,b,nd,hm=>by
   rcases List.mem_append.1 hm with hm | hm
   ·rcases List.mem_append.1 hm with hm | hm
    ·exact h.inUnion.1.nds b nd hm
    ·exact h.inUnion.2.nds _ nd hm
   ·rw [List.mem_singleton] at hm
    subst hm
    exact ndIn_node (by omega)
end Go.Proofs.YtnaehhpikhlppaaGreatDoor.ParS

namespace Go.Proofs.YtnaehhpikhlppaaGreatDoor
open Go.RowKit LexS ParS BigFrame
def un (t:Tk):Tok:=⟨t.kind,t.s,t.n,0⟩
theorem un_tk (T:List Tk):(T.map un).map tk=T:=by
 rw [List.map_map]
 conv=>rhs;rw [← List.map_id T]
 exact List.map_congr_left fun t _=>rfl
structure LN (w0:World) (nv lv:Value) (T:List Tk) (W:World):Prop where
 below:Below w0.heap.size w0 W
 box:Blk W w0.heap.size 105 #[nv,lv,.bool false]
 row:W.ownsRow (w0.heap.size+1) 65 4 lv T.length (toksL (T.map un))
section
variable {w0 W W' Wk w7:World} {nv lv lv':Value} {T:List Tk} {t:Tk} {g cap:Nat}
theorem LN.kept (h:LN w0 nv lv T W) (hb:Below W.heap.size W W'):LN w0 nv lv T W':=⟨chain h.below hb,h.box.kept hb,own_kept h.row hb⟩
theorem LN.ne (h:LN w0 nv lv T W):lv.ownBlock≠some w0.heap.size:=fun e=>by
 have:=(h.row.lt _ e).1
 omega
theorem LN.keep (h:LN w0 nv lv T W) (s:Stp w0.heap.size lv W lv' W') {b:Nat} {ty:TypeId} {cs:Array Value} (hx:Blk W b ty cs) (h1:ty≠65) (h2:ty≠105):Blk W' b ty cs :=
 s.blk hx (fun e=>h2 (block_types (by rw [e] at hx;exact hx) h.box)) (fun e=>by
  obtain ⟨cur,hc⟩:=row_block h.row e
  exact h1 (block_types hx hc))
theorem row_off2 {b size n nb i:Nat} {e:TypeId} {v u:Value} {xs:List Value} (h:W.ownsRow b e size v n xs) (hne:v.ownBlock≠some nb):(W.setCell ⟨nb,i,none⟩ u).ownsRow b e size v n xs:=by
 refine ⟨h.1,?_⟩
 rcases h.2 with h2 | ⟨g,cap,cur,rfl,h3,h4,h5⟩
 ·exact .inl h2
 ·exact .inr ⟨g,cap,cur,rfl,h3,(Below.heap_setCell _ _ _ _ (fun e=>hne (by rw [e];rfl))).trans h4,h5⟩
theorem LN.more (h:LN w0 nv lv T W) (hb:Below W.heap.size W Wk) (ho:w7.ownsRow (w0.heap.size+1) 65 4 (.slice (some ⟨g,0,none⟩) (T.length+1) cap) (T.length+1) (toksL (T.map un)++(tokA (un t)).toList))
 (hg:Wk.grownBy w7 lv.ownBlock) (hgH:lv.ownBlock=some g∨g=Wk.heap.size) :
 LN w0 nv (.slice (some ⟨g,0,none⟩) (T.length+1) cap) (T++[t]) (w7.setCell ⟨w0.heap.size,1,none⟩ (.slice (some ⟨g,0,none⟩) (T.length+1) cap)) ∧
 Stp w0.heap.size lv W (.slice (some ⟨g,0,none⟩) (T.length+1) cap) (w7.setCell ⟨w0.heap.size,1,none⟩ (.slice (some ⟨g,0,none⟩) (T.length+1) cap)):=by
 have s1:Stp w0.heap.size lv W (.slice (some ⟨g,0,none⟩) (T.length+1) cap) w7:=Stp.grown hb hg rfl hgH
 have s2:=s1.set 1 (.slice (some ⟨g,0,none⟩) (T.length+1) cap)
 have hr:w0.heap.size<Wk.heap.size:=Nat.lt_of_lt_of_le h.box.lt hb.size
 have hbx:Blk w7 w0.heap.size 105 #[nv,lv,.bool false]:=(hg.block _ hr (fun e=>h.ne e.symm)).trans (h.box.kept hb)
 have hgr:(Value.slice (some ⟨g,0,none⟩) (T.length+1) cap).ownBlock≠some w0.heap.size:=fun e=>by
  have:=(ho.lt _ e).1
  omega
 refine ⟨⟨h.below.trans (s2.below (Nat.le_refl _) (fun k hk=>Nat.le_of_succ_le (h.row.lt k hk).1) h.below.size),hbx.put 1 _,?_⟩,s2⟩
 have:=row_off2 (i:=1) (u:=.slice (some ⟨g,0,none⟩) (T.length+1) cap) ho hgr
 rw [List.length_append,List.map_append]
 rw [show toksL (T.map un++[t].map un)=toksL (T.map un)++(tokA (un t)).toList by simp [toksL]]
 exact this
end
def LNP (w0:World) (nv lv:Value) (T:List Tk) (W:World) (e:Ending) (W':World):Prop:=e=.returned (.tuple #[])∧∃ lv',LN w0 nv lv' T W'∧Stp w0.heap.size lv W lv' W'
section
variable {w0 W:World} {nv lv:Value} {T:List Tk}
theorem word_r (s:Bytes) (h:LN w0 nv lv T W) (hT:T.length≤5000):Calls Tryz.prog 91 #[RP w0.heap.size,.string (BA s)] W (LNP w0 nv lv (T++[wd s]) W):=by
 have c1:W.cell? ⟨w0.heap.size,1,none⟩=some lv:=h.box.cell 1
 have hb:Below W.heap.size W (W.alloc (.cells (tokA (un (wd s))) 65)):=(Below.refl _ _).alloc (Nat.le_refl _) _
 have HR:=Lib.hid (own_kept h.row hb)
 have HN:=Lib.hid (show ∀ (j:Nat) u,(tokA (un (wd s))).toList[j]?=some u→(W.alloc (.cells (tokA (un (wd s))) 65)).cell? ((⟨W.heap.size,0,none⟩:Addr).add j)=some u from fun j u hu=>blk_cells (Blk.new W 65 (tokA (un (wd s)))) j u hu)
 have HSZ:=Lib.hid (show w0.heap.size+1≤(W.alloc (.cells (tokA (un (wd s))) 65)).heap.size from Nat.le_trans h.box.lt hb.size)
 have HB:=Lib.hid hb
 have HL:=Lib.hid h
 have HF1:=Lib.hid (show ∀ w7:World,(W.alloc (.cells (tokA (un (wd s))) 65)).grownBy w7 lv.ownBlock→w7.frozen? ⟨w0.heap.size,1,none⟩=false from fun w7 hg=>(World.frozen?_of_block (hg.block _ (Nat.lt_of_lt_of_le h.box.lt hb.size) (fun e=>h.ne e.symm))).trans ((h.box.kept hb).free 1))
 obtain ⟨o,c,rfl⟩:=row_slice h.row
 obtain ⟨i0,hi0,hz0,hz1,hz2⟩:=info_parts tok_info
 clear h hb
 go_enter Tryz.func91,Tryz.ntmps91
 go_wp2_with (at_builtin
              refine wpList_append_lies _ (by rfl) _ _ _ (by rfl) (w0.heap.size+1) 65 i0 _ 4 40 (by kernel_rfl) hi0 hz0 hz1 hz2 (by rfl) (by decide) _ T.length (toksL (T.map un)) (by rfl) HR.out ⟨W.heap.size,0,none⟩ 1 1 (tokA (un (wd s))).toList (by rfl) (by rfl) HN.out (by simp [tokA,un,Value.oneCell']) (by decide) (by unfold maxLen;omega) (by omega) HSZ.out _ rfl ?_
              intro g cap w7 ho hg hgH hlt
              have HF:=Lib.hid (HL.out.more HB.out ho hg hgH)
              have f1:=HF1.out w7 hg
              have e1:w7.cell? ⟨w0.heap.size,1,none⟩=some (.slice o T.length c):=hg.cell ((HL.out.box.kept HB.out).cell 1) (fun e=>HL.out.ne e.symm)
              clear ho hg hgH hlt)
 exact bodyPost_end (v:=.tuple #[]) (results_none rfl _ _ _) rfl ⟨rfl,_,HF.out.1,HF.out.2⟩
theorem sign_r (s:Bytes) (h:LN w0 nv lv T W) (hT:T.length≤5000):Calls Tryz.prog 94 #[RP w0.heap.size,.string (BA s)] W (LNP w0 nv lv (T++[sg s]) W):=by
 have c1:W.cell? ⟨w0.heap.size,1,none⟩=some lv:=h.box.cell 1
 have hb:Below W.heap.size W (W.alloc (.cells (tokA (un (sg s))) 65)):=(Below.refl _ _).alloc (Nat.le_refl _) _
 have HR:=Lib.hid (own_kept h.row hb)
 have HN:=Lib.hid (show ∀ (j:Nat) u,(tokA (un (sg s))).toList[j]?=some u→(W.alloc (.cells (tokA (un (sg s))) 65)).cell? ((⟨W.heap.size,0,none⟩:Addr).add j)=some u from fun j u hu=>blk_cells (Blk.new W 65 (tokA (un (sg s)))) j u hu)
 have HSZ:=Lib.hid (show w0.heap.size+1≤(W.alloc (.cells (tokA (un (sg s))) 65)).heap.size from Nat.le_trans h.box.lt hb.size)
 have HB:=Lib.hid hb
 have HL:=Lib.hid h
 have HF1:=Lib.hid (show ∀ w7:World,(W.alloc (.cells (tokA (un (sg s))) 65)).grownBy w7 lv.ownBlock→w7.frozen? ⟨w0.heap.size,1,none⟩=false from fun w7 hg=>(World.frozen?_of_block (hg.block _ (Nat.lt_of_lt_of_le h.box.lt hb.size) (fun e=>h.ne e.symm))).trans ((h.box.kept hb).free 1))
 obtain ⟨o,c,rfl⟩:=row_slice h.row
 obtain ⟨i0,hi0,hz0,hz1,hz2⟩:=info_parts tok_info
 clear h hb
 go_enter Tryz.func94,Tryz.ntmps94
 go_wp2_with (at_builtin
              refine wpList_append_lies _ (by rfl) _ _ _ (by rfl) (w0.heap.size+1) 65 i0 _ 4 40 (by kernel_rfl) hi0 hz0 hz1 hz2 (by rfl) (by decide) _ T.length (toksL (T.map un)) (by rfl) HR.out ⟨W.heap.size,0,none⟩ 1 1 (tokA (un (sg s))).toList (by rfl) (by rfl) HN.out (by simp [tokA,un,Value.oneCell']) (by decide) (by unfold maxLen;omega) (by omega) HSZ.out _ rfl ?_
              intro g cap w7 ho hg hgH hlt
              have HF:=Lib.hid (HL.out.more HB.out ho hg hgH)
              have f1:=HF1.out w7 hg
              have e1:w7.cell? ⟨w0.heap.size,1,none⟩=some (.slice o T.length c):=hg.cell ((HL.out.box.kept HB.out).cell 1) (fun e=>HL.out.ne e.symm)
              clear ho hg hgH hlt)
 exact bodyPost_end (v:=.tuple #[]) (results_none rfl _ _ _) rfl ⟨rfl,_,HF.out.1,HF.out.2⟩
theorem number_r (n:Int) (h:LN w0 nv lv T W) (hT:T.length≤5000):Calls Tryz.prog 92 #[RP w0.heap.size,.int .i64 n] W (LNP w0 nv lv (T++[nm n]) W):=by
 have c1:W.cell? ⟨w0.heap.size,1,none⟩=some lv:=h.box.cell 1
 have hb:Below W.heap.size W (W.alloc (.cells (tokA (un (nm n))) 65)):=(Below.refl _ _).alloc (Nat.le_refl _) _
 have HR:=Lib.hid (own_kept h.row hb)
 have HN:=Lib.hid (show ∀ (j:Nat) u,(tokA (un (nm n))).toList[j]?=some u→(W.alloc (.cells (tokA (un (nm n))) 65)).cell? ((⟨W.heap.size,0,none⟩:Addr).add j)=some u from fun j u hu=>blk_cells (Blk.new W 65 (tokA (un (nm n)))) j u hu)
 have HSZ:=Lib.hid (show w0.heap.size+1≤(W.alloc (.cells (tokA (un (nm n))) 65)).heap.size from Nat.le_trans h.box.lt hb.size)
 have HB:=Lib.hid hb
 have HL:=Lib.hid h
 have HF1:=Lib.hid (show ∀ w7:World,(W.alloc (.cells (tokA (un (nm n))) 65)).grownBy w7 lv.ownBlock→w7.frozen? ⟨w0.heap.size,1,none⟩=false from fun w7 hg=>(World.frozen?_of_block (hg.block _ (Nat.lt_of_lt_of_le h.box.lt hb.size) (fun e=>h.ne e.symm))).trans ((h.box.kept hb).free 1))
 obtain ⟨o,c,rfl⟩:=row_slice h.row
 obtain ⟨i0,hi0,hz0,hz1,hz2⟩:=info_parts tok_info
 clear h hb
 go_enter Tryz.func92,Tryz.ntmps92
 go_wp2_with (at_builtin
              refine wpList_append_lies _ (by rfl) _ _ _ (by rfl) (w0.heap.size+1) 65 i0 _ 4 40 (by kernel_rfl) hi0 hz0 hz1 hz2 (by rfl) (by decide) _ T.length (toksL (T.map un)) (by rfl) HR.out ⟨W.heap.size,0,none⟩ 1 1 (tokA (un (nm n))).toList (by rfl) (by rfl) HN.out (by simp [tokA,un,Value.oneCell']) (by decide) (by unfold maxLen;omega) (by omega) HSZ.out _ rfl ?_
              intro g cap w7 ho hg hgH hlt
              have HF:=Lib.hid (HL.out.more HB.out ho hg hgH)
              have f1:=HF1.out w7 hg
              have e1:w7.cell? ⟨w0.heap.size,1,none⟩=some (.slice o T.length c):=hg.cell ((HL.out.box.kept HB.out).cell 1) (fun e=>HL.out.ne e.symm)
              clear ho hg hgH hlt)
 exact bodyPost_end (v:=.tuple #[]) (results_none rfl _ _ _) rfl ⟨rfl,_,HF.out.1,HF.out.2⟩
end
end Go.Proofs.YtnaehhpikhlppaaGreatDoor
