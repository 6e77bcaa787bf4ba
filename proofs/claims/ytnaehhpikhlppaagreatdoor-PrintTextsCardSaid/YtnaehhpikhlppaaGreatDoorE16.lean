/- Several texts of the proof, joined. -/
import Derived.Test.YtnaehhpikhlppaaGreatDoorE15
set_option maxHeartbeats 4000000
set_option maxRecDepth 100000
set_option linter.unusedVariables false
set_option linter.unusedSimpArgs false
namespace Go.Proofs.YtnaehhpikhlppaaGreatDoor
open Go.RowKit LexS ParS BigFrame
attribute [local go_sem] field_tok1 field_tok2
attribute [local go_sem] World.cell?_alloc_some cell_drewN_new free_drewN_new cell_drew_new free_drew_new
theorem sizeVal:(Tryz.prog.info? 37).map (·.size)=some 11:=by kernel_rfl
theorem valA_one (v:Val):(valA v).all (·.oneCell')=true:=by simp [valA,Value.oneCell']
abbrev leafM (kd:Nat) (s:Bytes) (n:Int) (v:Val):NodeM:=⟨{node kd [] with s:=s,n:=n,v:=v},.slice none 0 0,.slice none 0 0,.slice none 0 0⟩
theorem leafM_ok (W:World) (base kd:Nat) (s:Bytes) (n:Int) (v:Val):MOk W base (leafM kd s n v):=⟨nil_row,nil_row,nil_row⟩
theorem leafM_one (kd:Nat) (s:Bytes) (n:Int) (v:Val):(leafM kd s n v).cells.toArray.all (·.oneCell')=true:=one_nd kd s n 0 0 v rfl rfl rfl [] [] []
section
variable {base r deep:Nat} {tv nv nv':Value} {T:List Tok} {ts ts1 ts2:List Tk} {ns:List Nd} {W W':World}
theorem below_puts {B b:Nat} {W0:World} (hb:B≤b):∀ (vs:List Value) {W:World} (o:Nat),Below B W0 W→Below B W0 (W.setCells b o vs)
 | [],W,o,h=>h
 | v::r,W,o,h=>below_puts hb r (o+1) (h.setCell hb v)
theorem nd_stored {w3 w4:World} {m:NodeM} (hw:(w3.alloc (.cells zeroNd 42)).setCells w3.heap.size 0 m.cells=w4):Below w3.heap.size w3 w4∧Blk w4 w3.heap.size 42 m.cells.toArray:=by
 subst hw
 exact ⟨below_puts (Nat.le_refl _) _ _ ((Below.refl _ _).alloc (Nat.le_refl _) _),nd_new w3 m⟩
theorem val_stored {w6 w7:World} {b kd:Nat} {s:Bytes} {n:Int} {v0 v:Val} (hb:Blk w6 b 42 (leafM kd s n v0).cells.toArray) (hw:w6.setCells b 5 (valA v).toList=w7):Blk w7 b 42 (leafM kd s n v).cells.toArray:=by
 subst hw
 exact box_puts _ 5 hb
theorem kind_stored {w6:World} {b kd k2:Nat} {s:Bytes} {n:Int} {v:Val} (hb:Blk w6 b 42 (leafM kd s n v).cells.toArray):Blk (w6.setCell ⟨b,0,none⟩ (.int .i64 (k2:Int))) b 42 (leafM k2 s n v).cells.toArray:=box_put hb 0 _
theorem n_stored {w6:World} {b kd:Nat} {s:Bytes} {n n2:Int} {v:Val} (hb:Blk w6 b 42 (leafM kd s n v).cells.toArray):Blk (w6.setCell ⟨b,2,none⟩ (.int .i64 n2)) b 42 (leafM kd s n2 v).cells.toArray:=box_put hb 2 _
theorem RS.puts {b:Nat} (hr:b≠r) (hn:nv.ownBlock≠some b):∀ (vs:List Value) {W:World} {l:List Value} (o:Nat),RS base r tv T deep ts ns nv W→Blk W b 42 l.toArray→RS base r tv T deep ts ns nv (W.setCells b o vs)
 | [],W,l,o,h,hb=>h
 | v::s,W,l,o,h,hb=>RS.puts hr hn s (o+1) (h.far hb (by decide) hn hr o v) (box_put hb o v)
theorem not_leaf (h:RS base r tv T deep ts ns nv W) (hbase:base≤W.heap.size) (hB:ns.length+ts.length≤5000) (hs:sees kw_not ts=none) (ho:sees kw_open ts=none) :
 Calls Tryz.prog 190 #[RP r] W (PostN base r tv T deep nv W (leaf ts ns)):=by
 have hmf:=hmfA
 obtain ⟨W0,hW0,h0,x0,m0,hne,hb0⟩:=box_start h
 have HS:=Lib.hid (sees_no h0 hs)
 have HO:=Lib.hid ho
 have X0:=Lib.hid x0
 have M0:=Lib.hid m0
 have HW:=Lib.hid hW0
 have HH:=Lib.hid h
 have c0:W0.cell? ⟨W.heap.size,0,none⟩=some (RP r):=x0.cell 0
 clear h h0 x0 m0 hs hb0 ho
 go_enter Tryz.func190,Tryz.ntmps190
 go_wp2_with fail
 rw [show W.alloc (.cells #[RP r] 112)=W0 from HW.out.symm]
 clear hW0
 refine HS.out.mono ?_
 rintro e w1 ⟨rfl,h1,m1⟩
 have x1:=m1.blk X0.out hne
 have M1:=Lib.hid (M0.out.trans m1)
 have X1:=Lib.hid x1
 have c1:w1.cell? ⟨W.heap.size,0,none⟩=some (RP r):=x1.cell 0
 have HS2:=Lib.hid (sees_no h1 HO.out)
 clear h1 m1 x1 c0
 go_wp2_with fail
 refine HS2.out.mono ?_
 rintro e w2 ⟨rfl,h2,m2⟩
 have x2:=m2.blk X1.out hne
 have M2:=Lib.hid (M1.out.trans m2)
 have X2:=Lib.hid x2
 have H2:=Lib.hid h2
 have c2:w2.cell? ⟨W.heap.size,0,none⟩=some (RP r):=x2.cell 0
 clear h2 m2 x2 c1
 rcases take_cases 1 ts with ⟨t,ts1,ht,hk⟩ | hk
 ·have HN:=Lib.hid (word_yes H2.out ht hk)
  have HT:=Lib.hid (And.intro ht hk)
  have hl1:ts1.length+1=ts.length:=by rw [ht];rfl
  clear ht hk
  go_wp2_with fail
  refine HN.out.mono ?_
  rintro e w3 ⟨rfl,h3,m3⟩
  have M3:=Lib.hid (M2.out.trans m3)
  have X3:=Lib.hid (m3.blk X2.out hne)
  have H3:=Lib.hid h3
  have hbn:w3.heap.size≠r:=(Nat.ne_of_lt h3.box.lt).symm
  have hbx:w3.heap.size≠W.heap.size:=(Nat.ne_of_lt X3.out.lt).symm
  have hnn:=Lib.hid (show nv.ownBlock≠some w3.heap.size from fun e=>by
   obtain ⟨_,cur,hc⟩:=h3.nodes.block e
   exact absurd (Array.getElem?_eq_some_iff.1 hc).1 (Nat.lt_irrefl _))
  have c3:w3.cell? ⟨W.heap.size,0,none⟩=some (RP r):=X3.out.cell 0
  have hth:=nd_there w3
  clear h3 m3 c2
  go_wp2_with (refine wpList_store_mid (by rfl) 42 (.tmp 4) (.tmp 25) (by rfl) w3.heap.size 0 (leafM 14 t.s 0 noVal).cells.toArray (by rfl) (by rfl) hth sizeNode (leafM_one _ _ _ _) ?_
               generalize hw4:World.setCells _ _ _ _=w4
               have F4:=Lib.hid (nd_stored (m:=leafM 14 t.s 0 noVal) hw4)
               have c4:w4.cell? ⟨W.heap.size,0,none⟩=some (RP r):=(X3.out.kept F4.out.1).cell 0
               clear hw4 c3)
  have B4:=Lib.hid F4.out.2
  have M4:=Lib.hid (M3.out.trans (Stp.of (r:=r) (nv:=.slice none 0 0) F4.out.1))
  have H4:=Lib.hid (H3.out.kept F4.out.1)
  have X4:=Lib.hid (X3.out.kept F4.out.1)
  rcases hh:sees kw_has ts1 with _ | ts2
  ·have HS4:=Lib.hid (sees_no H4.out hh)
   have HH4:=Lib.hid hh
   clear hh
   refine HS4.out.mono ?_
   rintro e w5 ⟨rfl,h5,m5⟩
   have M5:=Lib.hid (M4.out.trans m5)
   have X5:=Lib.hid (m5.blk X4.out hne)
   have B5:=Lib.hid (m5.blk B4.out hbn)
   have H5:=Lib.hid h5
   have c5:w5.cell? ⟨W.heap.size,0,none⟩=some (RP r):=X5.out.cell 0
   obtain ⟨w6,hw6⟩:∃ w6,w6=w5.alloc (.cells #[.string ⟨#[61]⟩,.string ⟨#[33,61]⟩,.string ⟨#[60]⟩,.string ⟨#[60,61]⟩,.string ⟨#[62]⟩,.string ⟨#[62,61]⟩] 9):=⟨_,rfl⟩
   have hb6:Below w5.heap.size w5 w6:=by rw [hw6];exact (Below.refl _ _).alloc (Nat.le_refl _) _
   have hl6:Blk w6 w5.heap.size 9 (strsL kw_signs).toArray:=by rw [hw6];exact Blk.new w5 _ _
   have HC:=Lib.hid (choice_any (h5.kept hb6) hl6 (by decide))
   have HB6:=Lib.hid hb6
   have HW6:=Lib.hid hw6
   clear h5 m5 c4 hb6 hl6
   go_wp2_with fail
   rw [show w5.alloc (.cells #[.string ⟨#[61]⟩,.string ⟨#[33,61]⟩,.string ⟨#[60]⟩,.string ⟨#[60,61]⟩,.string ⟨#[62]⟩,.string ⟨#[62,61]⟩] 9)=w6 from HW6.out.symm]
   clear hw6
   refine HC.out.mono ?_
   rintro e w7 ⟨rfl,h7,m7⟩
   rcases hch:choice kw_signs 1 ts1 with ⟨k,ts2⟩
   rw [hch] at h7
   dsimp only at h7
   dsimp only
   have M7:=Lib.hid ((M5.out.trans (Stp.of (r:=r) (nv:=.slice none 0 0) HB6.out)).trans m7)
   have X7:=Lib.hid (m7.blk (X5.out.kept HB6.out) hne)
   have B7:=Lib.hid (m7.blk (B5.out.kept HB6.out) hbn)
   have e2:w7.cell? ⟨w3.heap.size,2,none⟩=some (.int .i64 0):=B7.out.cell 2
   have f2:=B7.out.free 2
   have c7:w7.cell? ⟨W.heap.size,0,none⟩=some (RP r):=X7.out.cell 0
   have B8:=Lib.hid (n_stored (n2:=(k:Int)) B7.out)
   have H8:=Lib.hid (h7.far B7.out (by decide) hnn.out hbn 2 (.int .i64 (k:Int)))
   have X8:=Lib.hid (X7.out.far hbx.symm (p:=⟨w3.heap.size,2,none⟩) (.int .i64 (k:Int)))
   have M8:=Lib.hid (Mv.far M7.out (b:=w3.heap.size) M3.out.size 2 (.int .i64 (k:Int)))
   have e8:(w7.setCell ⟨w3.heap.size,2,none⟩ (.int .i64 (k:Int))).cell? ⟨w3.heap.size,2,none⟩=some (.int .i64 (k:Int)):=B8.out.cell 2
   have c8:(w7.setCell ⟨w3.heap.size,2,none⟩ (.int .i64 (k:Int))).cell? ⟨W.heap.size,0,none⟩=some (RP r):=X8.out.cell 0
   clear h7 m7 c5
   match k,hch,B8,H8,X8,M8,e8,c8 with
   | 0,hch,B8,H8,X8,M8,e8,c8 =>
     have HE:=Lib.hid (leaf_sign_bad (ns:=ns) HT.out.1 HT.out.2 HH4.out hch)
     have hz:ts2=ts1:=choice_zero (by decide) hch
     subst hz
     have HF:=Lib.hid (fail_any H8.out)
     clear hch
     go_wp2_with fail
     refine HF.out.mono ?_
     rintro e w9 ⟨rfl,rfl⟩
     unfold Bad
     go_wp2_with fail
     exact ⟨rfl,by rw [HE.out];exact ⟨rfl,nv,Mv.stp M8.out nv⟩⟩
   | k+1,hch,B8,H8,X8,M8,e8,c8 =>
     have q1:(((k+1:Nat):Int) == 0)=false:=by rw [beq_eq_false_iff_ne];omega
     have HV:=Lib.hid (value_any H8.out)
     have HCH:=Lib.hid hch
     clear hch
     go_wp2_with fail
     refine HV.out.mono ?_
     rintro e w9 hp
     rcases hr:value ts2 ns with ⟨k2,long⟩ | ⟨v,ts3,ns3⟩
     ·rw [hr] at hp
      obtain ⟨rfl,m9⟩:=hp
      have HE:=Lib.hid (leaf_cmp_err HT.out.1 HT.out.2 HH4.out HCH.out hr)
      have M9:=Lib.hid (M8.out.trans m9)
      clear hr m9
      unfold Bad
      go_wp2_with fail
      exact ⟨rfl,by rw [HE.out];exact ⟨rfl,nv,Mv.stp M9.out nv⟩⟩
     ·rw [hr] at hp
      obtain ⟨_,rfl,rfl,h9,m9⟩:=hp
      have hns:ns3=ns:=still_value _ _ _ _ _ hr
      subst hns
      have HE:=Lib.hid (leaf_cmp HT.out.1 HT.out.2 HH4.out HCH.out hr)
      have M9:=Lib.hid (M8.out.trans m9)
      have X9:=Lib.hid (m9.blk X8.out hne)
      have B9:=Lib.hid (m9.blk B8.out hbn)
      have H9:=Lib.hid h9
      have c9:w9.cell? ⟨W.heap.size,0,none⟩=some (RP r):=X9.out.cell 0
      have ht9:w9.there w3.heap.size 5 11:=box_there B9.out (show 16≤19 by decide)
      clear hr h9 m9
      go_wp2_with (first
       | (refine wpList_store_mid (by rfl) 37 (.tmp 48) (.tmp 47) (by rfl) w3.heap.size 5 (valA v) (by rfl) (by rfl) ht9 sizeVal (valA_one _) ?_
          generalize hwa:World.setCells _ _ _ _=wa
          have BA:=Lib.hid (val_stored (v:=v) B9.out hwa)
          have HA:=Lib.hid (show RS base r tv T deep ts3 ns3 nv wa from hwa▸RS.puts hbn hnn.out _ 5 H9.out B9.out)
          have MA:=Lib.hid (show Mv r W wa from hwa▸mv_puts M3.out.size _ 5 M9.out)
          have ca:wa.cell? ⟨W.heap.size,0,none⟩=some (RP r):=(show Blk wa W.heap.size 112 #[RP r] from hwa▸far_puts hbx.symm _ 5 X9.out).cell 0
          clear hwa c9)
       | (refine wpList_load_mid (by rfl) 42 (.tmp 4) (by rfl) w3.heap.size 0 (by rfl) (leafM 14 t.s ((k+1:Nat):Int) v).cells _ (box_range BA.out) undNode (by rfl) sizeNode ?_))
      refine (lay_any' (leafM 14 t.s ((k+1:Nat):Int) v) HA.out (leafM_ok _ _ _ _ _ _) (by omega) (Nat.le_trans hbase MA.out.size)).mono ?_
      rintro e wb ⟨nvb,rfl,hb,sb⟩
      have HF:=Lib.hid (And.intro hb ((Mv.stp MA.out nv).trans sb))
      clear hb sb
      go_wp2_with fail
      exact bodyPost_ret (results_tmp rfl _ _ _) rfl (by rw [HE.out];exact ⟨_,rfl,HF.out⟩)
  ·have HS4:=Lib.hid (sees_yes H4.out hh)
   have HH4:=Lib.hid hh
   have hl2:=sees_len hh
   clear hh
   refine HS4.out.mono ?_
   rintro e w5 ⟨rfl,h5,m5⟩
   have M5:=Lib.hid (M4.out.trans m5)
   have X5:=Lib.hid (m5.blk X4.out hne)
   have B5:=Lib.hid (m5.blk B4.out hbn)
   have H5:=Lib.hid h5
   have c5:w5.cell? ⟨W.heap.size,0,none⟩=some (RP r):=X5.out.cell 0
   clear h5 m5 c4
   rcases take_cases 3 ts2 with ⟨u,ts3,hu,hk3⟩ | hk3
   ·have HN3:=take_yes H5.out hu
    rw [hk3] at HN3
    have HN3:=Lib.hid HN3
    have HE:=Lib.hid (leaf_has (ns:=ns) HT.out.1 HT.out.2 HH4.out hu hk3)
    clear hu hk3
    go_wp2_with fail
    refine HN3.out.mono ?_
    rintro e w6 ⟨v6,rfl,⟨a6,rfl⟩,h6,m6⟩
    have M6:=Lib.hid (M5.out.trans m6)
    have X6:=Lib.hid (m6.blk X5.out hne)
    have B6:=Lib.hid (m6.blk B5.out hbn)
    have e0:w6.cell? ⟨w3.heap.size,0,none⟩=some (.int .i64 14):=B6.out.cell 0
    have f0:=B6.out.free 0
    have H6:=Lib.hid h6
    have B7:=Lib.hid (kind_stored (k2:=15) B6.out)
    have H7:=Lib.hid (h6.far B6.out (by decide) hnn.out hbn 0 (.int .i64 ((15:Nat):Int)))
    have X7:=Lib.hid (X6.out.far hbx.symm (p:=⟨w3.heap.size,0,none⟩) (.int .i64 ((15:Nat):Int)))
    have M7:=Lib.hid (Mv.far M6.out (b:=w3.heap.size) M3.out.size 0 (.int .i64 ((15:Nat):Int)))
    have ht7:(w6.setCell ⟨w3.heap.size,0,none⟩ (.int .i64 15)).there w3.heap.size 5 11:=box_there B7.out (show 16≤19 by decide)
    clear h6 m6 c5
    go_wp2_with (first
     | (refine wpList_store_mid (by rfl) 37 (.tmp 33) (.tmp 31) (by rfl) w3.heap.size 5 (valA ⟨2,0,u.s⟩) (by rfl) (by rfl) ht7 sizeVal (valA_one _) ?_
        generalize hwa:World.setCells _ _ _ _=wa
        have BA:=Lib.hid (val_stored (v:=⟨2,0,u.s⟩) B7.out hwa)
        have HA:=Lib.hid (show RS base r tv T deep ts3 ns nv wa from hwa▸RS.puts hbn hnn.out _ 5 H7.out B7.out)
        have MA:=Lib.hid (show Mv r W wa from hwa▸mv_puts M3.out.size _ 5 M7.out)
        have ca:wa.cell? ⟨W.heap.size,0,none⟩=some (RP r):=(show Blk wa W.heap.size 112 #[RP r] from hwa▸far_puts hbx.symm _ 5 X7.out).cell 0
        clear hwa)
     | (refine wpList_load_mid (by rfl) 42 (.tmp 4) (by rfl) w3.heap.size 0 (by rfl) (leafM 15 t.s 0 ⟨2,0,u.s⟩).cells _ (box_range BA.out) undNode (by rfl) sizeNode ?_))
    refine (lay_any' (leafM 15 t.s 0 ⟨2,0,u.s⟩) HA.out (leafM_ok _ _ _ _ _ _) (by omega) (Nat.le_trans hbase MA.out.size)).mono ?_
    rintro e wb ⟨nvb,rfl,hb,sb⟩
    have HF:=Lib.hid (And.intro hb ((Mv.stp MA.out nv).trans sb))
    clear hb sb
    go_wp2_with fail
    exact bodyPost_ret (results_tmp rfl _ _ _) rfl (by rw [HE.out];exact ⟨_,rfl,HF.out⟩)
   ·have HN3:=Lib.hid (take_no H5.out hk3)
    have HE:=Lib.hid (leaf_has_bad (ns:=ns) HT.out.1 HT.out.2 HH4.out hk3)
    clear hk3
    go_wp2_with fail
    refine HN3.out.mono ?_
    rintro e w6 ⟨rfl,m6⟩
    have M6:=Lib.hid (M5.out.trans m6)
    clear m6
    unfold Bad
    go_wp2_with fail
    exact ⟨rfl,by rw [HE.out];exact ⟨rfl,nv,Mv.stp M6.out nv⟩⟩
 ·have HN:=Lib.hid (word_no H2.out hk)
  have HE:=Lib.hid (leaf_bad (ns:=ns) hk)
  clear hk
  go_wp2_with fail
  refine HN.out.mono ?_
  rintro e w3 ⟨rfl,m3⟩
  have M3:=Lib.hid (M2.out.trans m3)
  clear m3
  unfold Bad
  go_wp2_with fail
  exact ⟨rfl,by rw [HE.out];exact ⟨rfl,nv,Mv.stp M3.out nv⟩⟩
end
theorem not_walk {inNot inCond:M Nat} {deep:Nat} (h1:WithN inNot deep) (n1:Nice inNot) (h2:WithC 206 inCond deep):Reads 190 (notOf inNot inCond) deep:=by
 intro base r tv nv T ts ns W h hbase hB
 rcases hs:sees kw_not ts with _ | ts1
 ·rcases ho:sees kw_open ts with _ | ts1
  ·rw [notOf_leaf hs ho]
   exact not_leaf h hbase hB hs ho
  ·exact not_open h2 h hbase hB hs ho
 ·exact not_neg h1 n1 h hbase hB hs
theorem nice_deep:Nice M.deep:=⟨cost_deep 0 0,rel_deep⟩
theorem not_reads:∀ (d deep:Nat),deep+d=16→Reads 190 (pNot d) deep
 | 0,deep,h=>not_walk (withN_deep (by omega)) nice_deep (withC_deep (by omega))
 | d+1,deep,h=>not_walk (withN_go (by omega) (not_reads d (deep+1) (by omega))) (nice_not d) (withC_cond (by omega) (cond_c (cond_reads (not_reads d (deep+1) (by omega)) (nice_not d))))
theorem pCond_reads (d deep:Nat) (h:deep+d=16):Reads 144 (pCond d) deep:=cond_reads (not_reads d deep h) (nice_not d)
end Go.Proofs.YtnaehhpikhlppaaGreatDoor

namespace Go.Proofs.YtnaehhpikhlppaaGreatDoor
open Go.RowKit LexS ParS BigFrame
attribute [local go_sem] field_tok1 field_tok2
attribute [local go_sem] World.cell?_alloc_some cell_drewN_new free_drewN_new cell_drew_new free_drew_new
theorem infoStr:(Tryz.prog.info? 9).map (fun i=>(i.zero,i.size,i.bytes))=some (some (.string ⟨#[]⟩),1,16):=by kernel_rfl
theorem infoAgg:(Tryz.prog.info? 85).map (fun i=>(i.zero,i.size,i.bytes))=some (some (.agg #[.int .i64 0,.string ⟨#[]⟩]),2,24):=by kernel_rfl
theorem Mv.grown {r:Nat} {Wn w1 w2:World} {row:Option Nat} (h:Mv r Wn w1) (hg:w1.grownBy w2 row) (hr:∀ k,row=some k→Wn.heap.size≤k):Mv r Wn w2 :=
 ⟨hg.os.trans h.os,hg.tape.trans h.tape,hg.output.trans h.output,Nat.le_trans h.size hg.size,fun i hi h1 h2=>by
  rw [hg.block i (Nat.lt_of_lt_of_le hi h.size) (fun e=>by have:=hr i e.symm;omega)]
  exact h.block i hi h1 h2,fun k hk=>by cases hk⟩
structure LK (base r deep:Nat) (tv nv:Value) (T:List Tok) (ns:List Nd) (Wn:World) (bx bl:Nat) (st et:TypeId) (size:Nat) (ts:List Tk) (n:Nat) (xs:List Value) (lv:Value) (W:World):Prop where
 rs:RS base r tv T deep ts ns nv W
 mv:Mv r Wn W
 lb:Blk W bl st #[lv]
 hl:Wn.heap.size≤bl
 xb:Blk W bx 112 #[RP r]
 hx:Wn.heap.size≤bx
 row:W.ownsRow Wn.heap.size et size lv n xs
section
variable {base r deep:Nat} {tv nv lv lv':Value} {T:List Tok} {ns:List Nd} {Wn W W':World} {bx bl:Nat} {st et:TypeId} {size:Nat} {ts ts1:List Tk} {n n':Nat} {xs xs':List Value}
theorem LK.row_apart (h:LK base r deep tv nv T ns Wn bx bl st et size ts n xs lv W) (h1:st≠et) (h2:et≠112):lv.ownBlock≠some bl∧lv.ownBlock≠some bx:=by
 refine ⟨fun e=>?_,fun e=>?_⟩
 ·obtain ⟨cur,hc⟩:=row_block h.row e
  exact h1 (block_types h.lb hc)
 ·obtain ⟨cur,hc⟩:=row_block h.row e
  exact h2 (block_types hc h.xb)
theorem LK.kept (h:LK base r deep tv nv T ns Wn bx bl st et size ts n xs lv W) (hb:Below W.heap.size W W'):LK base r deep tv nv T ns Wn bx bl st et size ts n xs lv W' :=
 ⟨h.rs.kept hb,Stp.trans h.mv (Stp.of hb),h.lb.kept hb,h.hl,h.xb.kept hb,h.hx,own_kept h.row hb⟩
theorem LK.move (h:LK base r deep tv nv T ns Wn bx bl st et size ts n xs lv W) (hr:r<Wn.heap.size) (h1:RS base r tv T deep ts1 ns nv W') (m:Mv r W W'):LK base r deep tv nv T ns Wn bx bl st et size ts1 n xs lv W':=by
 have e1:=h.hl
 have e2:=h.hx
 refine ⟨h1,Stp.trans h.mv m,m.blk h.lb (by omega),h.hl,m.blk h.xb (by omega),h.hx,row_mv h.row m fun e=>?_⟩
 have:=(h.row.lt _ e).1
 omega
theorem LK.more {w2:World} {g cap:Nat} (h0:RS base r tv T deep ts ns nv Wn) (h:LK base r deep tv nv T ns Wn bx bl st et size ts1 n xs lv W) (h1:st≠et) (h2:et≠112) (ho:w2.ownsRow Wn.heap.size et size (.slice (some ⟨g,0,none⟩) n' cap) n' xs') (hg:W.grownBy w2 lv.ownBlock) (hne:bl≠bx) :
 LK base r deep tv nv T ns Wn bx bl st et size ts1 n' xs' (.slice (some ⟨g,0,none⟩) n' cap) (w2.setCell ⟨bl,0,none⟩ (.slice (some ⟨g,0,none⟩) n' cap)):=by
 obtain ⟨a1,a2⟩:=h.row_apart h1 h2
 have hr:=h0.box.lt
 have hl:=h.hl
 have hx:=h.hx
 have hlv:∀ k,lv.ownBlock=some k→Wn.heap.size≤k:=fun k hk=>(h.row.lt k hk).1
 have m:Mv r Wn w2:=Mv.grown h.mv hg hlv
 have m2:Mv r Wn (w2.setCell ⟨bl,0,none⟩ (.slice (some ⟨g,0,none⟩) n' cap)):=Mv.far m hl 0 _
 have b1:Blk w2 bl st #[lv]:=(hg.block bl h.lb.lt (Ne.symm a1)).trans h.lb
 have b2:Blk w2 bx 112 #[RP r]:=(hg.block bx h.xb.lt (Ne.symm a2)).trans h.xb
 have b3:Blk w2 r 147 _:=(hg.block r h.rs.box.lt (fun e=>by have:=hlv r e.symm;omega)).trans h.rs.box
 have hgl:g≠bl:=by
  intro e
  obtain ⟨cur,hc⟩:=row_block ho rfl
  rw [e] at hc
  exact h1 (block_types b1 hc)
 refine ⟨h0.again m2 (b3.far (by show r≠bl;omega) _) h.rs.suf h.rs.short,m2,b1.put 0 _,hl,b2.far (Ne.symm hne) _,hx,ho.1,?_⟩
 rcases ho.2 with ⟨h4,_⟩ | ⟨g',cap',cur,h4,h5,h6,h7⟩
 ·cases h4
 ·refine .inr ⟨g',cap',cur,h4,h5,?_,h7⟩
  rw [← h6]
  simp only [World.setCell,Array.getElem?_modify]
  injection h4 with h4
  injection h4 with h4
  injection h4 with h4
  rw [if_neg (fun e=>hgl (by rw [h4,← e]))]
end
section
variable {base r deep:Nat} {tv nv lv:Value} {T:List Tok} {ns:List Nd} {Wn W:World} {bx bl:Nat} {ts ts0 ts1:List Tk} {acc:List Bytes} {t:Tk}
theorem name1_yes (h0:RS base r tv T deep ts0 ns nv Wn) (h:LK base r deep tv nv T ns Wn bx bl 39 9 1 ts acc.length (strsL acc) lv W) (hne:bl≠bx) (hacc:acc.length≤2000) (ht:ts=t::ts1) (hk:t.kind=1) :
 Calls Tryz.prog 172 #[.pointer (some ⟨bl,0,none⟩),.pointer (some ⟨bx,0,none⟩)] W fun e W'=>e=.returned (.tuple #[])∧∃ lv',LK base r deep tv nv T ns Wn bx bl 39 9 1 ts1 (acc.length+1) (strsL (acc++[t.s])) lv' W':=by
 have hb:Below W.heap.size W W.drew:=(Below.refl _ _).drew
 have hd:=h.kept hb
 have c0:W.cell? ⟨bl,0,none⟩=some lv:=h.lb.cell 0
 have c1:W.cell? ⟨bx,0,none⟩=some (RP r):=h.xb.cell 0
 have HD:=Lib.hid hd
 have HW:=Lib.hid (word_yes hd.rs ht hk)
 have hr:=h0.box.lt
 have H0:=Lib.hid h0
 obtain ⟨i0,hi0,hz0,hz1,hz2⟩:=info_parts infoStr
 clear h hd hb h0 ht hk
 go_enter Tryz.func172,Tryz.ntmps172
 go_wp2_with fail
 rw [show (#[{dst:=some 2,op:=Op.load 39 (Operand.tmp 0),type:=39,pos := "parse.go:90",after:=#[],guard:=none},{dst:=some 3,op:=Op.load 112 (Operand.tmp 1),type:=112,pos := "parse.go:90",after:=#[],guard:=none},{dst:=some 4,op:=Op.call {callee:=Callee.value (Operand.func 103),args:=#[Operand.tmp 3],argTypes:=#[112]},type:=9,pos := "parse.go:90",after:=#[⟨1,.data⟩],guard:=none},{dst:=some 5,op:=Op.buildSlice 39 1 #[(0,Operand.tmp 4)],type:=39,pos := "parse.go:90",after:=#[⟨2,.data⟩],guard:=none},{dst:=some 6,op:=Op.call {callee:=Callee.builtin Go.Builtin.append,args:=#[Operand.tmp 2,Operand.tmp 5],argTypes:=#[39,39]},type:=39,pos := "parse.go:90",after:=#[⟨0,.data⟩,⟨3,.data⟩,⟨2,.chain⟩],guard:=none},{dst:=none,op:=Op.store 39 (Operand.tmp 0) (Operand.tmp 6),type:=0,pos := "parse.go:90",after:=#[⟨4,.data⟩,⟨4,.chain⟩,⟨0,.phase⟩,⟨1,.phase⟩,⟨2,.phase⟩,⟨3,.phase⟩,⟨4,.phase⟩],guard:=none}]:Array Oper)=Array.push #[{dst:=some 2,op:=Op.load 39 (Operand.tmp 0),type:=39,pos := "parse.go:90",after:=#[],guard:=none},{dst:=some 3,op:=Op.load 112 (Operand.tmp 1),type:=112,pos := "parse.go:90",after:=#[],guard:=none},{dst:=some 4,op:=Op.call {callee:=Callee.value (Operand.func 103),args:=#[Operand.tmp 3],argTypes:=#[112]},type:=9,pos := "parse.go:90",after:=#[⟨1,.data⟩],guard:=none},{dst:=some 5,op:=Op.buildSlice 39 1 #[(0,Operand.tmp 4)],type:=39,pos := "parse.go:90",after:=#[⟨2,.data⟩],guard:=none},{dst:=some 6,op:=Op.call {callee:=Callee.builtin Go.Builtin.append,args:=#[Operand.tmp 2,Operand.tmp 5],argTypes:=#[39,39]},type:=39,pos := "parse.go:90",after:=#[⟨0,.data⟩,⟨3,.data⟩,⟨2,.chain⟩],guard:=none}] {dst:=none,op:=Op.store 39 (Operand.tmp 0) (Operand.tmp 6),type:=0,pos := "parse.go:90",after:=#[⟨4,.data⟩,⟨4,.chain⟩,⟨0,.phase⟩,⟨1,.phase⟩,⟨2,.phase⟩,⟨3,.phase⟩,⟨4,.phase⟩],guard:=none} from rfl]
 refine wp_region_last (S:=fun w'=>w'.cell? ⟨bl,0,none⟩=some lv∧w'.cell? ⟨bx,0,none⟩=some (RP r)) (by kernel_rfl) (by kernel_rfl) ⟨c0,c1⟩ (fun hHeld=>?_)
 refine wpAnyH_take (i:=0) (oi:={dst:=some 2,op:=Op.load 39 (Operand.tmp 0),type:=39,pos := "parse.go:90",after:=#[],guard:=none}) (v := ?v1) rfl (by kernel_rfl) (by kernel_rfl) (by kernel_rfl) (fun _ _ _ h=>h) (Or.inl ⟨by rfl,?hy1⟩) (by assumption) ?rest1
 case hy1 =>
  intro w hSw
  (try dsimp only at hSw)
  go_simp
  try with_reducible rfl
 try simp only [Act.put,List.setIfInBounds_toArray,List.set_cons_zero,List.set_cons_succ]
 refine wpAnyH_take (i:=1) (oi:={dst:=some 3,op:=Op.load 112 (Operand.tmp 1),type:=112,pos := "parse.go:90",after:=#[],guard:=none}) (v := ?v2) rfl (by kernel_rfl) (by kernel_rfl) (by kernel_rfl) (fun _ _ _ h=>h) (Or.inl ⟨by rfl,?hy2⟩) (by assumption) ?rest2
 case hy2 =>
  intro w hSw
  (try dsimp only at hSw)
  go_simp
  try with_reducible rfl
 try simp only [Act.put,List.setIfInBounds_toArray,List.set_cons_zero,List.set_cons_succ]
 refine wpAnyH_ready (rs:=[2]) (by kernel_rfl) (by simp) ?_
 refine AllReadyH.cons (o:={dst:=some 4,op:=Op.call {callee:=Callee.value (Operand.func 103),args:=#[Operand.tmp 3],argTypes:=#[112]},type:=9,pos := "parse.go:90",after:=#[⟨1,.data⟩],guard:=none}) rfl (fun K hK=>?_) ?_
 ·go_simp
  go_at_call 103
  (with_reducible refine HW.out.mono ?_)
  rintro e w1 ⟨rfl,h1,m1⟩
  have HL:=Lib.hid (HD.out.move hr h1 m1)
  have HB:=Lib.hid ((Below.refl w1.heap.size w1).alloc (Nat.le_refl _) (.cells #[.string (BA t.s)] 9))
  have HNW:=Lib.hid (blk_cells (Blk.new w1 9 #[.string (BA t.s)]))
  have g0:=HL.out.lb.cell 0
  have g1:=HL.out.xb.cell 0
  have HKK:=Lib.hid (HL.out.kept HB.out)
  clear h1 m1
  refine hK.out _ _ ?_ (fun hHeld=>?_)
  ·exact ⟨g0,g1⟩
  ·clear hK K
   try simp only [Act.put,List.setIfInBounds_toArray,List.set_cons_zero,List.set_cons_succ]
   refine wpAnyH_ready (rs:=[3]) (by kernel_rfl) (by simp) ?_
   refine AllReadyH.cons (o:={dst:=some 5,op:=Op.buildSlice 39 1 #[(0,Operand.tmp 4)],type:=39,pos := "parse.go:90",after:=#[⟨2,.data⟩],guard:=none}) rfl (fun K hK=>?_) ?_
   ·go_simp
    refine hK.out _ _ ?_ (fun hHeld=>?_)
    ·exact ⟨HKK.out.lb.cell 0,HKK.out.xb.cell 0⟩
    ·clear hK K
     try simp only [Act.put,List.setIfInBounds_toArray,List.set_cons_zero,List.set_cons_succ]
     refine wpAnyH_ready (rs:=[4]) (by kernel_rfl) (by simp) ?_
     refine AllReadyH.cons (o:={dst:=some 6,op:=Op.call {callee:=Callee.builtin Go.Builtin.append,args:=#[Operand.tmp 2,Operand.tmp 5],argTypes:=#[39,39]},type:=39,pos := "parse.go:90",after:=#[⟨0,.data⟩,⟨3,.data⟩,⟨2,.chain⟩],guard:=none}) rfl (fun K hK=>?_) ?_
     ·refine step_append_lies _ (by rfl) _ _ _ (by rfl) Wn.heap.size 9 i0 _ 1 16 (by kernel_rfl) hi0 hz0 hz1 hz2 (by rfl) (by decide) _ acc.length (strsL acc) (by rfl) HKK.out.row ⟨w1.heap.size,0,none⟩ 1 1 [.string (BA t.s)] (by rfl) (by rfl) HNW.out (by simp [Value.oneCell']) (by decide) (by unfold maxLen;omega) (by omega) HKK.out.mv.size _ rfl ?_
      intro g cap w2 ho hg hgH hlt
      have HF:=Lib.hid (LK.more H0.out HKK.out (by decide) (by decide) ho hg hne)
      have a1:=HKK.out.row_apart (by decide) (by decide)
      have e0:w2.cell? ⟨bl,0,none⟩=some lv:=hg.cell (HKK.out.lb.cell 0) (Ne.symm a1.1)
      have e1:w2.cell? ⟨bx,0,none⟩=some (RP r):=hg.cell (HKK.out.xb.cell 0) (Ne.symm a1.2)
      have f0:w2.frozen? ⟨bl,0,none⟩=false:=(World.frozen?_of_block (hg.block bl HKK.out.lb.lt (Ne.symm a1.1))).trans (HKK.out.lb.free 0)
      clear ho hg hgH hlt a1
      refine hK.out _ _ ?_ (fun hHeld=>?_)
      ·exact ⟨e0,e1⟩
      ·clear hK K
       try simp only [Act.put,List.setIfInBounds_toArray,List.set_cons_zero,List.set_cons_succ]
       refine wpAnyH_done (by kernel_rfl) ?_ _
       refine then_step (fun K hK=>?_)
       go_simp
       refine hK.out _ _ ?_
       clear hK K
       go_wp2_with fail
       exact bodyPost_end (v:=.tuple #[]) (results_none rfl _ _ _) rfl ⟨rfl,_,by rw [show strsL (acc++[t.s])=strsL acc++[.string (BA t.s)] by simp [strsL]];exact HF.out⟩
     exact AllReadyH.nil
   exact AllReadyH.nil
 exact AllReadyH.nil
theorem name1_no (h:LK base r deep tv nv T ns Wn bx bl 39 9 1 ts acc.length (strsL acc) lv W) (hk:∀ t ts1,ts=t::ts1→t.kind≠1) :
 Calls Tryz.prog 172 #[.pointer (some ⟨bl,0,none⟩),.pointer (some ⟨bx,0,none⟩)] W fun e W'=>e=Bad T ts.length false∧Mv r Wn W':=by
 have hb:Below W.heap.size W W.drew:=(Below.refl _ _).drew
 have hd:=h.kept hb
 have c0:W.cell? ⟨bl,0,none⟩=some lv:=h.lb.cell 0
 have c1:W.cell? ⟨bx,0,none⟩=some (RP r):=h.xb.cell 0
 have HW:=Lib.hid (word_no hd.rs hk)
 have HM:=Lib.hid hd.mv
 clear h hd hb hk
 go_enter Tryz.func172,Tryz.ntmps172
 go_wp2_with fail
 rw [show (#[{dst:=some 2,op:=Op.load 39 (Operand.tmp 0),type:=39,pos := "parse.go:90",after:=#[],guard:=none},{dst:=some 3,op:=Op.load 112 (Operand.tmp 1),type:=112,pos := "parse.go:90",after:=#[],guard:=none},{dst:=some 4,op:=Op.call {callee:=Callee.value (Operand.func 103),args:=#[Operand.tmp 3],argTypes:=#[112]},type:=9,pos := "parse.go:90",after:=#[⟨1,.data⟩],guard:=none},{dst:=some 5,op:=Op.buildSlice 39 1 #[(0,Operand.tmp 4)],type:=39,pos := "parse.go:90",after:=#[⟨2,.data⟩],guard:=none},{dst:=some 6,op:=Op.call {callee:=Callee.builtin Go.Builtin.append,args:=#[Operand.tmp 2,Operand.tmp 5],argTypes:=#[39,39]},type:=39,pos := "parse.go:90",after:=#[⟨0,.data⟩,⟨3,.data⟩,⟨2,.chain⟩],guard:=none},{dst:=none,op:=Op.store 39 (Operand.tmp 0) (Operand.tmp 6),type:=0,pos := "parse.go:90",after:=#[⟨4,.data⟩,⟨4,.chain⟩,⟨0,.phase⟩,⟨1,.phase⟩,⟨2,.phase⟩,⟨3,.phase⟩,⟨4,.phase⟩],guard:=none}]:Array Oper)=Array.push #[{dst:=some 2,op:=Op.load 39 (Operand.tmp 0),type:=39,pos := "parse.go:90",after:=#[],guard:=none},{dst:=some 3,op:=Op.load 112 (Operand.tmp 1),type:=112,pos := "parse.go:90",after:=#[],guard:=none},{dst:=some 4,op:=Op.call {callee:=Callee.value (Operand.func 103),args:=#[Operand.tmp 3],argTypes:=#[112]},type:=9,pos := "parse.go:90",after:=#[⟨1,.data⟩],guard:=none},{dst:=some 5,op:=Op.buildSlice 39 1 #[(0,Operand.tmp 4)],type:=39,pos := "parse.go:90",after:=#[⟨2,.data⟩],guard:=none},{dst:=some 6,op:=Op.call {callee:=Callee.builtin Go.Builtin.append,args:=#[Operand.tmp 2,Operand.tmp 5],argTypes:=#[39,39]},type:=39,pos := "parse.go:90",after:=#[⟨0,.data⟩,⟨3,.data⟩,⟨2,.chain⟩],guard:=none}] {dst:=none,op:=Op.store 39 (Operand.tmp 0) (Operand.tmp 6),type:=0,pos := "parse.go:90",after:=#[⟨4,.data⟩,⟨4,.chain⟩,⟨0,.phase⟩,⟨1,.phase⟩,⟨2,.phase⟩,⟨3,.phase⟩,⟨4,.phase⟩],guard:=none} from rfl]
 refine wp_region_last (S:=fun w'=>w'.cell? ⟨bl,0,none⟩=some lv∧w'.cell? ⟨bx,0,none⟩=some (RP r)) (by kernel_rfl) (by kernel_rfl) ⟨c0,c1⟩ (fun hHeld=>?_)
 refine wpAnyH_take (i:=0) (oi:={dst:=some 2,op:=Op.load 39 (Operand.tmp 0),type:=39,pos := "parse.go:90",after:=#[],guard:=none}) (v := ?v1) rfl (by kernel_rfl) (by kernel_rfl) (by kernel_rfl) (fun _ _ _ h=>h) (Or.inl ⟨by rfl,?hy1⟩) (by assumption) ?rest1
 case hy1 =>
  intro w hSw
  (try dsimp only at hSw)
  go_simp
  try with_reducible rfl
 try simp only [Act.put,List.setIfInBounds_toArray,List.set_cons_zero,List.set_cons_succ]
 refine wpAnyH_take (i:=1) (oi:={dst:=some 3,op:=Op.load 112 (Operand.tmp 1),type:=112,pos := "parse.go:90",after:=#[],guard:=none}) (v := ?v2) rfl (by kernel_rfl) (by kernel_rfl) (by kernel_rfl) (fun _ _ _ h=>h) (Or.inl ⟨by rfl,?hy2⟩) (by assumption) ?rest2
 case hy2 =>
  intro w hSw
  (try dsimp only at hSw)
  go_simp
  try with_reducible rfl
 try simp only [Act.put,List.setIfInBounds_toArray,List.set_cons_zero,List.set_cons_succ]
 refine wpAnyH_ready (rs:=[2]) (by kernel_rfl) (by simp) ?_
 refine AllReadyH.cons (o:={dst:=some 4,op:=Op.call {callee:=Callee.value (Operand.func 103),args:=#[Operand.tmp 3],argTypes:=#[112]},type:=9,pos := "parse.go:90",after:=#[⟨1,.data⟩],guard:=none}) rfl (fun K hK=>?_) ?_
 ·go_simp
  go_at_call 103
  (with_reducible refine HW.out.mono ?_)
  rintro e w1 ⟨rfl,m1⟩
  have HF:=Lib.hid (Stp.trans HM.out m1)
  unfold Bad
  exact ⟨rfl,rfl,HF.out⟩
 exact AllReadyH.nil
end
end Go.Proofs.YtnaehhpikhlppaaGreatDoor
