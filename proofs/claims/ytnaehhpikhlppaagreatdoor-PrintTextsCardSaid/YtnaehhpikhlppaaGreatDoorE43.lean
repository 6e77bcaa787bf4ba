/- Several texts of the proof, joined. -/
import Derived.Test.YtnaehhpikhlppaaGreatDoorE6
import Derived.Test.YtnaehhpikhlppaaGreatDoorE7
import Derived.Test.YtnaehhpikhlppaaGreatDoorE9
import Derived.Laws.IdiomStrings
set_option maxHeartbeats 4000000
set_option maxRecDepth 100000
set_option linter.unusedVariables false
set_option linter.unusedSimpArgs false
namespace Go.Proofs.YtnaehhpikhlppaaGreatDoor
open Go.RowKit LexS
def RNum (neg:Bool) (u:Nat) (x:Int) (ok:Bool):Prop:=(ok=true↔SmallEnough neg u)∧(ok=true→x=if neg then -(u:Int) else (u:Int))
theorem numT_no {L:Bytes} (h:¬ ∃ v,Lib.atoiAll (L.take (numLen L))=.ok v∧Lib.itoa v=L.take (numLen L)):numberT L=(noTok,0):=by
 unfold numberT numberS
 match hA:Lib.atoiAll (L.take (numLen L)) with
 | .ok v =>
   dsimp only
   rw [if_neg (fun hh=>h ⟨v,hA,hh.1⟩)]
 | .syntax=>rfl
 | .range=>rfl
theorem numT_inner {L:Bytes} (h:L[numLen L]?.map innerB=some true):numberT L=(noTok,0):=by
 unfold numberT numberS
 match hA:Lib.atoiAll (L.take (numLen L)) with
 | .ok v =>
   dsimp only
   rw [if_neg (fun hh=>hh.2 h)]
 | .syntax=>rfl
 | .range=>rfl
theorem numT_yes {L:Bytes} {v:Int} (h1:Lib.atoiAll (L.take (numLen L))=.ok v) (h2:Lib.itoa v=L.take (numLen L)) (h3:¬ (L[numLen L]?.map innerB=some true)):numberT L=(⟨2,[],v,0⟩,numLen L):=by
 unfold numberT numberS
 rw [h1]
 dsimp only
 rw [if_pos ⟨h2,h3⟩]
theorem take_while_all (p:UInt8→Bool) (l:Bytes):∀ c∈l.take (while_ p l),p c=true:=by
 induction l with
 | nil=>intro c h;simp at h
 | cons a l ih =>
   intro c h
   unfold while_ at h
   by_cases ha:p a=true
   ·rw [if_pos ha,List.take_succ_cons] at h
    rcases List.mem_cons.1 h with rfl | h
    ·exact ha
    ·exact ih c h
   ·rw [if_neg ha] at h
    simp at h
theorem alld_of {l:Bytes} (h:∀ c∈l,digitB c=true):AllD l:=by
 intro c hc
 have:=h c hc
 unfold digitB at this
 simp only [Bool.and_eq_true,decide_eq_true_eq] at this
 exact this
theorem numLen_digit {c:UInt8} (r:Bytes) (h:digitB c=true):numLen (c::r)=1+while_ digitB r:=by
 have hc:c.toNat≠45:=by
  intro e
  simp [digitB,e] at h
 unfold numLen
 rw [if_neg (by simp [hc]),while_.eq_2,if_pos h]
 omega
theorem numLen_minus {c:UInt8} (r:Bytes) (h:c.toNat=45):numLen (c::r)=1+while_ digitB r:=by
 unfold numLen
 rw [if_pos (by simp [h])]
 rfl
theorem plain_digits {c:UInt8} (r:Bytes) (h:digitB c=true):AllD ((c::r).take (numLen (c::r))):=by
 rw [numLen_digit r h,Nat.add_comm,List.take_succ_cons]
 refine alld_of fun x hx=>?_
 rcases List.mem_cons.1 hx with rfl | hx
 ·exact h
 ·exact take_while_all digitB r x hx
theorem minus_digits {c:UInt8} (r:Bytes) (h:c.toNat=45):(c::r).take (numLen (c::r))=c::r.take (while_ digitB r)∧AllD (r.take (while_ digitB r)):=by
 rw [numLen_minus r h,Nat.add_comm,List.take_succ_cons]
 exact ⟨rfl,alld_of (take_while_all digitB r)⟩
theorem dv_big:∀ (l:Bytes) (acc:Nat),acc*10 ^ l.length≤dv acc l:=by
 intro l
 induction l with
 | nil=>intro acc;simp [dv_nil]
 | cons c l ih =>
   intro acc
   rw [dv_cons,List.length_cons,Nat.pow_succ]
   refine Nat.le_trans ?_ (ih _)
   rw [Nat.mul_comm (10 ^ l.length) 10,← Nat.mul_assoc]
   exact Nat.mul_le_mul_right _ (by omega)
theorem long_big {d:UInt8} {l:Bytes} (hd:49≤d.toNat) (hl:19≤l.length):9223372036854775808<dv 0 (d::l):=by
 have h1:=dv_big l (10*0+(d.toNat-48))
 rw [dv_cons]
 have h2:10 ^ 19≤10 ^ l.length:=Nat.pow_le_pow_right (by omega) hl
 have h3:1*10 ^ l.length≤(10*0+(d.toNat-48))*10 ^ l.length:=Nat.mul_le_mul_right _ (by omega)
 omega
theorem canon_head {d:UInt8} {l:Bytes} (ha:AllD (d::l)) (h:d.toNat≠48):Canon (d::l):=⟨ha,by simp,.inr (by simpa using h)⟩
theorem not_canon {d:UInt8} {l:Bytes} (h:d.toNat=48) (hl:l ≠ []):¬ Canon (d::l):=by
 rintro ⟨_,_,h1 | h1⟩
 ·have:=List.length_pos_iff.2 hl
  simp only [List.length_cons] at h1
  omega
 ·exact h1 (by simp [h])
theorem plain_nought {c:UInt8} {r:Bytes} (hc:digitB c=true) (h48:c.toNat=48) (h1:while_ digitB r≠0):numberT (c::r)=(noTok,0):=by
 have hD:=plain_digits r hc
 have hT:(c::r).take (numLen (c::r))=c::r.take (while_ digitB r):=by rw [numLen_digit r hc,Nat.add_comm,List.take_succ_cons]
 refine numT_no ?_
 rw [number_plain hD (by rw [hT];simp)]
 rintro ⟨hcn,_⟩
 rw [hT] at hcn
 refine not_canon h48 ?_ hcn
 have:=while_le digitB r
 intro e
 have:=congrArg List.length e
 simp at this
 rcases this with h | h
 ·exact h1 h
 ·subst h;simp [while_] at h1
theorem plain_long {c:UInt8} {r:Bytes} (hc:digitB c=true) (h48:c.toNat≠48) (h1:19≤while_ digitB r):numberT (c::r)=(noTok,0):=by
 have hD:=plain_digits r hc
 have hT:(c::r).take (numLen (c::r))=c::r.take (while_ digitB r):=by rw [numLen_digit r hc,Nat.add_comm,List.take_succ_cons]
 have hc2:=hD c (by rw [hT];simp)
 refine numT_no ?_
 rw [number_plain hD (by rw [hT];simp)]
 rintro ⟨_,hs⟩
 have:=while_le digitB r
 rw [hT] at hs
 have:=long_big (d:=c) (l:=r.take (while_ digitB r)) (by omega) (by rw [List.length_take];omega)
 simp only [SmallEnough,Bool.false_eq_true,if_false] at hs
 omega
theorem plain_end {c:UInt8} {r:Bytes} (hc:digitB c=true) (h0:c.toNat≠48∨while_ digitB r=0) (hi:¬ ((c::r)[numLen (c::r)]?.map innerB=some true)) {x:Int} {ok:Bool}
 (h:RNum false (dv 0 ((c::r).take (numLen (c::r)))) x ok):numberT (c::r)=if ok then (⟨2,[],x,0⟩,numLen (c::r)) else (noTok,0):=by
 have hD:=plain_digits r hc
 have hT:(c::r).take (numLen (c::r))=c::r.take (while_ digitB r):=by rw [numLen_digit r hc,Nat.add_comm,List.take_succ_cons]
 have hne:(c::r).take (numLen (c::r)) ≠ []:=by rw [hT];simp
 have hN:=number_plain hD hne
 have hcn:Canon ((c::r).take (numLen (c::r))):=by
  refine ⟨hD,hne,?_⟩
  rw [hT]
  rcases h0 with h0 | h0
  ·exact .inr (by simpa using h0)
  ·exact .inl (by rw [h0];simp)
 cases ok
 ·have hs:¬ SmallEnough false (dv 0 ((c::r).take (numLen (c::r)))):=fun hs=>by have:=h.1.2 hs;cases this
  exact numT_no (fun hv=>hs (hN.1 hv).2)
 ·have hs:=h.1.1 rfl
  obtain ⟨v,hv,hi2⟩:=hN.2 ⟨hcn,hs⟩
  have hx:=h.2 rfl
  have:=atoi_plain hD hne hs
  rw [hv] at this
  injection this with this
  simp only [Bool.false_eq_true,if_false] at hx
  rw [numT_yes hv hi2 hi,hx,this]
  rfl
theorem minus_nought {c d:UInt8} {r:Bytes} (hc:c.toNat=45) (hd:digitB d=true) (h48:d.toNat=48):numberT (c::d::r)=(noTok,0):=by
 obtain ⟨hT,hD⟩:=minus_digits (c:=c) (d::r) hc
 have hw:while_ digitB (d::r)=while_ digitB r+1:=by
  have:=while_.eq_2 digitB d r
  rw [this,if_pos hd]
 rw [hw,List.take_succ_cons] at hT hD
 refine numT_no ?_
 rw [hT,number_signed hc hD (by simp)]
 rintro ⟨hcn,hz,_⟩
 by_cases hl:r.take (while_ digitB r)=[]
 ·rw [hl] at hz
  exact hz (by rw [dv_cons,dv_nil,h48])
 ·exact not_canon h48 hl hcn
theorem minus_long {c d:UInt8} {r:Bytes} (hc:c.toNat=45) (hd:digitB d=true) (h48:d.toNat≠48) (h1:19≤while_ digitB r):numberT (c::d::r)=(noTok,0):=by
 obtain ⟨hT,hD⟩:=minus_digits (c:=c) (d::r) hc
 have hw:while_ digitB (d::r)=while_ digitB r+1:=by
  have:=while_.eq_2 digitB d r
  rw [this,if_pos hd]
 rw [hw,List.take_succ_cons] at hT hD
 have hc2:=hD d (by simp)
 refine numT_no ?_
 rw [hT,number_signed hc hD (by simp)]
 rintro ⟨_,_,hs⟩
 have:=while_le digitB r
 have:=long_big (d:=d) (l:=r.take (while_ digitB r)) (by omega) (by rw [List.length_take];omega)
 simp only [SmallEnough,if_true] at hs
 omega
theorem minus_end {c d:UInt8} {r:Bytes} (hc:c.toNat=45) (hd:digitB d=true) (h48:d.toNat≠48) (hi:¬ ((c::d::r)[numLen (c::d::r)]?.map innerB=some true)) {x:Int} {ok:Bool}
 (h:RNum true (dv 0 ((d::r).take (while_ digitB (d::r)))) x ok):numberT (c::d::r)=if ok then (⟨2,[],x,0⟩,numLen (c::d::r)) else (noTok,0):=by
 obtain ⟨hT,hD⟩:=minus_digits (c:=c) (d::r) hc
 have hw:while_ digitB (d::r)=while_ digitB r+1:=by
  have:=while_.eq_2 digitB d r
  rw [this,if_pos hd]
 rw [hw,List.take_succ_cons] at hT hD h
 have hN:=number_signed hc hD (by simp)
 rw [← hT] at hN
 have hcn:=canon_head hD h48
 have hp:=dv_pos hD (by simp) (by simpa using h48)
 cases ok
 ·have hs:¬ SmallEnough true (dv 0 (d::r.take (while_ digitB r))):=fun hs=>by have:=h.1.2 hs;cases this
  exact numT_no (fun hv=>hs (hN.1 hv).2.2)
 ·have hs:=h.1.1 rfl
  obtain ⟨v,hv,hi2⟩:=hN.2 ⟨hcn,by omega,hs⟩
  have hx:=h.2 rfl
  have:=atoi_signed hc hD (by simp) hs
  rw [← hT,hv] at this
  injection this with this
  simp only [if_true] at hx
  rw [numT_yes hv hi2 hi,hx,this]
  rfl
end Go.Proofs.YtnaehhpikhlppaaGreatDoor
namespace Go.Proofs.YtnaehhpikhlppaaGreatDoor
open Go.RowKit LexS
def textA (o:Option (Bytes×Nat)):ByteArray×Nat×Bool:=match o with
 | some (t,n)=>(⟨t.toArray⟩,n,decide (t.length≤64))
 | none=>(⟨#[]⟩,0,false)
def TextRet (o:Option (Bytes×Nat)) (e:Ending):Prop:=e=.returned (.tuple #[.string (textA o).1,.int .i64 ((textA o).2.1:Int),.bool (textA o).2.2])
def RTRel (o:Option (Bytes×Nat)) (s:ByteArray) (w:World) (i:Nat) (acc:Bytes) (v:Value) (wr:World):Prop :=
 1≤i∧i≤s.size∧acc.length≤i∧o=textFrom acc i (s.data.toList.drop i) ∧
 v≠.slice none 0 0∧wr.ownsRow w.heap.size 5 1 v acc.length (Lib.byteCells acc)∧Below w.heap.size w wr
theorem byte_info:(Tryz.prog.info? 5).map (fun i=>(i.zero,i.size,i.bytes))=some (some (.int .u8 0),1,1):=by kernel_rfl
theorem empty_bytes (w W:World) (h:w.heap.size≤W.heap.size):(W.alloc (.cells #[] 5)).ownsRow w.heap.size 5 1 (.slice (some ⟨W.heap.size,0,none⟩) 0 0) 0 [] :=
 ⟨rfl,.inr ⟨W.heap.size,0,#[],rfl,h,heap_alloc_new W _,Nat.le_refl _,Nat.zero_le _,rfl,rfl⟩⟩
theorem bytes_text {W:World} {base:Nat} {v:Value} {acc:Bytes} (h:W.ownsRow base 5 1 v acc.length (Lib.byteCells acc)) (hv:v≠.slice none 0 0) :
 (convert 107 9 v).run Tryz.prog W=.ok (.string ⟨acc.toArray⟩) W:=by
 rcases h.2 with ⟨h2,_⟩ | ⟨g,cap,cur,rfl,_⟩
 ·exact absurd h2 hv
 ·refine run_convert_bytes_back (P:=Tryz.prog) _ 107 9 5 ⟨g,0,none⟩ cap acc (by kernel_rfl) (by kernel_rfl) (by kernel_rfl) ?_
  intro j hj
  refine h.cells rfl j _ ?_
  simp [Lib.byteCells,hj]
theorem RTRel.start (s:ByteArray) (h1:1≤s.size) (w:World) {o:Option (Bytes×Nat)} (ho:o=textFrom [] 1 (s.data.toList.drop 1)):RTRel o s w 1 [] (.slice (some ⟨w.heap.size,0,none⟩) 0 0) (w.alloc (.cells #[] 5)) :=
 ⟨Nat.le_refl _,h1,by simp,ho,(by intro h;cases h),empty_bytes w w (Nat.le_refl _),(Below.refl _ _).alloc (Nat.le_refl _) _⟩
theorem RTRel.next {o:Option (Bytes×Nat)} {s:ByteArray} {w wr wr':World} {i k:Nat} {acc:Bytes} {v v':Value} {d:UInt8} {r:Bytes} (h:RTRel o s w i acc v wr) (hik:i+1≤k) (hk:k≤s.size) (hr:s.data.toList.drop k=r)
 (he:textFrom acc i (s.data.toList.drop i)=textFrom (acc++[d]) k r) (hv:v'≠.slice none 0 0)
 (ho:wr'.ownsRow w.heap.size 5 1 v' (acc.length+1) (Lib.byteCells acc++[.int .u8 (d.toNat:Int)])) (hb:Below w.heap.size w wr'):RTRel o s w k (acc++[d]) v' wr':=by
 obtain ⟨h1,h2,h3,h4,_,_,_⟩:=h
 refine ⟨by omega,hk,by simp;omega,by rw [h4,he,hr],hv,?_,hb⟩
 rw [bcells_app] at ho
 simpa using ho
theorem one_cell (W:World) (x:Value):∀ j u,[x][j]?=some u→(W.alloc (.cells #[x] 5)).cell? ((⟨W.heap.size,0,none⟩:Addr).add j)=some u:=blk_cells (Blk.new W 5 #[x])
theorem rtext_any (s:ByteArray) (hs:s.size≤140737488351232) (h1:1≤s.size) (o:Option (Bytes×Nat)) (ho:o=textFrom [] 1 (s.data.toList.drop 1)) (w:World) :
 Calls Tryz.prog 62 #[.string s] w fun e w'=>TextRet o e∧Below w.heap.size w w':=by
 go_enter Tryz.func62,Tryz.ntmps62
 have H0:=Lib.hid (RTRel.start s h1 w ho)
 clear ho
 go_wp2_with fail
 go_loopw [5,6] (fun v c wr => ∃ i acc,c=.int .i64 (i:Nat)∧RTRel o s w i acc v wr) (fun _ c _=>s.size-(intOf c).toNat)
 case atStart=>exact ⟨1,[],rfl,H0.out⟩
 case round =>
  obtain ⟨i,acc,rfl,hrel⟩:=hrel
  obtain ⟨hi1,his,hacc,heq,hvn,hown,hb⟩:=id hrel
  have HR:=Lib.hid hrel
  have HE:=Lib.hid heq
  have HB:=Lib.hid hb
  have HV:=Lib.hid hvn
  clear heq hrel H0 hvn
  match hd:s.data.toList.drop i with
  | [] =>
    have he:=at_end hd
    have hend:o=none:=by rw [HE.out,hd];simp [textFrom]
    have HD:=Lib.hid hend
    clear hd hend hown hb
    go_wp2_with fail
    exact bodyPost_ret (res_three rfl rfl rfl rfl) rfl ⟨by rw [HD.out];rfl,HB.out⟩
  | c::r =>
    obtain ⟨hlt,hc,hr2⟩:=byte_at hd
    have hcons:=textFrom_cons acc i c r
    rw [← hd] at hcons
    by_cases h34:c.toNat=34
    ·rw [if_pos h34,← HE.out] at hcons
     have g34:((c.toNat:Int) == 34)=true:=by rw [h34];rfl
     obtain ⟨g,cap,rfl⟩:∃ g cap,u5=.slice (some ⟨g,0,none⟩) acc.length cap:=by
      rcases hown.2 with ⟨h2,_⟩ | ⟨g,cap,cur,h2,_⟩
      ·exact absurd h2 HV.out
      ·exact ⟨g,cap,h2⟩
     have hcv:=bytes_text hown HV.out
     have hend:o=some (acc,i+1):=hcons
     have HD:=Lib.hid hend
     clear hcons hend hd h34 hr2
     go_wp2_with fail
     exact bodyPost_ret (res_three rfl rfl rfl rfl) rfl ⟨by rw [HD.out];simp [TextRet,textA];omega,HB.out⟩
    ·rw [if_neg h34] at hcons
     have g34:((c.toNat:Int) == 34)=false:=by rw [beq_eq_false_iff_ne];omega
     obtain ⟨i0,hi,hz0,hz1,hz2⟩:=info_parts byte_info
     by_cases h92:c.toNat=92
     ·rw [if_pos h92] at hcons
      have g92:((c.toNat:Int) == 92)=true:=by rw [h92];rfl
      match hr2':r,hr2,hcons with
      | [],hr2,hcons =>
        have he:=at_end hr2
        have hend:o=none:=by rw [HE.out,hcons]
        have HD:=Lib.hid hend
        clear hcons hend hd h34 hr2 h92 hown hb
        have d1:decide ((s.size:Int)≤(i:Int)+1)=true:=decide_eq_true (by omega)
        have d2:(s.size:Int)≤(i:Int)+1:=by omega
        go_wp2_with fail
        exact bodyPost_ret (res_three rfl rfl rfl rfl) rfl ⟨by rw [HD.out];rfl,HB.out⟩
      | d::r',hr2,hcons =>
        dsimp only at hcons
        obtain ⟨hlt2,hc2,hr3⟩:=byte_at hr2
        have b0:(0:Int)≤(i:Int)+1:=by omega
        have b1:(i:Int)+1<s.size:=by omega
        have t1:((i:Int)+1).toNat=i+1:=by omega
        have d1:decide ((s.size:Int)≤(i:Int)+1)=false:=decide_eq_false (by omega)
        have d2:¬ ((s.size:Int)≤(i:Int)+1):=by omega
        have w1:IntKind.i64.wrap ((i:Int)+1)=(i:Int)+1:=IntWalk.i64_in _ (by omega)
        by_cases hd34:d.toNat=34
        ·have q34:((d.toNat:Int) != 34)=false:=by rw [hd34];rfl
         rw [if_pos (Or.inl hd34)] at hcons
         have HD:=Lib.hid hcons
         have HQ:=Lib.hid hr3
         clear hcons hd h34 h92 hr2 hr3 hd34 hb
         go_wp2_with (at_builtin;refine wpList_append_own _ rfl _ _ _ rfl w.heap.size 5 i0 _ 1 1 (by kernel_rfl) hi hz0 hz1 hz2 rfl (by decide) _ acc.length (Lib.byteCells acc) rfl (hown.alloc _) ⟨wr.heap.size,0,none⟩ 1 1 [.int .u8 (d.toNat:Int)] rfl rfl (one_cell wr _) (by simp [Value.oneCell']) (by simp only [maxLen];omega) (by omega) (HB.out.alloc HB.out.size _).size ?_)
         intro v' w' ho hgr hnil
         have HF:=Lib.hid (HR.out.next (k:=i+2) (by omega) (by omega) HQ.out HD.out (fun e=>hnil e) ho ((HB.out.alloc HB.out.size _).grown hgr (HB.out.alloc HB.out.size _).size (fun k hk=>((hown.alloc (.cells #[.int .u8 (d.toNat:Int)] 5)).lt k hk).1)))
         clear ho hgr hnil
         go_wp2_with fail
         exact ⟨⟨i+2,acc++[d],by go_num,HF.out⟩,by simp [intOf];omega⟩
        ·have q34:((d.toNat:Int) != 34)=true:=by rw [bne_iff_ne];omega
         by_cases hd92:d.toNat=92
         ·have q92:((d.toNat:Int) != 92)=false:=by rw [hd92];rfl
          rw [if_pos (Or.inr hd92)] at hcons
          have HD:=Lib.hid hcons
          have HQ:=Lib.hid hr3
          clear hcons hd h34 h92 hr2 hr3 hd34 hd92 hb
          go_wp2_with (at_builtin;refine wpList_append_own _ rfl _ _ _ rfl w.heap.size 5 i0 _ 1 1 (by kernel_rfl) hi hz0 hz1 hz2 rfl (by decide) _ acc.length (Lib.byteCells acc) rfl (hown.alloc _) ⟨wr.heap.size,0,none⟩ 1 1 [.int .u8 (d.toNat:Int)] rfl rfl (one_cell wr _) (by simp [Value.oneCell']) (by simp only [maxLen];omega) (by omega) (HB.out.alloc HB.out.size _).size ?_)
          intro v' w' ho hgr hnil
          have HF:=Lib.hid (HR.out.next (k:=i+2) (by omega) (by omega) HQ.out HD.out (fun e=>hnil e) ho ((HB.out.alloc HB.out.size _).grown hgr (HB.out.alloc HB.out.size _).size (fun k hk=>((hown.alloc (.cells #[.int .u8 (d.toNat:Int)] 5)).lt k hk).1)))
          clear ho hgr hnil
          go_wp2_with fail
          exact ⟨⟨i+2,acc++[d],by go_num,HF.out⟩,by simp [intOf];omega⟩
         ·have q92:((d.toNat:Int) != 92)=true:=by rw [bne_iff_ne];omega
          have hend:o=none:=by rw [HE.out,hcons,if_neg (by omega)]
          have HD:=Lib.hid hend
          clear hcons hend hd h34 hr2 hr3 h92 hd34 hd92 hown hb
          go_wp2_with fail
          exact bodyPost_ret (res_three rfl rfl rfl rfl) rfl ⟨by rw [HD.out];rfl,HB.out⟩
     ·rw [if_neg h92] at hcons
      have g92:((c.toNat:Int) == 92)=false:=by rw [beq_eq_false_iff_ne];omega
      have HD:=Lib.hid hcons
      have HQ:=Lib.hid hr2
      clear hcons hd h34 h92 hr2 hb
      go_wp2_with (at_builtin;refine wpList_append_own _ rfl _ _ _ rfl w.heap.size 5 i0 _ 1 1 (by kernel_rfl) hi hz0 hz1 hz2 rfl (by decide) _ acc.length (Lib.byteCells acc) rfl (hown.alloc _) ⟨wr.heap.size,0,none⟩ 1 1 [.int .u8 (c.toNat:Int)] rfl rfl (one_cell wr _) (by simp [Value.oneCell']) (by simp only [maxLen];omega) (by omega) (HB.out.alloc HB.out.size _).size ?_)
      intro v' w' ho hgr hnil
      have HF:=Lib.hid (HR.out.next (k:=i+1) (by omega) (by omega) HQ.out HD.out (fun e=>hnil e) ho ((HB.out.alloc HB.out.size _).grown hgr (HB.out.alloc HB.out.size _).size (fun k hk=>((hown.alloc (.cells #[.int .u8 (c.toNat:Int)] 5)).lt k hk).1)))
      clear ho hgr hnil
      go_wp2_with fail
      exact ⟨⟨i+1,acc++[c],rfl,HF.out⟩,by simp [intOf];omega⟩
end Go.Proofs.YtnaehhpikhlppaaGreatDoor
namespace Go.Proofs.YtnaehhpikhlppaaGreatDoor
open Go.RowKit LexS
def RNumRet (neg:Bool) (u:Nat) (e:Ending):Prop := ∃ x ok,e=.returned (.tuple #[.int .i64 x,.bool ok])∧RNum neg u x ok
def RNRel (D:Bytes) (i u:Nat):Prop:=i≤D.length∧dv 0 D=dv u (D.drop i)∧u≤9223372036854775808
theorem rnum_over {D r:Bytes} {c:UInt8} {u:Nat} (he:dv 0 D=dv u (c::r)) (h:9223372036854775808<10*u+(c.toNat-48)) (neg:Bool):RNum neg (dv 0 D) 0 false:=by
 have h1:=dv_ge (10*u+(c.toNat-48)) r
 rw [dv_cons] at he
 refine ⟨⟨fun h=>(by cases h),fun hs=>?_⟩,fun h=>(by cases h)⟩
 exfalso
 cases neg
 ·simp only [SmallEnough,Bool.false_eq_true,if_false] at hs
  omega
 ·simp only [SmallEnough,if_true] at hs
  omega
theorem rnum_minus {D:Bytes} {u:Nat} (he:dv 0 D=u) (h:u≤9223372036854775808):RNum true (dv 0 D) (-(u:Int)) true:=by
 rw [he]
 refine ⟨⟨fun _=>?_,fun _=>rfl⟩,fun _=>rfl⟩
 simpa [SmallEnough] using h
theorem rnum_plus {D:Bytes} {u:Nat} (he:dv 0 D=u) (h:u<9223372036854775808):RNum false (dv 0 D) (u:Int) true:=by
 rw [he]
 refine ⟨⟨fun _=>?_,fun _=>rfl⟩,fun _=>rfl⟩
 simpa [SmallEnough] using h
theorem rnum_top {D:Bytes} {u:Nat} (he:dv 0 D=u) (h:u=9223372036854775808) (x:Int):RNum false (dv 0 D) x false:=by
 rw [he]
 refine ⟨⟨fun h=>(by cases h),fun hs=>?_⟩,fun h=>(by cases h)⟩
 simp only [SmallEnough,Bool.false_eq_true,if_false] at hs
 omega
theorem res_two {P:Program} {f:Func} {p q:Nat} {tmps:Array Value} {w:World} {x y:Value} (hf:f.results=#[.tmp p,.tmp q]) (h1:tmps[p]?.getD undef=x) (h2:tmps[q]?.getD undef=y) :
 (results f tmps).run P w=.ok (.tuple #[x,y]) w:=by
 simp [results,hf,go_sem,h1,h2]
theorem rnum_plain (s:ByteArray) (c0:UInt8) (r0:Bytes) (hl:s.data.toList=c0::r0) (h45:c0.toNat≠45) (hs:s.size≤140737488351232) (hA:AllD (c0::r0)) (w:World) :
 Calls Tryz.prog 64 #[.string s] w fun e w'=>w=w'∧RNumRet false (dv 0 (c0::r0)) e:=by
 obtain ⟨h0,hc0,_⟩:=byte_at (i:=0) (by rw [List.drop_zero];exact hl)
 have hp:(0:Int)<s.size:=by omega
 have g45:((c0.toNat:Int) == 45)=false:=by rw [beq_eq_false_iff_ne];omega
 obtain ⟨q,hq⟩:∃ q:ByteArray,q=s:=⟨_,rfl⟩
 have hql:q.data.toList=c0::r0:=by rw [hq,hl]
 have hqs:q.size≤140737488351232:=by rw [hq];exact hs
 rw [← hql] at hA ⊢
 have HA:=Lib.hid hA
 clear hA hl h45
 go_enter Tryz.func64,Tryz.ntmps64
 go_wp2_with fail
 subst hq
 go_loop [4,6] (fun cn ci => ∃ i u:Nat,cn=.int .i64 (-(u:Int))∧ci=.int .i64 (i:Int)∧RNRel q.data.toList i u) (fun _ c=>q.size-(intOf c).toNat)
 case atStart=>exact ⟨0,0,rfl,rfl,Nat.zero_le _,rfl,Nat.zero_le _⟩
 case round =>
  obtain ⟨i,u,rfl,rfl,hi,he,hu⟩:=hrel
  rw [size_list] at hi
  match hd:q.data.toList.drop i with
  | [] =>
    have hend:=at_end hd
    rw [hd] at he
    rw [dv_nil] at he
    clear hd hqs hql
    by_cases ht:u=9223372036854775808
    ·have HR:=Lib.hid (rnum_top he ht)
     clear he
     subst ht
     have n1:decide (-9223372036854775808 < -((9223372036854775808:Nat):Int))=false:=by decide
     have n2:¬ ((-9223372036854775808:Int) < -((9223372036854775808:Nat):Int)):=by decide
     have n3:IntKind.i64.wrap (- -((9223372036854775808:Nat):Int)) = -9223372036854775808:=by decide
     go_wp2_with fail
     exact bodyPost_ret (res_two rfl rfl rfl) rfl ⟨rfl,_,_,rfl,HR.out _⟩
    ·have HR:=Lib.hid (rnum_plus he (by omega))
     have n1:decide (-9223372036854775808 < -(u:Int))=true:=decide_eq_true (by omega)
     have n2:(-9223372036854775808:Int) < -(u:Int):=by omega
     have n3:IntKind.i64.wrap (- -(u:Int))=(u:Int):=by rw [Int.neg_neg];exact IntWalk.i64_in _ (by omega)
     have n4:IntKind.i64.wrap (u:Int)=(u:Int):=IntWalk.i64_in _ (by omega)
     clear he ht
     go_wp2_with fail
     exact bodyPost_ret (res_two rfl rfl rfl) rfl ⟨rfl,_,_,rfl,HR.out⟩
  | c::r =>
    obtain ⟨hlt,hc,hr⟩:=byte_at hd
    have hdig:=HA.out c (List.mem_of_mem_drop (by rw [hd];simp))
    rw [hd] at he
    obtain ⟨d,hdd⟩:∃ d:Nat,d=c.toNat-48:=⟨_,rfl⟩
    have d9:d≤9:=by omega
    have u1:IntKind.u8.wrap ((c.toNat:Int)-48)=(d:Int):=by
     have:(c.toNat:Int)-48=d:=by omega
     rw [this]
     simp [IntKind.wrap,IntKind.bits,IntKind.signed]
     omega
    have u2:IntKind.i64.wrap (d:Int)=(d:Int):=IntWalk.i64_in _ (by omega)
    obtain ⟨k,hk⟩:∃ k:Nat,k=(9223372036854775808-d) / 10:=⟨_,rfl⟩
    have u3:IntKind.i64.wrap (-9223372036854775808+(d:Int)) = -9223372036854775808+(d:Int):=IntWalk.i64_in _ (by omega)
    have u4:Int.tdiv (-9223372036854775808+(d:Int)) 10 = -(k:Int):=by
     have e1:(-9223372036854775808+(d:Int)) = -(((9223372036854775808-d:Nat):Int)):=by omega
     rw [e1,Int.neg_tdiv,hk]
     exact congrArg _ (Int.ofNat_tdiv _ 10).symm
    have hk1:k≤922337203685477580:=by omega
    have hk2:10*k+d≤9223372036854775808:=by omega
    have hk3:9223372036854775808<10*(k+1)+d:=by omega
    by_cases hov:k<u
    ·have HR:=Lib.hid (rnum_over he (by omega) false)
     have o1 : -(u:Int) < -(k:Int):=by omega
     have o2:decide (-(u:Int) < -(k:Int))=true:=decide_eq_true o1
     clear hd he hr hdd hk hdig hql
     go_wp2_with fail
     exact bodyPost_ret (res_two rfl rfl rfl) rfl ⟨rfl,_,_,rfl,HR.out⟩
    ·have o1:¬ -(u:Int) < -(k:Int):=by omega
     have o2:decide (-(u:Int) < -(k:Int))=false:=decide_eq_false o1
     have v1:IntKind.i64.wrap (10 * -(u:Int))=10 * -(u:Int):=IntWalk.i64_in _ (by omega)
     have v2:IntKind.i64.wrap (10 * -(u:Int)-(d:Int))=10 * -(u:Int)-(d:Int):=IntWalk.i64_in _ (by omega)
     have v3:IntKind.i64.wrap ((i:Int)+1)=(i:Int)+1:=IntWalk.i64_in _ (by omega)
     have HE:=Lib.hid (show RNRel q.data.toList (i+1) (10*u+d) from ⟨by rw [size_list];exact hlt,by rw [he,dv_cons,hr,hdd],by omega⟩)
     clear hd he hr hdd hk hdig hql
     go_wp2_with fail
     exact ⟨⟨i+1,10*u+d,by go_num,rfl,HE.out⟩,by simp [intOf];omega⟩
theorem rnum_neg (s:ByteArray) (c0:UInt8) (r0:Bytes) (hl:s.data.toList=c0::r0) (h45:c0.toNat=45) (hs:s.size≤140737488351232) (hA:AllD r0) (w:World) :
 Calls Tryz.prog 64 #[.string s] w fun e w'=>w=w'∧RNumRet true (dv 0 r0) e:=by
 obtain ⟨h0,hc0,_⟩:=byte_at (i:=0) (by rw [List.drop_zero];exact hl)
 have hp:(0:Int)<s.size:=by omega
 have g45:((c0.toNat:Int) == 45)=true:=by rw [h45];rfl
 have b1:(1:Int)≤s.size:=by omega
 have b2:1≤s.size:=by omega
 have hq:∃ q:ByteArray,q=s.extract 1 s.size:=⟨_,rfl⟩
 obtain ⟨q,hq⟩:=hq
 have hql:q.data.toList=r0:=by rw [hq,list_from,hl];rfl
 have hqs:q.size≤140737488351232:=by rw [hq,ByteArray.size_extract];omega
 have hqe:s.extract 1 s.size=q:=hq.symm
 clear hq
 rw [← hql] at hA ⊢
 have HA:=Lib.hid hA
 clear hA hl h45
 go_enter Tryz.func64,Tryz.ntmps64
 go_wp2_with fail
 go_loop [4,6] (fun cn ci => ∃ i u:Nat,cn=.int .i64 (-(u:Int))∧ci=.int .i64 (i:Int)∧RNRel q.data.toList i u) (fun _ c=>q.size-(intOf c).toNat)
 case atStart=>exact ⟨0,0,rfl,rfl,Nat.zero_le _,rfl,Nat.zero_le _⟩
 case round =>
  obtain ⟨i,u,rfl,rfl,hi,he,hu⟩:=hrel
  rw [size_list] at hi
  match hd:q.data.toList.drop i with
  | [] =>
    have hend:=at_end hd
    rw [hd] at he
    rw [dv_nil] at he
    clear hd hqs hql
    have HR:=Lib.hid (rnum_minus he hu)
    clear he
    go_wp2_with fail
    exact bodyPost_ret (res_two rfl rfl rfl) rfl ⟨rfl,_,_,rfl,HR.out⟩
  | c::r =>
    obtain ⟨hlt,hc,hr⟩:=byte_at hd
    have hdig:=HA.out c (List.mem_of_mem_drop (by rw [hd];simp))
    rw [hd] at he
    obtain ⟨d,hdd⟩:∃ d:Nat,d=c.toNat-48:=⟨_,rfl⟩
    have d9:d≤9:=by omega
    have u1:IntKind.u8.wrap ((c.toNat:Int)-48)=(d:Int):=by
     have:(c.toNat:Int)-48=d:=by omega
     rw [this]
     simp [IntKind.wrap,IntKind.bits,IntKind.signed]
     omega
    have u2:IntKind.i64.wrap (d:Int)=(d:Int):=IntWalk.i64_in _ (by omega)
    obtain ⟨k,hk⟩:∃ k:Nat,k=(9223372036854775808-d) / 10:=⟨_,rfl⟩
    have u3:IntKind.i64.wrap (-9223372036854775808+(d:Int)) = -9223372036854775808+(d:Int):=IntWalk.i64_in _ (by omega)
    have u4:Int.tdiv (-9223372036854775808+(d:Int)) 10 = -(k:Int):=by
     have e1:(-9223372036854775808+(d:Int)) = -(((9223372036854775808-d:Nat):Int)):=by omega
     rw [e1,Int.neg_tdiv,hk]
     exact congrArg _ (Int.ofNat_tdiv _ 10).symm
    have hk1:k≤922337203685477580:=by omega
    have hk2:10*k+d≤9223372036854775808:=by omega
    have hk3:9223372036854775808<10*(k+1)+d:=by omega
    by_cases hov:k<u
    ·have HR:=Lib.hid (rnum_over he (by omega) true)
     have o1 : -(u:Int) < -(k:Int):=by omega
     have o2:decide (-(u:Int) < -(k:Int))=true:=decide_eq_true o1
     clear hd he hr hdd hk hdig hql
     go_wp2_with fail
     exact bodyPost_ret (res_two rfl rfl rfl) rfl ⟨rfl,_,_,rfl,HR.out⟩
    ·have o1:¬ -(u:Int) < -(k:Int):=by omega
     have o2:decide (-(u:Int) < -(k:Int))=false:=decide_eq_false o1
     have v1:IntKind.i64.wrap (10 * -(u:Int))=10 * -(u:Int):=IntWalk.i64_in _ (by omega)
     have v2:IntKind.i64.wrap (10 * -(u:Int)-(d:Int))=10 * -(u:Int)-(d:Int):=IntWalk.i64_in _ (by omega)
     have v3:IntKind.i64.wrap ((i:Int)+1)=(i:Int)+1:=IntWalk.i64_in _ (by omega)
     have HE:=Lib.hid (show RNRel q.data.toList (i+1) (10*u+d) from ⟨by rw [size_list];exact hlt,by rw [he,dv_cons,hr,hdd],by omega⟩)
     clear hd he hr hdd hk hdig hql
     go_wp2_with fail
     exact ⟨⟨i+1,10*u+d,by go_num,rfl,HE.out⟩,by simp [intOf];omega⟩
end Go.Proofs.YtnaehhpikhlppaaGreatDoor
namespace Go.Proofs.YtnaehhpikhlppaaGreatDoor
open Go.RowKit LexS BigFrame
def ones:Bytes:=[124,44,40,41,58,61,60,62]
theorem ones_is (c:UInt8):ones.contains c=decide (c.toNat=124∨c.toNat=44∨c.toNat=40∨c.toNat=41∨c.toNat=58∨c.toNat=61∨c.toNat=60∨c.toNat=62) :=
 byte_all (fun c=>ones.contains c=decide (c.toNat=124∨c.toNat=44∨c.toNat=40∨c.toNat=41∨c.toNat=58∨c.toNat=61∨c.toNat=60∨c.toNat=62)) (by decide +kernel) c
theorem sign_short {c:UInt8} {r:Bytes} (hno:¬ ((r.head?.map (·.toNat)=some 61)∧(c.toNat=33∨c.toNat=60∨c.toNat=62))):(c::r).take (signLen (c::r))=if ones.contains c then [c] else []:=by
 simp only [signLen]
 rw [if_neg hno,ones_is]
 by_cases h:c.toNat=124∨c.toNat=44∨c.toNat=40∨c.toNat=41∨c.toNat=58∨c.toNat=61∨c.toNat=60∨c.toNat=62
 ·rw [if_pos h,decide_eq_true h];rfl
 ·rw [if_neg h,decide_eq_false h];rfl
theorem sign_long {c:UInt8} {r:Bytes} (h:c.toNat=33∨c.toNat=60∨c.toNat=62):(c::61::r).take (signLen (c::61::r))=[c,61]:=by
 have:signLen (c::61::r)=2:=by simp [signLen,h]
 rw [this]
 rfl
def two:Array Value:=#[.string ⟨#[33,61]⟩,.string ⟨#[60,61]⟩,.string ⟨#[62,61]⟩]
theorem drawn_below {w W0 W:World} (hb:Below w.heap.size w W0) (h:Drawn W0 W):Below w.heap.size w W:=by
 obtain ⟨k,rfl⟩:=h
 exact below_drewN hb k
theorem cells_two (w:World):∃ W0,W0=w.alloc (.cells two 9)∧W0.cell? ⟨w.heap.size,0,none⟩=some (.string ⟨#[33,61]⟩)∧W0.cell? ⟨w.heap.size,1,none⟩=some (.string ⟨#[60,61]⟩)∧W0.cell? ⟨w.heap.size,2,none⟩=some (.string ⟨#[62,61]⟩)∧Below w.heap.size w W0 :=
 ⟨_,rfl,(Blk.new w 9 two).cell 0,(Blk.new w 9 two).cell 1,(Blk.new w 9 two).cell 2,(Below.refl _ _).alloc (Nat.le_refl _) _⟩
theorem rsign_long0 (s:ByteArray) (r:Bytes) (hl:s.data.toList=33::61::r) (hs:s.size≤140737488351232) (w:World) :
 Calls Tryz.prog 65 #[.string s] w fun e w'=>e=.returned (.string ⟨(s.data.toList.take (signLen s.data.toList)).toArray⟩)∧Below w.heap.size w w':=by
 have hsz:s.size=r.length+2:=by rw [← size_list,hl];rfl
 have e2:s.extract 0 2=⟨#[33,61]⟩:=by rw [cut_text,hl];rfl
 have hg2:(2:Int)≤s.size:=by omega
 have hg3:decide ((2:Int)≤(s.size:Int))=true:=decide_eq_true hg2
 have hg4:2≤s.size:=by omega
 have m0:((⟨#[33,61]⟩:ByteArray).toList == (⟨#[33,61]⟩:ByteArray).toList)=true:=by simp only [toList_data];decide
 have m1:((⟨#[33,61]⟩:ByteArray).toList == (⟨#[60,61]⟩:ByteArray).toList)=false:=by simp only [toList_data];decide
 have m2:((⟨#[33,61]⟩:ByteArray).toList == (⟨#[62,61]⟩:ByteArray).toList)=false:=by simp only [toList_data];decide
 have hend:=sign_long (c:=33) (r:=r) (by decide)
 rw [← hl] at hend
 rw [hend]
 clear hend hl hsz
 obtain ⟨W0,hW0,z0,z1,z2,hB⟩:=cells_two w
 have HW:=Lib.hid hW0
 have HB:=Lib.hid hB
 clear hW0 hB
 go_enter Tryz.func65,Tryz.ntmps65
 go_wp2_with fail
 go_loopg [4] 5 (fun gk cv wr => ∃ i:Nat,i≤0∧0<i+gk∧cv=.int .i64 (i:Int)∧Drawn W0 wr)
 case atStart=>exact ⟨0,by omega,by omega,rfl,by rw [HW.out];exact Drawn.base _ 0⟩
 case round =>
  obtain ⟨i,hi,hgk,rfl,k,rfl⟩:=hrel
  have hi':i=0:=by omega
  rcases hi' with rfl
  ·go_wp2_with fail
   go_big_quiet (fail)
   go_wp2_with fail
   exact bodyPost_ret (results_tmp rfl _ _ _) rfl ⟨rfl,drawn_below HB.out (by repeat (first | exact Drawn.base _ _ | apply Drawn.more))⟩
theorem rsign_long1 (s:ByteArray) (r:Bytes) (hl:s.data.toList=60::61::r) (hs:s.size≤140737488351232) (w:World) :
 Calls Tryz.prog 65 #[.string s] w fun e w'=>e=.returned (.string ⟨(s.data.toList.take (signLen s.data.toList)).toArray⟩)∧Below w.heap.size w w':=by
 have hsz:s.size=r.length+2:=by rw [← size_list,hl];rfl
 have e2:s.extract 0 2=⟨#[60,61]⟩:=by rw [cut_text,hl];rfl
 have hg2:(2:Int)≤s.size:=by omega
 have hg3:decide ((2:Int)≤(s.size:Int))=true:=decide_eq_true hg2
 have hg4:2≤s.size:=by omega
 have m0:((⟨#[60,61]⟩:ByteArray).toList == (⟨#[33,61]⟩:ByteArray).toList)=false:=by simp only [toList_data];decide
 have m1:((⟨#[60,61]⟩:ByteArray).toList == (⟨#[60,61]⟩:ByteArray).toList)=true:=by simp only [toList_data];decide
 have m2:((⟨#[60,61]⟩:ByteArray).toList == (⟨#[62,61]⟩:ByteArray).toList)=false:=by simp only [toList_data];decide
 have hend:=sign_long (c:=60) (r:=r) (by decide)
 rw [← hl] at hend
 rw [hend]
 clear hend hl hsz
 obtain ⟨W0,hW0,z0,z1,z2,hB⟩:=cells_two w
 have HW:=Lib.hid hW0
 have HB:=Lib.hid hB
 clear hW0 hB
 go_enter Tryz.func65,Tryz.ntmps65
 go_wp2_with fail
 go_loopg [4] 5 (fun gk cv wr => ∃ i:Nat,i≤1∧1<i+gk∧cv=.int .i64 (i:Int)∧Drawn W0 wr)
 case atStart=>exact ⟨0,by omega,by omega,rfl,by rw [HW.out];exact Drawn.base _ 0⟩
 case round =>
  obtain ⟨i,hi,hgk,rfl,k,rfl⟩:=hrel
  have hi':i=0∨i=1:=by omega
  rcases hi' with rfl | rfl
  ·go_wp2_with fail
   go_big_quiet (fail)
   go_wp2_with fail
   go_roundg (1-0)
   case measure=>omega
   case rel=>exact ⟨1,by omega,by omega,rfl,by repeat (first | exact Drawn.base _ _ | apply Drawn.more)⟩
  ·go_wp2_with fail
   go_big_quiet (fail)
   go_wp2_with fail
   exact bodyPost_ret (results_tmp rfl _ _ _) rfl ⟨rfl,drawn_below HB.out (by repeat (first | exact Drawn.base _ _ | apply Drawn.more))⟩
theorem rsign_long2 (s:ByteArray) (r:Bytes) (hl:s.data.toList=62::61::r) (hs:s.size≤140737488351232) (w:World) :
 Calls Tryz.prog 65 #[.string s] w fun e w'=>e=.returned (.string ⟨(s.data.toList.take (signLen s.data.toList)).toArray⟩)∧Below w.heap.size w w':=by
 have hsz:s.size=r.length+2:=by rw [← size_list,hl];rfl
 have e2:s.extract 0 2=⟨#[62,61]⟩:=by rw [cut_text,hl];rfl
 have hg2:(2:Int)≤s.size:=by omega
 have hg3:decide ((2:Int)≤(s.size:Int))=true:=decide_eq_true hg2
 have hg4:2≤s.size:=by omega
 have m0:((⟨#[62,61]⟩:ByteArray).toList == (⟨#[33,61]⟩:ByteArray).toList)=false:=by simp only [toList_data];decide
 have m1:((⟨#[62,61]⟩:ByteArray).toList == (⟨#[60,61]⟩:ByteArray).toList)=false:=by simp only [toList_data];decide
 have m2:((⟨#[62,61]⟩:ByteArray).toList == (⟨#[62,61]⟩:ByteArray).toList)=true:=by simp only [toList_data];decide
 have hend:=sign_long (c:=62) (r:=r) (by decide)
 rw [← hl] at hend
 rw [hend]
 clear hend hl hsz
 obtain ⟨W0,hW0,z0,z1,z2,hB⟩:=cells_two w
 have HW:=Lib.hid hW0
 have HB:=Lib.hid hB
 clear hW0 hB
 go_enter Tryz.func65,Tryz.ntmps65
 go_wp2_with fail
 go_loopg [4] 5 (fun gk cv wr => ∃ i:Nat,i≤2∧2<i+gk∧cv=.int .i64 (i:Int)∧Drawn W0 wr)
 case atStart=>exact ⟨0,by omega,by omega,rfl,by rw [HW.out];exact Drawn.base _ 0⟩
 case round =>
  obtain ⟨i,hi,hgk,rfl,k,rfl⟩:=hrel
  have hi':i=0∨i=1∨i=2:=by omega
  rcases hi' with rfl | rfl | rfl
  ·go_wp2_with fail
   go_big_quiet (fail)
   go_wp2_with fail
   go_roundg (2-0)
   case measure=>omega
   case rel=>exact ⟨1,by omega,by omega,rfl,by repeat (first | exact Drawn.base _ _ | apply Drawn.more)⟩
  ·go_wp2_with fail
   go_big_quiet (fail)
   go_wp2_with fail
   go_roundg (2-1)
   case measure=>omega
   case rel=>exact ⟨2,by omega,by omega,rfl,by repeat (first | exact Drawn.base _ _ | apply Drawn.more)⟩
  ·go_wp2_with fail
   go_big_quiet (fail)
   go_wp2_with fail
   exact bodyPost_ret (results_tmp rfl _ _ _) rfl ⟨rfl,drawn_below HB.out (by repeat (first | exact Drawn.base _ _ | apply Drawn.more))⟩
theorem rsign_two (s:ByteArray) (c d:UInt8) (r:Bytes) (hl:s.data.toList=c::d::r) (hno:¬ (((d::r:Bytes).head?.map (·.toNat)=some 61)∧(c.toNat=33∨c.toNat=60∨c.toNat=62))) (hs:s.size≤140737488351232) (w:World) :
 Calls Tryz.prog 65 #[.string s] w fun e w'=>e=.returned (.string ⟨(s.data.toList.take (signLen s.data.toList)).toArray⟩)∧Below w.heap.size w w':=by
 have hsz:s.size=r.length+2:=by rw [← size_list,hl];rfl
 have e2:s.extract 0 2=⟨#[c,d]⟩:=by rw [cut_text,hl];rfl
 have hg2:(2:Int)≤s.size:=by omega
 have hg3:decide ((2:Int)≤(s.size:Int))=true:=decide_eq_true hg2
 have hg4:2≤s.size:=by omega
 have hne:∀ x:UInt8,(x.toNat=33∨x.toNat=60∨x.toNat=62)→¬ (c=x∧d=61):=by
  rintro x hx ⟨rfl,rfl⟩
  exact hno ⟨rfl,hx⟩
 have n0:=hne 33 (by decide)
 have n1:=hne 60 (by decide)
 have n2:=hne 62 (by decide)
 have m0:(c == 33 && d == 61)=false:=by
  cases h:(c == 33 && d == 61)
  ·rfl
  ·simp only [Bool.and_eq_true,beq_iff_eq] at h
   exact absurd h n0
 have m1:(c == 60 && d == 61)=false:=by
  cases h:(c == 60 && d == 61)
  ·rfl
  ·simp only [Bool.and_eq_true,beq_iff_eq] at h
   exact absurd h n1
 have m2:(c == 62 && d == 61)=false:=by
  cases h:(c == 62 && d == 61)
  ·rfl
  ·simp only [Bool.and_eq_true,beq_iff_eq] at h
   exact absurd h n2
 obtain ⟨h0,hc0,_⟩:=byte_at (i:=0) (by rw [List.drop_zero];exact hl)
 have e1:s.extract 0 1=⟨#[c]⟩:=by rw [cut_text,hl];rfl
 have hp:(0:Int)<s.size:=by omega
 have hp1:(1:Int)≤s.size:=by omega
 have hend:s.data.toList.take (signLen s.data.toList)=if ones.contains c then [c] else []:=by rw [hl];exact sign_short hno
 obtain ⟨R,hR⟩:∃ R,R=s.data.toList.take (signLen s.data.toList):=⟨_,rfl⟩
 rw [← hR] at hend ⊢
 have HS:=Lib.hid hend
 clear hR hend hno hl hsz hne n0 n1 n2
 obtain ⟨W0,hW0,z0,z1,z2,hB⟩:=cells_two w
 have HW:=Lib.hid hW0
 have HB:=Lib.hid hB
 clear hW0 hB
 go_enter Tryz.func65,Tryz.ntmps65
 go_wp2_with fail
 go_loopg [4] 5 (fun gk cv wr => ∃ i:Nat,i≤3∧3<i+gk∧cv=.int .i64 (i:Int)∧Drawn W0 wr)
 case atStart=>exact ⟨0,by omega,by omega,rfl,by rw [HW.out];exact Drawn.base _ 0⟩
 case round =>
  obtain ⟨i,hi,hgk,rfl,k,rfl⟩:=hrel
  have hi':i=0∨i=1∨i=2∨i=3:=by omega
  rcases hi' with rfl | rfl | rfl | rfl
  ·go_wp2_with fail
   go_big_quiet (fail)
   go_wp2_with fail
   go_roundg (3-0)
   case measure=>omega
   case rel=>exact ⟨1,by omega,by omega,rfl,by repeat (first | exact Drawn.base _ _ | apply Drawn.more)⟩
  ·go_wp2_with fail
   go_big_quiet (fail)
   go_wp2_with fail
   go_roundg (3-1)
   case measure=>omega
   case rel=>exact ⟨2,by omega,by omega,rfl,by repeat (first | exact Drawn.base _ _ | apply Drawn.more)⟩
  ·go_wp2_with fail
   go_big_quiet (fail)
   go_wp2_with fail
   go_roundg (3-2)
   case measure=>omega
   case rel=>exact ⟨3,by omega,by omega,rfl,by repeat (first | exact Drawn.base _ _ | apply Drawn.more)⟩
  ·clear hi hgk
   go_wp2_with fail
   generalize hO:(⟨#[124,44,40,41,58,61,60,62]⟩:ByteArray)=O
   have hOs:O.size=8:=by rw [← hO];rfl
   have hOl:O.data.toList=ones:=by rw [← hO];rfl
   clear hO
   go_loopg [6] 9 (fun gk cv wr => ∃ i:Nat,i≤8∧8<i+gk∧cv=.int .i64 (i:Int)∧ones.contains c=(ones.drop i).contains c∧Drawn W0 wr)
   case atStart=>exact ⟨0,by omega,by omega,rfl,rfl,by repeat (first | exact Drawn.base _ _ | apply Drawn.more)⟩
   case round =>
    obtain ⟨i,hi,hgk,rfl,hcn,k,rfl⟩:=hrel
    match hd:O.data.toList.drop i with
    | [] =>
      have he:=at_end hd
      rw [hOl] at hd
      have hend:ones.contains c=false:=by rw [hcn,hd];rfl
      have HD:=Lib.hid (show R=[] by rw [HS.out,hend];rfl)
      clear hend hcn hd hOl
      have k1:¬ ((i:Int)<8):=by omega
      have k2:decide ((i:Int)<8)=false:=decide_eq_false k1
      have k3:decide (i<8)=false:=decide_eq_false (by omega)
      go_wp2_with fail
      exact bodyPost_ret (results_tmp rfl _ _ _) rfl ⟨by rw [HD.out];rfl,drawn_below HB.out (by repeat (first | exact Drawn.base _ _ | apply Drawn.more))⟩
    | x::t =>
      obtain ⟨hlt,hx,hr⟩:=byte_at hd
      rw [hOl] at hd hr
      have k0:i<8:=by omega
      have k1:((i:Int)<8):=by omega
      have k2:decide ((i:Int)<8)=true:=decide_eq_true k1
      have k3:decide (i<8)=true:=decide_eq_true k0
      have a7:IntKind.i64.wrap ((i:Int)+1)=(i:Int)+1:=IntWalk.i64_in _ (by omega)
      by_cases hcx:c=x
      ·have hend:ones.contains c=true:=by rw [hcn,hd,hcx];simp
       have HD:=Lib.hid (show R=[c] by rw [HS.out,hend];rfl)
       have g1:((c.toNat:Int) == (x.toNat:Int))=true:=by rw [hcx];exact beq_self_eq_true _
       clear hend hcn hd hOl hcx hr
       go_wp2_with fail
       go_big_quiet (fail)
       go_wp2_with fail
       exact bodyPost_ret (results_tmp rfl _ _ _) rfl ⟨by rw [HD.out];rfl,drawn_below HB.out (by repeat (first | exact Drawn.base _ _ | apply Drawn.more))⟩
      ·have hnx:ones.contains c=(ones.drop (i+1)).contains c:=by
        rw [hcn,hd,hr,List.contains_cons]
        simp [hcx]
       have HN:=Lib.hid hnx
       have g1:((c.toNat:Int) == (x.toNat:Int))=false:=by
        rw [beq_eq_false_iff_ne]
        intro e
        exact hcx (UInt8.toNat_inj.1 (by omega))
       clear hnx hcn hd hOl hcx hr
       go_wp2_with fail
       go_big_quiet (fail)
       go_wp2_with fail
       go_roundg (8-i)
       case measure=>omega
       case rel=>exact ⟨i+1,by omega,by omega,by go_num,HN.out,by repeat (first | exact Drawn.base _ _ | apply Drawn.more)⟩
theorem rsign_one (s:ByteArray) (c:UInt8) (hl:s.data.toList=[c]) (_:s.size≤140737488351232) (w:World) :
 Calls Tryz.prog 65 #[.string s] w fun e w'=>e=.returned (.string ⟨(s.data.toList.take (signLen s.data.toList)).toArray⟩)∧Below w.heap.size w w':=by
 have hno:¬ ((([]:Bytes).head?.map (·.toNat)=some 61)∧(c.toNat=33∨c.toNat=60∨c.toNat=62)):=by simp
 have hsz:s.size=1:=by rw [← size_list,hl];rfl
 have hg2:¬ ((2:Int)≤s.size):=by omega
 have hg3:decide ((2:Int)≤(s.size:Int))=false:=decide_eq_false hg2
 have hg4:decide (2≤s.size)=false:=decide_eq_false (by omega)
 obtain ⟨h0,hc0,_⟩:=byte_at (i:=0) (by rw [List.drop_zero];exact hl)
 have e1:s.extract 0 1=⟨#[c]⟩:=by rw [cut_text,hl];rfl
 have hp:(0:Int)<s.size:=by omega
 have hp1:(1:Int)≤s.size:=by omega
 have hend:s.data.toList.take (signLen s.data.toList)=if ones.contains c then [c] else []:=by rw [hl];exact sign_short hno
 obtain ⟨R,hR⟩:∃ R,R=s.data.toList.take (signLen s.data.toList):=⟨_,rfl⟩
 rw [← hR] at hend ⊢
 have HS:=Lib.hid hend
 clear hR hend hno hl hsz
 obtain ⟨W0,hW0,z0,z1,z2,hB⟩:=cells_two w
 have HW:=Lib.hid hW0
 have HB:=Lib.hid hB
 clear hW0 hB
 go_enter Tryz.func65,Tryz.ntmps65
 go_wp2_with fail
 go_loopg [4] 5 (fun gk cv wr => ∃ i:Nat,i≤3∧3<i+gk∧cv=.int .i64 (i:Int)∧Drawn W0 wr)
 case atStart=>exact ⟨0,by omega,by omega,rfl,by rw [HW.out];exact Drawn.base _ 0⟩
 case round =>
  obtain ⟨i,hi,hgk,rfl,k,rfl⟩:=hrel
  have hi':i=0∨i=1∨i=2∨i=3:=by omega
  rcases hi' with rfl | rfl | rfl | rfl
  ·go_wp2_with fail
   go_big_quiet (fail)
   go_wp2_with fail
   go_roundg (3-0)
   case measure=>omega
   case rel=>exact ⟨1,by omega,by omega,rfl,by repeat (first | exact Drawn.base _ _ | apply Drawn.more)⟩
  ·go_wp2_with fail
   go_big_quiet (fail)
   go_wp2_with fail
   go_roundg (3-1)
   case measure=>omega
   case rel=>exact ⟨2,by omega,by omega,rfl,by repeat (first | exact Drawn.base _ _ | apply Drawn.more)⟩
  ·go_wp2_with fail
   go_big_quiet (fail)
   go_wp2_with fail
   go_roundg (3-2)
   case measure=>omega
   case rel=>exact ⟨3,by omega,by omega,rfl,by repeat (first | exact Drawn.base _ _ | apply Drawn.more)⟩
  ·clear hi hgk
   go_wp2_with fail
   generalize hO:(⟨#[124,44,40,41,58,61,60,62]⟩:ByteArray)=O
   have hOs:O.size=8:=by rw [← hO];rfl
   have hOl:O.data.toList=ones:=by rw [← hO];rfl
   clear hO
   go_loopg [6] 9 (fun gk cv wr => ∃ i:Nat,i≤8∧8<i+gk∧cv=.int .i64 (i:Int)∧ones.contains c=(ones.drop i).contains c∧Drawn W0 wr)
   case atStart=>exact ⟨0,by omega,by omega,rfl,rfl,by repeat (first | exact Drawn.base _ _ | apply Drawn.more)⟩
   case round =>
    obtain ⟨i,hi,hgk,rfl,hcn,k,rfl⟩:=hrel
    match hd:O.data.toList.drop i with
    | [] =>
      have he:=at_end hd
      rw [hOl] at hd
      have hend:ones.contains c=false:=by rw [hcn,hd];rfl
      have HD:=Lib.hid (show R=[] by rw [HS.out,hend];rfl)
      clear hend hcn hd hOl
      have k1:¬ ((i:Int)<8):=by omega
      have k2:decide ((i:Int)<8)=false:=decide_eq_false k1
      have k3:decide (i<8)=false:=decide_eq_false (by omega)
      go_wp2_with fail
      exact bodyPost_ret (results_tmp rfl _ _ _) rfl ⟨by rw [HD.out];rfl,drawn_below HB.out (by repeat (first | exact Drawn.base _ _ | apply Drawn.more))⟩
    | x::t =>
      obtain ⟨hlt,hx,hr⟩:=byte_at hd
      rw [hOl] at hd hr
      have k0:i<8:=by omega
      have k1:((i:Int)<8):=by omega
      have k2:decide ((i:Int)<8)=true:=decide_eq_true k1
      have k3:decide (i<8)=true:=decide_eq_true k0
      have a7:IntKind.i64.wrap ((i:Int)+1)=(i:Int)+1:=IntWalk.i64_in _ (by omega)
      by_cases hcx:c=x
      ·have hend:ones.contains c=true:=by rw [hcn,hd,hcx];simp
       have HD:=Lib.hid (show R=[c] by rw [HS.out,hend];rfl)
       have g1:((c.toNat:Int) == (x.toNat:Int))=true:=by rw [hcx];exact beq_self_eq_true _
       clear hend hcn hd hOl hcx hr
       go_wp2_with fail
       go_big_quiet (fail)
       go_wp2_with fail
       exact bodyPost_ret (results_tmp rfl _ _ _) rfl ⟨by rw [HD.out];rfl,drawn_below HB.out (by repeat (first | exact Drawn.base _ _ | apply Drawn.more))⟩
      ·have hnx:ones.contains c=(ones.drop (i+1)).contains c:=by
        rw [hcn,hd,hr,List.contains_cons]
        simp [hcx]
       have HN:=Lib.hid hnx
       have g1:((c.toNat:Int) == (x.toNat:Int))=false:=by
        rw [beq_eq_false_iff_ne]
        intro e
        exact hcx (UInt8.toNat_inj.1 (by omega))
       clear hnx hcn hd hOl hcx hr
       go_wp2_with fail
       go_big_quiet (fail)
       go_wp2_with fail
       go_roundg (8-i)
       case measure=>omega
       case rel=>exact ⟨i+1,by omega,by omega,by go_num,HN.out,by repeat (first | exact Drawn.base _ _ | apply Drawn.more)⟩
theorem rsign_any (s:ByteArray) (c:UInt8) (r:List UInt8) (hl:s.data.toList=c::r) (hs:s.size≤140737488351232) (w:World) :
 Calls Tryz.prog 65 #[.string s] w fun e w'=>e=.returned (.string ⟨(s.data.toList.take (signLen s.data.toList)).toArray⟩)∧Below w.heap.size w w':=by
 match r,hl with
 | [],hl=>exact rsign_one s c hl hs w
 | d::r,hl =>
   by_cases h:((d::r:Bytes).head?.map (·.toNat)=some 61)∧(c.toNat=33∨c.toNat=60∨c.toNat=62)
   ·have hd:d=61:=by
     have h1:d.toNat=61:=by simpa using h.1
     exact UInt8.toNat_inj.1 h1
    subst hd
    rcases h.2 with h | h | h
    ·obtain rfl:c=33:=UInt8.toNat_inj.1 h
     exact rsign_long0 s r hl hs w
    ·obtain rfl:c=60:=UInt8.toNat_inj.1 h
     exact rsign_long1 s r hl hs w
    ·obtain rfl:c=62:=UInt8.toNat_inj.1 h
     exact rsign_long2 s r hl hs w
   ·exact rsign_two s c d r hl h hs w
end Go.Proofs.YtnaehhpikhlppaaGreatDoor
namespace Go.Proofs.YtnaehhpikhlppaaGreatDoor
open Go.RowKit LexS
def OneIs (L:Bytes) (y:Tok) (n:Nat):Prop:=n=(oneS L).2∧(n≠0→y=(oneS L).1)
theorem oneIs_of {L:Bytes} {y:Tok} {n:Nat} (h:oneS L=(y,n)):OneIs L y n:=by unfold OneIs;rw [h];exact ⟨rfl,fun _=>rfl⟩
theorem oneIs_none {L:Bytes} {z:Tok} {y:Tok} (h:oneS L=(z,0)):OneIs L y 0:=by unfold OneIs;rw [h];exact ⟨rfl,fun h=>absurd rfl h⟩
theorem tok_world (w:World):∃ W1,W1=w.alloc (.cells (tokA noTok) 65)∧Blk W1 w.heap.size 65 (tokA noTok)∧Below w.heap.size w W1 :=
 ⟨_,rfl,Blk.new w _ _,(Below.refl _ _).alloc (Nat.le_refl _) _⟩
theorem while_cons (p:UInt8→Bool) (c:UInt8) (r:Bytes):while_ p (c::r)=if p c then while_ p r+1 else 0:=rfl
theorem at_drop {L t:Bytes} {k:Nat} {x:UInt8} (h:L.drop k=x::t):L[k]?=some x:=by rw [← List.head?_drop,h];rfl
theorem at_drop_nil {L:Bytes} {k:Nat} (h:L.drop k=[]):L[k]?=none:=by rw [← List.head?_drop,h];rfl
theorem cut_first {s:ByteArray} {c:UInt8} {r:Bytes} (hl:s.data.toList=c::r) {k:Nat} (hk:k≤s.size) (h1:1≤k):∃ h:0<(s.extract 0 k).size,(s.extract 0 k)[0]'h=c:=by
 have h2:(s.extract 0 k).data.toList.drop 0=c::(r.take (k-1)):=by
  rw [list_cut,List.drop_zero,List.drop_zero,hl]
  obtain ⟨j,rfl⟩:∃ j,k=j+1:=⟨k-1,by omega⟩
  simp
 obtain ⟨a,b,_⟩:=byte_at h2
 exact ⟨a,b⟩
theorem cut_size (s:ByteArray) {k:Nat} (hk:k≤s.size):(s.extract 0 k).size=k:=by rw [ByteArray.size_extract];omega
theorem cut_second {s:ByteArray} {c d:UInt8} {r:Bytes} (hl:s.data.toList=c::d::r) {k:Nat} (hk:k≤s.size) (h1:2≤k):∃ h:0<((s.extract 0 k).extract 1 k).size,((s.extract 0 k).extract 1 k)[0]'h=d:=by
 have h2:((s.extract 0 k).extract 1 k).data.toList.drop 0=d::(r.take (k-2)):=by
  rw [list_cut,list_cut,List.drop_zero,List.drop_zero,hl]
  obtain ⟨j,rfl⟩:∃ j,k=j+2:=⟨k-2,by omega⟩
  simp [List.take_take]
 obtain ⟨a,b,_⟩:=byte_at h2
 exact ⟨a,b⟩
theorem cut_size2 (s:ByteArray) {m:Nat} (hk:m+1≤s.size):((s.extract 0 (m+1)).extract 1 (m+1)).size=m:=by
 rw [ByteArray.size_extract,ByteArray.size_extract];omega
theorem cut_D {s:ByteArray} {c:UInt8} {r:Bytes} (hl:s.data.toList=c::r) {k:Nat} (hk:k≤s.size) (h1:1≤k) :
 ∃ D,s.extract 0 k=D∧D.size=k∧D.data.toList=(c::r).take k∧∃ h:0<D.size,D[0]'h=c :=
 ⟨_,rfl,cut_size s hk,by rw [list_cut,List.drop_zero,hl],cut_first hl hk h1⟩
theorem cut_DE {s:ByteArray} {c d:UInt8} {r:Bytes} (hl:s.data.toList=c::d::r) {k m:Nat} (hkm:k=m+1) (hk:k≤s.size) (h2:1≤m) :
 ∃ D E,s.extract 0 k=D∧D.extract 1 k=E∧D.size=k∧E.size=m∧D.data.toList=(c::d::r).take k∧(∃ h:0<D.size,D[0]'h=c)∧∃ h:0<E.size,E[0]'h=d:=by
 subst hkm
 exact ⟨_,_,rfl,rfl,cut_size s hk,cut_size2 s hk,by rw [list_cut,List.drop_zero,hl],cut_first hl hk (by omega),cut_second hl hk (by omega)⟩
theorem rone_word (s:ByteArray) (c:UInt8) (r:List UInt8) (hl:s.data.toList=c::r) (hs:s.size≤140737488351232) (hL:letterB c=true) (w:World) :
 Calls Tryz.prog 33 #[.string s] w fun e w' => ∃ y n,e=.returned (.tuple #[tokV y,.int .i64 (n:Nat)])∧OneIs s.data.toList y n∧Below w.heap.size w w':=by
 have hsz:s.size=r.length+1:=by rw [← size_list,hl];rfl
 obtain ⟨h0,hc0,_⟩:=byte_at (i:=0) (by rw [List.drop_zero];exact hl)
 have hp:(0:Int)<s.size:=by omega
 have hlet:=rletter_any c
 rw [hL] at hlet
 have hend:=one_letter c r hL
 rw [← hl] at hend
 go_enter Tryz.func33,Tryz.ntmps33
 go_wp2_with fail
 refine (hlet _).mono ?_
 rintro e w1 ⟨rfl,rfl⟩
 go_wp2_with fail
 obtain ⟨W1,hW1,hr1,hb1⟩:=tok_world w
 obtain ⟨r0,r1,r2,r3⟩:=blk_tok hr1
 obtain ⟨f0,f1,f2,f3⟩:=free_tok hr1
 have HW1:=Lib.hid hW1
 have HR1:=Lib.hid hr1
 have HB1:=Lib.hid hb1
 clear hW1 hr1 hb1
 go_loopg [4] (s.size+1) (fun gk cv wr => ∃ k:Nat,k≤s.size∧s.size<k+gk∧cv=.int .i64 (k:Int)∧while_ innerB s.data.toList=k+while_ innerB (s.data.toList.drop k)∧wr=W1)
 case atStart=>exact ⟨0,by omega,by omega,rfl,by simp,HW1.out.symm⟩
 case round =>
  obtain ⟨k,hk,hgk,rfl,hw,rfl⟩:=hrel
  match hd:s.data.toList.drop k with
  | [] =>
    have he:=at_end hd
    rw [hd] at hw
    have hk2:while_ innerB s.data.toList=k:=hw
    rw [hk2] at hend
    have k1:¬ ((k:Int)<(s.size:Int)):=by omega
    have k2:decide ((k:Int)<(s.size:Int))=false:=decide_eq_false k1
    have k3:decide (k<s.size)=false:=decide_eq_false (by omega)
    clear hd hw hk2 hl hsz hgk
    have b1:(k:Int)≤(s.size:Int):=by omega
    have b3:(0:Int)≤(k:Int):=by omega
    have hcut:=cut_text s 0 k
    rw [List.drop_zero] at hcut
    by_cases h24:k≤24
    ·rw [if_pos h24] at hend
     have b2:(k:Int)≤24:=by omega
     have b4:decide ((k:Int)≤24)=true:=decide_eq_true b2
     have hcut2:s.extract 0 k=⟨(s.data.toList.take k).toArray⟩:=hcut
     have HT:=tok_stores HR1.out HB1.out ⟨1,s.data.toList.take k,0,0⟩
     have HF:=Lib.hid HT
     have HE:=Lib.hid (oneIs_of hend)
     clear hend hcut HT
     go_wp2_with fail
     exact bodyPost_ret (v:=.tuple #[tokV ⟨1,s.data.toList.take k,0,0⟩,.int .i64 (k:Int)]) (res_tok Tryz.results33 rfl rfl HF.out.1) rfl ⟨_,_,rfl,HE.out,HF.out.2⟩
    ·rw [if_neg h24] at hend
     have b2:¬ (k:Int)≤24:=by omega
     have b4:decide ((k:Int)≤24)=false:=decide_eq_false b2
     have b5:(24:Int)<(k:Int):=by omega
     have HT:=tok_stores HR1.out HB1.out noTok
     have HF:=Lib.hid HT
     have HE:=Lib.hid (oneIs_of hend)
     clear hend hcut HT
     go_wp2_with fail
     exact bodyPost_ret (v:=.tuple #[tokV noTok,.int .i64 0]) (res_tok Tryz.results33 rfl rfl HF.out.1) rfl ⟨_,_,rfl,HE.out,HF.out.2⟩
  | x::t =>
    obtain ⟨hlt,hx,hr⟩:=byte_at hd
    have hin:=rinner_any x
    rw [hd,while_cons _ x t] at hw
    have k1:((k:Int)<(s.size:Int)):=by omega
    have k2:decide ((k:Int)<(s.size:Int))=true:=decide_eq_true k1
    have k3:decide (k<s.size)=true:=decide_eq_true hlt
    cases hI:innerB x
    ·rw [hI] at hin hw
     have hk2:while_ innerB s.data.toList=k:=by simpa using hw
     rw [hk2] at hend
     clear hd hw hk2 hl hsz hr hgk
     go_wp2_with fail
     refine (hin _).mono ?_
     rintro e w1 ⟨rfl,rfl⟩
     have b1:(k:Int)≤(s.size:Int):=by omega
     have b3:(0:Int)≤(k:Int):=by omega
     have hcut:=cut_text s 0 k
     rw [List.drop_zero] at hcut
     by_cases h24:k≤24
     ·rw [if_pos h24] at hend
      have b2:(k:Int)≤24:=by omega
      have b4:decide ((k:Int)≤24)=true:=decide_eq_true b2
      have hcut2:s.extract 0 k=⟨(s.data.toList.take k).toArray⟩:=hcut
      have HT:=tok_stores HR1.out HB1.out ⟨1,s.data.toList.take k,0,0⟩
      have HF:=Lib.hid HT
      have HE:=Lib.hid (oneIs_of hend)
      clear hend hcut HT
      go_wp2_with fail
      exact bodyPost_ret (v:=.tuple #[tokV ⟨1,s.data.toList.take k,0,0⟩,.int .i64 (k:Int)]) (res_tok Tryz.results33 rfl rfl HF.out.1) rfl ⟨_,_,rfl,HE.out,HF.out.2⟩
     ·rw [if_neg h24] at hend
      have b2:¬ (k:Int)≤24:=by omega
      have b4:decide ((k:Int)≤24)=false:=decide_eq_false b2
      have b5:(24:Int)<(k:Int):=by omega
      have HT:=tok_stores HR1.out HB1.out noTok
      have HF:=Lib.hid HT
      have HE:=Lib.hid (oneIs_of hend)
      clear hend hcut HT
      go_wp2_with fail
      exact bodyPost_ret (v:=.tuple #[tokV noTok,.int .i64 0]) (res_tok Tryz.results33 rfl rfl HF.out.1) rfl ⟨_,_,rfl,HE.out,HF.out.2⟩
    ·rw [hI] at hin hw
     have HW:=Lib.hid (show while_ innerB s.data.toList=k+1+while_ innerB (s.data.toList.drop (k+1)) by rw [hw,hr];simp;omega)
     have a7:IntKind.i64.wrap ((k:Int)+1)=(k:Int)+1:=IntWalk.i64_in _ (by omega)
     clear hd hw hl hr hend hsz
     go_wp2_with fail
     refine (hin _).mono ?_
     rintro e w1 ⟨rfl,rfl⟩
     go_wp2_with fail
     go_roundg (s.size-k)
     case measure=>omega
     case rel=>exact ⟨k+1,by omega,by omega,by go_num,HW.out,rfl⟩
theorem rone_text (s:ByteArray) (c:UInt8) (r:List UInt8) (hl:s.data.toList=c::r) (hs:s.size≤140737488351232) (h34:c.toNat=34) (w:World) :
 Calls Tryz.prog 33 #[.string s] w fun e w' => ∃ y n,e=.returned (.tuple #[tokV y,.int .i64 (n:Nat)])∧OneIs s.data.toList y n∧Below w.heap.size w w':=by
 have hsz:s.size=r.length+1:=by rw [← size_list,hl];rfl
 obtain ⟨h0,hc0,_⟩:=byte_at (i:=0) (by rw [List.drop_zero];exact hl)
 have hp:(0:Int)<s.size:=by omega
 have hL:=letter_no34 h34
 have hlet:=rletter_any c
 rw [hL] at hlet
 have g34:((c.toNat:Int) == 34)=true:=by rw [h34];rfl
 have hend:=one_text c r hL h34
 rw [textT_eq,← hl] at hend
 have ht:=rtext_any s hs (by omega) _ rfl
 obtain ⟨o,ho⟩:∃ o,o=textFrom [] 1 (s.data.toList.drop 1):=⟨_,rfl⟩
 rw [← ho] at hend ht
 clear ho hl hsz h34 hL
 match o,ht,hend with
 | none,ht,hend =>
   change ∀ w,Calls _ _ _ w fun e w'=>e=.returned (.tuple #[.string ⟨#[]⟩,.int .i64 0,.bool false])∧_ at ht
   have HE:=Lib.hid (oneIs_of hend)
   clear hend
   go_enter Tryz.func33,Tryz.ntmps33
   go_wp2_with fail
   refine (hlet _).mono ?_
   rintro e w1 ⟨rfl,rfl⟩
   go_wp2_with fail
   refine (ht _).mono ?_
   rintro e w1 ⟨rfl,h1⟩
   have hr:=(Blk.new w 65 (tokA noTok)).kept h1
   have hb:=chain ((Below.refl _ _).alloc (Nat.le_refl _) _) h1
   have HF:=Lib.hid (tok_stores hr hb noTok)
   obtain ⟨r0,r1,r2,r3⟩:=blk_tok hr
   obtain ⟨f0,f1,f2,f3⟩:=free_tok hr
   clear h1 ht hlet hr hb
   go_wp2_with fail
   exact bodyPost_ret (v:=.tuple #[tokV noTok,.int .i64 0]) (res_tok Tryz.results33 rfl rfl HF.out.1) rfl ⟨_,_,rfl,HE.out,HF.out.2⟩
 | some (t,n),ht,hend =>
   change ∀ w,Calls _ _ _ w fun e w'=>e=.returned (.tuple #[.string ⟨t.toArray⟩,.int .i64 (n:Int),.bool (decide (t.length≤64))])∧_ at ht
   dsimp only [textO] at hend
   by_cases h64:t.length≤64
   ·rw [decide_eq_true h64] at ht
    rw [if_pos h64] at hend
    have HE:=Lib.hid (oneIs_of hend)
    clear hend h64
    go_enter Tryz.func33,Tryz.ntmps33
    go_wp2_with fail
    refine (hlet _).mono ?_
    rintro e w1 ⟨rfl,rfl⟩
    go_wp2_with fail
    refine (ht _).mono ?_
    rintro e w1 ⟨rfl,h1⟩
    have hr:=(Blk.new w 65 (tokA noTok)).kept h1
    have hb:=chain ((Below.refl _ _).alloc (Nat.le_refl _) _) h1
    have HF:=Lib.hid (tok_stores hr hb ⟨3,t,0,0⟩)
    obtain ⟨r0,r1,r2,r3⟩:=blk_tok hr
    obtain ⟨f0,f1,f2,f3⟩:=free_tok hr
    clear h1 ht hlet hr hb
    go_wp2_with fail
    exact bodyPost_ret (v:=.tuple #[tokV ⟨3,t,0,0⟩,.int .i64 (n:Int)]) (res_tok Tryz.results33 rfl rfl HF.out.1) rfl ⟨_,_,rfl,HE.out,HF.out.2⟩
   ·rw [decide_eq_false h64] at ht
    rw [if_neg h64] at hend
    have HE:=Lib.hid (oneIs_of hend)
    clear hend h64
    go_enter Tryz.func33,Tryz.ntmps33
    go_wp2_with fail
    refine (hlet _).mono ?_
    rintro e w1 ⟨rfl,rfl⟩
    go_wp2_with fail
    refine (ht _).mono ?_
    rintro e w1 ⟨rfl,h1⟩
    have hr:=(Blk.new w 65 (tokA noTok)).kept h1
    have hb:=chain ((Below.refl _ _).alloc (Nat.le_refl _) _) h1
    have HF:=Lib.hid (tok_stores hr hb noTok)
    obtain ⟨r0,r1,r2,r3⟩:=blk_tok hr
    obtain ⟨f0,f1,f2,f3⟩:=free_tok hr
    clear h1 ht hlet hr hb
    go_wp2_with fail
    exact bodyPost_ret (v:=.tuple #[tokV noTok,.int .i64 0]) (res_tok Tryz.results33 rfl rfl HF.out.1) rfl ⟨_,_,rfl,HE.out,HF.out.2⟩
theorem rone_plain (s:ByteArray) (c:UInt8) (r:List UInt8) (hl:s.data.toList=c::r) (hs:s.size≤140737488351232) (hDig:digitB c=true) (w:World) :
 Calls Tryz.prog 33 #[.string s] w fun e w' => ∃ y n,e=.returned (.tuple #[tokV y,.int .i64 (n:Nat)])∧OneIs s.data.toList y n∧Below w.heap.size w w':=by
 have hsz:s.size=r.length+1:=by rw [← size_list,hl];rfl
 obtain ⟨h0,hc0,_⟩:=byte_at (i:=0) (by rw [List.drop_zero];exact hl)
 have hp:(0:Int)<s.size:=by omega
 have hDc:48≤c.toNat∧c.toNat≤57:=by simpa [digitB] using hDig
 have hL:letterB c=false:=by simp [letterB];omega
 have hNot45:c.toNat≠45:=by omega
 have hlet:=rletter_any c
 rw [hL] at hlet
 have hdg:=rdigit_any c
 rw [hDig] at hdg
 have g34:((c.toNat:Int) == 34)=false:=by rw [beq_eq_false_iff_ne];omega
 have g45:((c.toNat:Int) == 45)=false:=by rw [beq_eq_false_iff_ne];omega
 have hOne:=one_number c r hL (by omega) (.inl hDig)
 have hnl:=numLen_digit r hDig
 clear hDc
 go_enter Tryz.func33,Tryz.ntmps33
 go_wp2_with fail
 refine (hlet _).mono ?_
 rintro e w1 ⟨rfl,rfl⟩
 go_wp2_with fail
 refine (hdg _).mono ?_
 rintro e w1 ⟨rfl,rfl⟩
 go_wp2_with fail
 obtain ⟨W1,hW1,hr1,hb1⟩:=tok_world w
 obtain ⟨r0,r1,r2,r3⟩:=blk_tok hr1
 obtain ⟨f0,f1,f2,f3⟩:=free_tok hr1
 have HW1:=Lib.hid hW1
 have HR1:=Lib.hid hr1
 have HB1:=Lib.hid hb1
 clear hW1 hr1 hb1
 go_loopg [4] (s.size+1) (fun gk cv wr => ∃ k:Nat,1≤k∧k≤s.size∧s.size<k+gk∧cv=.int .i64 (k:Int)∧1+while_ digitB r=k+while_ digitB (s.data.toList.drop k)∧wr=W1)
 case atStart=>exact ⟨1,by omega,by omega,by omega,rfl,by rw [hl];rfl,HW1.out.symm⟩
 case round =>
  obtain ⟨k,hk1,hk,hgk,rfl,hw,rfl⟩:=hrel
  match hd:s.data.toList.drop k with
  | [] =>
    have he:=at_end hd
    rw [hd] at hw
    have k1:¬ ((k:Int)<(s.size:Int)):=by omega
    have k2:decide ((k:Int)<(s.size:Int))=false:=decide_eq_false k1
    have k3:decide (k<s.size)=false:=decide_eq_false (by omega)
    have hkq:k=1+while_ digitB r:=by rw [hw];rfl
    have hkn:k=numLen s.data.toList:=by rw [hl,hnl,hkq]
    have b1:(k:Int)≤(s.size:Int):=by omega
    have b3:(0:Int)≤(k:Int):=by omega
    obtain ⟨D,hD,hDs,hDt,hz3,hz4⟩:=cut_D hl hk hk1
    have hDz:D.size≤140737488351232:=by rw [hDs];omega
    have p3:(0:Int)<(k:Int):=by omega
    clear hdg hlet hnl hw hgk
    have hDl:D.data.toList=c::r.take (while_ digitB r):=by rw [hDt,hkq,Nat.add_comm,List.take_succ_cons]
    have hDA:AllD (c::r.take (while_ digitB r)):=by have:=plain_digits r hDig;rwa [numLen_digit r hDig,Nat.add_comm,List.take_succ_cons] at this
    have hTk:(c::r).take (numLen (c::r))=c::r.take (while_ digitB r):=by rw [numLen_digit r hDig,Nat.add_comm,List.take_succ_cons]
    by_cases h48:c.toNat=48
    ·have g48:((c.toNat:Int) == 48)=true:=by rw [h48];rfl
     by_cases hq0:while_ digitB r=0
     ·have h480:c.toNat≠48∨while_ digitB r=0:=.inr hq0
      have hk1:k=1:=by omega
      have m1:¬ (1:Int)<(k:Int):=by omega
      have m2:decide ((1:Int)<(k:Int))=false:=decide_eq_false m1
      have m3:decide (1<k)=false:=decide_eq_false (by omega)
      have n1:¬ (19:Int)<(k:Int):=by omega
      have n2:decide ((19:Int)<(k:Int))=false:=decide_eq_false n1
      have n3:decide (19<k)=false:=decide_eq_false (by omega)
      have hnum:=rnum_plain D c _ hDl hNot45 hDz hDA
      rw [← hTk] at hnum
      have HL:=Lib.hid (fun x ok (h:RNum false _ x ok)=>plain_end hDig h480 (by rw [← hl,← hkn,at_drop_nil hd];simp) (x:=x) (ok:=ok) h)
      have HK:=Lib.hid hkn
      have HO:=Lib.hid hOne
      have HS:=Lib.hid hl
      clear hDl hDt hDA hTk h48 hq0 h480 hk1 hl hsz hkq hkn hd hOne hDig hNot45 hL
      go_wp2_with fail
      refine (hnum _).mono ?_
      rintro e w1 ⟨rfl,xv,ok,rfl,hRN⟩
      have hfin:=HL.out xv ok hRN
      clear hnum hRN
      cases ok
      ·have HE:=Lib.hid (show OneIs s.data.toList noTok 0 by rw [HS.out];exact oneIs_of (HO.out.trans hfin))
       clear hfin
       have HF:=Lib.hid (tok_stores HR1.out HB1.out noTok)
       go_wp2_with fail
       exact bodyPost_ret (v:=.tuple #[tokV noTok,.int .i64 0]) (res_tok Tryz.results33 rfl rfl HF.out.1) rfl ⟨_,_,rfl,HE.out,HF.out.2⟩
      ·have HE:=Lib.hid (show OneIs s.data.toList ⟨2,[],xv,0⟩ k by rw [HS.out,HK.out];rw [HS.out];exact oneIs_of (HO.out.trans hfin))
       have HF:=Lib.hid (tok_stores HR1.out HB1.out ⟨2,[],xv,0⟩)
       clear hfin
       go_wp2_with fail
       exact bodyPost_ret (v:=.tuple #[tokV ⟨2,[],xv,0⟩,.int .i64 (k:Int)]) (res_tok Tryz.results33 rfl rfl HF.out.1) rfl ⟨_,_,rfl,HE.out,HF.out.2⟩
     ·have HE:=Lib.hid (show OneIs s.data.toList noTok 0 by rw [hl];exact oneIs_of (hOne.trans (plain_nought hDig h48 hq0)))
      have m1:(1:Int)<(k:Int):=by omega
      have m2:decide ((1:Int)<(k:Int))=true:=decide_eq_true m1
      have m3:decide (1<k)=true:=decide_eq_true (by omega)
      clear hDl hDt hDA hTk h48 hq0 hl hsz hkq hkn hd hOne hDig hNot45 hL
      have HF:=Lib.hid (tok_stores HR1.out HB1.out noTok)
      go_wp2_with fail
      exact bodyPost_ret (v:=.tuple #[tokV noTok,.int .i64 0]) (res_tok Tryz.results33 rfl rfl HF.out.1) rfl ⟨_,_,rfl,HE.out,HF.out.2⟩
    ·have g48:((c.toNat:Int) == 48)=false:=by rw [beq_eq_false_iff_ne];omega
     have h480:c.toNat≠48∨while_ digitB r=0:=.inl h48
     by_cases hq19:19≤while_ digitB r
     ·have HE:=Lib.hid (show OneIs s.data.toList noTok 0 by rw [hl];exact oneIs_of (hOne.trans (plain_long hDig h48 hq19)))
      have n1:(19:Int)<(k:Int):=by omega
      have n2:decide ((19:Int)<(k:Int))=true:=decide_eq_true n1
      have n3:decide (19<k)=true:=decide_eq_true (by omega)
      clear hDl hDt hDA hTk h48 h480 hq19 hl hsz hkq hkn hd hOne hDig hNot45 hL
      have HF:=Lib.hid (tok_stores HR1.out HB1.out noTok)
      go_wp2_with fail
      exact bodyPost_ret (v:=.tuple #[tokV noTok,.int .i64 0]) (res_tok Tryz.results33 rfl rfl HF.out.1) rfl ⟨_,_,rfl,HE.out,HF.out.2⟩
     ·skip
      have n1:¬ (19:Int)<(k:Int):=by omega
      have n2:decide ((19:Int)<(k:Int))=false:=decide_eq_false n1
      have n3:decide (19<k)=false:=decide_eq_false (by omega)
      have hnum:=rnum_plain D c _ hDl hNot45 hDz hDA
      rw [← hTk] at hnum
      have HL:=Lib.hid (fun x ok (h:RNum false _ x ok)=>plain_end hDig h480 (by rw [← hl,← hkn,at_drop_nil hd];simp) (x:=x) (ok:=ok) h)
      have HK:=Lib.hid hkn
      have HO:=Lib.hid hOne
      have HS:=Lib.hid hl
      clear hDl hDt hDA hTk h48 hq19 h480 hl hsz hkq hkn hd hOne hDig hNot45 hL
      go_wp2_with fail
      refine (hnum _).mono ?_
      rintro e w1 ⟨rfl,xv,ok,rfl,hRN⟩
      have hfin:=HL.out xv ok hRN
      clear hnum hRN
      cases ok
      ·have HE:=Lib.hid (show OneIs s.data.toList noTok 0 by rw [HS.out];exact oneIs_of (HO.out.trans hfin))
       clear hfin
       have HF:=Lib.hid (tok_stores HR1.out HB1.out noTok)
       go_wp2_with fail
       exact bodyPost_ret (v:=.tuple #[tokV noTok,.int .i64 0]) (res_tok Tryz.results33 rfl rfl HF.out.1) rfl ⟨_,_,rfl,HE.out,HF.out.2⟩
      ·have HE:=Lib.hid (show OneIs s.data.toList ⟨2,[],xv,0⟩ k by rw [HS.out,HK.out];rw [HS.out];exact oneIs_of (HO.out.trans hfin))
       have HF:=Lib.hid (tok_stores HR1.out HB1.out ⟨2,[],xv,0⟩)
       clear hfin
       go_wp2_with fail
       exact bodyPost_ret (v:=.tuple #[tokV ⟨2,[],xv,0⟩,.int .i64 (k:Int)]) (res_tok Tryz.results33 rfl rfl HF.out.1) rfl ⟨_,_,rfl,HE.out,HF.out.2⟩
  | x::t =>
    obtain ⟨hlt,hx,hr⟩:=byte_at hd
    have hin2:=rinner_any x
    have hdg2:=rdigit_any x
    rw [hd,while_cons _ x t] at hw
    have k1:((k:Int)<(s.size:Int)):=by omega
    have k2:decide ((k:Int)<(s.size:Int))=true:=decide_eq_true k1
    have k3:decide (k<s.size)=true:=decide_eq_true hlt
    cases hX:digitB x
    ·rw [hX] at hdg2 hw
     have hkq:k=1+while_ digitB r:=by rw [hw];simp
     have hkn:k=numLen s.data.toList:=by rw [hl,hnl,hkq]
     have b1:(k:Int)≤(s.size:Int):=by omega
     have b3:(0:Int)≤(k:Int):=by omega
     obtain ⟨D,hD,hDs,hDt,hz3,hz4⟩:=cut_D hl hk hk1
     have hDz:D.size≤140737488351232:=by rw [hDs];omega
     have p3:(0:Int)<(k:Int):=by omega
     clear hdg hlet hnl hw hgk
     have hDl:D.data.toList=c::r.take (while_ digitB r):=by rw [hDt,hkq,Nat.add_comm,List.take_succ_cons]
     have hDA:AllD (c::r.take (while_ digitB r)):=by have:=plain_digits r hDig;rwa [numLen_digit r hDig,Nat.add_comm,List.take_succ_cons] at this
     have hTk:(c::r).take (numLen (c::r))=c::r.take (while_ digitB r):=by rw [numLen_digit r hDig,Nat.add_comm,List.take_succ_cons]
     by_cases h48:c.toNat=48
     ·have g48:((c.toNat:Int) == 48)=true:=by rw [h48];rfl
      by_cases hq0:while_ digitB r=0
      ·have h480:c.toNat≠48∨while_ digitB r=0:=.inr hq0
       have hk1:k=1:=by omega
       have m1:¬ (1:Int)<(k:Int):=by omega
       have m2:decide ((1:Int)<(k:Int))=false:=decide_eq_false m1
       have m3:decide (1<k)=false:=decide_eq_false (by omega)
       have n1:¬ (19:Int)<(k:Int):=by omega
       have n2:decide ((19:Int)<(k:Int))=false:=decide_eq_false n1
       have n3:decide (19<k)=false:=decide_eq_false (by omega)
       cases hI:innerB x
       ·rw [hI] at hin2
        have hnum:=rnum_plain D c _ hDl hNot45 hDz hDA
        rw [← hTk] at hnum
        have HL:=Lib.hid (fun x ok (h:RNum false _ x ok)=>plain_end hDig h480 (by rw [← hl,← hkn,at_drop hd,Option.map_some,hI];simp) (x:=x) (ok:=ok) h)
        have HK:=Lib.hid hkn
        have HO:=Lib.hid hOne
        have HS:=Lib.hid hl
        clear hDl hDt hDA hTk h48 hq0 h480 hk1 hl hsz hkq hkn hd hOne hDig hNot45 hL
        go_wp2_with fail
        refine (hdg2 _).mono ?_
        rintro e w1 ⟨rfl,rfl⟩
        go_wp2_with fail
        refine (hin2 _).mono ?_
        rintro e w1 ⟨rfl,rfl⟩
        go_wp2_with fail
        refine (hnum _).mono ?_
        rintro e w1 ⟨rfl,xv,ok,rfl,hRN⟩
        have hfin:=HL.out xv ok hRN
        clear hnum hRN
        cases ok
        ·have HE:=Lib.hid (show OneIs s.data.toList noTok 0 by rw [HS.out];exact oneIs_of (HO.out.trans hfin))
         clear hfin
         have HF:=Lib.hid (tok_stores HR1.out HB1.out noTok)
         go_wp2_with fail
         exact bodyPost_ret (v:=.tuple #[tokV noTok,.int .i64 0]) (res_tok Tryz.results33 rfl rfl HF.out.1) rfl ⟨_,_,rfl,HE.out,HF.out.2⟩
        ·have HE:=Lib.hid (show OneIs s.data.toList ⟨2,[],xv,0⟩ k by rw [HS.out,HK.out];rw [HS.out];exact oneIs_of (HO.out.trans hfin))
         have HF:=Lib.hid (tok_stores HR1.out HB1.out ⟨2,[],xv,0⟩)
         clear hfin
         go_wp2_with fail
         exact bodyPost_ret (v:=.tuple #[tokV ⟨2,[],xv,0⟩,.int .i64 (k:Int)]) (res_tok Tryz.results33 rfl rfl HF.out.1) rfl ⟨_,_,rfl,HE.out,HF.out.2⟩
       ·rw [hI] at hin2
        have HE:=Lib.hid (show OneIs s.data.toList noTok 0 by rw [hl];exact oneIs_of ((hOne).trans (numT_inner (by rw [← hl,← hkn,at_drop hd,Option.map_some,hI]))))
        clear hDl hDt hDA hTk h48 hq0 h480 hk1 hl hsz hkq hkn hd hOne hDig hNot45 hL
        go_wp2_with fail
        refine (hdg2 _).mono ?_
        rintro e w1 ⟨rfl,rfl⟩
        go_wp2_with fail
        refine (hin2 _).mono ?_
        rintro e w1 ⟨rfl,rfl⟩
        have HF:=Lib.hid (tok_stores HR1.out HB1.out noTok)
        go_wp2_with fail
        exact bodyPost_ret (v:=.tuple #[tokV noTok,.int .i64 0]) (res_tok Tryz.results33 rfl rfl HF.out.1) rfl ⟨_,_,rfl,HE.out,HF.out.2⟩
      ·have HE:=Lib.hid (show OneIs s.data.toList noTok 0 by rw [hl];exact oneIs_of (hOne.trans (plain_nought hDig h48 hq0)))
       have m1:(1:Int)<(k:Int):=by omega
       have m2:decide ((1:Int)<(k:Int))=true:=decide_eq_true m1
       have m3:decide (1<k)=true:=decide_eq_true (by omega)
       clear hDl hDt hDA hTk h48 hq0 hl hsz hkq hkn hd hOne hDig hNot45 hL
       go_wp2_with fail
       refine (hdg2 _).mono ?_
       rintro e w1 ⟨rfl,rfl⟩
       have HF:=Lib.hid (tok_stores HR1.out HB1.out noTok)
       go_wp2_with fail
       exact bodyPost_ret (v:=.tuple #[tokV noTok,.int .i64 0]) (res_tok Tryz.results33 rfl rfl HF.out.1) rfl ⟨_,_,rfl,HE.out,HF.out.2⟩
     ·have g48:((c.toNat:Int) == 48)=false:=by rw [beq_eq_false_iff_ne];omega
      have h480:c.toNat≠48∨while_ digitB r=0:=.inl h48
      by_cases hq19:19≤while_ digitB r
      ·have HE:=Lib.hid (show OneIs s.data.toList noTok 0 by rw [hl];exact oneIs_of (hOne.trans (plain_long hDig h48 hq19)))
       have n1:(19:Int)<(k:Int):=by omega
       have n2:decide ((19:Int)<(k:Int))=true:=decide_eq_true n1
       have n3:decide (19<k)=true:=decide_eq_true (by omega)
       clear hDl hDt hDA hTk h48 h480 hq19 hl hsz hkq hkn hd hOne hDig hNot45 hL
       go_wp2_with fail
       refine (hdg2 _).mono ?_
       rintro e w1 ⟨rfl,rfl⟩
       have HF:=Lib.hid (tok_stores HR1.out HB1.out noTok)
       go_wp2_with fail
       exact bodyPost_ret (v:=.tuple #[tokV noTok,.int .i64 0]) (res_tok Tryz.results33 rfl rfl HF.out.1) rfl ⟨_,_,rfl,HE.out,HF.out.2⟩
      ·skip
       have n1:¬ (19:Int)<(k:Int):=by omega
       have n2:decide ((19:Int)<(k:Int))=false:=decide_eq_false n1
       have n3:decide (19<k)=false:=decide_eq_false (by omega)
       cases hI:innerB x
       ·rw [hI] at hin2
        have hnum:=rnum_plain D c _ hDl hNot45 hDz hDA
        rw [← hTk] at hnum
        have HL:=Lib.hid (fun x ok (h:RNum false _ x ok)=>plain_end hDig h480 (by rw [← hl,← hkn,at_drop hd,Option.map_some,hI];simp) (x:=x) (ok:=ok) h)
        have HK:=Lib.hid hkn
        have HO:=Lib.hid hOne
        have HS:=Lib.hid hl
        clear hDl hDt hDA hTk h48 hq19 h480 hl hsz hkq hkn hd hOne hDig hNot45 hL
        go_wp2_with fail
        refine (hdg2 _).mono ?_
        rintro e w1 ⟨rfl,rfl⟩
        go_wp2_with fail
        refine (hin2 _).mono ?_
        rintro e w1 ⟨rfl,rfl⟩
        go_wp2_with fail
        refine (hnum _).mono ?_
        rintro e w1 ⟨rfl,xv,ok,rfl,hRN⟩
        have hfin:=HL.out xv ok hRN
        clear hnum hRN
        cases ok
        ·have HE:=Lib.hid (show OneIs s.data.toList noTok 0 by rw [HS.out];exact oneIs_of (HO.out.trans hfin))
         clear hfin
         have HF:=Lib.hid (tok_stores HR1.out HB1.out noTok)
         go_wp2_with fail
         exact bodyPost_ret (v:=.tuple #[tokV noTok,.int .i64 0]) (res_tok Tryz.results33 rfl rfl HF.out.1) rfl ⟨_,_,rfl,HE.out,HF.out.2⟩
        ·have HE:=Lib.hid (show OneIs s.data.toList ⟨2,[],xv,0⟩ k by rw [HS.out,HK.out];rw [HS.out];exact oneIs_of (HO.out.trans hfin))
         have HF:=Lib.hid (tok_stores HR1.out HB1.out ⟨2,[],xv,0⟩)
         clear hfin
         go_wp2_with fail
         exact bodyPost_ret (v:=.tuple #[tokV ⟨2,[],xv,0⟩,.int .i64 (k:Int)]) (res_tok Tryz.results33 rfl rfl HF.out.1) rfl ⟨_,_,rfl,HE.out,HF.out.2⟩
       ·rw [hI] at hin2
        have HE:=Lib.hid (show OneIs s.data.toList noTok 0 by rw [hl];exact oneIs_of ((hOne).trans (numT_inner (by rw [← hl,← hkn,at_drop hd,Option.map_some,hI]))))
        clear hDl hDt hDA hTk h48 hq19 h480 hl hsz hkq hkn hd hOne hDig hNot45 hL
        go_wp2_with fail
        refine (hdg2 _).mono ?_
        rintro e w1 ⟨rfl,rfl⟩
        go_wp2_with fail
        refine (hin2 _).mono ?_
        rintro e w1 ⟨rfl,rfl⟩
        have HF:=Lib.hid (tok_stores HR1.out HB1.out noTok)
        go_wp2_with fail
        exact bodyPost_ret (v:=.tuple #[tokV noTok,.int .i64 0]) (res_tok Tryz.results33 rfl rfl HF.out.1) rfl ⟨_,_,rfl,HE.out,HF.out.2⟩
    ·rw [hX] at hdg2 hw
     have HW:=Lib.hid (show 1+while_ digitB r=k+1+while_ digitB (s.data.toList.drop (k+1)) by rw [hw,hr];simp;omega)
     have a7:IntKind.i64.wrap ((k:Int)+1)=(k:Int)+1:=IntWalk.i64_in _ (by omega)
     clear hd hw hl hr hOne hnl hin2
     go_wp2_with fail
     refine (hdg2 _).mono ?_
     rintro e w1 ⟨rfl,rfl⟩
     go_wp2_with fail
     go_roundg (s.size-k)
     case measure=>omega
     case rel=>exact ⟨k+1,by omega,by omega,by omega,by go_num,HW.out,rfl⟩
theorem rone_minus (s:ByteArray) (c d:UInt8) (r:List UInt8) (hl:s.data.toList=c::d::r) (hs:s.size≤140737488351232) (hMinus:c.toNat=45) (hDig:digitB d=true) (w:World) :
 Calls Tryz.prog 33 #[.string s] w fun e w' => ∃ y n,e=.returned (.tuple #[tokV y,.int .i64 (n:Nat)])∧OneIs s.data.toList y n∧Below w.heap.size w w':=by
 have hsz:s.size=r.length+2:=by rw [← size_list,hl];rfl
 obtain ⟨h0,hc0,_⟩:=byte_at (i:=0) (by rw [List.drop_zero];exact hl)
 have hp:(0:Int)<s.size:=by omega
 have hL:letterB c=false:=by simp [letterB,hMinus]
 have hCd:digitB c=false:=by simp [digitB,hMinus]
 obtain ⟨h1,hc1,_⟩:=byte_at (s:=s) (i:=1) (c:=d) (r:=r) (by rw [hl];rfl)
 have hlet:=rletter_any c
 rw [hL] at hlet
 have hdg:=rdigit_any c
 rw [hCd] at hdg
 have hdg1:=rdigit_any d
 rw [hDig] at hdg1
 have g34:((c.toNat:Int) == 34)=false:=by rw [beq_eq_false_iff_ne];omega
 have g45:((c.toNat:Int) == 45)=true:=by rw [hMinus];rfl
 have q1:decide (1<(s.size:Int))=true:=decide_eq_true (by omega)
 have q2:1<(s.size:Int):=by omega
 have q3:decide (1<s.size)=true:=decide_eq_true (by omega)
 have hOne:=one_number c (d::r) hL (by omega) (.inr ⟨hMinus,by simp [hDig]⟩)
 have hnl:=numLen_minus (c:=c) (d::r) hMinus
 have hwd:while_ digitB (d::r)=while_ digitB r+1:=by rw [while_cons,if_pos hDig]
 have HM:=Lib.hid hMinus
 clear hCd hMinus
 go_enter Tryz.func33,Tryz.ntmps33
 go_wp2_with fail
 refine (hlet _).mono ?_
 rintro e w1 ⟨rfl,rfl⟩
 go_wp2_with fail
 refine (hdg _).mono ?_
 rintro e w1 ⟨rfl,rfl⟩
 go_wp2_with fail
 refine (hdg1 _).mono ?_
 rintro e w1 ⟨rfl,rfl⟩
 go_wp2_with fail
 obtain ⟨W1,hW1,hr1,hb1⟩:=tok_world w
 obtain ⟨r0,r1,r2,r3⟩:=blk_tok hr1
 obtain ⟨f0,f1,f2,f3⟩:=free_tok hr1
 have HW1:=Lib.hid hW1
 have HR1:=Lib.hid hr1
 have HB1:=Lib.hid hb1
 clear hW1 hr1 hb1
 go_loopg [4] (s.size+1) (fun gk cv wr => ∃ k:Nat,1≤k∧k≤s.size∧s.size<k+gk∧cv=.int .i64 (k:Int)∧1+while_ digitB (d::r)=k+while_ digitB (s.data.toList.drop k)∧wr=W1)
 case atStart=>exact ⟨1,by omega,by omega,by omega,rfl,by rw [hl];rfl,HW1.out.symm⟩
 case round =>
  obtain ⟨k,hk1,hk,hgk,rfl,hw,rfl⟩:=hrel
  match hd:s.data.toList.drop k with
  | [] =>
    have he:=at_end hd
    rw [hd] at hw
    have k1:¬ ((k:Int)<(s.size:Int)):=by omega
    have k2:decide ((k:Int)<(s.size:Int))=false:=decide_eq_false k1
    have k3:decide (k<s.size)=false:=decide_eq_false (by omega)
    have hkq:k=1+while_ digitB (d::r):=by rw [hw];rfl
    have hkn:k=numLen s.data.toList:=by rw [hl,hnl,hkq]
    have b1:(k:Int)≤(s.size:Int):=by omega
    have b3:(0:Int)≤(k:Int):=by omega
    have hMinus:=HM.out
    obtain ⟨m,hkm⟩:∃ m,k=m+1:=⟨k-1,by omega⟩
    obtain ⟨D,E,hD,hE,hDs,hEs,hDt,⟨hz3,hz4⟩,hz1,hz2⟩:=cut_DE hl hkm hk (by omega)
    have hDz:D.size≤140737488351232:=by rw [hDs];omega
    have hm0:1≤m:=by omega
    have p1:(1:Int)≤(k:Int):=by omega
    have p2:1≤k:=by omega
    have p3:(0:Int)<(k:Int):=by omega
    have p4:(0:Int)<(m:Int):=by omega
    clear hdg hdg1 hlet hnl hwd hw hgk
    have hDl:D.data.toList=c::(d::r).take (while_ digitB (d::r)):=by rw [hDt,hkq,Nat.add_comm,List.take_succ_cons]
    have hDA:AllD ((d::r).take (while_ digitB (d::r))):=(minus_digits (d::r) hMinus).2
    have hWd:while_ digitB (d::r)=while_ digitB r+1:=by rw [while_cons,if_pos hDig]
    by_cases h48:d.toNat=48
    ·have g48:((d.toNat:Int) == 48)=true:=by rw [h48];rfl
     have HE:=Lib.hid (show OneIs s.data.toList noTok 0 by rw [hl];exact oneIs_of (hOne.trans (minus_nought hMinus hDig h48)))
     by_cases hm1:1<m
     ·skip
      have m1:(1:Int)<(m:Int):=by omega
      have m2:decide ((1:Int)<(m:Int))=true:=decide_eq_true m1
      have m3:decide (1<m)=true:=decide_eq_true (by omega)
      clear hDl hDt hDA hWd hkm h48 hl hsz hkq hkn hd hOne hDig hMinus hL
      have HF:=Lib.hid (tok_stores HR1.out HB1.out noTok)
      go_wp2_with fail
      exact bodyPost_ret (v:=.tuple #[tokV noTok,.int .i64 0]) (res_tok Tryz.results33 rfl rfl HF.out.1) rfl ⟨_,_,rfl,HE.out,HF.out.2⟩
     ·skip
      have m1:¬ (1:Int)<(m:Int):=by omega
      have m2:decide ((1:Int)<(m:Int))=false:=decide_eq_false m1
      have m3:decide (1<m)=false:=decide_eq_false (by omega)
      clear hDl hDt hDA hWd hkm h48 hl hsz hkq hkn hd hOne hDig hMinus hL
      have HF:=Lib.hid (tok_stores HR1.out HB1.out noTok)
      go_wp2_with fail
      exact bodyPost_ret (v:=.tuple #[tokV noTok,.int .i64 0]) (res_tok Tryz.results33 rfl rfl HF.out.1) rfl ⟨_,_,rfl,HE.out,HF.out.2⟩
    ·have g48:((d.toNat:Int) == 48)=false:=by rw [beq_eq_false_iff_ne];omega
     by_cases hq19:19≤while_ digitB r
     ·have HE:=Lib.hid (show OneIs s.data.toList noTok 0 by rw [hl];exact oneIs_of (hOne.trans (minus_long hMinus hDig h48 hq19)))
      have n1:(19:Int)<(m:Int):=by omega
      have n2:decide ((19:Int)<(m:Int))=true:=decide_eq_true n1
      have n3:decide (19<m)=true:=decide_eq_true (by omega)
      clear hDl hDt hDA hWd hkm h48 hq19 hl hsz hkq hkn hd hOne hDig hMinus hL
      have HF:=Lib.hid (tok_stores HR1.out HB1.out noTok)
      go_wp2_with fail
      exact bodyPost_ret (v:=.tuple #[tokV noTok,.int .i64 0]) (res_tok Tryz.results33 rfl rfl HF.out.1) rfl ⟨_,_,rfl,HE.out,HF.out.2⟩
     ·skip
      have n1:¬ (19:Int)<(m:Int):=by omega
      have n2:decide ((19:Int)<(m:Int))=false:=decide_eq_false n1
      have n3:decide (19<m)=false:=decide_eq_false (by omega)
      have hnum:=rnum_neg D c _ hDl hMinus hDz hDA
      have HL:=Lib.hid (fun x ok (h:RNum true _ x ok)=>minus_end hMinus hDig h48 (by rw [← hl,← hkn,at_drop_nil hd];simp) (x:=x) (ok:=ok) h)
      have HK:=Lib.hid hkn
      have HO:=Lib.hid hOne
      have HS:=Lib.hid hl
      clear hDl hDt hDA hWd hkm h48 hq19 hl hsz hkq hkn hd hOne hDig hMinus hL
      go_wp2_with fail
      refine (hnum _).mono ?_
      rintro e w1 ⟨rfl,xv,ok,rfl,hRN⟩
      have hfin:=HL.out xv ok hRN
      clear hnum hRN
      cases ok
      ·have HE:=Lib.hid (show OneIs s.data.toList noTok 0 by rw [HS.out];exact oneIs_of (HO.out.trans hfin))
       clear hfin
       have HF:=Lib.hid (tok_stores HR1.out HB1.out noTok)
       go_wp2_with fail
       exact bodyPost_ret (v:=.tuple #[tokV noTok,.int .i64 0]) (res_tok Tryz.results33 rfl rfl HF.out.1) rfl ⟨_,_,rfl,HE.out,HF.out.2⟩
      ·have HE:=Lib.hid (show OneIs s.data.toList ⟨2,[],xv,0⟩ k by rw [HS.out,HK.out];rw [HS.out];exact oneIs_of (HO.out.trans hfin))
       have HF:=Lib.hid (tok_stores HR1.out HB1.out ⟨2,[],xv,0⟩)
       clear hfin
       go_wp2_with fail
       exact bodyPost_ret (v:=.tuple #[tokV ⟨2,[],xv,0⟩,.int .i64 (k:Int)]) (res_tok Tryz.results33 rfl rfl HF.out.1) rfl ⟨_,_,rfl,HE.out,HF.out.2⟩
  | x::t =>
    obtain ⟨hlt,hx,hr⟩:=byte_at hd
    have hin2:=rinner_any x
    have hdg2:=rdigit_any x
    rw [hd,while_cons _ x t] at hw
    have k1:((k:Int)<(s.size:Int)):=by omega
    have k2:decide ((k:Int)<(s.size:Int))=true:=decide_eq_true k1
    have k3:decide (k<s.size)=true:=decide_eq_true hlt
    cases hX:digitB x
    ·rw [hX] at hdg2 hw
     have hkq:k=1+while_ digitB (d::r):=by rw [hw];simp
     have hkn:k=numLen s.data.toList:=by rw [hl,hnl,hkq]
     have b1:(k:Int)≤(s.size:Int):=by omega
     have b3:(0:Int)≤(k:Int):=by omega
     have hMinus:=HM.out
     obtain ⟨m,hkm⟩:∃ m,k=m+1:=⟨k-1,by omega⟩
     obtain ⟨D,E,hD,hE,hDs,hEs,hDt,⟨hz3,hz4⟩,hz1,hz2⟩:=cut_DE hl hkm hk (by omega)
     have hDz:D.size≤140737488351232:=by rw [hDs];omega
     have hm0:1≤m:=by omega
     have p1:(1:Int)≤(k:Int):=by omega
     have p2:1≤k:=by omega
     have p3:(0:Int)<(k:Int):=by omega
     have p4:(0:Int)<(m:Int):=by omega
     clear hdg hdg1 hlet hnl hwd hw hgk
     have hDl:D.data.toList=c::(d::r).take (while_ digitB (d::r)):=by rw [hDt,hkq,Nat.add_comm,List.take_succ_cons]
     have hDA:AllD ((d::r).take (while_ digitB (d::r))):=(minus_digits (d::r) hMinus).2
     have hWd:while_ digitB (d::r)=while_ digitB r+1:=by rw [while_cons,if_pos hDig]
     by_cases h48:d.toNat=48
     ·have g48:((d.toNat:Int) == 48)=true:=by rw [h48];rfl
      have HE:=Lib.hid (show OneIs s.data.toList noTok 0 by rw [hl];exact oneIs_of (hOne.trans (minus_nought hMinus hDig h48)))
      by_cases hm1:1<m
      ·skip
       have m1:(1:Int)<(m:Int):=by omega
       have m2:decide ((1:Int)<(m:Int))=true:=decide_eq_true m1
       have m3:decide (1<m)=true:=decide_eq_true (by omega)
       clear hDl hDt hDA hWd hkm h48 hl hsz hkq hkn hd hOne hDig hMinus hL
       go_wp2_with fail
       refine (hdg2 _).mono ?_
       rintro e w1 ⟨rfl,rfl⟩
       have HF:=Lib.hid (tok_stores HR1.out HB1.out noTok)
       go_wp2_with fail
       exact bodyPost_ret (v:=.tuple #[tokV noTok,.int .i64 0]) (res_tok Tryz.results33 rfl rfl HF.out.1) rfl ⟨_,_,rfl,HE.out,HF.out.2⟩
      ·skip
       have m1:¬ (1:Int)<(m:Int):=by omega
       have m2:decide ((1:Int)<(m:Int))=false:=decide_eq_false m1
       have m3:decide (1<m)=false:=decide_eq_false (by omega)
       clear hDl hDt hDA hWd hkm h48 hl hsz hkq hkn hd hOne hDig hMinus hL
       go_wp2_with fail
       refine (hdg2 _).mono ?_
       rintro e w1 ⟨rfl,rfl⟩
       have HF:=Lib.hid (tok_stores HR1.out HB1.out noTok)
       go_wp2_with fail
       exact bodyPost_ret (v:=.tuple #[tokV noTok,.int .i64 0]) (res_tok Tryz.results33 rfl rfl HF.out.1) rfl ⟨_,_,rfl,HE.out,HF.out.2⟩
     ·have g48:((d.toNat:Int) == 48)=false:=by rw [beq_eq_false_iff_ne];omega
      by_cases hq19:19≤while_ digitB r
      ·have HE:=Lib.hid (show OneIs s.data.toList noTok 0 by rw [hl];exact oneIs_of (hOne.trans (minus_long hMinus hDig h48 hq19)))
       have n1:(19:Int)<(m:Int):=by omega
       have n2:decide ((19:Int)<(m:Int))=true:=decide_eq_true n1
       have n3:decide (19<m)=true:=decide_eq_true (by omega)
       clear hDl hDt hDA hWd hkm h48 hq19 hl hsz hkq hkn hd hOne hDig hMinus hL
       go_wp2_with fail
       refine (hdg2 _).mono ?_
       rintro e w1 ⟨rfl,rfl⟩
       have HF:=Lib.hid (tok_stores HR1.out HB1.out noTok)
       go_wp2_with fail
       exact bodyPost_ret (v:=.tuple #[tokV noTok,.int .i64 0]) (res_tok Tryz.results33 rfl rfl HF.out.1) rfl ⟨_,_,rfl,HE.out,HF.out.2⟩
      ·skip
       have n1:¬ (19:Int)<(m:Int):=by omega
       have n2:decide ((19:Int)<(m:Int))=false:=decide_eq_false n1
       have n3:decide (19<m)=false:=decide_eq_false (by omega)
       cases hI:innerB x
       ·rw [hI] at hin2
        have hnum:=rnum_neg D c _ hDl hMinus hDz hDA
        have HL:=Lib.hid (fun x ok (h:RNum true _ x ok)=>minus_end hMinus hDig h48 (by rw [← hl,← hkn,at_drop hd,Option.map_some,hI];simp) (x:=x) (ok:=ok) h)
        have HK:=Lib.hid hkn
        have HO:=Lib.hid hOne
        have HS:=Lib.hid hl
        clear hDl hDt hDA hWd hkm h48 hq19 hl hsz hkq hkn hd hOne hDig hMinus hL
        go_wp2_with fail
        refine (hdg2 _).mono ?_
        rintro e w1 ⟨rfl,rfl⟩
        go_wp2_with fail
        refine (hin2 _).mono ?_
        rintro e w1 ⟨rfl,rfl⟩
        go_wp2_with fail
        refine (hnum _).mono ?_
        rintro e w1 ⟨rfl,xv,ok,rfl,hRN⟩
        have hfin:=HL.out xv ok hRN
        clear hnum hRN
        cases ok
        ·have HE:=Lib.hid (show OneIs s.data.toList noTok 0 by rw [HS.out];exact oneIs_of (HO.out.trans hfin))
         clear hfin
         have HF:=Lib.hid (tok_stores HR1.out HB1.out noTok)
         go_wp2_with fail
         exact bodyPost_ret (v:=.tuple #[tokV noTok,.int .i64 0]) (res_tok Tryz.results33 rfl rfl HF.out.1) rfl ⟨_,_,rfl,HE.out,HF.out.2⟩
        ·have HE:=Lib.hid (show OneIs s.data.toList ⟨2,[],xv,0⟩ k by rw [HS.out,HK.out];rw [HS.out];exact oneIs_of (HO.out.trans hfin))
         have HF:=Lib.hid (tok_stores HR1.out HB1.out ⟨2,[],xv,0⟩)
         clear hfin
         go_wp2_with fail
         exact bodyPost_ret (v:=.tuple #[tokV ⟨2,[],xv,0⟩,.int .i64 (k:Int)]) (res_tok Tryz.results33 rfl rfl HF.out.1) rfl ⟨_,_,rfl,HE.out,HF.out.2⟩
       ·rw [hI] at hin2
        have HE:=Lib.hid (show OneIs s.data.toList noTok 0 by rw [hl];exact oneIs_of ((hOne).trans (numT_inner (by rw [← hl,← hkn,at_drop hd,Option.map_some,hI]))))
        clear hDl hDt hDA hWd hkm h48 hq19 hl hsz hkq hkn hd hOne hDig hMinus hL
        go_wp2_with fail
        refine (hdg2 _).mono ?_
        rintro e w1 ⟨rfl,rfl⟩
        go_wp2_with fail
        refine (hin2 _).mono ?_
        rintro e w1 ⟨rfl,rfl⟩
        have HF:=Lib.hid (tok_stores HR1.out HB1.out noTok)
        go_wp2_with fail
        exact bodyPost_ret (v:=.tuple #[tokV noTok,.int .i64 0]) (res_tok Tryz.results33 rfl rfl HF.out.1) rfl ⟨_,_,rfl,HE.out,HF.out.2⟩
    ·rw [hX] at hdg2 hw
     have HW:=Lib.hid (show 1+while_ digitB (d::r)=k+1+while_ digitB (s.data.toList.drop (k+1)) by rw [hw,hr];simp;omega)
     have a7:IntKind.i64.wrap ((k:Int)+1)=(k:Int)+1:=IntWalk.i64_in _ (by omega)
     clear hd hw hl hr hOne hnl hin2
     go_wp2_with fail
     refine (hdg2 _).mono ?_
     rintro e w1 ⟨rfl,rfl⟩
     go_wp2_with fail
     go_roundg (s.size-k)
     case measure=>omega
     case rel=>exact ⟨k+1,by omega,by omega,by omega,by go_num,HW.out,rfl⟩
theorem rone_sign (s:ByteArray) (c:UInt8) (r:List UInt8) (hl:s.data.toList=c::r) (hs:s.size≤140737488351232) (hL:letterB c=false) (h34:c.toNat≠34) (hND:¬ (digitB c=true∨(c.toNat=45∧r.head?.map digitB=some true))) (w:World) :
 Calls Tryz.prog 33 #[.string s] w fun e w' => ∃ y n,e=.returned (.tuple #[tokV y,.int .i64 (n:Nat)])∧OneIs s.data.toList y n∧Below w.heap.size w w':=by
 have hsz:s.size=r.length+1:=by rw [← size_list,hl];rfl
 obtain ⟨h0,hc0,_⟩:=byte_at (i:=0) (by rw [List.drop_zero];exact hl)
 have hp:(0:Int)<s.size:=by omega
 have hlet:=rletter_any c
 rw [hL] at hlet
 have g34:((c.toNat:Int) == 34)=false:=by rw [beq_eq_false_iff_ne];omega
 have hend:=one_sign c r hL h34 hND
 rw [← hl] at hend
 have HE:Hid (OneIs s.data.toList ⟨4,s.data.toList.take (signLen s.data.toList),0,0⟩ (signLen s.data.toList)):=by
  refine Lib.hid ?_
  unfold signT at hend
  by_cases h:signLen s.data.toList=0
  ·rw [if_pos h] at hend
   rw [h]
   exact oneIs_none hend
  ·rw [if_neg h] at hend
   exact oneIs_of hend
 have hsg:=rsign_any s c r hl hs
 obtain ⟨n,hn⟩:∃ n,n=signLen s.data.toList:=⟨_,rfl⟩
 obtain ⟨R,hR⟩:∃ R,R=s.data.toList.take n:=⟨_,rfl⟩
 have hTs:(⟨R.toArray⟩:ByteArray).size=n:=by
  have:=(signLen_le s.data.toList).1
  rw [size_list] at this
  rw [hR]
  show (List.take n s.data.toList).toArray.size=_
  rw [List.size_toArray,List.length_take,size_list]
  omega
 rw [← hn,← hR] at hsg HE
 clear hR hn
 have hdg:=rdigit_any c
 have hCd:digitB c=false:=by cases h:digitB c<;>simp_all
 rw [hCd] at hdg
 by_cases h45:c.toNat=45
 ·have g45:((c.toNat:Int) == 45)=true:=by rw [h45];rfl
  match r,hl,hsz,hND with
  | [],hl,hsz,hND =>
    have q1:decide (1<(s.size:Int))=false:=decide_eq_false (by rw [hsz];simp)
    have q2:¬ (1<(s.size:Int)):=by rw [hsz];simp
    have q3:decide (1<s.size)=false:=decide_eq_false (by rw [hsz];simp)
    clear hend hND hsz hL h34 hCd h45 hl
    go_enter Tryz.func33,Tryz.ntmps33
    go_wp2_with fail
    refine (hlet _).mono ?_
    rintro e w1 ⟨rfl,rfl⟩
    go_wp2_with fail
    refine (hdg _).mono ?_
    rintro e w1 ⟨rfl,rfl⟩
    go_wp2_with fail
    refine (hsg _).mono ?_
    rintro e w1 ⟨rfl,h1⟩
    have hr:=(Blk.new w 65 (tokA noTok)).kept h1
    have hb:=chain ((Below.refl _ _).alloc (Nat.le_refl _) _) h1
    have HF:=Lib.hid (tok_stores hr hb ⟨4,R,0,0⟩)
    obtain ⟨r0,r1,r2,r3⟩:=blk_tok hr
    obtain ⟨f0,f1,f2,f3⟩:=free_tok hr
    clear h1 hsg hlet hr hb
    go_wp2_with fail
    exact bodyPost_ret (v:=.tuple #[tokV ⟨4,R,0,0⟩,.int .i64 (n:Nat)]) (res_tok Tryz.results33 rfl rfl HF.out.1) rfl ⟨_,_,rfl,HE.out,HF.out.2⟩
  | d::r',hl,hsz,hND =>
    obtain ⟨h1,hc1,_⟩:=byte_at (s:=s) (i:=1) (c:=d) (r:=r') (by rw [hl];rfl)
    have hE:digitB d=false:=by
     cases h:digitB d
     ·rfl
     ·exact absurd (.inr ⟨h45,by simp [h]⟩) hND
    have hdg2:=rdigit_any d
    rw [hE] at hdg2
    have q1:decide (1<(s.size:Int))=true:=decide_eq_true (by omega)
    have q2:1<(s.size:Int):=by omega
    have q3:decide (1<s.size)=true:=decide_eq_true (by omega)
    clear hend hND hsz hL h34 hCd h45 hl hE
    go_enter Tryz.func33,Tryz.ntmps33
    go_wp2_with fail
    refine (hlet _).mono ?_
    rintro e w1 ⟨rfl,rfl⟩
    go_wp2_with fail
    refine (hdg _).mono ?_
    rintro e w1 ⟨rfl,rfl⟩
    go_wp2_with fail
    refine (hdg2 _).mono ?_
    rintro e w1 ⟨rfl,rfl⟩
    go_wp2_with fail
    refine (hsg _).mono ?_
    rintro e w1 ⟨rfl,h1⟩
    have hr:=(Blk.new w 65 (tokA noTok)).kept h1
    have hb:=chain ((Below.refl _ _).alloc (Nat.le_refl _) _) h1
    have HF:=Lib.hid (tok_stores hr hb ⟨4,R,0,0⟩)
    obtain ⟨r0,r1,r2,r3⟩:=blk_tok hr
    obtain ⟨f0,f1,f2,f3⟩:=free_tok hr
    clear h1 hsg hlet hr hb
    go_wp2_with fail
    exact bodyPost_ret (v:=.tuple #[tokV ⟨4,R,0,0⟩,.int .i64 (n:Nat)]) (res_tok Tryz.results33 rfl rfl HF.out.1) rfl ⟨_,_,rfl,HE.out,HF.out.2⟩
 ·have g45:((c.toNat:Int) == 45)=false:=by rw [beq_eq_false_iff_ne];omega
  clear hend hND hsz hL h34 hCd h45 hl
  go_enter Tryz.func33,Tryz.ntmps33
  go_wp2_with fail
  refine (hlet _).mono ?_
  rintro e w1 ⟨rfl,rfl⟩
  go_wp2_with fail
  refine (hdg _).mono ?_
  rintro e w1 ⟨rfl,rfl⟩
  go_wp2_with fail
  refine (hsg _).mono ?_
  rintro e w1 ⟨rfl,h1⟩
  have hr:=(Blk.new w 65 (tokA noTok)).kept h1
  have hb:=chain ((Below.refl _ _).alloc (Nat.le_refl _) _) h1
  have HF:=Lib.hid (tok_stores hr hb ⟨4,R,0,0⟩)
  obtain ⟨r0,r1,r2,r3⟩:=blk_tok hr
  obtain ⟨f0,f1,f2,f3⟩:=free_tok hr
  clear h1 hsg hlet hr hb
  go_wp2_with fail
  exact bodyPost_ret (v:=.tuple #[tokV ⟨4,R,0,0⟩,.int .i64 (n:Nat)]) (res_tok Tryz.results33 rfl rfl HF.out.1) rfl ⟨_,_,rfl,HE.out,HF.out.2⟩
theorem rone_any (s:ByteArray) (c:UInt8) (r:List UInt8) (hl:s.data.toList=c::r) (hs:s.size≤140737488351232) (w:World) :
 Calls Tryz.prog 33 #[.string s] w fun e w' => ∃ y n,e=.returned (.tuple #[tokV y,.int .i64 (n:Nat)])∧OneIs s.data.toList y n∧Below w.heap.size w w':=by
 by_cases hL:letterB c=true
 ·exact rone_word s c r hl hs hL w
 ·by_cases h34:c.toNat=34
  ·exact rone_text s c r hl hs h34 w
  ·by_cases hD:digitB c=true
   ·exact rone_plain s c r hl hs hD w
   ·by_cases hM:c.toNat=45∧r.head?.map digitB=some true
    ·match r,hl,hM with
     | [],hl,hM=>exact absurd hM.2 (by simp)
     | d::r',hl,hM=>exact rone_minus s c d r' hl hs hM.1 (by simpa using hM.2) w
    ·exact rone_sign s c r hl hs (by simpa using hL) h34 (fun h=>h.elim hD hM) w
end Go.Proofs.YtnaehhpikhlppaaGreatDoor
namespace Go.Proofs.YtnaehhpikhlppaaGreatDoor
open Go.RowKit LexS
theorem blank_cases (c:UInt8) (h:blankB c=true):c.toNat=32∨(c.toNat≠32∧c.toNat=9)∨(c.toNat≠32∧c.toNat≠9∧c.toNat=10)∨(c.toNat≠32∧c.toNat≠9∧c.toNat≠10∧c.toNat=13):=by
 unfold blankB at h
 simp only [Bool.or_eq_true,decide_eq_true_eq] at h
 omega
theorem blank_not (c:UInt8) (h:blankB c=false):c.toNat≠32∧c.toNat≠9∧c.toNat≠10∧c.toNat≠13:=by
 unfold blankB at h
 simp only [Bool.or_eq_false_iff,decide_eq_false_iff_not] at h
 omega
theorem eq_byte {c:UInt8} {n:Nat} (h:c.toNat=n):((c.toNat:Int) == (n:Int))=true:=by rw [h];exact beq_self_eq_true _
theorem ne_byte {c:UInt8} {n:Nat} (h:c.toNat≠n):((c.toNat:Int) == (n:Int))=false:=by rw [beq_eq_false_iff_ne];omega
theorem new_one (W:World) (x:Tok):Blk (W.alloc (.cells (tokA x) 65)) W.heap.size 65 (tokA x):=Blk.new W _ _
theorem rlex_any (s:ByteArray) (hs:s.size≤140737488351232) (w:World) :
 Calls Tryz.prog 14 #[.string s] w (LexRes (lexS s.data.toList) w):=by
 go_enter Tryz.func14,Tryz.ntmps14
 by_cases h2048:s.size≤2048
 ·have b0:¬ (2048:Int)<(s.size:Int):=by omega
  have b1:decide ((2048:Int)<(s.size:Int))=false:=decide_eq_false b0
  have b2:decide (2048<s.size)=false:=decide_eq_false (by omega)
  have hrel0:=LexRel.start (w:=w) h2048
  have H0:=Lib.hid hrel0
  clear hrel0 h2048
  go_wp2_with fail
  go_loopw [5,6] (fun v c wr => ∃ (a:Nat) (acc:List Tok),c=.int .i64 (a:Int)∧LexRel s w a acc v wr) (fun _ c _=>s.size-(intOf c).toNat)
  case atStart=>exact ⟨0,[],rfl,H0.out⟩
  case round =>
   obtain ⟨a,acc,rfl,hrel⟩:=hrel
   have h1:=hrel.1
   match hd:s.data.toList.drop a with
   | [] =>
     have he:=at_end hd
     have HO:=Lib.hid (hrel.res hd)
     clear hrel hd H0
     go_wp2_with fail
     exact bodyPost_ret (res_three rfl rfl rfl rfl) rfl HO.out
   | c::r =>
     obtain ⟨hlt,hc,hr⟩:=byte_at hd
     have q3:(0:Int)≤(a:Int):=by omega
     have w1:IntKind.i64.wrap ((a:Int)+1)=(a:Int)+1:=IntWalk.i64_in _ (by omega)
     clear hr
     cases hB:blankB c
     ·obtain ⟨m32,m9,m10,m13⟩:=blank_not c hB
      have g32:((c.toNat:Int) == 32)=false:=ne_byte m32
      have g9:((c.toNat:Int) == 9)=false:=ne_byte m9
      have g10:((c.toNat:Int) == 10)=false:=ne_byte m10
      have g13:((c.toNat:Int) == 13)=false:=ne_byte m13
      have hl:=list_from s a
      rw [hd] at hl
      have h1any:=rone_any (s.extract a s.size) c r hl (by rw [ByteArray.size_extract];omega)
      rw [hl] at h1any
      have HR:=Lib.hid hrel
      have hsz2:acc.length≤2048:=by have:=hrel.2.1;omega
      have hle:=oneS_le (c::r)
      rw [← hd,List.length_drop,size_list,hd] at hle
      have HD:=Lib.hid hd
      have HBk:=Lib.hid hB
      have HL:=Lib.hid hle
      clear hrel hd H0 hl hB m32 m9 m10 m13 hle
      go_wp2_with fail
      refine (h1any _).mono ?_
      rintro e w3 ⟨y,n,rfl,hOne,hb3⟩
      have HO:=Lib.hid hOne
      have HB3:=Lib.hid (chain HR.out.2.2.2.2 hb3)
      have HO3:=Lib.hid (own_kept HR.out.2.2.2.1 hb3)
      rw [tokV_eq y]
      have HN0:=Lib.hid (new_one w3 y)
      by_cases hn:n=0
      ·subst hn
       have hend:=HR.out.bad HD.out HBk.out HO.out.1.symm
       have HE:=Lib.hid hend
       clear hend hb3 h1any hOne
       go_wp2_with fail
       exact bodyPost_ret (res_three rfl rfl rfl rfl) rfl (by rw [HE.out];exact nil_res (HB3.out.alloc HB3.out.size _))
      ·have hn0:((n:Int) == 0)=false:=by rw [beq_eq_false_iff_ne];omega
       have hy:(y,n)=oneS (c::r):=by rw [HO.out.1,HO.out.2 hn]
       have hle:n≤s.size-a:=by have:=HL.out;rw [← hy] at this;exact this
       have HY:=Lib.hid hy
       clear hb3 h1any hy hOne
       obtain ⟨i,hi,hz0,hz1,hz2⟩:=info_parts tok_info
       have HN1:=Lib.hid (new_second w3 {y with at_:=a} {y with at_:=a})
       have HN2:=Lib.hid ((HO3.out.alloc (.cells (tokA {y with at_:=a}) 65)).alloc (.cells (tokA {y with at_:=a}) 65))
       have HN3:=Lib.hid (two_base HB3.out {y with at_:=a} {y with at_:=a})
       go_wp2_with (at_builtin;refine wpList_append_own _ rfl _ _ _ rfl w.heap.size 65 i _ 4 40 (by kernel_rfl) hi hz0 hz1 hz2 rfl (by decide) _ acc.length (toksL acc) rfl HN2.out ⟨w3.heap.size+1,0,none⟩ 1 1 (tokA {y with at_:=a}).toList rfl rfl HN1.out (by simp [tokA,Value.oneCell']) (by simp only [maxLen];omega) (by omega) HN3.out.size ?_)
       intro v' w' ho hgr _
       have HF:=Lib.hid (HR.out.tok HD.out HBk.out HY.out hn ho (HN3.out.grown hgr HN3.out.size (fun k hk=>(HN2.out.lt k hk).1)))
       have w2:IntKind.i64.wrap ((a:Int)+(n:Int))=(a:Int)+n:=IntWalk.i64_in _ (by omega)
       clear ho hgr
       go_wp2_with fail
       exact ⟨⟨a+n,acc++[{y with at_:=a}],by simp,HF.out⟩,by simp [intOf];omega⟩
     ·have hnx:=hrel.blank hd hB
      have HN:=Lib.hid hnx
      have hbc:=blank_cases c hB
      clear hnx hrel hd H0 hB
      rcases hbc with h | ⟨h0,h⟩ | ⟨h0,h1,h⟩ | ⟨h0,h1,h2,h⟩
      ·have g32:((c.toNat:Int) == 32)=true:=eq_byte h
       clear h
       go_wp2_with fail
       exact ⟨⟨a+1,acc,rfl,HN.out⟩,by simp [intOf];omega⟩
      ·have g32:((c.toNat:Int) == 32)=false:=ne_byte h0
       have g9:((c.toNat:Int) == 9)=true:=eq_byte h
       clear h h0
       go_wp2_with fail
       exact ⟨⟨a+1,acc,rfl,HN.out⟩,by simp [intOf];omega⟩
      ·have g32:((c.toNat:Int) == 32)=false:=ne_byte h0
       have g9:((c.toNat:Int) == 9)=false:=ne_byte h1
       have g10:((c.toNat:Int) == 10)=true:=eq_byte h
       clear h h0 h1
       go_wp2_with fail
       exact ⟨⟨a+1,acc,rfl,HN.out⟩,by simp [intOf];omega⟩
      ·have g32:((c.toNat:Int) == 32)=false:=ne_byte h0
       have g9:((c.toNat:Int) == 9)=false:=ne_byte h1
       have g10:((c.toNat:Int) == 10)=false:=ne_byte h2
       have g13:((c.toNat:Int) == 13)=true:=eq_byte h
       clear h h0 h1 h2
       go_wp2_with fail
       exact ⟨⟨a+1,acc,rfl,HN.out⟩,by simp [intOf];omega⟩
 ·have b0:(2048:Int)<(s.size:Int):=by omega
  have b1:decide ((2048:Int)<(s.size:Int))=true:=decide_eq_true b0
  have b2:decide (2048<s.size)=true:=decide_eq_true (by omega)
  have hend:lexS s.data.toList=([],0,2):=by
   unfold lexS
   rw [if_pos (by rw [size_list];omega)]
  rw [hend]
  go_wp2_with fail
  exact bodyPost_ret (res_three rfl rfl rfl rfl) rfl (nil_res (Below.refl _ _))
end Go.Proofs.YtnaehhpikhlppaaGreatDoor
