/- Several texts of the proof, joined. -/
import Derived.Test.YtnaehhpikhlppaaGreatDoorE3
import Derived.Test.YtnaehhpikhlppaaGreatDoorE6
import Derived.Sort.Grow
import Derived.Lib.Replace
import Derived.Lib.IndexBytes
import Derived.Test.YtnaehhpikhlppaaGreatDoorE1
set_option maxHeartbeats 4000000
set_option maxRecDepth 100000
set_option linter.unusedVariables false
set_option linter.unusedSimpArgs false
namespace Go.Proofs.YtnaehhpikhlppaaGreatDoor
open Go.RowKit LexS BigFrame
open Go.Sort (grow)
def numberT (l:Bytes):Tok×Nat:=match numberS l with
 | some (v,n)=>(⟨2,[],v,0⟩,n)
 | none=>(noTok,0)
theorem below_grow_ (w:World) (k:Nat) (os:Array Obj):Below w.heap.size w (grow (w.drewN k) os):=by
 refine ⟨rfl,rfl,rfl,?_,fun i hi=>?_⟩
 ·show w.heap.size≤(w.heap++os).size
  rw [Array.size_append];omega
 ·show (w.heap++os)[i]?=w.heap[i]?
  rw [Array.getElem?_append_left hi]
theorem atoi_yes (s:ByteArray) (v:Int) (hs:s.size≤140737488351232) (h:Lib.atoiAll s.data.toList=.ok v) (w:World) :
 Calls Tryz.prog 168 #[.string s] w fun e w'=>e=.returned (.tuple #[.int .i64 v,.nilIface])∧Below w.heap.size w w':=by
 refine (Tryz.strconv_Atoi_ok s (by omega) v h w).mono ?_
 rintro e w' ⟨rfl,rfl | ⟨t,rfl⟩⟩
 ·exact ⟨rfl,Below.refl _ _⟩
 ·exact ⟨rfl,Lib.bytesWorld_below _ _ _⟩
theorem atoi_no (s:ByteArray) (hs:s.size≤140737488351232) (h:∀ v,Lib.atoiAll s.data.toList≠.ok v) (w:World) (hg:GW w) :
 Calls Tryz.prog 168 #[.string s] w fun e w' => ∃ (a:Int) (T:TypeId) (p:Value),e=.returned (.tuple #[.int .i64 a,.iface T p])∧Below w.heap.size w w':=by
 match hq:Lib.atoiAll s.data.toList with
 | .ok v=>exact absurd hq (h v)
 | .syntax =>
   obtain ⟨ev,hv,hi⟩:=hg.syn
   refine (Tryz.strconv_Atoi_syntax s (by omega) hq ev w hv hi).mono ?_
   rintro e w' ⟨N,rfl,_,_,hb⟩
   exact ⟨_,_,_,rfl,hb⟩
 | .range =>
   obtain ⟨ev,hv,hi⟩:=hg.rng
   refine (Tryz.strconv_Atoi_range s (by omega) hq ev w hv hi).mono ?_
   rintro e w' ⟨N,rfl,_,_,hb⟩
   exact ⟨_,_,_,rfl,hb⟩
theorem itoa_b (n:Int) (h0 : -9223372036854775808≤n) (h1:n≤9223372036854775807) (w:World) (hg:GW w) :
 Calls Tryz.prog 89 #[.int .i64 n] w fun e w'=>e=.returned (.string ⟨(Lib.itoa n).toArray⟩)∧Below w.heap.size w w':=by
 refine (Tryz.strconv_Itoa n h0 h1 w hg.tab).mono ?_
 rintro e w' ⟨rfl,k,os,rfl⟩
 exact ⟨rfl,below_grow_ _ _ _⟩
def KT (w W:World):Prop:=Below w.heap.size w W∧Blk W w.heap.size 65 (tokA noTok)∧GW W
theorem KT.kept {w W W1:World} (h:KT w W) (hb:Below W.heap.size W W1):KT w W1:=⟨chain h.1 hb,h.2.1.kept hb,h.2.2.kept hb⟩
theorem KT.new {w:World} (hg:GW w):KT w (w.alloc (.cells (tokA noTok) 65)):=⟨(Below.refl _ _).alloc (Nat.le_refl _) _,Blk.new w _ _,hg.alloc _⟩
theorem KT.drew {w W:World} (h:KT w W):KT w W.drew:=⟨h.1.drew,h.2.1.drew,h.2.2.kept (Below.refl _ _).drew⟩
theorem KT.gw {w W:World} (h:KT w W):GW W:=h.2.2
theorem toList_data (s:ByteArray):s.toList=s.data.toList:=ByteArray.toList_eq s
theorem KT.fin {w W:World} (h:KT w W) (y:Tok) :
 Blk ((((W.setCell ⟨w.heap.size,0,none⟩ (.int .i64 (y.kind:Int))).setCell ⟨w.heap.size,1,none⟩ (.string ⟨y.s.toArray⟩)).setCell ⟨w.heap.size,2,none⟩ (.int .i64 y.n)).setCell ⟨w.heap.size,3,none⟩ (.int .i64 (y.at_:Int))) w.heap.size 65 (tokA y) ∧
 Below w.heap.size w ((((W.setCell ⟨w.heap.size,0,none⟩ (.int .i64 (y.kind:Int))).setCell ⟨w.heap.size,1,none⟩ (.string ⟨y.s.toArray⟩)).setCell ⟨w.heap.size,2,none⟩ (.int .i64 y.n)).setCell ⟨w.heap.size,3,none⟩ (.int .i64 (y.at_:Int))):=tok_stores h.2.1 h.1 y
theorem numLen_parts (c:UInt8) (r:Bytes):∃ k0:Nat,k0≤1∧numLen (c::r)=k0+while_ digitB ((c::r).drop k0)∧(c.toNat=45→k0=1)∧(c.toNat≠45→k0=0):=by
 by_cases h:c.toNat=45
 ·exact ⟨1,Nat.le_refl _,by simp [numLen,h],fun _=>rfl,fun h'=>absurd h h'⟩
 ·exact ⟨0,by omega,by simp [numLen,h],fun h'=>absurd h' h,fun _=>rfl⟩
theorem number_any (s:ByteArray) (c:UInt8) (r:List UInt8) (hl:s.data.toList=c::r) (hs:s.size≤140737488351232) (w:World) (hg:GW w) :
 Calls Tryz.prog 138 #[.string s] w fun e w'=>e=.returned (.tuple #[tokV (numberT s.data.toList).1,.int .i64 ((numberT s.data.toList).2:Int)])∧Below w.heap.size w w':=by
 obtain ⟨h0,hc0,_⟩:=byte_at (i:=0) (by rw [List.drop_zero];exact hl)
 have hN:=numLen_le s.data.toList
 rw [size_list] at hN
 obtain ⟨k0,hk0,hn,hk1,hk2⟩:=numLen_parts c r
 rw [← hl] at hn
 have hp:(0:Int)<s.size:=by omega
 have HN:=Lib.hid hn
 clear hn
 go_enter Tryz.func138,Tryz.ntmps138
 go_upto_if 9 with (fail)
 go_cut [4] (fun s4 wx=>s4=.int .i64 (k0:Int)∧wx=w.alloc (.cells (tokA noTok) 65))
 case first =>
  by_cases h45:c.toNat=45
  ·have g:((c.toNat:Int) == 45)=true:=by rw [h45];rfl
   have HK:=Lib.hid (hk1 h45)
   clear hk1 hk2 h45
   go_wp2_with fail
   go_meet
   exact ⟨by rw [HK.out];rfl,rfl⟩
  ·have g:((c.toNat:Int) == 45)=false:=by rw [beq_eq_false_iff_ne];omega
   have HK:=Lib.hid (hk2 h45)
   clear hk1 hk2 h45
   go_wp2_with fail
   go_meet
   exact ⟨by rw [HK.out];rfl,rfl⟩
 case rest =>
  obtain ⟨rfl,rfl⟩:=hcut
  clear hk1 hk2
  have b0:(0:Int)≤k0:=by omega
  have b1:(k0:Int)≤s.size:=by omega
  have hwl:=while_digit (s.extract k0 s.size) (by rw [ByteArray.size_extract];omega)
  rw [list_from] at hwl
  have hn:=HN.out
  obtain ⟨q,hq⟩:∃ q,q=while_ digitB (s.data.toList.drop k0):=⟨_,rfl⟩
  rw [← hq] at hwl hn
  have b2:(k0:Int)+q≤s.size:=by omega
  have b3:(0:Int)≤(k0:Int)+q:=by omega
  have e1:IntKind.i64.wrap ((k0:Int)+(q:Int))=(k0:Int)+q:=IntWalk.i64_in _ (by omega)
  have t1:((k0:Int)+(q:Int)).toNat=k0+q:=by omega
  have HN2:=Lib.hid hn
  have hg1:=hg.alloc (.cells (tokA noTok) 65)
  clear hq hn HN
  go_wp2_with fail
  refine (hwl _).mono ?_
  rintro e w1 ⟨rfl,rfl⟩
  go_wp2_with fail
  have hTl:(s.extract 0 (k0+q)).data.toList=s.data.toList.take (numLen s.data.toList):=by rw [list_cut,HN2.out,List.drop_zero]
  have hTs:(s.extract 0 (k0+q)).size≤140737488351232:=by rw [ByteArray.size_extract];omega
  have hTt:(s.extract 0 (k0+q)).toList=s.data.toList.take (numLen s.data.toList):=by rw [← hTl,toList_data]
  have hin:=inner_any
  match hA:Lib.atoiAll (s.data.toList.take (numLen s.data.toList)) with
  | .ok v =>
    have hat:=atoi_yes (s.extract 0 (k0+q)) v hTs (by rw [hTl];exact hA)
    obtain ⟨v0,v1⟩:=Lib.atoiAll_bounds hA
    have hit:=itoa_b v v0 v1
    by_cases hI:Lib.itoa v=s.data.toList.take (numLen s.data.toList)
    ·have g1:(Lib.itoa v == (s.extract 0 (k0+q)).toList)=true:=by rw [hTt,hI];exact beq_self_eq_true _
     match hd:s.data.toList.drop (numLen s.data.toList) with
     | [] =>
       have he:=at_end hd
       rw [HN2.out] at he
       have g2:decide ((k0:Int)+(q:Int)<(s.size:Int))=false:=decide_eq_false (by omega)
       have g3:(s.size:Int)≤(k0:Int)+(q:Int):=by omega
       have hend:numberT s.data.toList=(⟨2,[],v,0⟩,k0+q):=by
        have hno:s.data.toList[numLen s.data.toList]?=none:=by rw [List.getElem?_eq_none];rw [size_list,HN2.out];exact he
        unfold numberT numberS
        rw [hA]
        dsimp only
        rw [if_pos ⟨hI,by rw [hno];simp⟩,HN2.out]
       have HD:=Lib.hid hend
       clear hend hTl hTt hI hA hl hc0 he hd
       refine (hat _).mono ?_
       rintro e w2 ⟨rfl,h2⟩
       have hk2:=(KT.new hg).kept h2
       obtain ⟨r0,r1,r2,r3⟩:=blk_tok hk2.2.1
       obtain ⟨f0,f1,f2,f3⟩:=free_tok hk2.2.1
       have hk3:=hk2.drew
       clear h2 hk2
       go_wp2_with fail
       have hqc:∀ p:Prop,(∀ W,KT w W→p)↔p:=forall_class hk3
       refine wp_region_quietC (KT w) (by kernel_rfl) (by kernel_rfl) hk3 ?_
       repeat (first | go_big_quiet_skip | (go_big_quiet_want;go_big_quiet_op;first | go_big_quiet_on | (apply Exists.intro;refine ⟨fun W hW=>?_,?_⟩;(·(first | exact rfl | (first | (go_at_call 89;exact (hit W hW.gw).mono (fun e w' h=>⟨h.1,hW.kept h.2⟩)) | (go_at_call 135;exact (hin W).mono (fun e w' h=>⟨h.1,h.2▸hW⟩)))));go_big_quiet_on)))
       refine wpQuiet_nil ?_
       intro W hW
       clear hqc
       have hk9:=hW
       clear hW
       obtain ⟨r0,r1,r2,r3⟩:=blk_tok hk9.2.1
       obtain ⟨f0,f1,f2,f3⟩:=free_tok hk9.2.1
       have HF:=Lib.hid (KT.fin hk9 ⟨2,[],v,0⟩)
       clear hk9
       go_wp2_with fail
       exact bodyPost_ret (v:=.tuple #[tokV ⟨2,[],v,0⟩,.int .i64 ((k0:Int)+q)]) (res_tok Tryz.results138 rfl rfl HF.out.1) rfl ⟨by rw [HD.out];rfl,HF.out.2⟩
     | d::r' =>
       obtain ⟨hlt,hcd,_⟩:=byte_at hd
       have hsome:s.data.toList[numLen s.data.toList]?=some d:=by
        rw [← List.head?_drop,hd];rfl
       have hlt':k0+q<s.size:=by rw [← HN2.out];exact hlt
       have hcd':s[k0+q]'hlt'=d:=by rw [← hcd];congr 1;exact HN2.out.symm
       have g2:decide ((k0:Int)+(q:Int)<(s.size:Int))=true:=decide_eq_true (by omega)
       have g3:(k0:Int)+(q:Int)<(s.size:Int):=by omega
       have hin:=inner_any d
       cases hB:innerB d
       ·rw [hB] at hin
        have hend:numberT s.data.toList=(⟨2,[],v,0⟩,k0+q):=by
         unfold numberT numberS
         rw [hA]
         dsimp only
         rw [if_pos ⟨hI,by rw [hsome];simp [hB]⟩,HN2.out]
        have HD:=Lib.hid hend
        clear hend hTl hTt hI hA hl hc0 hd hsome hcd hlt
        refine (hat _).mono ?_
        rintro e w2 ⟨rfl,h2⟩
        have hk2:=(KT.new hg).kept h2
        obtain ⟨r0,r1,r2,r3⟩:=blk_tok hk2.2.1
        obtain ⟨f0,f1,f2,f3⟩:=free_tok hk2.2.1
        have hk3:=hk2.drew
        clear h2 hk2
        go_wp2_with fail
        have hqc:∀ p:Prop,(∀ W,KT w W→p)↔p:=forall_class hk3
        refine wp_region_quietC (KT w) (by kernel_rfl) (by kernel_rfl) hk3 ?_
        repeat (first | go_big_quiet_skip | (go_big_quiet_want;go_big_quiet_op;first | go_big_quiet_on | (apply Exists.intro;refine ⟨fun W hW=>?_,?_⟩;(·(first | exact rfl | (first | (go_at_call 89;exact (hit W hW.gw).mono (fun e w' h=>⟨h.1,hW.kept h.2⟩)) | (go_at_call 135;exact (hin W).mono (fun e w' h=>⟨h.1,h.2▸hW⟩)))));go_big_quiet_on)))
        refine wpQuiet_nil ?_
        intro W hW
        clear hqc
        have hk9:=hW
        clear hW
        obtain ⟨r0,r1,r2,r3⟩:=blk_tok hk9.2.1
        obtain ⟨f0,f1,f2,f3⟩:=free_tok hk9.2.1
        have HF:=Lib.hid (KT.fin hk9 ⟨2,[],v,0⟩)
        clear hk9
        go_wp2_with fail
        exact bodyPost_ret (v:=.tuple #[tokV ⟨2,[],v,0⟩,.int .i64 ((k0:Int)+q)]) (res_tok Tryz.results138 rfl rfl HF.out.1) rfl ⟨by rw [HD.out];rfl,HF.out.2⟩
       ·rw [hB] at hin
        have hend:numberT s.data.toList=(noTok,0):=by
         unfold numberT numberS
         rw [hA]
         dsimp only
         rw [if_neg (fun h=>h.2 (by rw [hsome];simp [hB]))]
        have HD:=Lib.hid hend
        clear hend hTl hTt hI hA hl hc0 hd hsome hcd hlt
        refine (hat _).mono ?_
        rintro e w2 ⟨rfl,h2⟩
        have hk2:=(KT.new hg).kept h2
        obtain ⟨r0,r1,r2,r3⟩:=blk_tok hk2.2.1
        obtain ⟨f0,f1,f2,f3⟩:=free_tok hk2.2.1
        have hk3:=hk2.drew
        clear h2 hk2
        go_wp2_with fail
        have hqc:∀ p:Prop,(∀ W,KT w W→p)↔p:=forall_class hk3
        refine wp_region_quietC (KT w) (by kernel_rfl) (by kernel_rfl) hk3 ?_
        repeat (first | go_big_quiet_skip | (go_big_quiet_want;go_big_quiet_op;first | go_big_quiet_on | (apply Exists.intro;refine ⟨fun W hW=>?_,?_⟩;(·(first | exact rfl | (first | (go_at_call 89;exact (hit W hW.gw).mono (fun e w' h=>⟨h.1,hW.kept h.2⟩)) | (go_at_call 135;exact (hin W).mono (fun e w' h=>⟨h.1,h.2▸hW⟩)))));go_big_quiet_on)))
        refine wpQuiet_nil ?_
        intro W hW
        clear hqc
        have hk9:=hW
        clear hW
        obtain ⟨r0,r1,r2,r3⟩:=blk_tok hk9.2.1
        obtain ⟨f0,f1,f2,f3⟩:=free_tok hk9.2.1
        have HF:=Lib.hid (KT.fin hk9 noTok)
        clear hk9
        go_wp2_with fail
        exact bodyPost_ret (v:=.tuple #[tokV noTok,.int .i64 0]) (res_tok Tryz.results138 rfl rfl HF.out.1) rfl ⟨by rw [HD.out];rfl,HF.out.2⟩
    ·have g1:(Lib.itoa v == (s.extract 0 (k0+q)).toList)=false:=by rw [hTt];exact beq_eq_false_iff_ne.2 hI
     have g1b:¬ (Lib.itoa v=(s.extract 0 (k0+q)).toList):=by rw [hTt];exact hI
     have g1c:(!(Lib.itoa v == (s.extract 0 (k0+q)).toList))=true:=by rw [g1];rfl
     have hend:numberT s.data.toList=(noTok,0):=by
      unfold numberT numberS
      rw [hA]
      dsimp only
      rw [if_neg (fun h=>hI h.1)]
     have HD:=Lib.hid hend
     clear hend hTl hTt hI hA hl hc0
     refine (hat _).mono ?_
     rintro e w2 ⟨rfl,h2⟩
     have hk2:=(KT.new hg).kept h2
     obtain ⟨r0,r1,r2,r3⟩:=blk_tok hk2.2.1
     obtain ⟨f0,f1,f2,f3⟩:=free_tok hk2.2.1
     have hk3:=hk2.drew
     clear h2 hk2
     go_wp2_with fail
     have hqc:∀ p:Prop,(∀ W,KT w W→p)↔p:=forall_class hk3
     refine wp_region_quietC (KT w) (by kernel_rfl) (by kernel_rfl) hk3 ?_
     repeat (first | go_big_quiet_skip | (go_big_quiet_want;go_big_quiet_op;first | go_big_quiet_on | (apply Exists.intro;refine ⟨fun W hW=>?_,?_⟩;(·(first | exact rfl | (first | (go_at_call 89;exact (hit W hW.gw).mono (fun e w' h=>⟨h.1,hW.kept h.2⟩)) | (go_at_call 135;exact (hin W).mono (fun e w' h=>⟨h.1,h.2▸hW⟩)))));go_big_quiet_on)))
     refine wpQuiet_nil ?_
     intro W hW
     clear hqc
     have hk9:=hW
     clear hW
     obtain ⟨r0,r1,r2,r3⟩:=blk_tok hk9.2.1
     obtain ⟨f0,f1,f2,f3⟩:=free_tok hk9.2.1
     have HF:=Lib.hid (KT.fin hk9 noTok)
     clear hk9
     go_wp2_with fail
     exact bodyPost_ret (v:=.tuple #[tokV noTok,.int .i64 0]) (res_tok Tryz.results138 rfl rfl HF.out.1) rfl ⟨by rw [HD.out];rfl,HF.out.2⟩
  | .syntax =>
    have hat:=atoi_no (s.extract 0 (k0+q)) hTs (by rw [hTl,hA];intro v h;cases h)
    have hend:numberT s.data.toList=(noTok,0):=by
     unfold numberT numberS
     rw [hA]
    have HD:=Lib.hid hend
    clear hend hTl hTt hA hl hc0
    refine (hat _ hg1).mono ?_
    rintro e w2 ⟨a,T,p,rfl,h2⟩
    have hk2:=(KT.new hg).kept h2
    obtain ⟨r0,r1,r2,r3⟩:=blk_tok hk2.2.1
    obtain ⟨f0,f1,f2,f3⟩:=free_tok hk2.2.1
    have hk3:=hk2.drew
    clear h2 hk2
    go_wp2_with fail
    have hqc:∀ p:Prop,(∀ W,KT w W→p)↔p:=forall_class hk3
    refine wp_region_quietC (KT w) (by kernel_rfl) (by kernel_rfl) hk3 ?_
    repeat (first | go_big_quiet_skip | (go_big_quiet_want;go_big_quiet_op;first | go_big_quiet_on | (apply Exists.intro;refine ⟨fun W hW=>?_,?_⟩;(·(first | exact rfl | (first | (go_at_call 89;exact (hit W hW.gw).mono (fun e w' h=>⟨h.1,hW.kept h.2⟩)) | (go_at_call 135;exact (hin W).mono (fun e w' h=>⟨h.1,h.2▸hW⟩)))));go_big_quiet_on)))
    refine wpQuiet_nil ?_
    intro W hW
    clear hqc
    have hk9:=hW
    clear hW
    obtain ⟨r0,r1,r2,r3⟩:=blk_tok hk9.2.1
    obtain ⟨f0,f1,f2,f3⟩:=free_tok hk9.2.1
    have HF:=Lib.hid (KT.fin hk9 noTok)
    clear hk9
    go_wp2_with fail
    exact bodyPost_ret (v:=.tuple #[tokV noTok,.int .i64 0]) (res_tok Tryz.results138 rfl rfl HF.out.1) rfl ⟨by rw [HD.out];rfl,HF.out.2⟩
  | .range =>
    have hat:=atoi_no (s.extract 0 (k0+q)) hTs (by rw [hTl,hA];intro v h;cases h)
    have hend:numberT s.data.toList=(noTok,0):=by
     unfold numberT numberS
     rw [hA]
    have HD:=Lib.hid hend
    clear hend hTl hTt hA hl hc0
    refine (hat _ hg1).mono ?_
    rintro e w2 ⟨a,T,p,rfl,h2⟩
    have hk2:=(KT.new hg).kept h2
    obtain ⟨r0,r1,r2,r3⟩:=blk_tok hk2.2.1
    obtain ⟨f0,f1,f2,f3⟩:=free_tok hk2.2.1
    have hk3:=hk2.drew
    clear h2 hk2
    go_wp2_with fail
    have hqc:∀ p:Prop,(∀ W,KT w W→p)↔p:=forall_class hk3
    refine wp_region_quietC (KT w) (by kernel_rfl) (by kernel_rfl) hk3 ?_
    repeat (first | go_big_quiet_skip | (go_big_quiet_want;go_big_quiet_op;first | go_big_quiet_on | (apply Exists.intro;refine ⟨fun W hW=>?_,?_⟩;(·(first | exact rfl | (first | (go_at_call 89;exact (hit W hW.gw).mono (fun e w' h=>⟨h.1,hW.kept h.2⟩)) | (go_at_call 135;exact (hin W).mono (fun e w' h=>⟨h.1,h.2▸hW⟩)))));go_big_quiet_on)))
    refine wpQuiet_nil ?_
    intro W hW
    clear hqc
    have hk9:=hW
    clear hW
    obtain ⟨r0,r1,r2,r3⟩:=blk_tok hk9.2.1
    obtain ⟨f0,f1,f2,f3⟩:=free_tok hk9.2.1
    have HF:=Lib.hid (KT.fin hk9 noTok)
    clear hk9
    go_wp2_with fail
    exact bodyPost_ret (v:=.tuple #[tokV noTok,.int .i64 0]) (res_tok Tryz.results138 rfl rfl HF.out.1) rfl ⟨by rw [HD.out];rfl,HF.out.2⟩
end Go.Proofs.YtnaehhpikhlppaaGreatDoor

namespace Go.Proofs.YtnaehhpikhlppaaGreatDoor
open Go.RowKit LexS
theorem one_letter (c:UInt8) (r:Bytes) (h:letterB c=true):oneS (c::r)=if while_ innerB (c::r)≤24 then (⟨1,(c::r).take (while_ innerB (c::r)),0,0⟩,while_ innerB (c::r)) else (noTok,0):=by
 unfold oneS
 dsimp only
 rw [if_pos h]
theorem one_text (c:UInt8) (r:Bytes) (h:letterB c=false) (h34:c.toNat=34):oneS (c::r)=textT (c::r):=by
 unfold oneS textT
 dsimp only
 rw [if_neg (by simp [h]),if_pos h34]
 all_goals (cases textS (c::r)<;>rfl)
theorem one_number (c:UInt8) (r:Bytes) (h:letterB c=false) (h34:c.toNat≠34) (hd:digitB c=true∨(c.toNat=45∧r.head?.map digitB=some true)):oneS (c::r)=numberT (c::r):=by
 unfold oneS numberT
 dsimp only
 rw [if_neg (by simp [h]),if_neg h34,if_pos hd]
 cases numberS (c::r)<;>rfl
theorem one_sign (c:UInt8) (r:Bytes) (h:letterB c=false) (h34:c.toNat≠34) (hd:¬ (digitB c=true∨(c.toNat=45∧r.head?.map digitB=some true))):oneS (c::r)=signT (c::r):=by
 unfold oneS signT
 dsimp only
 rw [if_neg (by simp [h]),if_neg h34,if_neg hd]
theorem letter_no34 {c:UInt8} (h:c.toNat=34):letterB c=false:=by simp [letterB,h]
theorem one_any (s:ByteArray) (c:UInt8) (r:List UInt8) (hl:s.data.toList=c::r) (hs:s.size≤140737488351232) (w:World) (hg:GW w) :
 Calls Tryz.prog 98 #[.string s] w fun e w'=>e=.returned (.tuple #[tokV (oneS s.data.toList).1,.int .i64 ((oneS s.data.toList).2:Int)])∧Below w.heap.size w w':=by
 have hsz:s.size=r.length+1:=by rw [← size_list,hl];rfl
 obtain ⟨h0,hc0,_⟩:=byte_at (i:=0) (by rw [List.drop_zero];exact hl)
 have hp:(0:Int)<s.size:=by omega
 have hlet:=letter_any c
 have hdig:=digit_any c
 cases hL:letterB c
 ·rw [hL] at hlet
  by_cases h34:c.toNat=34
  ·have g34:((c.toNat:Int) == 34)=true:=by rw [h34];rfl
   have hend:=one_text c r hL h34
   rw [← hl] at hend
   have ht:=text_any s hs (by omega)
   obtain ⟨⟨y,n⟩,hy⟩:∃ q,q=textT s.data.toList:=⟨_,rfl⟩
   rw [hend,← hy]
   rw [← hy] at ht
   dsimp only at ht ⊢
   rw [tokV_eq y] at ht
   clear hy hend hl hsz h34 hdig
   go_enter Tryz.func98,Tryz.ntmps98
   go_wp2_with fail
   refine (hlet _).mono ?_
   rintro e w1 ⟨rfl,rfl⟩
   go_wp2_with fail
   refine (ht _).mono ?_
   rintro e w1 ⟨rfl,h1⟩
   have hk:=(KT.new hg).kept h1
   obtain ⟨r0,r1,r2,r3⟩:=blk_tok hk.2.1
   obtain ⟨f0,f1,f2,f3⟩:=free_tok hk.2.1
   have HF:=Lib.hid (KT.fin hk y)
   clear hk h1 ht hlet
   go_wp2_with fail
   exact bodyPost_ret (v:=.tuple #[tokV y,.int .i64 (n:Int)]) (res_tok Tryz.results98 rfl rfl HF.out.1) rfl ⟨rfl,HF.out.2⟩
  ·have g34:((c.toNat:Int) == 34)=false:=by rw [beq_eq_false_iff_ne];omega
   cases hD:digitB c
   ·rw [hD] at hdig
    by_cases h45:c.toNat=45
    ·have g45:((c.toNat:Int) == 45)=true:=by rw [h45];rfl
     match r,hl,hsz with
     | [],hl,hsz =>
       have hend:=one_sign c [] hL h34 (by rw [hD];simp)
       have q1:decide (1<(s.size:Int))=false:=decide_eq_false (by rw [hsz];simp)
       have q2:(s.size:Int)≤1:=by rw [hsz];simp
       rw [← hl] at hend
       have ht:=sign_any s c _ hl hs
       obtain ⟨⟨y,n⟩,hy⟩:∃ q,q=signT s.data.toList:=⟨_,rfl⟩
       rw [hend,← hy]
       rw [← hy] at ht
       dsimp only at ht ⊢
       rw [tokV_eq y] at ht
       have hga:=fun o=>hg.alloc o
       clear hy hend hl hsz h34 hL hD h45
       go_enter Tryz.func98,Tryz.ntmps98
       go_wp2_with fail
       refine (hlet _).mono ?_
       rintro e w1 ⟨rfl,rfl⟩
       go_wp2_with fail
       refine (hdig _).mono ?_
       rintro e w1 ⟨rfl,rfl⟩
       go_wp2_with fail
       refine (ht _ (hga _)).mono ?_
       rintro e w1 ⟨rfl,h1⟩
       have hk:=(KT.new hg).kept h1
       obtain ⟨r0,r1,r2,r3⟩:=blk_tok hk.2.1
       obtain ⟨f0,f1,f2,f3⟩:=free_tok hk.2.1
       have HF:=Lib.hid (KT.fin hk y)
       clear hk h1 ht hlet hga
       go_wp2_with fail
       exact bodyPost_ret (v:=.tuple #[tokV y,.int .i64 (n:Int)]) (res_tok Tryz.results98 rfl rfl HF.out.1) rfl ⟨rfl,HF.out.2⟩
     | d::r',hl,hsz =>
       obtain ⟨h1,hc1,_⟩:=byte_at (s:=s) (i:=1) (c:=d) (r:=r') (by rw [hl];rfl)
       have q1:decide (1<(s.size:Int))=true:=decide_eq_true (by omega)
       have q2:1<(s.size:Int):=by omega
       have hdig2:=digit_any d
       cases hE:digitB d
       ·rw [hE] at hdig2
        have hend:=one_sign c (d::r') hL h34 (by rw [hD];simp [hE])
        rw [← hl] at hend
        have ht:=sign_any s c _ hl hs
        obtain ⟨⟨y,n⟩,hy⟩:∃ q,q=signT s.data.toList:=⟨_,rfl⟩
        rw [hend,← hy]
        rw [← hy] at ht
        dsimp only at ht ⊢
        rw [tokV_eq y] at ht
        have hga:=fun o=>hg.alloc o
        clear hy hend hl hsz h34 hL hD h45 hE
        go_enter Tryz.func98,Tryz.ntmps98
        go_wp2_with fail
        refine (hlet _).mono ?_
        rintro e w1 ⟨rfl,rfl⟩
        go_wp2_with fail
        refine (hdig _).mono ?_
        rintro e w1 ⟨rfl,rfl⟩
        go_wp2_with fail
        refine (hdig2 _).mono ?_
        rintro e w1 ⟨rfl,rfl⟩
        go_wp2_with fail
        refine (ht _ (hga _)).mono ?_
        rintro e w1 ⟨rfl,h1⟩
        have hk:=(KT.new hg).kept h1
        obtain ⟨r0,r1,r2,r3⟩:=blk_tok hk.2.1
        obtain ⟨f0,f1,f2,f3⟩:=free_tok hk.2.1
        have HF:=Lib.hid (KT.fin hk y)
        clear hk h1 ht hlet hga
        go_wp2_with fail
        exact bodyPost_ret (v:=.tuple #[tokV y,.int .i64 (n:Int)]) (res_tok Tryz.results98 rfl rfl HF.out.1) rfl ⟨rfl,HF.out.2⟩
       ·rw [hE] at hdig2
        have hend:=one_number c (d::r') hL h34 (.inr ⟨h45,by simp [hE]⟩)
        rw [← hl] at hend
        have ht:=number_any s c _ hl hs
        obtain ⟨⟨y,n⟩,hy⟩:∃ q,q=numberT s.data.toList:=⟨_,rfl⟩
        rw [hend,← hy]
        rw [← hy] at ht
        dsimp only at ht ⊢
        rw [tokV_eq y] at ht
        have hga:=fun o=>hg.alloc o
        clear hy hend hl hsz h34 hL hD h45 hE
        go_enter Tryz.func98,Tryz.ntmps98
        go_wp2_with fail
        refine (hlet _).mono ?_
        rintro e w1 ⟨rfl,rfl⟩
        go_wp2_with fail
        refine (hdig _).mono ?_
        rintro e w1 ⟨rfl,rfl⟩
        go_wp2_with fail
        refine (hdig2 _).mono ?_
        rintro e w1 ⟨rfl,rfl⟩
        go_wp2_with fail
        refine (ht _ (hga _)).mono ?_
        rintro e w1 ⟨rfl,h1⟩
        have hk:=(KT.new hg).kept h1
        obtain ⟨r0,r1,r2,r3⟩:=blk_tok hk.2.1
        obtain ⟨f0,f1,f2,f3⟩:=free_tok hk.2.1
        have HF:=Lib.hid (KT.fin hk y)
        clear hk h1 ht hlet hga
        go_wp2_with fail
        exact bodyPost_ret (v:=.tuple #[tokV y,.int .i64 (n:Int)]) (res_tok Tryz.results98 rfl rfl HF.out.1) rfl ⟨rfl,HF.out.2⟩
    ·have g45:((c.toNat:Int) == 45)=false:=by rw [beq_eq_false_iff_ne];omega
     have hend:=one_sign c r hL h34 (by rw [hD];simp [h45])
     rw [← hl] at hend
     have ht:=sign_any s c _ hl hs
     obtain ⟨⟨y,n⟩,hy⟩:∃ q,q=signT s.data.toList:=⟨_,rfl⟩
     rw [hend,← hy]
     rw [← hy] at ht
     dsimp only at ht ⊢
     rw [tokV_eq y] at ht
     have hga:=fun o=>hg.alloc o
     clear hy hend hl hsz h34 hL hD h45
     go_enter Tryz.func98,Tryz.ntmps98
     go_wp2_with fail
     refine (hlet _).mono ?_
     rintro e w1 ⟨rfl,rfl⟩
     go_wp2_with fail
     refine (hdig _).mono ?_
     rintro e w1 ⟨rfl,rfl⟩
     go_wp2_with fail
     refine (ht _ (hga _)).mono ?_
     rintro e w1 ⟨rfl,h1⟩
     have hk:=(KT.new hg).kept h1
     obtain ⟨r0,r1,r2,r3⟩:=blk_tok hk.2.1
     obtain ⟨f0,f1,f2,f3⟩:=free_tok hk.2.1
     have HF:=Lib.hid (KT.fin hk y)
     clear hk h1 ht hlet hga
     go_wp2_with fail
     exact bodyPost_ret (v:=.tuple #[tokV y,.int .i64 (n:Int)]) (res_tok Tryz.results98 rfl rfl HF.out.1) rfl ⟨rfl,HF.out.2⟩
   ·rw [hD] at hdig
    have hend:=one_number c r hL h34 (.inl hD)
    rw [← hl] at hend
    have ht:=number_any s c _ hl hs
    obtain ⟨⟨y,n⟩,hy⟩:∃ q,q=numberT s.data.toList:=⟨_,rfl⟩
    rw [hend,← hy]
    rw [← hy] at ht
    dsimp only at ht ⊢
    rw [tokV_eq y] at ht
    have hga:=fun o=>hg.alloc o
    clear hy hend hl hsz h34 hL hD
    go_enter Tryz.func98,Tryz.ntmps98
    go_wp2_with fail
    refine (hlet _).mono ?_
    rintro e w1 ⟨rfl,rfl⟩
    go_wp2_with fail
    refine (hdig _).mono ?_
    rintro e w1 ⟨rfl,rfl⟩
    go_wp2_with fail
    refine (ht _ (hga _)).mono ?_
    rintro e w1 ⟨rfl,h1⟩
    have hk:=(KT.new hg).kept h1
    obtain ⟨r0,r1,r2,r3⟩:=blk_tok hk.2.1
    obtain ⟨f0,f1,f2,f3⟩:=free_tok hk.2.1
    have HF:=Lib.hid (KT.fin hk y)
    clear hk h1 ht hlet hga
    go_wp2_with fail
    exact bodyPost_ret (v:=.tuple #[tokV y,.int .i64 (n:Int)]) (res_tok Tryz.results98 rfl rfl HF.out.1) rfl ⟨rfl,HF.out.2⟩
 ·rw [hL] at hlet
  have hend:=one_letter c r hL
  rw [← hl] at hend
  have hwi:=while_inner s hs
  have hwl:=while_le innerB s.data.toList
  rw [size_list] at hwl
  obtain ⟨q,hq⟩:∃ q,q=while_ innerB s.data.toList:=⟨_,rfl⟩
  rw [← hq] at hwi hend hwl
  have b0:(0:Int)≤(q:Int):=by omega
  have b1:(q:Int)≤(s.size:Int):=by omega
  have hcut:=cut_text s 0 q
  rw [List.drop_zero] at hcut
  by_cases h24:q≤24
  ·rw [if_pos h24] at hend
   rw [hend]
   have b2:(q:Int)≤24:=by omega
   have hcut2:s.extract 0 q=⟨(s.data.toList.take q).toArray⟩:=hcut
   have HT:=new_tok (w:=w) ⟨1,s.data.toList.take q,0,0⟩
   have HT:=Lib.hid HT
   clear hend hl hsz hq hcut hdig
   go_enter Tryz.func98,Tryz.ntmps98
   go_wp2_with fail
   refine (hlet _).mono ?_
   rintro e w1 ⟨rfl,rfl⟩
   go_wp2_with fail
   refine (hwi _).mono ?_
   rintro e w1 ⟨rfl,rfl⟩
   go_wp2_with fail
   exact bodyPost_ret (v:=.tuple #[tokV ⟨1,s.data.toList.take q,0,0⟩,.int .i64 (q:Int)]) (res_tok Tryz.results98 rfl rfl HT.out.1) rfl ⟨rfl,HT.out.2⟩
  ·rw [if_neg h24] at hend
   rw [hend]
   have b2:24<(q:Int):=by omega
   have HT:=new_tok (w:=w) noTok
   have HT:=Lib.hid HT
   clear hend hl hsz hq hcut hdig
   go_enter Tryz.func98,Tryz.ntmps98
   go_wp2_with fail
   refine (hlet _).mono ?_
   rintro e w1 ⟨rfl,rfl⟩
   go_wp2_with fail
   refine (hwi _).mono ?_
   rintro e w1 ⟨rfl,rfl⟩
   go_wp2_with fail
   exact bodyPost_ret (v:=.tuple #[tokV noTok,.int .i64 0]) (res_tok Tryz.results98 rfl rfl HT.out.1) rfl ⟨rfl,HT.out.2⟩
end Go.Proofs.YtnaehhpikhlppaaGreatDoor

namespace Go.Proofs.YtnaehhpikhlppaaGreatDoor.LexS
open Go.Lib (indexByte countFrom count replaceK replaceNum replace replaceAll)
def repl (c:UInt8) (new:Bytes) (b:UInt8):Bytes:=if b=c then new else [b]
theorem byte_split (c:UInt8):∀ (s:Bytes),(indexByte s c = -1∧c ∉ s)∨(∃ i:Nat,indexByte s c=i∧s=s.take i++c::s.drop (i+1)∧c ∉ s.take i):=by
 intro s
 induction s with
 | nil=>exact .inl ⟨rfl,by simp⟩
 | cons b l ih =>
   by_cases hb:b=c
   ·subst hb
    exact .inr ⟨0,by simp [indexByte],by simp,by simp⟩
   ·have hbf:(b == c)=false:=by rw [beq_eq_false_iff_ne];exact hb
    rcases ih with ⟨h1,h2⟩ | ⟨i,h1,h2,h3⟩
    ·exact .inl ⟨by simp [indexByte,hbf,h1],by simp only [List.mem_cons,not_or];exact ⟨fun h=>hb h.symm,h2⟩⟩
    ·refine .inr ⟨i+1,?_,?_,?_⟩
     ·have:((i:Int) == -1)=false:=by rw [beq_eq_false_iff_ne];omega
      simp [indexByte,hbf,h1,this]
     ·simp only [List.take_succ_cons,List.drop_succ_cons,List.cons_append]
      rw [← h2]
     ·simp only [List.take_succ_cons,List.mem_cons,not_or]
      exact ⟨fun h=>hb h.symm,h3⟩
theorem repl_none {c:UInt8} {new:Bytes}:∀ {l:Bytes},c ∉ l→l.flatMap (repl c new)=l:=by
 intro l
 induction l with
 | nil=>intro _;rfl
 | cons b l ih =>
   intro h
   simp only [List.mem_cons,not_or] at h
   rw [List.flatMap_cons,ih h.2]
   have:repl c new b=[b]:=by unfold repl;rw [if_neg (fun e=>h.1 e.symm)]
   rw [this]
   rfl
theorem replaceK_one (c:UInt8) (new:Bytes):∀ (m:Nat) (s:Bytes),s.length=m→∀ f,m<f→replaceK [c] new (countFrom [c] f s) s=s.flatMap (repl c new):=by
 intro m
 induction m using Nat.strongRecOn with
 | _ m ih =>
   intro s hs f hf
   obtain ⟨f,rfl⟩:∃ k,f=k+1:=⟨f-1,by omega⟩
   have hi:=Lib.index_one s c
   rcases byte_split c s with ⟨h1,h2⟩ | ⟨i,h1,h2,h3⟩
   ·rw [h1] at hi
    rw [repl_none h2]
    simp only [countFrom,hi]
    rfl
   ·rw [h1] at hi
    have hne:((i:Int) == -1)=false:=by rw [beq_eq_false_iff_ne];omega
    have hlen:=congrArg List.length h2
    simp only [List.length_append,List.length_take,List.length_cons,List.length_drop] at hlen
    have hcf:countFrom [c] (f+1) s=countFrom [c] f (s.drop (i+1))+1:=by
     simp only [countFrom,hi,hne,Bool.false_eq_true,if_false,Int.toNat_natCast,List.length_singleton]
     omega
    rw [hcf,Lib.replaceK_hit _ _ _ _ i hi]
    have hil:i<s.length:=by omega
    have hr:=ih (s.drop (i+1)).length (by rw [List.length_drop];omega) _ rfl f (by rw [List.length_drop];omega)
    rw [List.length_singleton,hr]
    conv=>rhs;rw [h2]
    rw [List.flatMap_append,repl_none h3,List.flatMap_cons]
    have:repl c new c=new:=by unfold repl;rw [if_pos rfl]
    rw [this,List.append_assoc]
theorem replaceAll_one (c:UInt8) (new s:Bytes) (hne : [c]≠new):replaceAll s [c] new=s.flatMap (repl c new):=by
 unfold replaceAll replace
 rw [if_neg (by simpa using hne)]
 unfold replaceNum
 rw [if_pos (.inl (by decide))]
 exact replaceK_one c new _ s rfl _ (Nat.lt_succ_self _)
def esc (b:UInt8):Bytes:=if b.toNat=34∨b.toNat=92 then [92,b] else [b]
def quoteS (l:Bytes):Bytes:=34::(l.flatMap esc++[34])
theorem esc_len (l:Bytes):(l.flatMap esc).length≤2*l.length∧l.length≤(l.flatMap esc).length:=by
 induction l with
 | nil=>simp
 | cons b l ih =>
   rw [List.flatMap_cons,List.length_append,List.length_cons]
   have:(esc b).length=1∨(esc b).length=2:=by unfold esc;split<;>simp
   omega
theorem quote_len (l:Bytes):(quoteS l).length≤2*l.length+2:=by
 have:=(esc_len l).1
 show ((l.flatMap esc++[34]).length+1)≤_
 rw [List.length_append,List.length_singleton]
 omega
theorem repl_len (c x:UInt8) (l:Bytes):(l.flatMap (repl c [x,c])).length≤2*l.length:=by
 induction l with
 | nil=>simp
 | cons b l ih =>
   rw [List.flatMap_cons,List.length_append,List.length_cons]
   have:(repl c [x,c] b).length=1∨(repl c [x,c] b).length=2:=by unfold repl;split<;>simp
   omega
theorem two_repl (l:Bytes):(l.flatMap (repl 92 [92,92])).flatMap (repl 34 [92,34])=l.flatMap esc:=by
 rw [List.flatMap_assoc]
 congr 1
 funext b
 unfold repl esc
 by_cases h92:b=92
 ·subst h92
  rfl
 ·rw [if_neg h92]
  by_cases h34:b=34
  ·subst h34
   rfl
  ·have n1:b.toNat≠92:=fun e=>h92 (UInt8.toNat_inj.1 e)
   have n2:b.toNat≠34:=fun e=>h34 (UInt8.toNat_inj.1 e)
   rw [if_neg (by omega)]
   simp [h34]
theorem quote_replaced (l:Bytes):34::(replaceAll (replaceAll l [92] [92,92]) [34] [92,34]++[34])=quoteS l:=by
 rw [replaceAll_one 92 _ l (by decide),replaceAll_one 34 _ _ (by decide),two_repl]
 rfl
theorem text_esc (r:Bytes):∀ (l acc:Bytes) (i:Nat),textFrom acc i (l.flatMap esc++34::r)=some (acc++l,i+(l.flatMap esc).length+1):=by
 intro l
 induction l with
 | nil=>intro acc i;rw [List.flatMap_nil,List.nil_append,textFrom_cons,if_pos (by rfl)];simp
 | cons b l ih =>
   intro acc i
   rw [List.flatMap_cons,List.append_assoc]
   by_cases h:b.toNat=34∨b.toNat=92
   ·have he:esc b=[92,b]:=by unfold esc;rw [if_pos h]
    rw [he]
    show textFrom acc i (92::b::(l.flatMap esc++34::r))=_
    rw [textFrom_cons,if_neg (by decide),if_pos (by rfl)]
    dsimp only
    rw [if_pos h,ih]
    simp
    omega
   ·have he:esc b=[b]:=by unfold esc;rw [if_neg h]
    rw [he]
    show textFrom acc i (b::(l.flatMap esc++34::r))=_
    rw [textFrom_cons,if_neg (by omega),if_neg (by omega),ih]
    simp
    omega
theorem one_quote (l:Bytes):oneS (quoteS l)=if l.length≤64 then (⟨3,l,0,0⟩,(quoteS l).length) else (noTok,0):=by
 have h:=one_text 34 (l.flatMap esc++[34]) (by decide) (by rfl)
 rw [show oneS (quoteS l)=oneS (34::(l.flatMap esc++[34])) from rfl,h,textT_eq]
 have e:List.drop 1 (34::(l.flatMap esc++[34]))=l.flatMap esc++34::[]:=rfl
 rw [e,text_esc]
 dsimp only [textO]
 rw [List.nil_append]
 by_cases hl:l.length≤64
 ·rw [if_pos hl,if_pos hl]
  simp [quoteS]
  omega
 ·rw [if_neg hl,if_neg hl]
end Go.Proofs.YtnaehhpikhlppaaGreatDoor.LexS

namespace Go.Proofs.YtnaehhpikhlppaaGreatDoor.LexS
def Good (L:Bytes) (x:List Tok) (a:Nat):Prop :=
 ∀ (i:Nat) (t:Tok),x[i]?=some t→t.at_<a∧(∀ (j:Nat) (u:Tok),j<i→x[j]?=some u→u.at_<t.at_)∧1≤t.kind∧t.kind≤4 ∧
   (t.kind=1∨t.kind=4→t.at_+t.s.length≤L.length∧(L.drop t.at_).take t.s.length=t.s)
end Go.Proofs.YtnaehhpikhlppaaGreatDoor.LexS
