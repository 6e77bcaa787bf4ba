/- Several texts of the proof, joined. -/
import Derived.Test.YtnaehhpikhlppaaGreatDoorE9
import Derived.Lib.ItoaLen
import Derived.Test.YtnaehhpikhlppaaGreatDoorE6
import Derived.Laws.IdiomStrings
import Derived.Test.YtnaehhpikhlppaaGreatDoorE44
import Derived.Test.YtnaehhpikhlppaaGreatDoorE7
set_option maxHeartbeats 4000000
set_option maxRecDepth 100000
set_option linter.unusedVariables false
set_option linter.unusedSimpArgs false
namespace Go.Proofs.YtnaehhpikhlppaaGreatDoor
open Go.RowKit LexS
def DigRel (u:Nat) (w:World) (x:Nat) (s:Bytes) (wr:World):Prop:=x≤u∧Lib.decDigits u=Lib.decDigits x++s∧Below w.heap.size w wr
theorem dig_len {u x:Nat} {s:Bytes} (hu:u≤9223372036854775808) (h:Lib.decDigits u=Lib.decDigits x++s):s.length≤20:=by
 have h1:=Lib.itoa_length_le (-(u:Int)) (by omega) (by omega)
 have h2:(Lib.decDigits u).length≤21:=by
  rcases Nat.eq_zero_or_pos u with h0 | h0
  ·subst h0;decide +kernel
  ·rw [Lib.itoa_neg u h0] at h1;simp at h1;omega
 have h3:1≤(Lib.decDigits x).length:=List.length_pos_iff.2 (decDigits_ne x)
 rw [h,List.length_append] at h2
 omega
theorem dig_next {u x:Nat} {s:Bytes} (hx:¬ x<10) (h:Lib.decDigits u=Lib.decDigits x++s):Lib.decDigits u=Lib.decDigits (x / 10)++(UInt8.ofNat (48+x % 10)::s):=by
 rw [h,decDigits_ge hx,List.append_assoc]
 rfl
theorem one_byte (W:World) (d:Nat) (hd:d<10) :
 (convert 107 9 (.slice (some ⟨W.heap.size,0,none⟩) 1 1)).run Tryz.prog (W.alloc (.cells #[.int .u8 (48+(d:Int))] 5)) =
  .ok (.string ⟨#[UInt8.ofNat (48+d)]⟩) (W.alloc (.cells #[.int .u8 (48+(d:Int))] 5)):=by
 refine run_convert_bytes_back (P:=Tryz.prog) _ 107 9 5 ⟨W.heap.size,0,none⟩ 1 [UInt8.ofNat (48+d)] (by kernel_rfl) (by kernel_rfl) (by kernel_rfl) ?_
 intro j hj
 have hj0:j=0:=by simpa using hj
 subst hj0
 have hb:(UInt8.ofNat (48+d)).toNat=48+d:=byte_of hd
 have:=(Blk.new W 5 #[.int .u8 (48+(d:Int))]).cell 0
 rw [Addr.add_lit]
 refine this.trans ?_
 show some (Value.int .u8 (48+(d:Int)))=some (.int .u8 ((UInt8.ofNat (48+d)).toNat:Int))
 rw [hb]
 congr 2
theorem digits_pos (u:Nat) (hu:u≤9223372036854775807) (w:World) :
 Calls Tryz.prog 48 #[.int .i64 ((u:Int))] w fun e w'=>e=.returned (.string ⟨(Lib.decDigits u).toArray⟩)∧Below w.heap.size w w':=by
 go_enter Tryz.func48,Tryz.ntmps48
 go_wp2_with fail
 go_loopw [3,4] (fun sv c wr => ∃ (x:Nat) (s:Bytes),sv=.string ⟨s.toArray⟩∧c=.int .i64 ((x:Int))∧DigRel u w x s wr) (fun _ c _=>(intOf c).natAbs)
 case atStart=>exact ⟨u,[],rfl,rfl,Nat.le_refl _,by simp,Below.refl _ _⟩
 case round =>
  obtain ⟨x,s,rfl,rfl,hx,he,hb⟩:=hrel
  have hlen:=dig_len (by omega) he
  have hsz:(⟨s.toArray⟩:ByteArray).size=s.length:=by simp [ByteArray.size]
  have g0:decide ((x:Int) < -9)=false:=decide_eq_false (by omega)
  have g0':¬ ((x:Int) < -9):=by omega
  by_cases h10:x<10
  ·have g1:¬ (9:Int)<(x:Int):=by omega
   have g2:decide (9<(x:Int))=false:=decide_eq_false g1
   have g3:decide (9<x)=false:=decide_eq_false (by omega)
   have HB:=Lib.hid hb
   have hcv:=one_byte wr x h10
   obtain ⟨c,hc⟩:∃ c,c=UInt8.ofNat (48+x):=⟨_,rfl⟩
   rw [← hc] at hcv
   have hend:Lib.decDigits u=c::s:=by rw [he,decDigits_lt h10,hc];rfl
   have hcat:(⟨#[c]⟩:ByteArray) ++ ⟨s.toArray⟩=⟨(c::s).toArray⟩:=by
    have:=ByteArray.mk_append_mk [c] s
    simpa using this
   have hsz2:(⟨(c::s).toArray⟩:ByteArray).size=s.length+1:=by simp [ByteArray.size]
   have wu:IntKind.u8.wrap (48+(x:Int))=48+x:=by simp [IntKind.wrap,IntKind.bits,IntKind.signed];omega
   have nn:¬ (u:Int)<0:=by omega
   have nx:¬ (x:Int)<0:=by omega
   have H2:=Lib.hid hend
   clear he hb hx hc hend
   go_wp2_with fail
   exact bodyPost_ret (results_tmp rfl _ _ _) rfl ⟨by rw [H2.out];rfl,HB.out.alloc HB.out.size _⟩
  ·have g1:(9:Int)<(x:Int):=by omega
   have g2:decide (9<(x:Int))=true:=decide_eq_true g1
   have g3:decide (9<x)=true:=decide_eq_true (by omega)
   have hd10:x % 10<10:=Nat.mod_lt _ (by omega)
   have hq10:x / 10<x:=Nat.div_lt_self (by omega) (by omega)
   have t1:Int.tmod ((x:Int)) 10=((x % 10:Nat):Int):=(Int.ofNat_tmod x 10).symm
   have t2:Int.tdiv ((x:Int)) 10=((x / 10:Nat):Int):=(Int.ofNat_tdiv x 10).symm
   have hcv:=one_byte wr (x % 10) hd10
   obtain ⟨c,hc⟩:∃ c,c=UInt8.ofNat (48+x % 10):=⟨_,rfl⟩
   have hnx:=dig_next h10 he
   rw [← hc] at hcv hnx
   obtain ⟨d,hd_⟩:∃ d,d=x % 10:=⟨_,rfl⟩
   obtain ⟨q,hq_⟩:∃ q,q=x / 10:=⟨_,rfl⟩
   rw [← hd_] at t1 hcv hd10
   rw [← hq_] at t2 hnx hq10
   have hcat:(⟨#[c]⟩:ByteArray) ++ ⟨s.toArray⟩=⟨(c::s).toArray⟩:=by
    have:=ByteArray.mk_append_mk [c] s
    simpa using this
   have wu:IntKind.u8.wrap (48+(d:Int))=48+d:=by simp [IntKind.wrap,IntKind.bits,IntKind.signed];omega
   have HN:=Lib.hid (show DigRel u w q (c::s) (wr.alloc (.cells #[.int .u8 (48+(d:Int))] 5)) from ⟨by omega,hnx,hb.alloc hb.size _⟩)
   clear he hb hc hnx hd_ hq_ h10
   go_wp2_with fail
   exact ⟨⟨q,c::s,rfl,rfl,HN.out⟩,by simp [intOf];omega⟩
theorem digits_neg (u:Nat) (hu1:1≤u) (hu:u≤9223372036854775808) (w:World) :
 Calls Tryz.prog 48 #[.int .i64 (-(u:Int))] w fun e w'=>e=.returned (.string ⟨(45::Lib.decDigits u).toArray⟩)∧Below w.heap.size w w':=by
 go_enter Tryz.func48,Tryz.ntmps48
 go_wp2_with fail
 go_loopw [3,4] (fun sv c wr => ∃ (x:Nat) (s:Bytes),sv=.string ⟨s.toArray⟩∧c=.int .i64 (-(x:Int))∧DigRel u w x s wr) (fun _ c _=>(intOf c).natAbs)
 case atStart=>exact ⟨u,[],rfl,rfl,Nat.le_refl _,by simp,Below.refl _ _⟩
 case round =>
  obtain ⟨x,s,rfl,rfl,hx,he,hb⟩:=hrel
  have hlen:=dig_len (by omega) he
  have hsz:(⟨s.toArray⟩:ByteArray).size=s.length:=by simp [ByteArray.size]
  by_cases h10:x<10
  ·have g0:decide (-(x:Int) < -9)=false:=decide_eq_false (by omega)
   have g0':¬ (-(x:Int) < -9):=by omega
   have g1:¬ (9:Int) < -(x:Int):=by omega
   have g2:decide (9 < -(x:Int))=false:=decide_eq_false g1
   have HB:=Lib.hid hb
   have hcv:=one_byte wr x h10
   obtain ⟨c,hc⟩:∃ c,c=UInt8.ofNat (48+x):=⟨_,rfl⟩
   rw [← hc] at hcv
   have hend:Lib.decDigits u=c::s:=by rw [he,decDigits_lt h10,hc];rfl
   have hcat:(⟨#[c]⟩:ByteArray) ++ ⟨s.toArray⟩=⟨(c::s).toArray⟩:=by
    have:=ByteArray.mk_append_mk [c] s
    simpa using this
   have hsz2:(⟨(c::s).toArray⟩:ByteArray).size=s.length+1:=by simp [ByteArray.size]
   have hcat2:(⟨#[45]⟩:ByteArray) ++ ⟨(c::s).toArray⟩=⟨(45::c::s).toArray⟩:=by
    have:=ByteArray.mk_append_mk [45] (c::s)
    simpa using this
   have wu:IntKind.u8.wrap (48+(x:Int))=48+x:=by simp [IntKind.wrap,IntKind.bits,IntKind.signed];omega
   have nn:(-(u:Int))<0:=by omega
   have nd:decide (-(u:Int)<0)=true:=decide_eq_true nn
   have H2:=Lib.hid hend
   clear he hb hx hc hend
   by_cases hx0:x=0
   ·subst hx0
    rw [show (48+((0:Nat):Int))=48 from rfl] at hcv
    go_wp2_with fail
    exact bodyPost_ret (results_tmp rfl _ _ _) rfl ⟨by rw [H2.out];rfl,HB.out.alloc HB.out.size _⟩
   ·have nx:(-(x:Int))<0:=by omega
    have ndx:decide (-(x:Int)<0)=true:=decide_eq_true nx
    have nxx:0<x:=by omega
    have HX:=Lib.hid hx0
    clear hx0
    go_wp2_with fail
    exact bodyPost_ret (results_tmp rfl _ _ _) rfl ⟨by rw [H2.out];rfl,HB.out.alloc HB.out.size _⟩
  ·have g0:decide (-(x:Int) < -9)=true:=decide_eq_true (by omega)
   have g0':(-(x:Int) < -9):=by omega
   have hd10:x % 10<10:=Nat.mod_lt _ (by omega)
   have hq10:x / 10<x:=Nat.div_lt_self (by omega) (by omega)
   have t1:Int.tmod (-(x:Int)) 10 = -((x % 10:Nat):Int):=by rw [Int.neg_tmod];exact congrArg _ (Int.ofNat_tmod x 10).symm
   have t2:Int.tdiv (-(x:Int)) 10 = -((x / 10:Nat):Int):=by rw [Int.neg_tdiv];exact congrArg _ (Int.ofNat_tdiv x 10).symm
   have hcv:=one_byte wr (x % 10) hd10
   obtain ⟨c,hc⟩:∃ c,c=UInt8.ofNat (48+x % 10):=⟨_,rfl⟩
   have hnx:=dig_next h10 he
   rw [← hc] at hcv hnx
   obtain ⟨d,hd_⟩:∃ d,d=x % 10:=⟨_,rfl⟩
   obtain ⟨q,hq_⟩:∃ q,q=x / 10:=⟨_,rfl⟩
   rw [← hd_] at t1 hcv hd10
   rw [← hq_] at t2 hnx hq10
   have hcat:(⟨#[c]⟩:ByteArray) ++ ⟨s.toArray⟩=⟨(c::s).toArray⟩:=by
    have:=ByteArray.mk_append_mk [c] s
    simpa using this
   have wu:IntKind.u8.wrap (48+(d:Int))=48+d:=by simp [IntKind.wrap,IntKind.bits,IntKind.signed];omega
   have HN:=Lib.hid (show DigRel u w q (c::s) (wr.alloc (.cells #[.int .u8 (48+(d:Int))] 5)) from ⟨by omega,hnx,hb.alloc hb.size _⟩)
   clear he hb hc hnx hd_ hq_ h10
   by_cases hd0:d=0
   ·subst hd0
    rw [show (48+((0:Nat):Int))=48 from rfl] at hcv
    go_wp2_with fail
    exact ⟨⟨q,c::s,rfl,rfl,HN.out⟩,by simp [intOf];omega⟩
   ·have ndd : -(d:Int)<0:=by omega
    have ndb:decide (-(d:Int)<0)=true:=decide_eq_true ndd
    have npd:0<d:=by omega
    have HD:=Lib.hid hd0
    clear hd0
    go_wp2_with fail
    exact ⟨⟨q,c::s,rfl,rfl,HN.out⟩,by simp [intOf];omega⟩
end Go.Proofs.YtnaehhpikhlppaaGreatDoor

namespace Go.Proofs.YtnaehhpikhlppaaGreatDoor
open Go.RowKit LexS
def RQRel (s:ByteArray) (w:World) (i:Nat) (v:Value) (wr:World):Prop :=
 i≤s.size∧v≠.slice none 0 0∧wr.ownsRow w.heap.size 5 1 v (34::(s.data.toList.take i).flatMap esc).length (Lib.byteCells (34::(s.data.toList.take i).flatMap esc))∧Below w.heap.size w wr
theorem RQRel.start (s:ByteArray) (w:World):RQRel s w 0 (.slice (some ⟨w.heap.size,0,none⟩) 1 1) (w.alloc (.cells #[.int .u8 34] 5)) :=
 ⟨Nat.zero_le _,(by intro h;cases h),⟨rfl,.inr ⟨w.heap.size,1,#[.int .u8 34],rfl,Nat.le_refl _,heap_alloc_new w _,Nat.le_refl _,by decide,rfl,rfl⟩⟩,(Below.refl _ _).alloc (Nat.le_refl _) _⟩
theorem take_esc {s:ByteArray} {i:Nat} {c:UInt8} {r:Bytes} (h:s.data.toList.drop i=c::r):34::(s.data.toList.take (i+1)).flatMap esc=(34::(s.data.toList.take i).flatMap esc)++esc c:=by
 have:s.data.toList.take (i+1)=s.data.toList.take i++[c]:=by
  rw [List.take_add_one,← List.head?_drop,h];rfl
 rw [this,List.flatMap_append]
 simp
theorem esc_bound (s:ByteArray) (i:Nat) (hi:i≤s.size):(34::(s.data.toList.take i).flatMap esc).length≤2*s.size+1:=by
 have:=(esc_len (s.data.toList.take i)).1
 rw [List.length_take,size_list] at this
 rw [List.length_cons]
 omega
theorem byte_cat (acc:Bytes) (c:UInt8):Lib.byteCells acc++[.int .u8 (c.toNat:Int)]=Lib.byteCells (acc++[c]):=bcells_app acc c
theorem rquote_any (s:ByteArray) (hs:s.size≤1048576) (w:World) :
 Calls Tryz.prog 49 #[.string s] w fun e w'=>e=.returned (.string ⟨(quoteS s.data.toList).toArray⟩)∧Below w.heap.size w w':=by
 go_enter Tryz.func49,Tryz.ntmps49
 have H0:=Lib.hid (RQRel.start s w)
 obtain ⟨i0,hi,hz0,hz1,hz2⟩:=info_parts byte_info
 go_wp2_with fail
 go_loopw [3,4] (fun v c wr => ∃ i:Nat,c=.int .i64 (i:Int)∧RQRel s w i v wr) (fun _ c _=>s.size-(intOf c).toNat)
 case atStart=>exact ⟨0,rfl,H0.out⟩
 case round =>
  obtain ⟨i,rfl,his,hvn,hown,hb⟩:=hrel
  have hlen:=esc_bound s i his
  match hd:s.data.toList.drop i with
  | [] =>
    have he:=at_end hd
    have hfin:(34::(s.data.toList.take i).flatMap esc)++[34]=quoteS s.data.toList:=by
     rw [List.take_of_length_le (by rw [size_list];exact he)];rfl
    obtain ⟨acc,hacc⟩:∃ acc,acc=34::(s.data.toList.take i).flatMap esc:=⟨_,rfl⟩
    rw [← hacc] at hfin hown hlen
    have HV:=Lib.hid hvn
    have HB:=Lib.hid hb
    have HQ:=Lib.hid hfin
    clear hacc hfin hd hb hvn H0
    go_wp2_with (at_builtin;refine wpList_append_own _ rfl _ _ _ rfl w.heap.size 5 i0 _ 1 1 (by kernel_rfl) hi hz0 hz1 hz2 rfl (by decide) _ acc.length (Lib.byteCells acc) rfl (hown.alloc _) ⟨wr.heap.size,0,none⟩ 1 1 [.int .u8 34] rfl rfl (one_cell wr _) (by simp [Value.oneCell']) (by simp only [maxLen];omega) (by omega) (HB.out.alloc HB.out.size _).size ?_)
    intro v' w' ho hgr hnil
    have HF:=Lib.hid ((HB.out.alloc HB.out.size _).grown hgr (HB.out.alloc HB.out.size _).size (fun k hk=>((hown.alloc (.cells #[.int .u8 34] 5)).lt k hk).1))
    have ho2:w'.ownsRow w.heap.size 5 1 v' (acc++[34]).length (Lib.byteCells (acc++[34])):=by
     rw [← byte_cat,List.length_append]
     exact ho
    have hcv:=bytes_text ho2 (fun e=>hnil e)
    rw [HQ.out] at hcv
    clear ho hgr hnil ho2
    go_wp2_with fail
    exact bodyPost_ret (results_tmp rfl _ _ _) rfl ⟨rfl,HF.out⟩
  | c::r =>
    obtain ⟨hlt,hc,hr⟩:=byte_at hd
    have hnx:=take_esc hd
    obtain ⟨acc,hacc⟩:∃ acc,acc=34::(s.data.toList.take i).flatMap esc:=⟨_,rfl⟩
    rw [← hacc] at hnx hown hlen
    have w1:IntKind.i64.wrap ((i:Int)+1)=(i:Int)+1:=IntWalk.i64_in _ (by omega)
    have HV:=Lib.hid hvn
    have HB:=Lib.hid hb
    by_cases hq:c.toNat=34∨c.toNat=92
    ·have he:esc c=[92,c]:=by unfold esc;rw [if_pos hq]
     rw [he] at hnx
     have HN:=Lib.hid hnx
     rcases hq with h34 | h92
     ·have g34:((c.toNat:Int) == 34)=true:=by rw [h34];rfl
      clear hacc hd hb hvn H0 hr hnx he h34
      go_wp2_with (at_builtin;refine wpList_append_own _ rfl _ _ _ rfl w.heap.size 5 i0 _ 1 1 (by kernel_rfl) hi hz0 hz1 hz2 rfl (by decide) _ acc.length (Lib.byteCells acc) rfl (hown.alloc _) ⟨wr.heap.size,0,none⟩ 1 1 [.int .u8 92] rfl rfl (one_cell wr _) (by simp [Value.oneCell']) (by simp only [maxLen];omega) (by omega) (HB.out.alloc HB.out.size _).size ?_)
      intro v' w' ho hgr hnil
      have HF:=Lib.hid ((HB.out.alloc HB.out.size _).grown hgr (HB.out.alloc HB.out.size _).size (fun k hk=>((hown.alloc (.cells #[.int .u8 92] 5)).lt k hk).1))
      have ho1:w'.ownsRow w.heap.size 5 1 v' (acc++[92]).length (Lib.byteCells (acc++[92])):=by
       rw [← byte_cat,List.length_append]
       exact ho
      have hlen1:(acc++[92]).length≤2*s.size+2:=by rw [List.length_append,List.length_singleton];omega
      have HN2:Hid (34::(s.data.toList.take (i+1)).flatMap esc=(acc++[92])++[c]):=Lib.hid (by rw [HN.out,List.append_assoc];rfl)
      clear ho hgr hnil hown
      obtain ⟨acc1,hacc1⟩:∃ acc1,acc1=acc++[92]:=⟨_,rfl⟩
      rw [← hacc1] at ho1 hlen1 HN2
      clear hacc1
      go_wp2_with (at_builtin;refine wpList_append_own _ rfl _ _ _ rfl w.heap.size 5 i0 _ 1 1 (by kernel_rfl) hi hz0 hz1 hz2 rfl (by decide) _ acc1.length (Lib.byteCells acc1) rfl (ho1.alloc _) ⟨w'.heap.size,0,none⟩ 1 1 [.int .u8 (c.toNat:Int)] rfl rfl (one_cell w' _) (by simp [Value.oneCell']) (by simp only [maxLen];omega) (by omega) (HF.out.alloc HF.out.size _).size ?_)
      intro v2 w2 ho2 hgr2 hnil2
      have HF2:=Lib.hid ((HF.out.alloc HF.out.size _).grown hgr2 (HF.out.alloc HF.out.size _).size (fun k hk=>((ho1.alloc (.cells #[.int .u8 (c.toNat:Int)] 5)).lt k hk).1))
      have HO:=Lib.hid (show w2.ownsRow w.heap.size 5 1 v2 (acc1++[c]).length (Lib.byteCells (acc1++[c])) by rw [← byte_cat,List.length_append];exact ho2)
      have HNil:=Lib.hid hnil2
      clear ho2 hgr2 hnil2 ho1
      go_wp2_with fail
      exact ⟨⟨i+1,by go_num,by omega,fun e=>HNil.out e,by rw [HN2.out];exact HO.out,HF2.out⟩,by simp [intOf];omega⟩
     ·have g34:((c.toNat:Int) == 34)=false:=by rw [beq_eq_false_iff_ne];omega
      have g92:((c.toNat:Int) == 92)=true:=by rw [h92];rfl
      clear hacc hd hb hvn H0 hr hnx he h92
      go_wp2_with (at_builtin;refine wpList_append_own _ rfl _ _ _ rfl w.heap.size 5 i0 _ 1 1 (by kernel_rfl) hi hz0 hz1 hz2 rfl (by decide) _ acc.length (Lib.byteCells acc) rfl (hown.alloc _) ⟨wr.heap.size,0,none⟩ 1 1 [.int .u8 92] rfl rfl (one_cell wr _) (by simp [Value.oneCell']) (by simp only [maxLen];omega) (by omega) (HB.out.alloc HB.out.size _).size ?_)
      intro v' w' ho hgr hnil
      have HF:=Lib.hid ((HB.out.alloc HB.out.size _).grown hgr (HB.out.alloc HB.out.size _).size (fun k hk=>((hown.alloc (.cells #[.int .u8 92] 5)).lt k hk).1))
      have ho1:w'.ownsRow w.heap.size 5 1 v' (acc++[92]).length (Lib.byteCells (acc++[92])):=by
       rw [← byte_cat,List.length_append]
       exact ho
      have hlen1:(acc++[92]).length≤2*s.size+2:=by rw [List.length_append,List.length_singleton];omega
      have HN2:Hid (34::(s.data.toList.take (i+1)).flatMap esc=(acc++[92])++[c]):=Lib.hid (by rw [HN.out,List.append_assoc];rfl)
      clear ho hgr hnil hown
      obtain ⟨acc1,hacc1⟩:∃ acc1,acc1=acc++[92]:=⟨_,rfl⟩
      rw [← hacc1] at ho1 hlen1 HN2
      clear hacc1
      go_wp2_with (at_builtin;refine wpList_append_own _ rfl _ _ _ rfl w.heap.size 5 i0 _ 1 1 (by kernel_rfl) hi hz0 hz1 hz2 rfl (by decide) _ acc1.length (Lib.byteCells acc1) rfl (ho1.alloc _) ⟨w'.heap.size,0,none⟩ 1 1 [.int .u8 (c.toNat:Int)] rfl rfl (one_cell w' _) (by simp [Value.oneCell']) (by simp only [maxLen];omega) (by omega) (HF.out.alloc HF.out.size _).size ?_)
      intro v2 w2 ho2 hgr2 hnil2
      have HF2:=Lib.hid ((HF.out.alloc HF.out.size _).grown hgr2 (HF.out.alloc HF.out.size _).size (fun k hk=>((ho1.alloc (.cells #[.int .u8 (c.toNat:Int)] 5)).lt k hk).1))
      have HO:=Lib.hid (show w2.ownsRow w.heap.size 5 1 v2 (acc1++[c]).length (Lib.byteCells (acc1++[c])) by rw [← byte_cat,List.length_append];exact ho2)
      have HNil:=Lib.hid hnil2
      clear ho2 hgr2 hnil2 ho1
      go_wp2_with fail
      exact ⟨⟨i+1,by go_num,by omega,fun e=>HNil.out e,by rw [HN2.out];exact HO.out,HF2.out⟩,by simp [intOf];omega⟩
    ·have he:esc c=[c]:=by unfold esc;rw [if_neg hq]
     rw [he] at hnx
     have HN:=Lib.hid hnx
     have g34:((c.toNat:Int) == 34)=false:=by rw [beq_eq_false_iff_ne];omega
     have g92:((c.toNat:Int) == 92)=false:=by rw [beq_eq_false_iff_ne];omega
     clear hacc hd hb hvn H0 hr hnx he hq
     go_wp2_with (at_builtin;refine wpList_append_own _ rfl _ _ _ rfl w.heap.size 5 i0 _ 1 1 (by kernel_rfl) hi hz0 hz1 hz2 rfl (by decide) _ acc.length (Lib.byteCells acc) rfl (hown.alloc _) ⟨wr.heap.size,0,none⟩ 1 1 [.int .u8 (c.toNat:Int)] rfl rfl (one_cell wr _) (by simp [Value.oneCell']) (by simp only [maxLen];omega) (by omega) (HB.out.alloc HB.out.size _).size ?_)
     intro v' w' ho hgr hnil
     have HF:=Lib.hid ((HB.out.alloc HB.out.size _).grown hgr (HB.out.alloc HB.out.size _).size (fun k hk=>((hown.alloc (.cells #[.int .u8 (c.toNat:Int)] 5)).lt k hk).1))
     have HO:=Lib.hid (show w'.ownsRow w.heap.size 5 1 v' (acc++[c]).length (Lib.byteCells (acc++[c])) by rw [← byte_cat,List.length_append];exact ho)
     have HNil:=Lib.hid hnil
     clear ho hgr hnil
     go_wp2_with fail
     exact ⟨⟨i+1,by go_num,by omega,fun e=>HNil.out e,by rw [HN.out];exact HO.out,HF.out⟩,by simp [intOf];omega⟩
theorem digits_any (n:Int) (h0 : -9223372036854775808≤n) (h1:n≤9223372036854775807) (w:World) :
 Calls Tryz.prog 48 #[.int .i64 n] w fun e w'=>e=.returned (.string ⟨(Lib.itoa n).toArray⟩)∧Below w.heap.size w w':=by
 rcases (by omega:n<0∨0≤n) with hn | hn
 ·obtain ⟨u,rfl⟩:∃ u:Nat,n = -(u:Int):=⟨n.natAbs,by omega⟩
  rw [Lib.itoa_neg u (by omega)]
  exact digits_neg u (by omega) (by omega) w
 ·obtain ⟨u,rfl⟩:∃ u:Nat,n=(u:Int):=⟨n.toNat,by omega⟩
  rw [Lib.itoa_nonneg u]
  exact digits_pos u (by omega) w
end Go.Proofs.YtnaehhpikhlppaaGreatDoor
