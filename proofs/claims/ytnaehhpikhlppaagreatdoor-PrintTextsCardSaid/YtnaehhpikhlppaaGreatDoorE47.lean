/- Several texts of the proof, joined. -/
import Derived.Test.YtnaehhpikhlppaaGreatDoorE46
set_option maxHeartbeats 4000000
set_option maxRecDepth 100000
set_option linter.unusedVariables false
set_option linter.unusedSimpArgs false
namespace Go.Proofs.YtnaehhpikhlppaaGreatDoor
open Go.RowKit LexS ParS BigFrame
section
variable {q:Qr} {ns:List Nd} {g cap:Nat}
theorem rprint_fine (hq:Fine q ns) (w:World) (hn:NR w (.slice (some ⟨g,0,none⟩) ns.length cap) ns) :
 Calls Tryz.prog 10 #[.agg #[.slice (some ⟨g,0,none⟩) ns.length cap]] w fun e w'=>e=.returned (shortV q.textB)∧Below w.heap.size w w':=by
 obtain ⟨W,hW⟩:∃ W,W=w.alloc (.cells #[.slice (some ⟨g,0,none⟩) ns.length cap] 25):=⟨_,rfl⟩
 have hbW:Below w.heap.size w W:=by rw [hW];exact (Below.refl _ _).alloc (Nat.le_refl _) _
 have x0:Blk W w.heap.size 25 #[.slice (some ⟨g,0,none⟩) ns.length cap]:=by rw [hW];exact Blk.new w _ _
 have c0:W.cell? ⟨w.heap.size,0,none⟩=some (.slice (some ⟨g,0,none⟩) ns.length cap):=x0.cell 0
 have HW:=Lib.hid hW
 have HRW:=Lib.hid (show ∀ (K:World→Prop),K W→K (w.alloc (.cells #[.slice (some ⟨g,0,none⟩) ns.length cap] 25)) from fun K h=>by rw [← HW.out];exact h)
 have HBW:=Lib.hid hbW
 have HT:=Lib.hid (rtokens_fine hq W (hn.stayP hbW))
 have HS:=Lib.hid (fun w' (lv:Value) (h:w'.ownsRow 0 65 4 lv q.tok.length (toksL (q.tok.map un)))=>spell_r hq.qin.lex hq.qin.few w' h)
 have HSP:=Lib.hid hq.spell
 clear hW hn hq x0 hbW
 go_enter Tryz.func10,Tryz.ntmps10
 go_upto_region 1 with fail
 refine HRW.out _ ?_
 go_wp2_with fail
 refine HT.out.mono ?_
 rintro e w2 ⟨lv,rfl,hr2,hb2⟩
 have HR2:=Lib.hid hr2
 have HB2:=Lib.hid hb2
 clear hr2 hb2 c0
 go_wp2_with fail
 refine (HS.out _ _ HR2.out).mono ?_
 rintro e w3 ⟨rfl,hb3⟩
 rw [HSP.out]
 have HB3:=Lib.hid (HBW.out.trans ((chain HB2.out hb3).mono HBW.out.size))
 clear hb3
 by_cases hl:2048<q.textB.length
 ·have HV:=Lib.hid (show shortV q.textB=.tuple #[.string ⟨#[]⟩,.int .i64 2] from if_pos hl)
  rw [HV.out]
  go_wp2_with fail
  exact bodyPost_ret (v:=.tuple #[.string ⟨#[]⟩,.int .i64 2]) (by simp [results,Tryz.results10,go_sem]) rfl ⟨by rw [HV.out],HB3.out⟩
 ·have HV:=Lib.hid (show shortV q.textB=.tuple #[.string (BA q.textB),.int .i64 0] from if_neg hl)
  rw [HV.out]
  go_wp2_with fail
  exact bodyPost_ret (v:=.tuple #[.string (BA q.textB),.int .i64 0]) (by simp [results,Tryz.results10,go_sem]) rfl ⟨by rw [HV.out],HB3.out⟩
end
theorem texts_any (s:ByteArray) (hs:s.size≤140737488351232) (w:World) (hp:PW w) :
 Calls Tryz.prog 3 #[.string s] w fun e w'=>e=.returned (.bool true)∧Below w.heap.size w w':=by
 have hsh:=shown_13 w hp
 have hq:=fun w=>rquery_text s hs w
 obtain ⟨⟨ns,a,er⟩,hx⟩:∃ q,q=queryS s.data.toList:=⟨_,rfl⟩
 rw [← hx] at hq
 have HX:=Lib.hid hx
 have HQ:=Lib.hid hq
 have HP:=Lib.hid hp
 clear hx hq hp
 go_enter Tryz.func3,Tryz.ntmps3
 go_wp2_with fail
 refine hsh.mono ?_
 rintro e w1 ⟨rfl,b1⟩
 go_wp2_with fail
 refine (HQ.out _).mono ?_
 rintro e w2 ⟨nv,rfl,n2,b2⟩
 dsimp only at n2
 have HB2:=Lib.hid (chain b1 b2)
 have HN2:=Lib.hid n2.nr
 obtain ⟨p,cap,rfl,_,hmax,hne⟩:=n2.nr
 clear b1 b2 n2 hsh
 go_upto_region 3 with fail
 generalize hw3:World.alloc _ _=w3
 obtain ⟨hb3,hx3⟩:=qbox hw3
 have HB3:=Lib.hid (chain HB2.out hb3)
 have HX3:=Lib.hid hx3
 have HN3:=Lib.hid (HN2.out.stayP hb3)
 have c0:w3.cell? ⟨w2.heap.size,0,none⟩=some (.slice p ns.length cap):=hx3.cell 0
 clear hw3 hb3 hx3
 by_cases her:er=0
 case neg =>
  have e2:((er:Int) == 0)=false:=by rw [beq_eq_false_iff_ne];omega
  have e3:¬ (er:Int)=0:=by omega
  have e4:((er:Int) != 0)=true:=by rw [bne_iff_ne];omega
  clear her hne
  go_wp2_with fail
  exact bodyPost_ret (results_tmp rfl _ _ _) rfl ⟨rfl,HB3.out⟩
 subst her
 obtain ⟨q,hf,_,hback⟩:=fine_of HX.out.symm
 obtain ⟨g,rfl,_⟩:=hne hf.tree.ne
 have HF:=Lib.hid hf
 rw [hf.spell] at hback
 have HPF:=Lib.hid (fun (W:World) (g cap:Nat) (hn:NR W (.slice (some ⟨g,0,none⟩) ns.length cap) ns) (hw:PW W)=>print_fine hf W hn hw)
 have HRF:=Lib.hid (fun (W:World) (hn:NR W (.slice (some ⟨g,0,none⟩) ns.length cap) ns)=>rprint_fine hf W hn)
 have HCF:=Lib.hid (fun (W:World) (hn:NR W (.slice (some ⟨g,0,none⟩) ns.length cap) ns) (hw:PW W)=>check_fine hf W hn hw)
 obtain ⟨tx,htx⟩:∃ tx,tx=q.textB:=⟨_,rfl⟩
 rw [← htx] at hback HPF HRF
 have HBK:=Lib.hid hback
 have HPW:=Lib.hid (HP.out.kept HB3.out)
 have HNE:=Lib.hid hf.tree.ne
 clear hne hf HX HQ htx hback
 go_wp2_with fail
 refine (HPF.out _ _ _ HN3.out HPW.out).mono ?_
 rintro e w4 ⟨rfl,hb4⟩
 have HN4:=Lib.hid (HN3.out.stayP hb4)
 have HX4:=Lib.hid (HX3.out.kept hb4)
 have HP4:=Lib.hid (HPW.out.kept hb4)
 have HB4:=Lib.hid (chain HB3.out hb4)
 have c4:w4.cell? ⟨w2.heap.size,0,none⟩=some (.slice (some ⟨g,0,none⟩) ns.length cap):=HX4.out.cell 0
 clear hb4 c0
 by_cases hl:2048<tx.length
 ·have HS:=Lib.hid (show shortV tx=.tuple #[.string ⟨#[]⟩,.int .i64 2] from if_pos hl)
  rw [HS.out]
  clear hl
  go_wp2_with fail
  refine (HRF.out _ HN4.out).mono ?_
  rintro e w5 ⟨rfl,hb5⟩
  have HN5:=Lib.hid (HN4.out.stayP hb5)
  have HP5:=Lib.hid (HP4.out.kept hb5)
  have HB5:=Lib.hid (chain HB4.out hb5)
  have c5:w5.cell? ⟨w2.heap.size,0,none⟩=some (.slice (some ⟨g,0,none⟩) ns.length cap):=(HX4.out.kept hb5).cell 0
  rw [HS.out]
  clear hb5 c4
  go_wp2_with fail
  refine (HCF.out _ HN5.out HP5.out).mono ?_
  rintro e w6 ⟨rfl,hb6⟩
  have HB6:=Lib.hid (chain HB5.out hb6)
  clear hb6 c5
  go_wp2_with fail
  exact bodyPost_ret (results_tmp rfl _ _ _) rfl ⟨rfl,HB6.out⟩
 have HS:=Lib.hid (show shortV tx=.tuple #[.string (BA tx),.int .i64 0] from if_neg hl)
 have hqt:=fun w=>rquery_text (BA tx) (by rw [text_size];omega) w
 rw [text_list,HBK.out (by omega)] at hqt
 have HQT:=Lib.hid hqt
 rw [HS.out]
 clear hl hqt
 go_wp2_with fail
 refine (HRF.out _ HN4.out).mono ?_
 rintro e w5 ⟨rfl,hb5⟩
 have HN5:=Lib.hid (HN4.out.stayP hb5)
 have HX5:=Lib.hid (HX4.out.kept hb5)
 have HP5:=Lib.hid (HP4.out.kept hb5)
 have HB5:=Lib.hid (chain HB4.out hb5)
 have c5:w5.cell? ⟨w2.heap.size,0,none⟩=some (.slice (some ⟨g,0,none⟩) ns.length cap):=HX5.out.cell 0
 rw [HS.out]
 clear hb5 c4
 go_wp2_with fail
 refine (HCF.out _ HN5.out HP5.out).mono ?_
 rintro e w6 ⟨rfl,hb6⟩
 have HN6:=Lib.hid (HN5.out.stayP hb6)
 have HX6:=Lib.hid (HX5.out.kept hb6)
 have HP6:=Lib.hid (HP5.out.kept hb6)
 have HB6:=Lib.hid (chain HB5.out hb6)
 clear hb6 c5
 go_wp2_with fail
 refine (HQT.out _).mono ?_
 rintro e w7 ⟨nv,rfl,n7,b7⟩
 dsimp only at n7
 have HM7:=Lib.hid n7.nr
 obtain ⟨p7,cap7,rfl,_,_,hne7⟩:=n7.nr
 obtain ⟨g7,rfl,_⟩:=hne7 HNE.out
 have HN7:=Lib.hid (HN6.out.stayP b7)
 have HX7:=Lib.hid (HX6.out.kept b7)
 have HP7:=Lib.hid (HP6.out.kept b7)
 have HB7:=Lib.hid (chain HB6.out b7)
 clear b7 n7 hne7
 go_upto_region 12 with fail
 generalize hw8:World.alloc _ _=w8
 obtain ⟨hb8,hx8⟩:=qbox hw8
 have HB8:=Lib.hid (chain HB7.out hb8)
 have HX8:=Lib.hid (HX7.out.kept hb8)
 have HY8:=Lib.hid hx8
 have HN8:=Lib.hid (HN7.out.stayP hb8)
 have HM8:=Lib.hid (HM7.out.stayP hb8)
 have HP8:=Lib.hid (HP7.out.kept hb8)
 have HSM:=Lib.hid (same_trees HM8.out HN8.out)
 have d0:w8.cell? ⟨w2.heap.size,0,none⟩=some (.slice (some ⟨g,0,none⟩) ns.length cap):=HX8.out.cell 0
 have d1:w8.cell? ⟨w7.heap.size,0,none⟩=some (.slice (some ⟨g7,0,none⟩) ns.length cap7):=hx8.cell 0
 clear hw8 hb8 hx8
 go_wp2_with fail
 refine HSM.out.mono ?_
 rintro e w9 ⟨rfl,hb9⟩
 have HM9:=Lib.hid (HM8.out.stayP hb9)
 have HP9:=Lib.hid (HP8.out.kept hb9)
 have HB9:=Lib.hid (chain HB8.out hb9)
 have f1:w9.cell? ⟨w7.heap.size,0,none⟩=some (.slice (some ⟨g7,0,none⟩) ns.length cap7):=(HY8.out.kept hb9).cell 0
 clear hb9 d0 d1
 go_wp2_with fail
 refine (HPF.out _ _ _ HM9.out HP9.out).mono ?_
 rintro e w10 ⟨rfl,hb10⟩
 have HB10:=Lib.hid (chain HB9.out hb10)
 rw [HS.out]
 clear hb10 f1
 go_wp2_with fail
 exact bodyPost_ret (results_tmp rfl _ _ _) rfl ⟨rfl,HB10.out⟩
end Go.Proofs.YtnaehhpikhlppaaGreatDoor
