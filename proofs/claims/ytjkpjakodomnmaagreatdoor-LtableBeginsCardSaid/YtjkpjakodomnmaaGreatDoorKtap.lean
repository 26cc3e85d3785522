/- The base, part 16 (merged). -/
import Derived.Test.YtjkpjakodomnmaaGreatDoorKtao
import Derived.Deep.CutBlock
set_option linter.unusedVariables false
set_option linter.unusedSimpArgs false
set_option maxRecDepth 100000
set_option maxHeartbeats 16000000
namespace Go.Proofs.YtjkpjakodomnmaaGreatDoor
open Go.RowKit Go.Proofs.Tryz
theorem JD(es fs:List bO):ba (es++fs)=ba es++ba fs:=by simp[ba]
theorem Qe(es:List bO):∀u∈ba es,u.oneCell'=true:=λu hu=>by
 unfold ba at hu;rw[Fj]at hu;obtain⟨e,_,he⟩:=hu;simp only[dr,fH,gF]at he;rcases he with rfl|rfl|rfl|rfl<;>rfl
section
variable{κ dL:Nat->Nat}{r p d q a n NN lines:Nat}{t:Nat->Nat}{w w' W2 w3:World}{m m':TM}{bs:Nat->Option Nat}{σ σ':PwS}{D D':TD}{rd rd':Option Nat}{nx:TO}
theorem Qs(hR:BA (aF NN) m.c D)(jD:CK (aF NN) m.c)(hf:1<=D.free):(∀e∈dg (aF NN) m.c D,e.t_=true)/\cx (aF NN) m.c (dg (aF NN) m.c D)/\1<=(dg (aF NN) m.c D).length/\(dg (aF NN) m.c D).length<=6:=by
 have hN:=jD.NN;have h1:=hR.free;have h2:=hR.next;have h3:=hR.node;have hk:=jD.key;have hv:=jD.val;obtain⟨_,_,_,w4,w5⟩:=hR.fQ;obtain⟨a1,_,a3,a4⟩:=qY jD hR (x:=D.free) ae;refine⟨λe he=> ?_,?_,?_⟩
 . unfold dg at he
   rcases List.mem_append.1 he with he|he
   . unfold bC at he
     split at he
     . rw[gH.1 he];exact vt hR.raw.2 ae
     . simp only[dr,fH,gF]at he
       rcases he with rfl|rfl
       . exact vt hR.raw.2 ae
       . exact kC ae ae
   . simp only[dr,fH,gF]at he
     rcases he with rfl|rfl|rfl|rfl
     . exact kC ae ae
     . exact kC ae ae
     . exact kC w4.2 hk.2
     . exact kC w5.2 hv.2
 . unfold dg
   exact cx.app a1 (cx.cons (mO (.inr (.inl rfl)) (pX jD h1) (pX jD h2)) (cx.cons (mO (oR.node hf h1 ae) (pX jD h2) ae) (cx.cons (mO (oR.node hf h1 ae) w4 hk) (cx.cons (mO (oR.node hf h1 ae) w5 hv) cx.nil))))
 . unfold dg
   rw[dO];simp only[List.length_cons,List.length_nil];omega
theorem LX(h:dt κ r p d q a n NN lines t w σ m bs D rd)(hR:BA (aF NN) m.c D)(hf:1<=D.free)(hk:m.c.kind=1):
 Calls prog 150 #[.pointer (some ⟨a,0,none⟩)] w λe w'=>e= .returned (.tuple #[])/\mv κ r p d q a n NN lines t w bs σ m (fF (aF NN) m.c D 0 (dg (aF NN) m.c D)) w':=by
 obtain⟨lZ,tH,jB,UO⟩:=Qs hR h.ck hf;have pw:m.c.nw=m.c.val:=aA (.inl hk);have J1:=ag pw;have hfN:D.free<=NN:=hR.free;have MQ:=h.n3;have HLK:=ag (λ(W:World) (hW:Below w.heap.size w W)=>EH (h.hc.below hW) hR.raw.1 (D.free:Int));have jQ:=ag (λ(W:World) (j:Nat) (hj:j<4)=>dI W D.free j NN hf ae hj);unfold uo at jQ;have HCM:=sD h jB UO tH lZ 0;obtain⟨l,hl⟩:=aH ((bC (aF NN) m.c D (D.free:Int)).length);have fU:(dg (aF NN) m.c D).length=l+4:=by unfold dg;rw[dO,hl];rfl
 rw[fU]at HCM;rw[hl]at HLK;have G_:l<=2:=by rw[<-hl];unfold bC;split<;>simp
 have Sa:Hid (∀W A c,Sl 223 4 W A (l+4) c (ba (bC (aF NN) m.c D (D.free:Int))++[.int .u64 2064, .int .u64 (D.free:Int), .int .u64 (D.cN:Int), .bool false, .int .u64 (8*((aQ 256 8 D.free 2:Nat):Int)), .int .u64 (D.cN:Int), .int .u64 0, .bool false, .int .u64 (8*((aQ 256 8 D.free 0:Nat):Int)), .int .u64 D.fy, .int .u64 m.c.key, .bool false, .int .u64 (8*((aQ 256 8 D.free 1:Nat):Int)), .int .u64 D.bI, .int .u64 m.c.val, .bool false])->uX W A (l+4) c (dg (aF NN) m.c D)):=λW A c hs=>by
  refine uX.of (es:=dg (aF NN) m.c D) ?_ fU;unfold dg;rw[JD];exact hs
 have V5:=ag HCM;obtain⟨c0,c1,c2,c3,c4,c5,c6,c7,c8,c9,gj,fD,fZ,fW,fO,dC,iR,jh,jM,jL,jK,iD,jJ,jI,jH,gN,jG,iC,iB,al,Lb⟩:=h.hc.eQ;obtain⟨q0,q1,q2,q3,q4,q5,ql⟩:=h.hq.tac;rw[pw]at c5;clear c1 c2 c4 c6 c7 c8 c9 gj fD fZ fW fO dC iR jh jM jL jK gN jG iC iB Lb q3 q4 q5 h lZ tH jB UO hR HCM fU hl pw hk;have Aw:=ag (λW=>jQ.out W 2 ae);rw[show((2:Nat):Int)=2 from rfl]at Aw;have Ev:=ag (λW=>jQ.out W 0 ae);rw[show((0:Nat):Int)=0 from rfl]at Ev;have J3:=ag (λW=>jQ.out W 1 ae);rw[show((1:Nat):Int)=1 from rfl]at J3;clear jQ;generalize 8*((aQ 256 8 D.free 2:Nat):Int)=z2 at*;generalize 8*((aQ 256 8 D.free 0:Nat):Int)=z0 at*;generalize 8*((aQ 256 8 D.free 1:Nat):Int)=z1 at*;go_enter func150,ntmps150
 simp only[List.append_eq,List.cons_append,List.nil_append]
 go_region_held3 (λw'=>w'.cell? ⟨a,0,none⟩=some (.pointer (some ⟨q,0,none⟩))/\w'.cell? ⟨a,3,none⟩=some (.int .u64 m.c.key)/\w'.cell? ⟨a,5,none⟩=some (.int .u64 m.c.val)/\w'.cell? ⟨a,21,none⟩=some (.int .u64 (D.free:Int))/\w'.cell? ⟨a,22,none⟩=some (.int .u64 (D.cN:Int))/\w'.cell? ⟨a,23,none⟩=some (.int .u64 D.fy)/\w'.cell? ⟨a,24,none⟩=some (.int .u64 D.bI)/\a<w'.heap.size/\w'.cell? ⟨q,0,none⟩=some (.int .u64 2048)/\w'.cell? ⟨q,1,none⟩=some (.int .u64 8)/\w'.cell? ⟨q,2,none⟩=some (.int .u64 NN)/\q<w'.heap.size)
  ((refine⟨?_,?_,?_,?_,?_,?_,?_,?_,?_,?_,?_,?_⟩<;>first|assumption|(go_simp;done)|(simp;omega)))
  (first
    |(go_at_call 176;(with_reducible refine(HLK.out _ aC).mono ?_);rintro e w1 ⟨gl,rfl,eh,oK,hb⟩;have XE:=ag eh;have xt:=ag oK;obtain⟨y,rfl⟩:=aE hb;clear hb eh oK)
    |(go_at_call 61;(first|(with_reducible refine(Aw.out _).mono ?_)|(with_reducible refine(Ev.out _).mono ?_)|(with_reducible refine(J3.out _).mono ?_));rintro e w2 ⟨rfl,hb⟩;obtain⟨y2,rfl⟩:=aE hb;clear hb)
    |(refine dJ rfl (.tmp 8) (.tmp 86) 174 rfl 223 (.agg #[.int .u64 0, .int .u64 0, .int .u64 0, .bool false]) 4 32 rfl ae underlying174 zx ae (some ⟨gl,0,none⟩) l l (ba (bC (aF NN) m.c D (D.free:Int))) ⟨_,0,none⟩ 4 4 [.int .u64 2064, .int .u64 (D.free:Int), .int .u64 (D.cN:Int), .bool false, .int .u64 z2, .int .u64 (D.cN:Int), .int .u64 0, .bool false, .int .u64 z0, .int .u64 D.fy, .int .u64 m.c.key, .bool false, .int .u64 z1, .int .u64 D.bI, .int .u64 m.c.val, .bool false] (by go_simp) (by go_simp) (xt.out.keep (λb hb=>(show Below y.w.heap.size y.w _ by exact aC).block b (xt.out.lt hb))) rfl ae (dT _ 223 _) (ir.1 rfl) ae ?_;intro A4 c4 w4 lU eW mU uM;obtain⟨ga,UX⟩:∃ga,A4=some ⟨ga,0,none⟩:=⟨_,uM.out ae⟩;subst UX;have Ve:Below w.heap.size w w4:=bM (show Below w.heap.size w _ by exact aC) eW.out (λb hb=>(show gl=b by simpa [ah]using hb)▸XE.out);have HE4:=ag (Sa.out _ _ _ lU.out);obtain⟨y4,rfl⟩:=aE Ve)
    |(go_at_call 146;(with_reducible refine(V5.out _ aC _ _ HE4.out).mono ?_);rintro e w5 ⟨rfl,h3⟩;have H3:=ag h3;obtain⟨st9,ZaY,rd9,ch9,bs9,gi,FT⟩:=h3.cb;have s0:=gi.eQ.c0;have s3:=gi.eQ.c3;have s5:w5.cell? ⟨a,5,none⟩=some (.int .u64 m.c.val):=gi.eQ.c5.trans (by rw[J1.out]);have s21:=gi.eQ.iD;have s22:=gi.eQ.jJ;have s23:=gi.eQ.jI;have s24:=gi.eQ.jH;have sl:=gi.lt;have t0:=FT.tac.c0;have t1:=FT.tac.c1;have t2:=FT.tac.c2;have tl:=FT.lt;clear gi FT h3))
 all_goals
  go_wp2;first|go_end0|(refine bH (v:= .tuple #[]) (by simp[results,results150,go_sem]) rfl ?_)
  exact⟨rfl,H3.out⟩
end
theorem Gq(es fs:List bO):ba (es++fs)=ba es++ba fs:=by simp[ba]
section
variable{κ dL:Nat->Nat}{r p d q a n NN lines:Nat}{t:Nat->Nat}{w w' W2 w3:World}{m m':TM}{bs:Nat->Option Nat}{σ σ':PwS}{D D':TD}{rd rd':Option Nat}{nx:TO}
def Wo(K:TK)(c:TC)(d:TD):List bO:=if d.last=d.node then bC K c d 0 else [dD K c d (d.raw%1099511627776),jF d.aD d.last 0,jF (K.nd d.node 0) c.key d.dB,jF (K.nd d.node 1) d.value d.cF]
theorem L6(hR:BA (aF NN) m.c D)(jD:CK (aF NN) m.c)(h1:1<=D.last)(h2:1<=D.node)(iW:D.aD=(aF NN).rt m.c\/∃n j,1<=n/\n<=(aF NN).NN/\(j=2\/j=3)/\D.aD=(aF NN).nd n j):(∀e∈cB (aF NN) m.c D,e.t_=true)/\cx (aF NN) m.c (cB (aF NN) m.c D)/\1<=(cB (aF NN) m.c D).length/\(cB (aF NN) m.c D).length<=6:=by
 have hN:=jD.NN;have g1:=hR.free;have g2:=hR.last;have g3:=hR.node;have hk:=jD.key;obtain⟨w1,w2,w3,_,_⟩:=hR.fQ;obtain⟨a1,_,a3,a4⟩:=qY jD hR (x:=0) ae;have QP:oR (aF NN) m.c D.aD:=oR.link iW;refine⟨λe he=> ?_,?_,?_⟩
 . unfold cB at he
   rcases List.mem_append.1 he with he|he
   . split at he
     . unfold bC at he
       split at he
       . rw[gH.1 he];exact vt hR.raw.2 ae
       . simp only[dr,fH,gF]at he
         rcases he with rfl|rfl
         . exact vt hR.raw.2 ae
         . exact kC ae ae
     . simp only[dr,fH,gF]at he
       rcases he with rfl|rfl|rfl|rfl
       . exact vt hR.raw.2 ae
       . exact kC ae ae
       . exact kC hk.2 w2.2
       . exact kC w1.2 w3.2
   . simp only[dr,fH,gF]at he
     rcases he with rfl|rfl
     . exact kC ae ae
     . exact kC ae ae
 . unfold cB
   refine cx.app ?_ (cx.cons (mO (.inr (.inl rfl)) (pX jD g1) (pX jD g2)) (cx.cons (mO (oR.node h1 g2 ae) ae (pX jD g1)) cx.nil));split
   . exact a1
   . exact cx.cons (Nl hR.raw ae) (cx.cons (mO QP (pX jD g2) ae) (cx.cons (mO (oR.node h2 g3 ae) hk w2) (cx.cons (mO (oR.node h2 g3 ae) w1 w3) cx.nil)))
 . unfold cB
   rw[dO];split
   . simp only[List.length_cons,List.length_nil];omega
   . simp only[List.length_cons,List.length_nil];omega
theorem Tu(h:dt κ r p d q a n NN lines t w σ m bs D rd)(hR:BA (aF NN) m.c D)(h1:1<=D.last)(h2:1<=D.node)(iW:D.aD=(aF NN).rt m.c\/∃n j,1<=n/\n<=(aF NN).NN/\(j=2\/j=3)/\D.aD=(aF NN).nd n j):
 Calls prog 175 #[.pointer (some ⟨a,0,none⟩)] w λe w'=>e= .returned (.tuple #[])/\mv κ r p d q a n NN lines t w bs σ m (fF (aF NN) m.c D D.value (cB (aF NN) m.c D)) w':=by
 obtain⟨lZ,tH,jB,UO⟩:=L6 hR h.ck h1 h2 iW;have hlN:D.last<=NN:=hR.last;have hnN:D.node<=NN:=hR.node;have MQ:=h.n3;have b8:=hR.raw;have HLK:=ag (λ(W:World) (hW:Below w.heap.size w W)=>EH (h.hc.below hW) hR.raw.1 0);have BC:=ag (λ(W:World) (hW:Below w.heap.size w W) (x:Int)=>Hz (h.hc.below hW) x);have R8:=ag (λ(W:World)=>dI W D.last 2 NN h1 ae ae);have Ev:=ag (λ(W:World)=>dI W D.node 0 NN h2 ae ae);have J3:=ag (λ(W:World)=>dI W D.node 1 NN h2 ae ae);unfold uo at R8 Ev J3;rw[show((2:Nat):Int)=2 from rfl]at R8;rw[show((0:Nat):Int)=0 from rfl]at Ev;rw[show((1:Nat):Int)=1 from rfl]at J3;have HCM:=sD h jB UO tH lZ D.value;obtain⟨L0,ZM⟩:=aH (Wo (aF NN) m.c D);obtain⟨l,hl⟩:=aH L0.length;have hte:cB (aF NN) m.c D=L0++[jF (aF NN).fr D.free D.last,jF ((aF NN).nd D.last 2) 0 D.free]:=by rw[<-ZM];rfl
 have fU:(cB (aF NN) m.c D).length=l+2:=by rw[hte,dO,hl];rfl
 rw[fU]at HCM;have G_:l<=4:=by omega
 have Sa:Hid (∀W A c,Sl 223 4 W A (l+2) c (ba L0++[.int .u64 2064, .int .u64 (D.free:Int), .int .u64 (D.last:Int), .bool false, .int .u64 (8*((aQ 256 8 D.last 2:Nat):Int)), .int .u64 0, .int .u64 (D.free:Int), .bool false])->uX W A (l+2) c (cB (aF NN) m.c D)):=λW A c hs=>by
  refine uX.of (es:=cB (aF NN) m.c D) ?_ fU;rw[hte,Gq];exact hs
 have V5:=ag HCM;have YS:D.raw.tmod 1099511627776=D.raw%1099511627776:=ID b8.1
 have HL0:Hid (if D.last=D.node then L0=bC (aF NN) m.c D 0 else L0=[dD (aF NN) m.c D (D.raw%1099511627776),jF D.aD D.last 0,jF ((aF NN).nd D.node 0) m.c.key D.dB,jF ((aF NN).nd D.node 1) D.value D.cF]):=by
  show if _ then _ else _
  unfold Wo at ZM;split
  . rename_i hx;rw[aA hx]at ZM;exact ZM.symm
  . rename_i hx;rw[ax hx]at ZM;exact ZM.symm
 have HLL:=ag hl;obtain⟨c0,c1,c2,c3,c4,c5,c6,c7,c8,c9,gj,fD,fZ,fW,fO,dC,iR,jh,jM,jL,jK,iD,jJ,jI,jH,gN,jG,iC,iB,al,Lb⟩:=h.hc.eQ;obtain⟨q0,q1,q2,q3,q4,q5,ql⟩:=h.hq.tac;clear c1 c2 c4 c5 c6 c7 c8 c9 gj fW fO jM jJ jI jH gN jG iC iB Lb q3 q4 q5 h lZ tH jB UO hR HCM fU hl hte ZM iW h1 h2 b8;generalize 8*((aQ 256 8 D.last 2:Nat):Int)=zl at*;go_enter func175,ntmps175
 go_upto_region 1 with(fail)
 go_quiet (fail)
 go_upto_if 11 with(fail)
 have oG:Hid (Below w.heap.size w (w.drewN nq)):=by show Below _ _ _;exact aC
 go_cut [2]from 11 to 72 (λs2 wx=>∃(g:Nat),s2= .slice (some ⟨g,0,none⟩) l l/\w.heap.size<=g/\Sl 223 4 wx (some ⟨g,0,none⟩) l l (ba L0)/\Below w.heap.size w wx)
 case first=>
  by_cases tG:D.last=D.node
  . have vK:=HL0.out
    rw[aA tG]at vK;have Zm:((D.last:Int)==(D.node:Int))=true:=by simp;omega
    have ZdZ:Hid (∀W,Below w.heap.size w W->Calls prog 176 #[.pointer (some ⟨a,0,none⟩), .int .u64 0] W λe w'=>∃g,e= .returned (.slice (some ⟨g,0,none⟩) l l)/\W.heap.size<=g/\Sl 223 4 w' (some ⟨g,0,none⟩) l l (ba L0)/\Below W.heap.size W w'):=λW hW=>by
     have:=HLK.out W hW;rw[<-vK,HLL.out]at this;exact this
    clear vK tG HLK;go_wp2_with (go_at_call 176;(with_reducible refine(ZdZ.out _ aC).mono ?_);rintro e w1 ⟨gl,rfl,eh,oK,hb⟩;have XE:=ag eh;have xt:=ag oK;obtain⟨y,rfl⟩:=aE hb;clear hb eh oK)
    go_meet
    case rel=>exact⟨gl,rfl,XE.out,xt.out,by exact aC⟩
  . have vK:=HL0.out
    rw[ax tG]at vK;have Zm:((D.last:Int)==(D.node:Int))=false:=by simp;omega
    have iW:l=4:=by rw[<-HLL.out,vK];rfl
    subst iW;have hec:ba L0=[.int .u64 (8*(((aF NN).rt m.c:Nat):Int)), .int .u64 D.raw, .int .u64 (D.raw%1099511627776), .bool true, .int .u64 (8*(D.aD:Int)), .int .u64 (D.last:Int), .int .u64 0, .bool false, .int .u64 (8*((aQ 256 8 D.node 0:Nat):Int)), .int .u64 m.c.key, .int .u64 D.dB, .bool false, .int .u64 (8*((aQ 256 8 D.node 1:Nat):Int)), .int .u64 D.value, .int .u64 D.cF, .bool false]:=by rw[vK];rfl
    have HEC:Hid (ba L0=_):=hec
    have iU:Hid (∀(x:BX (w.drewN nq)) (vs:Array Value),Sl 223 4 (x.w.alloc (.cells vs 223)) (some ⟨x.w.heap.size,0,none⟩) 4 4 vs.toList\/vs.size≠16):=λx vs=>by
     by_cases hv:vs.size=16
     . exact .inl (C9 (CB.new _ _ _) ae (by unfold maxLen;omega))
     . exact .inr hv
    clear vK tG HLK hec Sa V5 HL0 HLL R8;generalize 8*(((aF NN).rt m.c:Nat):Int)=zr at*;generalize 8*((aQ 256 8 D.node 0:Nat):Int)=z0 at*;generalize 8*((aQ 256 8 D.node 1:Nat):Int)=z1 at*;generalize 8*(D.aD:Int)=zk at*;generalize D.raw%1099511627776=rv at*;go_upto_region 3 with(fail)
    refine aL 58 krQ krQ ?_;simp only[List.take_succ_cons,List.take_zero,jm,iq];repeat(go_big_quiet_step (first|(go_at_call 147;exact bK (BC.out _ aC _))|(go_at_call 61;(first|with_reducible exact bK (Ev.out _)|with_reducible exact bK (J3.out _)))))
    refine cE ?_;rintro _ ⟨x3,rfl⟩;go_wp2;go_meet
    case rel=>
     refine⟨x3.w.heap.size,rfl,x3.size,?_,by exact aC⟩;rw[HEC.out];exact(iU.out x3 _).resolve_right smQ
 case rest=>
  obtain⟨gl,rfl,eh,oK,px⟩:=hcut;have XE:=ag eh;have xt:=ag oK;obtain⟨yc,rfl⟩:=aE px;clear c3 fD fZ jh jL jK eh oK px HLK BC Ev J3 YS HL0 oG;go_wp2
  go_region_held3 (λw'=>w'.cell? ⟨a,0,none⟩=some (.pointer (some ⟨q,0,none⟩))/\w'.cell? ⟨a,15,none⟩=some (.int .u64 D.value)/\w'.cell? ⟨a,16,none⟩=some (.int .u64 (D.last:Int))/\w'.cell? ⟨a,21,none⟩=some (.int .u64 (D.free:Int))/\a<w'.heap.size/\w'.cell? ⟨q,0,none⟩=some (.int .u64 2048)/\w'.cell? ⟨q,1,none⟩=some (.int .u64 8)/\w'.cell? ⟨q,2,none⟩=some (.int .u64 NN)/\q<w'.heap.size)
   ((refine⟨?_,?_,?_,?_,?_,?_,?_,?_,?_⟩<;>first|assumption|(go_simp;done)|(simp;omega)))
   (first
     |(go_at_call 61;(with_reducible refine(R8.out _).mono ?_);rintro e w2 ⟨rfl,hb⟩;obtain⟨y2,rfl⟩:=aE hb;clear hb)
     |(refine dJ rfl (.tmp 78) (.tmp 114) 174 rfl 223 (.agg #[.int .u64 0, .int .u64 0, .int .u64 0, .bool false]) 4 32 rfl ae underlying174 zx ae (some ⟨gl,0,none⟩) l l (ba L0) ⟨_,0,none⟩ 2 2 [.int .u64 2064, .int .u64 (D.free:Int), .int .u64 (D.last:Int), .bool false, .int .u64 zl, .int .u64 0, .int .u64 (D.free:Int), .bool false] (by go_simp) (by go_simp) (xt.out.keep (λb hb=>(show Below yc.w.heap.size yc.w _ by exact aC).block b (xt.out.lt hb))) rfl ae (dT _ 223 _) (ir.1 rfl) ae ?_;intro A4 c4 w4 lU eW mU uM;obtain⟨ga,UX⟩:∃ga,A4=some ⟨ga,0,none⟩:=⟨_,uM.out ae⟩;subst UX;have Ve:Below w.heap.size w w4:=bM (show Below w.heap.size w _ by exact aC) eW.out (λb hb=>(show gl=b by simpa [ah]using hb)▸XE.out);have HE4:=ag (Sa.out _ _ _ lU.out);obtain⟨y4,rfl⟩:=aE Ve)
     |(go_at_call 146;(with_reducible refine(V5.out _ aC _ _ HE4.out).mono ?_);rintro e w5 ⟨rfl,h3⟩;have H3:=ag h3;obtain⟨st9,ZaY,rd9,ch9,bs9,gi,FT⟩:=h3.cb;have s0:=gi.eQ.c0;have s15:=gi.eQ.dC;have s16:=gi.eQ.iR;have s21:=gi.eQ.iD;have sl:=gi.lt;have t0:=FT.tac.c0;have t1:=FT.tac.c1;have t2:=FT.tac.c2;have tl:=FT.lt;clear gi FT h3))
  all_goals
   go_wp2;first|go_end0|(refine bH (v:= .tuple #[]) (by simp[results,results175,go_sem]) rfl ?_)
   exact⟨rfl,H3.out⟩
end
section
variable{κ dL:Nat->Nat}{r p d q a n NN lines:Nat}{t:Nat->Nat}{w w' W2 w3:World}{m m':TM}{bs:Nat->Option Nat}{σ σ':PwS}{D D':TD}{rd rd':Option Nat}{nx:TO}
def O1(K:TK)(c:TC)(d:TD)(n:Nat):TO:=if c.kind=2 then fF K c {d with free:=n} d.value (cB K c {d with free:=n})else if n=0 then lV K c {d with free:=n} 0 4 else .read {d with aa:=10,free:=n} (K.nd n 2)
theorem EI(h:dt κ r p d q a n NN lines t w σ m bs D rd)(hR:BA (aF NN) m.c D)(x:Nat)(hx:x<=NN)
 (fC:m.c.kind=2->1<=D.last/\1<=D.node/\(D.aD=(aF NN).rt m.c\/∃n j,1<=n/\n<=(aF NN).NN/\(j=2\/j=3)/\D.aD=(aF NN).nd n j)):
 Calls prog 149 #[.pointer (some ⟨a,0,none⟩), .int .u64 (x:Int)] w λe w'=>e= .returned (.tuple #[])/\mv κ r p d q a n NN lines t w bs σ m (O1 (aF NN) m.c D x) w':=by
 have hC:Ch (At a) w (w.setCell ⟨a,21,none⟩ (.int .u64 (x:Int))):=(Ch.refl _ _).bj _ _;obtain⟨h2,cz⟩:=h.AQ (D':={D with free:=x}) (rd':=rd) (bZ _ _) hC (λhx=>hx.set 21 _);have wO:BA (aF NN) m.c {D with free:=x}:=⟨hR.raw,hR.node,hR.last,hx,hR.zero,hR.next,hR.link,hR.fQ,hR.dp⟩;obtain⟨c0,c1,c2,c3,c4,c5,c6,c7,c8,c9,gj,fD,fZ,fW,fO,dC,iR,jh,jM,jL,jK,iD,jJ,jI,jH,gN,jG,iC,iB,hl,hf⟩:=h.hc.eQ;have f21:=hf 21;have k0:=h2.hc.eQ.c0;have k2:=h2.hc.eQ.c2;have ju:=h2.hc.lt;obtain⟨q0,q1,q2,q3,q4,q5,ql⟩:=h2.hq.tac;have MQ:=h.n3;have hle:¬(NN:Int)<(x:Int):=by omega
 have dh:=ag cz;have H2:=ag h2;have pA:=ag wO;have jQ:=ag (λ(W:World) (h1:1<=x)=>dI W x 2 NN h1 ae ae);unfold uo at jQ;rw[show((2:Nat):Int)=2 from rfl]at jQ;clear c0 c1 c2 c3 c4 c5 c6 c7 c8 c9 gj fD fZ fW fO dC iR jh jM jL jK jJ jI jH gN jG iC iB hf h h2 hC cz q3 q4 q5 wO hR;obtain⟨W2,eM⟩:=aH (w.setCell ⟨a,21,none⟩ (.int .u64 (x:Int)));rw[eM]at H2 dh k0 k2 ju q0 q1 q2 ql;unfold O1;by_cases hk:m.c.kind=2
 . rw[aA hk]
   obtain⟨e1,e2,e3⟩:=fC hk;have HT:=ag (Tu H2.out pA.out e1 e2 e3);rw[hk,show((2:Nat):Int)+1=3 from rfl]at k2;clear jQ hk e1 e2 e3 fC;go_enter func149,ntmps149
   go_upto_region 2 with(fail)
   try rw[eM]
   clear eM iD f21 hl;go_wp2_with (go_at_call 175;(with_reducible refine HT.out.mono ?_);rintro e w3 ⟨rfl,h3⟩;have H3:=ag h3;clear h3)
   first|go_end0|(refine bH (v:= .tuple #[]) (by simp[results,results149,go_sem]) rfl ?_)
   exact⟨rfl,H3.out.trans dh.out⟩
 . rw[ax hk]
   have g2:((m.c.kind:Int)+1==3)=false:=by simp;omega
   by_cases h0:x=0
   . subst h0
     rw[aA rfl];rw[show((0:Nat):Int)=0 from rfl]at eM hle |-;have HL:=ag (nT H2.out 0 4);clear jQ hk fC;go_enter func149,ntmps149
     go_upto_region 2 with(fail)
     try rw[eM]
     clear eM iD f21 hl;go_wp2_with (go_at_call 145;(with_reducible refine HL.out.mono ?_);rintro e w3 ⟨rfl,h3⟩;have H3:=ag h3;clear h3)
     first|go_end0|(refine bH (v:= .tuple #[]) (by simp[results,results149,go_sem]) rfl ?_)
     exact⟨rfl,H3.out.trans dh.out⟩
   . rw[ax h0]
     have ux:((x:Int)==0)=false:=by simp;omega
     have HL:=ag (H2.out.kD 10 x 2 ae hx ae);have HN:=ag (λW=>jQ.out W ae);rw[show((10:Nat):Int)=10 from rfl]at HL;clear jQ hk fC h0;go_enter func149,ntmps149
     go_upto_region 2 with(fail)
     try rw[eM]
     clear eM iD f21 hl
     go_wp2_with (first
      |(go_at_call 61;(with_reducible refine(HN.out _).mono ?_);rintro e w3 ⟨rfl,hb⟩;obtain⟨y,rfl⟩:=aE hb;clear hb)
      |(go_at_call 107;(with_reducible refine(HL.out _ aC).mono ?_);rintro e w3 ⟨rfl,h3⟩;have H3:=ag h3;clear h3))
     first|go_end0|(refine bH (v:= .tuple #[]) (by simp[results,results149,go_sem]) rfl ?_)
     exact⟨rfl,H3.out.trans dh.out⟩
end
section
variable{κ dL:Nat->Nat}{r p d q a n NN lines:Nat}{t:Nat->Nat}{w w' W2 w3:World}{m m':TM}{bs:Nat->Option Nat}{σ σ':PwS}{D D':TD}{rd rd':Option Nat}{nx:TO}
theorem yp(h:dt κ r p d q a n NN lines t w σ m bs D rd)(hR:BA (aF NN) m.c D)(jB:1<=D.last)(x:Nat)(hx:x<=NN):
 Calls prog 148 #[.pointer (some ⟨a,0,none⟩), .int .u64 (x:Int)] w λe w'=>e= .returned (.tuple #[])/\mv κ r p d q a n NN lines t w bs σ m (ni (aF NN) m.c D x) w':=by
 have hlN:D.last<=NN:=hR.last;have hzN:D.aN<=NN:=hR.zero;have hdp:=hR.dp;have MQ:=h.n3;have H:=ag h;have Aw:=ag (λ(W:World)=>dI W D.last 2 NN jB ae ae);have J2:=ag (λ(W:World)=>dI W D.last 3 NN jB ae ae);have Ev:=ag (λ(W:World)=>dI W D.last 0 NN jB ae ae);have HNY:=ag (λ(W:World) (y:Nat) (h1:1<=y) (h2:y<=NN)=>dI W y 2 NN h1 ae ae);unfold uo at Aw J2 Ev HNY;rw[show((2:Nat):Int)=2 from rfl]at Aw HNY;rw[show((3:Nat):Int)=3 from rfl]at J2;rw[show((0:Nat):Int)=0 from rfl]at Ev;obtain⟨y,hy⟩:∃y:Nat,(if D.aN=0 then x else D.aN)=y:=⟨_,rfl⟩;obtain⟨lk,jt⟩:∃lk:Nat,(if D.aN=0 then(aF NN).nd D.last 3 else(aF NN).nd D.last 2)=lk:=⟨_,rfl⟩;have hyN:y<=NN:=by rw[<-hy];split<;>assumption
 have lQ:ni (aF NN) m.c D x=if y=0 then(if D.last=D.node then .read {D with aa:=9} (aF NN).fr else .read {D with aa:=7} ((aF NN).nd D.last 0))else if 64<=D.depth then jl (aF NN) m.c D else .read {D with aa:=5,depth:=D.depth+1,last:=y,aD:=lk} ((aF NN).nd y 2):=by
  unfold ni;simp only[hy,jt];rw[ax (by show¬NN<y;omega)]
 rw[lQ];obtain⟨nx,fx⟩:∃nx:TO,(if y=0 then(if D.last=D.node then TO.read {D with aa:=9} (aF NN).fr else .read {D with aa:=7} ((aF NN).nd D.last 0))else if 64<=D.depth then jl (aF NN) m.c D else .read {D with aa:=5,depth:=D.depth+1,last:=y,aD:=lk} ((aF NN).nd y 2))=nx:=⟨_,rfl⟩;rw[fx];have jP:=ag fx;clear fx;have HY:=ag (And.intro hy jt);obtain⟨c0,c1,c2,c3,c4,c5,c6,c7,c8,c9,gj,fD,fZ,fW,fO,dC,iR,jh,jM,jL,jK,iD,jJ,jI,jH,gN,jG,iC,iB,hl,hf⟩:=h.hc.eQ;obtain⟨q0,q1,q2,q3,q4,q5,ql⟩:=h.hq.tac;clear c1 c2 c3 c4 c5 c6 c7 c8 c9 gj fD fW dC jL jK iD jJ jI jH gN jG iC iB q3 q4 q5 h lQ hy jt hR;go_enter func148,ntmps148
 go_upto_region 0 with(fail)
 refine cy krQ krQ ?_;repeat(go_big_quiet_step (first|(go_at_call 61;exact bK (Aw.out _))))
 refine cE ?_;rintro _ ⟨y0,rfl⟩;go_upto_if 23 with(fail)
 go_cut [4,5]from 23 to 36 (λs4 s5 wx=>s4= .int .u64 (y:Int)/\s5= .int .u64 (8*(lk:Int))/\Below w.heap.size w wx)
 case first=>
  obtain⟨hy,jt⟩:=HY.out;by_cases hz:D.aN=0
  . rw[aA hz]at hy jt
    have hzI:((D.aN:Int)==0)=true:=by simp;omega
    subst hy jt;clear hz HY;go_upto_region 2 with(fail)
    refine cy krQ krQ ?_;repeat(go_big_quiet_step (first|(go_at_call 61;exact bK (J2.out _))))
    refine cE ?_;rintro _ ⟨y1,rfl⟩;go_wp2;go_meet
    case rel=>exact⟨rfl,rfl,by exact aC⟩
  . rw[ax hz]at hy jt
    have hzI:((D.aN:Int)==0)=false:=by simp;omega
    subst hy jt;clear hz HY;go_wp2;go_meet
    case rel=>exact⟨rfl,rfl,by exact aC⟩
 case rest=>
  obtain⟨rfl,rfl,px⟩:=hcut;obtain⟨yc,rfl⟩:=aE px;clear px HY Aw J2;have hle:¬(NN:Int)<(y:Int):=by omega
  by_cases SA:y=0
  . subst SA
    have fx:=jP.out;rw[aA rfl]at fx;rw[show((0:Nat):Int)=0 from rfl]at hle |-;clear HNY;by_cases tG:D.last=D.node
    . rw[aA tG]at fx
      have HE:=ag fx;clear fx;have Zm:((D.last:Int)==(D.node:Int))=true:=by simp;omega
      have HL:=ag (H.out.Jw 9);rw[show((9:Nat):Int)=9 from rfl]at HL;clear tG Ev;go_upto_region 8 with(fail)
      go_quiet (fail)
      go_wp2_with (go_at_call 107;(with_reducible refine(HL.out _ aC).mono ?_);rintro e w3 ⟨rfl,h3⟩;have H3:=ag h3;clear h3)
      first|go_end0|(refine bH (v:= .tuple #[]) (by simp[results,results148,go_sem]) rfl ?_)
      rw[<-HE.out];exact⟨rfl,H3.out⟩
    . rw[ax tG]at fx
      have HE:=ag fx;clear fx;have Zm:((D.last:Int)==(D.node:Int))=false:=by simp;omega
      have HL:=ag (H.out.kD 7 D.last 0 jB hlN ae);rw[show((7:Nat):Int)=7 from rfl]at HL;clear tG;go_upto_region 8 with(fail)
      go_quiet (fail)
      go_upto_region 11 with(fail)
      refine aL 13 krQ krQ ?_;simp only[List.take_succ_cons,List.take_zero,jm,iq];repeat(go_big_quiet_step (first|(go_at_call 61;exact bK (Ev.out _))))
      refine cE ?_;rintro _ ⟨v2,rfl⟩;go_wp2_with (go_at_call 107;(with_reducible refine(HL.out _ aC).mono ?_);rintro e w3 ⟨rfl,h3⟩;have H3:=ag h3;clear h3)
      first|go_end0|(refine bH (v:= .tuple #[]) (by simp[results,results148,go_sem]) rfl ?_)
      rw[<-HE.out];exact⟨rfl,H3.out⟩
  . have fx:=jP.out
    rw[ax SA]at fx;have hyI:((y:Int)==0)=false:=by simp;omega
    clear Ev;by_cases wT:64<=D.depth
    . rw[aA wT]at fx
      have HE:=ag fx;clear fx;have ZS:(64:Int)<=(D.depth:Int):=by omega
      have HL:=ag (λ(W:World) (hW:Below w.heap.size w W)=>(pF (H.out.bl hW).1).mono (λe w' hh=>(⟨hh.1,hh.2.trans (H.out.bl hW).2⟩:e= .returned (.tuple #[])/\mv κ r p d q a n NN lines t w bs σ m (jl (aF NN) m.c D) w')));clear HNY wT;go_upto_region 8 with(fail)
      go_quiet (fail)
      go_wp2_with (go_at_call 77;(with_reducible refine(HL.out _ aC).mono ?_);rintro e w3 ⟨rfl,h3⟩;have H3:=ag h3;clear h3)
      first|go_end0|(refine bH (v:= .tuple #[]) (by simp[results,results148,go_sem]) rfl ?_)
      rw[<-HE.out];exact⟨rfl,H3.out⟩
    . rw[ax wT]at fx
      have HE:=ag fx;clear fx;have ZS:¬(64:Int)<=(D.depth:Int):=by omega
      obtain⟨d1,kP⟩:=aH (D.depth+1);have e1:IntKind.i64.wrap ((D.depth:Int)+1)=(d1:Int):=by rw[b9 _ ae];omega
      rw[kP]at HE;have f14:=hf 14;have f16:=hf 16;have f17:=hf 17;have HUP:=ag (λ(W:World) (hW:Below w.heap.size w W)=>H.out.AQ (w':=W) (W2:=((W.setCell ⟨a,14,none⟩ (.int .i64 (d1:Int))).setCell ⟨a,16,none⟩ (.int .u64 (y:Int))).setCell ⟨a,17,none⟩ (.int .u64 (8*(lk:Int)))) (D':={D with depth:=d1,last:=y,aD:=lk}) (rd':=rd) hW ((((Ch.refl _ _).bj _ _).bj _ _).bj _ _) (λhx=>((hx.set 14 _).set 16 _).set 17 _));have HNV:=ag (λW=>HNY.out W y ae hyN);clear HNY wT kP hf;go_upto_region 8 with(fail)
      go_quiet (fail)
      go_upto_region 5 with(fail)
      obtain⟨h2,cz⟩:=HUP.out (yc.w.drewN nq) aC;obtain⟨W5,Q7⟩:=aH ((((yc.w.drewN nq).setCell ⟨a,14,none⟩ (.int .i64 (d1:Int))).setCell ⟨a,16,none⟩ (.int .u64 (y:Int))).setCell ⟨a,17,none⟩ (.int .u64 (8*(lk:Int))));rw[Q7]at h2 cz |-;clear Q7;have HL:=ag (h2.kD 5 y 2 ae hyN ae);rw[show((5:Nat):Int)=5 from rfl]at HL;have dh:=ag cz;have y0:=h2.hc.eQ.c0;have yl:=h2.hc.lt;obtain⟨z0,z1,z2,_,_,_,zl⟩:=h2.hq.tac;clear h2 cz HUP c0 fZ fO iR jh jM q0 q1 q2 hl ql f14 f16 f17
      go_wp2_with (first
       |(go_at_call 61;(with_reducible refine(HNV.out _).mono ?_);rintro e w3 ⟨rfl,hb⟩;obtain⟨yy,rfl⟩:=aE hb;clear hb)
       |(go_at_call 107;(with_reducible refine(HL.out _ aC).mono ?_);rintro e w3 ⟨rfl,h3⟩;have H3:=ag h3;clear h3))
      first|go_end0|(refine bH (v:= .tuple #[]) (by simp[results,results148,go_sem]) rfl ?_)
      rw[<-HE.out];exact⟨rfl,H3.out.trans dh.out⟩
end
section
variable{κ dL:Nat->Nat}{r p d q a n NN lines:Nat}{t:Nat->Nat}{w w' W2 w3:World}{m m':TM}{bs:Nat->Option Nat}{σ σ':PwS}{D D':TD}{rd rd':Option Nat}{nx:TO}
theorem TE(h:dt κ r p d q a n NN lines t w σ m bs D rd)(hs:D.aa=5)(h1:1<=D.last)(h2:D.last<=NN)(x:Nat)(raw:Int)(b8:raw%1099511627776=(x:Int)):
 Calls prog 118 #[.pointer (some ⟨a,0,none⟩), .int .u64 (x:Int)] w λe w'=>e= .returned (.tuple #[])/\mv κ r p d q a n NN lines t w bs σ m (tLoad (aF NN) m.c D raw) w':=by
 have lQ:tLoad (aF NN) m.c D raw= .read {D with aa:=6,aN:=x} ((aF NN).nd D.last 3):=by
  unfold tLoad;simp only[hs,b8,Int.toNat_natCast]
 rw[lQ];have hC:Ch (At a) w (w.setCell ⟨a,18,none⟩ (.int .u64 (x:Int))):=(Ch.refl _ _).bj _ _;obtain⟨h3,cz⟩:=h.AQ (D':={D with aN:=x}) (rd':=rd) (bZ _ _) hC (λhx=>hx.set 18 _);obtain⟨c0,c1,c2,c3,c4,c5,c6,c7,c8,c9,gj,fD,fZ,fW,fO,dC,iR,jh,jM,jL,jK,iD,jJ,jI,jH,gN,jG,iC,iB,hl,hf⟩:=h.hc.eQ;have ff:=hf 18;rw[hs,show((5:Nat):Int)=5 from rfl]at c8;have k0:=h3.hc.eQ.c0;have I2:=h3.hc.eQ.iR;have I1:=h3.hc.eQ.iD;have ju:=h3.hc.lt;obtain⟨q0,q1,q2,q3,q4,q5,ql⟩:=h3.hq.tac;have MQ:=h.n3;have dh:=ag cz;have HL:=ag (h3.kD 6 D.last 3 h1 h2 ae);have HN:=ag (λ(W:World)=>dI W D.last 3 NN h1 ae ae);unfold uo at HN;rw[show((3:Nat):Int)=3 from rfl]at HN;rw[show((6:Nat):Int)=6 from rfl]at HL;clear h h3 hC cz hf q3 q4 q5 lQ hs b8 c1 c2 c3 c4 c5 c6 c7 c9 gj fD fZ fW fO dC jh gN jG iC iB;obtain⟨W2,eM⟩:=aH (w.setCell ⟨a,18,none⟩ (.int .u64 (x:Int)));rw[eM]at dh k0 I2 I1 ju q0 q1 q2 ql HL;go_enter func118,ntmps118
 go_upto_region 3 with(fail)
 try rw[eM]
 clear eM c0 c8 iR jM jL jK iD jJ jI jH ff hl;refine aL 13 krQ krQ ?_;simp only[List.take_succ_cons,List.take_zero,jm,iq];repeat(go_big_quiet_step (first|(go_at_call 61;exact bK (HN.out _))))
 refine cE ?_;rintro _ ⟨v2,rfl⟩;go_wp2_with (go_at_call 107;(with_reducible refine(HL.out _ aC).mono ?_);rintro e w3 ⟨rfl,h3⟩;have H3:=ag h3;clear h3)
 first|go_end0|(refine bH (v:= .tuple #[]) (by simp[results,results118,go_sem]) rfl ?_)
 exact⟨rfl,H3.out.trans dh.out⟩
theorem TA(h:dt κ r p d q a n NN lines t w σ m bs D rd)(hs:D.aa=7)(h1:1<=D.last)(h2:D.last<=NN)(x:Nat)(raw:Int)(b8:raw%1099511627776=(x:Int)):
 Calls prog 118 #[.pointer (some ⟨a,0,none⟩), .int .u64 (x:Int)] w λe w'=>e= .returned (.tuple #[])/\mv κ r p d q a n NN lines t w bs σ m (tLoad (aF NN) m.c D raw) w':=by
 have lQ:tLoad (aF NN) m.c D raw= .read {D with aa:=8,dB:=(x:Int)} ((aF NN).nd D.last 1):=by
  unfold tLoad;simp only[hs,b8,Int.toNat_natCast]
 rw[lQ];have hC:Ch (At a) w (w.setCell ⟨a,19,none⟩ (.int .u64 (x:Int))):=(Ch.refl _ _).bj _ _;obtain⟨h3,cz⟩:=h.AQ (D':={D with dB:=(x:Int)}) (rd':=rd) (bZ _ _) hC (λhx=>hx.set 19 _);obtain⟨c0,c1,c2,c3,c4,c5,c6,c7,c8,c9,gj,fD,fZ,fW,fO,dC,iR,jh,jM,jL,jK,iD,jJ,jI,jH,gN,jG,iC,iB,hl,hf⟩:=h.hc.eQ;have ff:=hf 19;rw[hs,show((7:Nat):Int)=7 from rfl]at c8;have k0:=h3.hc.eQ.c0;have I2:=h3.hc.eQ.iR;have I1:=h3.hc.eQ.iD;have ju:=h3.hc.lt;obtain⟨q0,q1,q2,q3,q4,q5,ql⟩:=h3.hq.tac;have MQ:=h.n3;have dh:=ag cz;have HL:=ag (h3.kD 8 D.last 1 h1 h2 ae);have HN:=ag (λ(W:World)=>dI W D.last 1 NN h1 ae ae);unfold uo at HN;rw[show((1:Nat):Int)=1 from rfl]at HN;rw[show((8:Nat):Int)=8 from rfl]at HL;clear h h3 hC cz hf q3 q4 q5 lQ hs b8 c1 c2 c3 c4 c5 c6 c7 c9 gj fD fZ fW fO dC jh gN jG iC iB;obtain⟨W2,eM⟩:=aH (w.setCell ⟨a,19,none⟩ (.int .u64 (x:Int)));rw[eM]at dh k0 I2 I1 ju q0 q1 q2 ql HL;go_enter func118,ntmps118
 go_upto_region 8 with(fail)
 try rw[eM]
 clear eM c0 c8 iR jM jL jK iD jJ jI jH ff hl;refine aL 13 krQ krQ ?_;simp only[List.take_succ_cons,List.take_zero,jm,iq];repeat(go_big_quiet_step (first|(go_at_call 61;exact bK (HN.out _))))
 refine cE ?_;rintro _ ⟨v2,rfl⟩;go_wp2_with (go_at_call 107;(with_reducible refine(HL.out _ aC).mono ?_);rintro e w3 ⟨rfl,h3⟩;have H3:=ag h3;clear h3)
 first|go_end0|(refine bH (v:= .tuple #[]) (by simp[results,results118,go_sem]) rfl ?_)
 exact⟨rfl,H3.out.trans dh.out⟩
theorem OI(h:dt κ r p d q a n NN lines t w σ m bs D rd)(hs:D.aa=10)(h1:1<=D.free)(h2:D.free<=NN)(x:Nat)(raw:Int)(b8:raw%1099511627776=(x:Int)):
 Calls prog 118 #[.pointer (some ⟨a,0,none⟩), .int .u64 (x:Int)] w λe w'=>e= .returned (.tuple #[])/\mv κ r p d q a n NN lines t w bs σ m (tLoad (aF NN) m.c D raw) w':=by
 have lQ:tLoad (aF NN) m.c D raw= .read {D with aa:=11,cN:=x} ((aF NN).nd D.free 0):=by
  unfold tLoad;simp only[hs,b8,Int.toNat_natCast]
 rw[lQ];have hC:Ch (At a) w (w.setCell ⟨a,22,none⟩ (.int .u64 (x:Int))):=(Ch.refl _ _).bj _ _;obtain⟨h3,cz⟩:=h.AQ (D':={D with cN:=x}) (rd':=rd) (bZ _ _) hC (λhx=>hx.set 22 _);obtain⟨c0,c1,c2,c3,c4,c5,c6,c7,c8,c9,gj,fD,fZ,fW,fO,dC,iR,jh,jM,jL,jK,iD,jJ,jI,jH,gN,jG,iC,iB,hl,hf⟩:=h.hc.eQ;have ff:=hf 22;rw[hs,show((10:Nat):Int)=10 from rfl]at c8;have k0:=h3.hc.eQ.c0;have I2:=h3.hc.eQ.iR;have I1:=h3.hc.eQ.iD;have ju:=h3.hc.lt;obtain⟨q0,q1,q2,q3,q4,q5,ql⟩:=h3.hq.tac;have MQ:=h.n3;have dh:=ag cz;have HL:=ag (h3.kD 11 D.free 0 h1 h2 ae);have HN:=ag (λ(W:World)=>dI W D.free 0 NN h1 ae ae);unfold uo at HN;rw[show((0:Nat):Int)=0 from rfl]at HN;rw[show((11:Nat):Int)=11 from rfl]at HL;clear h h3 hC cz hf q3 q4 q5 lQ hs b8 c1 c2 c3 c4 c5 c6 c7 c9 gj fD fZ fW fO dC jh gN jG iC iB;obtain⟨W2,eM⟩:=aH (w.setCell ⟨a,22,none⟩ (.int .u64 (x:Int)));rw[eM]at dh k0 I2 I1 ju q0 q1 q2 ql HL;go_enter func118,ntmps118
 go_upto_region 16 with(fail)
 try rw[eM]
 clear eM c0 c8 iR jM jL jK iD jJ jI jH ff hl;refine aL 13 krQ krQ ?_;simp only[List.take_succ_cons,List.take_zero,jm,iq];repeat(go_big_quiet_step (first|(go_at_call 61;exact bK (HN.out _))))
 refine cE ?_;rintro _ ⟨v2,rfl⟩;go_wp2_with (go_at_call 107;(with_reducible refine(HL.out _ aC).mono ?_);rintro e w3 ⟨rfl,h3⟩;have H3:=ag h3;clear h3)
 first|go_end0|(refine bH (v:= .tuple #[]) (by simp[results,results118,go_sem]) rfl ?_)
 exact⟨rfl,H3.out.trans dh.out⟩
theorem OH(h:dt κ r p d q a n NN lines t w σ m bs D rd)(hs:D.aa=11)(h1:1<=D.free)(h2:D.free<=NN)(x:Nat)(raw:Int)(b8:raw%1099511627776=(x:Int)):
 Calls prog 118 #[.pointer (some ⟨a,0,none⟩), .int .u64 (x:Int)] w λe w'=>e= .returned (.tuple #[])/\mv κ r p d q a n NN lines t w bs σ m (tLoad (aF NN) m.c D raw) w':=by
 have lQ:tLoad (aF NN) m.c D raw= .read {D with aa:=12,fy:=(x:Int)} ((aF NN).nd D.free 1):=by
  unfold tLoad;simp only[hs,b8,Int.toNat_natCast]
 rw[lQ];have hC:Ch (At a) w (w.setCell ⟨a,23,none⟩ (.int .u64 (x:Int))):=(Ch.refl _ _).bj _ _;obtain⟨h3,cz⟩:=h.AQ (D':={D with fy:=(x:Int)}) (rd':=rd) (bZ _ _) hC (λhx=>hx.set 23 _);obtain⟨c0,c1,c2,c3,c4,c5,c6,c7,c8,c9,gj,fD,fZ,fW,fO,dC,iR,jh,jM,jL,jK,iD,jJ,jI,jH,gN,jG,iC,iB,hl,hf⟩:=h.hc.eQ;have ff:=hf 23;rw[hs,show((11:Nat):Int)=11 from rfl]at c8;have k0:=h3.hc.eQ.c0;have I2:=h3.hc.eQ.iR;have I1:=h3.hc.eQ.iD;have ju:=h3.hc.lt;obtain⟨q0,q1,q2,q3,q4,q5,ql⟩:=h3.hq.tac;have MQ:=h.n3;have dh:=ag cz;have HL:=ag (h3.kD 12 D.free 1 h1 h2 ae);have HN:=ag (λ(W:World)=>dI W D.free 1 NN h1 ae ae);unfold uo at HN;rw[show((1:Nat):Int)=1 from rfl]at HN;rw[show((12:Nat):Int)=12 from rfl]at HL;clear h h3 hC cz hf q3 q4 q5 lQ hs b8 c1 c2 c3 c4 c5 c6 c7 c9 gj fD fZ fW fO dC jh gN jG iC iB;obtain⟨W2,eM⟩:=aH (w.setCell ⟨a,23,none⟩ (.int .u64 (x:Int)));rw[eM]at dh k0 I2 I1 ju q0 q1 q2 ql HL;go_enter func118,ntmps118
 go_upto_region 19 with(fail)
 try rw[eM]
 clear eM c0 c8 iR jM jL jK iD jJ jI jH ff hl;refine aL 13 krQ krQ ?_;simp only[List.take_succ_cons,List.take_zero,jm,iq];repeat(go_big_quiet_step (first|(go_at_call 61;exact bK (HN.out _))))
 refine cE ?_;rintro _ ⟨v2,rfl⟩;go_wp2_with (go_at_call 107;(with_reducible refine(HL.out _ aC).mono ?_);rintro e w3 ⟨rfl,h3⟩;have H3:=ag h3;clear h3)
 first|go_end0|(refine bH (v:= .tuple #[]) (by simp[results,results118,go_sem]) rfl ?_)
 exact⟨rfl,H3.out.trans dh.out⟩
end
section
variable{κ dL:Nat->Nat}{r p d q a n NN lines:Nat}{t:Nat->Nat}{w w' W2 w3:World}{m m':TM}{bs:Nat->Option Nat}{σ σ':PwS}{D D':TD}{rd rd':Option Nat}{nx:TO}
theorem Tz(h:dt κ r p d q a n NN lines t w σ m bs D rd)(hs:D.aa=8)(x:Nat)(raw:Int)(b8:raw%1099511627776=(x:Int)):
 Calls prog 118 #[.pointer (some ⟨a,0,none⟩), .int .u64 (x:Int)] w λe w'=>e= .returned (.tuple #[])/\mv κ r p d q a n NN lines t w bs σ m (tLoad (aF NN) m.c D raw) w':=by
 have lQ:tLoad (aF NN) m.c D raw= .read {D with aa:=9,cF:=(x:Int)} (aF NN).fr:=by
  unfold tLoad;simp only[hs,b8,Int.toNat_natCast]
 rw[lQ];have hC:Ch (At a) w (w.setCell ⟨a,20,none⟩ (.int .u64 (x:Int))):=(Ch.refl _ _).bj _ _;obtain⟨h3,cz⟩:=h.AQ (D':={D with cF:=(x:Int)}) (rd':=rd) (bZ _ _) hC (λhx=>hx.set 20 _);obtain⟨c0,c1,c2,c3,c4,c5,c6,c7,c8,c9,gj,fD,fZ,fW,fO,dC,iR,jh,jM,jL,jK,iD,jJ,jI,jH,gN,jG,iC,iB,hl,hf⟩:=h.hc.eQ;have ff:=hf 20;rw[hs,show((8:Nat):Int)=8 from rfl]at c8;have k0:=h3.hc.eQ.c0;have ju:=h3.hc.lt;obtain⟨q0,q1,q2,q3,q4,q5,ql⟩:=h3.hq.tac;have dh:=ag cz;have HL:=ag (h3.Jw 9);rw[show((9:Nat):Int)=9 from rfl]at HL;clear h h3 hC cz hf q3 q4 q5 lQ hs b8 c1 c2 c3 c4 c5 c6 c7 c9 gj fD fZ fW fO dC jh gN jG iC iB;obtain⟨W2,eM⟩:=aH (w.setCell ⟨a,20,none⟩ (.int .u64 (x:Int)));rw[eM]at dh k0 ju q0 q1 q2 ql HL;go_enter func118,ntmps118
 go_upto_region 11 with(fail)
 try rw[eM]
 clear eM c0 c8 iR jM jL jK iD jJ jI jH ff hl;go_wp2_with (go_at_call 107;(with_reducible refine(HL.out _ aC).mono ?_);rintro e w3 ⟨rfl,h3⟩;have H3:=ag h3;clear h3)
 first|go_end0|(refine bH (v:= .tuple #[]) (by simp[results,results118,go_sem]) rfl ?_)
 exact⟨rfl,H3.out.trans dh.out⟩
theorem OG(h:dt κ r p d q a n NN lines t w σ m bs D rd)(hR:my (aF NN) m.c D)(hs:D.aa=12)(x:Nat)(raw:Int)(b8:raw%1099511627776=(x:Int)):
 Calls prog 118 #[.pointer (some ⟨a,0,none⟩), .int .u64 (x:Int)] w λe w'=>e= .returned (.tuple #[])/\mv κ r p d q a n NN lines t w bs σ m (tLoad (aF NN) m.c D raw) w':=by
 have lQ:tLoad (aF NN) m.c D raw=fF (aF NN) m.c {D with bI:=(x:Int)} 0 (dg (aF NN) m.c {D with bI:=(x:Int)}):=by
  unfold tLoad;simp only[hs,b8]
 rw[lQ];obtain⟨Em,iy⟩:=hR.f1 ae;have vO:=hR.b ae;have Q8:BA (aF NN) m.c {D with bI:=(x:Int)}:=⟨vO.raw,vO.node,vO.last,vO.free,vO.zero,vO.next,vO.link,⟨vO.fQ.1,vO.fQ.2.1,vO.fQ.2.2.1,vO.fQ.2.2.2.1,(show KR (x:Int) by unfold KR;omega)⟩,vO.dp⟩;have hC:Ch (At a) w (w.setCell ⟨a,24,none⟩ (.int .u64 (x:Int))):=(Ch.refl _ _).bj _ _;obtain⟨h3,cz⟩:=h.AQ (D':={D with bI:=(x:Int)}) (rd':=rd) (bZ _ _) hC (λhx=>hx.set 24 _);obtain⟨c0,c1,c2,c3,c4,c5,c6,c7,c8,c9,gj,fD,fZ,fW,fO,dC,iR,jh,jM,jL,jK,iD,jJ,jI,jH,gN,jG,iC,iB,hl,hf⟩:=h.hc.eQ;have ff:=hf 24;rw[hs,show((12:Nat):Int)=12 from rfl]at c8;have dh:=ag cz;have HL:=ag (LX h3 Q8 Em iy);clear h h3 hC cz hf lQ hs b8 c1 c2 c3 c4 c5 c6 c7 c9 gj fD fZ fW fO dC jh gN jG iC iB hR vO Q8 Em iy;obtain⟨W2,eM⟩:=aH (w.setCell ⟨a,24,none⟩ (.int .u64 (x:Int)));rw[eM]at dh HL;go_enter func118,ntmps118
 go_upto_region 22 with(fail)
 try rw[eM]
 clear eM c0 c8 iR jM jL jK iD jJ jI jH ff hl;go_wp2_with (go_at_call 150;(with_reducible refine HL.out.mono ?_);rintro e w3 ⟨rfl,h3⟩;have H3:=ag h3;clear h3)
 first|go_end0|(refine bH (v:= .tuple #[]) (by simp[results,results118,go_sem]) rfl ?_)
 exact⟨rfl,H3.out.trans dh.out⟩
def H8(K:TK)(c:TC)(d:TD)(n:Nat):TO:=ni K c d n
def yo(K:TK)(c:TC)(d:TD)(n:Nat):TO:=O1 K c d n
theorem TB(h:dt κ r p d q a n NN lines t w σ m bs D rd)(hR:my (aF NN) m.c D)(hs:D.aa=6)(x:Nat)(raw:Int)(b8:raw%1099511627776=(x:Int))(hx:x<=NN):
 Calls prog 118 #[.pointer (some ⟨a,0,none⟩), .int .u64 (x:Int)] w λe w'=>e= .returned (.tuple #[])/\mv κ r p d q a n NN lines t w bs σ m (tLoad (aF NN) m.c D raw) w':=by
 have jB:D.aa=6->1<=D.last:=λh6=>(hR.oJ ae).2.1
 have fC:m.c.kind=2->D.aa=9->1<=D.last/\1<=D.node/\(D.aD=(aF NN).rt m.c\/∃n j,1<=n/\n<=(aF NN).NN/\(j=2\/j=3)/\D.aD=(aF NN).nd n j):=λhk h9=>by
  obtain⟨g1,g2,g3⟩:=hR.oJ (.inr (.inr (.inr (.inr ⟨h9,hk⟩))));exact⟨g2,g3,g1⟩
 have HL:Hid (Calls prog 148 #[.pointer (some ⟨a,0,none⟩), .int .u64 (x:Int)] w λe w'=>e= .returned (.tuple #[])/\mv κ r p d q a n NN lines t w bs σ m (tLoad (aF NN) m.c D raw) w'):=by
  have lQ:tLoad (aF NN) m.c D raw=H8 (aF NN) m.c D x:=by
   unfold tLoad;simp only[hs,b8,Int.toNat_natCast];first|rfl|(unfold yo O1;rw[ax (by show¬NN<x;omega)];simp only[hs])
  rw[lQ];have jB:6=6->1<=D.last:=λh6=>jB (hs.trans h6)
  have fC:6=9->m.c.kind=2->1<=D.last/\1<=D.node/\(D.aD=(aF NN).rt m.c\/∃n j,1<=n/\n<=(aF NN).NN/\(j=2\/j=3)/\D.aD=(aF NN).nd n j):=λh9 hk=>fC hk (hs.trans h9)
  first|exact yp h (hR.b ae) (jB rfl) x hx|exact EI h (hR.b ae) x hx (fC rfl)
 obtain⟨c0,c1,c2,c3,c4,c5,c6,c7,c8,c9,gj,fD,fZ,fW,fO,dC,iR,jh,jM,jL,jK,iD,jJ,jI,jH,gN,jG,iC,iB,hl,hf⟩:=h.hc.eQ;rw[hs,show((6:Nat):Int)=6 from rfl]at c8;clear h hf hs b8 c1 c2 c3 c4 c5 c6 c7 c9 gj fD fZ fW fO dC jh gN jG iC iB hR jB fC;go_enter func118,ntmps118
 go_wp2_with (go_at_call 148;(with_reducible refine HL.out.mono ?_);rintro e w3 ⟨rfl,h3⟩;have H3:=ag h3;clear h3)
 first|go_end0|(refine bH (v:= .tuple #[]) (by simp[results,results118,go_sem]) rfl ?_)
 exact⟨rfl,H3.out⟩
theorem Ty(h:dt κ r p d q a n NN lines t w σ m bs D rd)(hR:my (aF NN) m.c D)(hs:D.aa=9)(x:Nat)(raw:Int)(b8:raw%1099511627776=(x:Int))(hx:x<=NN):
 Calls prog 118 #[.pointer (some ⟨a,0,none⟩), .int .u64 (x:Int)] w λe w'=>e= .returned (.tuple #[])/\mv κ r p d q a n NN lines t w bs σ m (tLoad (aF NN) m.c D raw) w':=by
 have jB:D.aa=6->1<=D.last:=λh6=>(hR.oJ ae).2.1
 have fC:m.c.kind=2->D.aa=9->1<=D.last/\1<=D.node/\(D.aD=(aF NN).rt m.c\/∃n j,1<=n/\n<=(aF NN).NN/\(j=2\/j=3)/\D.aD=(aF NN).nd n j):=λhk h9=>by
  obtain⟨g1,g2,g3⟩:=hR.oJ (.inr (.inr (.inr (.inr ⟨h9,hk⟩))));exact⟨g2,g3,g1⟩
 have HL:Hid (Calls prog 149 #[.pointer (some ⟨a,0,none⟩), .int .u64 (x:Int)] w λe w'=>e= .returned (.tuple #[])/\mv κ r p d q a n NN lines t w bs σ m (tLoad (aF NN) m.c D raw) w'):=by
  have lQ:tLoad (aF NN) m.c D raw=yo (aF NN) m.c D x:=by
   unfold tLoad;simp only[hs,b8,Int.toNat_natCast];first|rfl|(unfold yo O1;rw[ax (by show¬NN<x;omega)];simp only[hs])
  rw[lQ];have jB:9=6->1<=D.last:=λh6=>jB (hs.trans h6)
  have fC:9=9->m.c.kind=2->1<=D.last/\1<=D.node/\(D.aD=(aF NN).rt m.c\/∃n j,1<=n/\n<=(aF NN).NN/\(j=2\/j=3)/\D.aD=(aF NN).nd n j):=λh9 hk=>fC hk (hs.trans h9)
  first|exact yp h (hR.b ae) (jB rfl) x hx|exact EI h (hR.b ae) x hx (fC rfl)
 obtain⟨c0,c1,c2,c3,c4,c5,c6,c7,c8,c9,gj,fD,fZ,fW,fO,dC,iR,jh,jM,jL,jK,iD,jJ,jI,jH,gN,jG,iC,iB,hl,hf⟩:=h.hc.eQ;rw[hs,show((9:Nat):Int)=9 from rfl]at c8;clear h hf hs b8 c1 c2 c3 c4 c5 c6 c7 c9 gj fD fZ fW fO dC jh gN jG iC iB hR jB fC;go_enter func118,ntmps118
 go_wp2_with (go_at_call 149;(with_reducible refine HL.out.mono ?_);rintro e w3 ⟨rfl,h3⟩;have H3:=ag h3;clear h3)
 first|go_end0|(refine bH (v:= .tuple #[]) (by simp[results,results118,go_sem]) rfl ?_)
 exact⟨rfl,H3.out⟩
end
section
variable{K:Nat->Prop}{p d c a line lines:Nat}{t:Nat->Nat}{size:Int}{w w2:World}{σ:PwS}{o oc:aX}{rb:Nat}{pv tv:Value}{r:eP}
theorem X4(w:World)(h:CB w rb 193 (gT pv tv r)):
 Calls prog 117 #[.pointer (some ⟨rb,0,none⟩)] w λx w'=>x= .returned (.int .u64 (if r.ended then r.raw else 0))/\Below w.heap.size w w':=by
 have c5:w.cell? ⟨rb,5,none⟩=some (.bool r.ended):=h.cell 5;have c4:w.cell? ⟨rb,4,none⟩=some (.int .u64 r.raw):=h.cell 4;have hl:=h.lt;clear h;cases he:r.ended with
 |false=>
  rw[he]at c5;go_enter func117,ntmps117
  go_wp2;go_ret;exact⟨rfl,aC⟩
 |true=>
  rw[he]at c5;go_enter func117,ntmps117
  go_wp2;go_ret;exact⟨rfl,aC⟩
end
section
variable{κ dL:Nat->Nat}{r p d q a g n NN lines:Nat}{t:Nat->Nat}{w w' W2 w3:World}{m m':TM}{bs:Nat->Option Nat}{σ σ':PwS}{D D':TD}{rd rd':Option Nat}{nx:TO}
theorem EJ(h:dt κ r p d q a n NN lines t w σ m bs D (some g))(raw:Int)(x:Nat)(b8:raw%1099511627776=(x:Int))(hx:x<=NN)(G3:∀W,Below w.heap.size w W->Calls prog 117 #[.pointer (some ⟨g,0,none⟩)] W λe w'=>e= .returned (.int .u64 raw)/\Below W.heap.size W w'):
 Calls prog 113 #[.pointer (some ⟨a,0,none⟩), .int .u64 (x:Int)] w λe w'=>e= .returned (.tuple #[])/\mv κ r p d q a n NN lines t w bs σ m (dQ (aF NN) m.c D raw) w':=by
 have CT:=ag G3;have H:=ag h;obtain⟨c0,c1,c2,c3,c4,c5,c6,c7,c8,c9,gj,fD,fZ,fW,fO,dC,iR,jh,jM,jL,jK,iD,jJ,jI,jH,gN,jG,iC,iB,hl,hf⟩:=h.hc.eQ;rw[jn]at c9;have f11:=hf 11;have f13:=hf 13;have f14:=hf 14;have f27:=hf 27;clear c0 c1 c2 c3 c4 c5 c6 c8 gj fZ dC iR jh jM jL jK iD jJ jI jH gN jG iB hf G3;obtain⟨rt,mJ⟩:=aH ((aF NN).rt m.c)
 have HUP:Hid (∀W,Below w.heap.size w W->dt κ r p d q a n NN lines t ((((W.setCell ⟨a,11,none⟩ (.int .u64 raw)).setCell ⟨a,13,none⟩ (.int .u64 (8*(rt:Int)))).setCell ⟨a,14,none⟩ (.int .i64 0)).setCell ⟨a,27,none⟩ (.int .i64 0)) σ m bs {D with raw:=raw,link:=rt,depth:=0,err:=0} (some g)/\Ch (λb=>κ b=0\/κ b=r\/κ b=2) w ((((W.setCell ⟨a,11,none⟩ (.int .u64 raw)).setCell ⟨a,13,none⟩ (.int .u64 (8*(rt:Int)))).setCell ⟨a,14,none⟩ (.int .i64 0)).setCell ⟨a,27,none⟩ (.int .i64 0))):=λW hW=>
  H.out.AQ hW (((((Ch.refl _ _).bj _ _).bj _ _).bj _ _).bj _ _) (λhx=>(((hx.set 11 _).set 13 _).set 14 _).set 27 _)
 unfold dQ;rw[b8,Int.toNat_natCast,mJ];rw[mJ]at c7;clear h b8 mJ;go_enter func113,ntmps113
 go_wp2;go_region_with (go_at_call 117;(with_reducible refine(CT.out _ aC).mono ?_);rintro e w1 ⟨rfl,hb⟩;obtain⟨y,rfl⟩:=aE hb;clear hb)
 all_goals
  obtain⟨h2,cz⟩:=HUP.out y.w aC;have HL:=ag (EG h2 x hx);have dh:=ag cz;have ju:=h2.hc.lt;clear h2 cz;go_wp2_with (go_at_call 115;(with_reducible refine HL.out.mono ?_);rintro e w3 ⟨rfl,h3⟩;have H3:=ag h3;clear h3)
  go_end0
  exact⟨rfl,H3.out.trans dh.out⟩
end
theorem Vk(v:Int)(hv:0<=v/\v<18446744073709551616)(j:Nat):(bits .and .u64 (v/2^j) 1==1)=v.toNat.testBit j:=by
 obtain⟨x,rfl⟩:=vr hv.1;have e1:((x:Nat):Int)/2^j=((x/2^j:Nat):Int):=by push_cast;rfl
 have aM:x/2^j<18446744073709551616:=KM (Pt _ _) ae;have h1:=bits_and_u64_nat (x/2^j) 1 aM ae;rw[nat_mask1]at h1;rw[e1];rw[show((1:Nat):Int)=1 from rfl]at h1;rw[h1,Int.toNat_natCast,Nat.testBit_eq_decide_div_mod_eq];by_cases h:x/2^j%2=1
 . simp[h]
 . simp[h];omega
section
variable{κ dL:Nat->Nat}{r p d q a n NN lines:Nat}{t:Nat->Nat}{w w' W2 w3:World}{m m':TM}{bs:Nat->Option Nat}{σ σ':PwS}{D D':TD}{rd rd':Option Nat}{nx:TO}
theorem H9(h:dt κ r p d q a n NN lines t w σ m bs D rd)(hs:D.aa=2)(h1:1<=D.node)(h2:D.node<=NN)(hdp:D.depth<=64)(x:Nat)(raw:Int)(b8:raw%1099511627776=(x:Int)):
 Calls prog 114 #[.pointer (some ⟨a,0,none⟩), .int .u64 (x:Int)] w λe w'=>e= .returned (.tuple #[])/\mv κ r p d q a n NN lines t w bs σ m (tLoad (aF NN) m.c D raw) w':=by
 have H:=ag h;obtain⟨c0,c1,c2,c3,c4,c5,c6,c7,c8,c9,gj,fD,fZ,fW,fO,dC,iR,jh,jM,jL,jK,iD,jJ,jI,jH,gN,jG,iC,iB,hl,hf⟩:=h.hc.eQ;obtain⟨q0,q1,q2,q3,q4,q5,ql⟩:=h.hq.tac;have f13:=hf 13;have MQ:=h.n3;have jQ:=ag (λ(W:World) (j:Nat) (hj:j<4)=>dI W D.node j NN h1 ae hj)
 have lQ:tLoad (aF NN) m.c D raw=if(x:Int)=m.c.key then .read {D with aa:=4} ((aF NN).nd D.node 1)else if 64<=D.depth then jl (aF NN) m.c D else
  .read {D with aa:=3,link:=(aF NN).nd D.node (if((aF NN).hs m.c.key).testBit D.depth then 3 else 2)} ((aF NN).nd D.node (if((aF NN).hs m.c.key).testBit D.depth then 3 else 2)):=by
  unfold tLoad;simp only[hs,b8]
 rw[lQ];obtain⟨jj,hjj⟩:∃jj:Nat,(if((aF NN).hs m.c.key).testBit D.depth=true then 3 else 2)=jj:=⟨_,rfl⟩;rw[hjj];have HJJ:=ag hjj;clear hjj;unfold uo at jQ;clear c1 c2 c4 c5 c7 c8 c9 gj fD dC iR jh jM jL jK iD jJ jI jH gN jG iC iB hf h q3 q4 q5 lQ;by_cases hk:(x:Int)=m.c.key
 . rw[aA hk]
   rw[hk];have HL:=ag (H.out.kD 4 D.node 1 h1 h2 ae);have HN:=ag (λW=>jQ.out W 1 ae);rw[show((1:Nat):Int)=1 from rfl]at HN;rw[show((4:Nat):Int)=4 from rfl]at HL;clear jQ b8 hk;go_enter func114,ntmps114
   go_wp2;refine aL 13 krQ krQ ?_;simp only[List.take_succ_cons,List.take_zero,jm,iq];repeat(go_big_quiet_step (first|(go_at_call 61;exact bK (HN.out _))))
   refine cE ?_;rintro _ ⟨v,rfl⟩;go_wp2_with (go_at_call 107;(with_reducible refine(HL.out _ aC).mono ?_);rintro e w3 ⟨rfl,h3⟩;have H3:=ag h3;clear h3)
   refine bH (v:= .tuple #[]) (by simp[results,results114,go_sem]) rfl ?_;exact⟨rfl,H3.out⟩
 . rw[ax hk]
   have HK:=ag hk;have hk:((x:Int)==m.c.key)=false:=by simpa using hk
   by_cases wT:64<=D.depth
   . rw[aA wT]
     have ZS:(64:Int)<=(D.depth:Int):=by omega
     have HL:=ag (pF H.out);clear jQ;go_enter func114,ntmps114
     go_wp2_with (go_at_call 77;(with_reducible refine HL.out.mono ?_);rintro e w3 ⟨rfl,h3⟩;have H3:=ag h3;clear h3)
     refine bH (v:= .tuple #[]) (by simp[results,results114,go_sem]) rfl ?_;exact⟨rfl,H3.out⟩
   . rw[ax wT]
     have ZS:¬(64:Int)<=(D.depth:Int):=by omega
     have HN:=ag (λW=>jQ.out W 2 ae);rw[show((2:Nat):Int)=2 from rfl]at HN
     have o6:∀W,Below w.heap.size w W->dt κ r p d q a n NN lines t (W.setCell ⟨a,13,none⟩ (.int .u64 (8*((aQ 256 8 D.node 2:Nat):Int)))) σ m bs {D with link:=aQ 256 8 D.node 2} rd/\Ch (λb=>κ b=0\/κ b=r\/κ b=2) w (W.setCell ⟨a,13,none⟩ (.int .u64 (8*((aQ 256 8 D.node 2:Nat):Int)))):=λW hW=>
      H.out.AQ hW ((Ch.refl _ _).bj _ _) (λhx=>hx.set 13 _)
     have LH:=ag o6;clear o6;go_enter func114,ntmps114
     go_upto_region 4 with(fail)
     refine aL 15 krQ krQ ?_;simp only[List.take_succ_cons,List.take_zero,jm,iq];repeat(go_big_quiet_step (first|(go_at_call 61;exact bK (HN.out _))))
     refine cE ?_;rintro _ ⟨v,rfl⟩;clear c0 c3 c6 fZ fO q0 q1 q2;obtain⟨Ju,cz⟩:=LH.out v.w v.below;obtain⟨bt,NZ⟩:=aH (((aF NN).hs m.c.key).testBit D.depth)
     have WY:(bits .and .u64 (((cr m.c.key:Nat):Int)/2^D.depth) 1==1)=bt:=by
      rw[Vk _ ⟨by omega,by have:=qW m.c.key;omega⟩,Int.toNat_natCast];exact NZ
     obtain⟨W2,eM⟩:=aH (v.w.setCell ⟨a,13,none⟩ (.int .u64 (8*((aQ 256 8 D.node 2:Nat):Int))));go_upto_region 5 with(fail)
     try rw[eM]
     rw[eM]at Ju cz;clear eM fW f13 hl ql;obtain⟨c0,_,_,_,_,_,c6,_,_,_,_,_,fZ,fW,fO,_,_,_,_,_,_,_,_,_,_,_,_,_,_,hl,hf⟩:=Ju.hc.eQ;obtain⟨q0,q1,q2,q3,q4,q5,ql⟩:=Ju.hq.tac;have f13:=hf 13;have H2:=ag Ju;have dh:=ag cz;clear Ju cz hf q3 q4 q5 HN LH;have HL:=ag (H2.out.kD 3 D.node (if bt=true then 3 else 2) h1 h2 (by split<;>omega))
     rw[show((3:Nat):Int)=3 from rfl]at HL;have HN:=ag (λW=>jQ.out W 3 ae);rw[show((3:Nat):Int)=3 from rfl]at HN;have HBT:=ag NZ;clear NZ jQ;cases bt with
     |false=>
      rw[ax smQ]at HL;go_quiet (fail)
      go_wp2_with (go_at_call 107;(with_reducible refine(HL.out _ aC).mono ?_);rintro e w3 ⟨rfl,h3⟩;have H3:=ag h3;clear h3)
      go_end0
      have e9:=HJJ.out;rw[HBT.out,ax smQ]at e9;rw[<-e9];exact⟨rfl,H3.out.trans dh.out⟩
     |true=>
      rw[aA rfl]at HL
      have Re:∀W,Below W2.heap.size W2 W->dt κ r p d q a n NN lines t (W.setCell ⟨a,13,none⟩ (.int .u64 (8*((aQ 256 8 D.node 3:Nat):Int)))) σ m bs {D with link:=aQ 256 8 D.node 3} rd/\Ch (λb=>κ b=0\/κ b=r\/κ b=2) W2 (W.setCell ⟨a,13,none⟩ (.int .u64 (8*((aQ 256 8 D.node 3:Nat):Int)))):=λW hW=>
       H2.out.AQ hW ((Ch.refl _ _).bj _ _) (λhx=>hx.set 13 _)
      have XH:=ag Re;clear Re HL;go_quiet (fail)
      go_upto_region 6 with(fail)
      refine aL 15 krQ krQ ?_;simp only[List.take_succ_cons,List.take_zero,jm,iq];repeat(go_big_quiet_step (first|(go_at_call 61;exact bK (HN.out _))))
      refine cE ?_;rintro _ ⟨v2,rfl⟩;obtain⟨h4,Gg⟩:=XH.out v2.w aC;have HL:=ag (h4.kD 3 D.node 3 h1 h2 ae);rw[show((3:Nat):Int)=3 from rfl]at HL;have eW:=ag Gg;have k0:=h4.hc.eQ.c0;have k13:=h4.hc.eQ.fW;have Bk:=h4.hc.lt;clear h4 Gg XH c0 c6 fZ fO q0 q1 q2 ql;obtain⟨W4,M8⟩:=aH (v2.w.setCell ⟨a,13,none⟩ (.int .u64 (8*((aQ 256 8 D.node 3:Nat):Int))));rw[M8]at HL eW k0 k13 Bk;go_upto_region 7 with(fail)
      try rw[M8]
      clear M8 fW f13 hl;go_wp2_with (go_at_call 107;(with_reducible refine(HL.out _ aC).mono ?_);rintro e w3 ⟨rfl,h3⟩;have H3:=ag h3;clear h3)
      go_end0
      have e9:=HJJ.out;rw[HBT.out,aA rfl]at e9;rw[<-e9];exact⟨rfl,H3.out.trans (dh.out.trans eW.out (λb hb _=>hb))⟩
end
section
variable{κ dL:Nat->Nat}{r p d q a g n NN lines:Nat}{t:Nat->Nat}{w w' W2 w3:World}{m m':TM}{bs:Nat->Option Nat}{σ σ':PwS}{D D':TD}{rd rd':Option Nat}{nx:TO}
abbrev LdK(κ:Nat->Nat)(r p d q a n NN lines:Nat)(t:Nat->Nat)(w:World)(bs:Nat->Option Nat)(σ:PwS)(m:TM)(nx:TO)(D:TD)(x:Nat):Prop:=
 ∀W,Below w.heap.size w W->
  (D.aa=1->Calls prog 113 #[.pointer (some ⟨a,0,none⟩), .int .u64 (x:Int)] W λe w'=>e= .returned (.tuple #[])/\mv κ r p d q a n NN lines t w bs σ m nx w')/\
  (D.aa=2->Calls prog 114 #[.pointer (some ⟨a,0,none⟩), .int .u64 (x:Int)] W λe w'=>e= .returned (.tuple #[])/\mv κ r p d q a n NN lines t w bs σ m nx w')/\
  (5<=D.aa/\D.aa<=12->Calls prog 118 #[.pointer (some ⟨a,0,none⟩), .int .u64 (x:Int)] W λe w'=>e= .returned (.tuple #[])/\mv κ r p d q a n NN lines t w bs σ m nx w')
theorem n_{f:FuncId}{args:Array Value}(hC:Ch (λb=>κ b=0\/κ b=r\/κ b=2) w W2)(h:Calls prog f args W2 λe w'=>e= .returned (.tuple #[])/\mv κ r p d q a n NN lines t W2 bs σ m nx w'):Calls prog f args W2 λe w'=>e= .returned (.tuple #[])/\mv κ r p d q a n NN lines t w bs σ m nx w':=
 h.mono (λe w' hh=>⟨hh.1,hh.2.trans hC⟩)
theorem ldK(h:dt κ r p d q a n NN lines t w σ m bs D (some g))(hR:my (aF NN) m.c D)(raw:Int)(x:Nat)(b8:raw%1099511627776=(x:Int))(hx:D.aa=1\/D.aa=3\/D.aa=5\/D.aa=6\/D.aa=9\/D.aa=10\/D.aa=13->x<=NN)
 (G3:∀W,Below w.heap.size w W->Calls prog 117 #[.pointer (some ⟨g,0,none⟩)] W λe w'=>e= .returned (.int .u64 raw)/\Below W.heap.size W w'):LdK κ r p d q a n NN lines t w bs σ m (tLoad (aF NN) m.c D raw) D x:=λW hW=>by
 obtain⟨h3,hC⟩:=h.bl hW;have ZcF:∀W',Below W.heap.size W W'->Calls prog 117 #[.pointer (some ⟨g,0,none⟩)] W' λe w'=>e= .returned (.int .u64 raw)/\Below W'.heap.size W' w':=λW' Gb=>G3 W' (hW.trans (Gb.mono hW.size))
 refine⟨λhs=>n_ hC ?_,λhs=>n_ hC ?_,λhs=>n_ hC ?_⟩
 . have:=EJ h3 raw x b8 (hx (.inl hs)) ZcF
   have e:tLoad (aF NN) m.c D raw=dQ (aF NN) m.c D raw:=by unfold tLoad;simp only[hs]
   rw[e];exact this
 . exact H9 h3 hs (hR.n1 (.inl hs)) hR.node hR.dp.1 x raw b8
 . rcases(by omega:D.aa=5\/D.aa=6\/D.aa=7\/D.aa=8\/D.aa=9\/D.aa=10\/D.aa=11\/D.aa=12)with h5|h5|h5|h5|h5|h5|h5|h5
   . exact TE h3 h5 (hR.oJ (.inl h5)).2.1 hR.last x raw b8
   . exact TB h3 hR h5 x raw b8 (hx ae)
   . exact TA h3 h5 (hR.oJ ae).2.1 hR.last x raw b8
   . exact Tz h3 h5 x raw b8
   . exact Ty h3 hR h5 x raw b8 (hx ae)
   . exact OI h3 h5 (hR.f1 ae).1 hR.free x raw b8
   . exact OH h3 h5 (hR.f1 ae).1 hR.free x raw b8
   . exact OG h3 hR h5 x raw b8
theorem LW(h:dt κ r p d q a n NN lines t w σ m bs D (some g))(hR:my (aF NN) m.c D)(raw:Int)(x:Nat)(b8:raw%1099511627776=(x:Int))(hx:D.aa=1\/D.aa=3\/D.aa=5\/D.aa=6\/D.aa=9\/D.aa=10\/D.aa=13->x<=NN)
 (NT:Calls prog 112 #[.pointer (some ⟨g,0,none⟩)] w λe w'=>e= .returned (.tuple #[.int .u64 (x:Int), .int .i64 0])/\Below w.heap.size w w')
 (G3:∀W,Below w.heap.size w W->Calls prog 117 #[.pointer (some ⟨g,0,none⟩)] W λe w'=>e= .returned (.int .u64 raw)/\Below W.heap.size W w'):
 Calls prog 79 #[.pointer (some ⟨a,0,none⟩)] w λe w'=>e= .returned (.tuple #[])/\mv κ r p d q a n NN lines t w bs σ m (tLoad (aF NN) m.c D raw) w':=by
 have tL:=ag (ldK h hR raw x b8 hx G3);have R4:=ag NT;have CT:=ag G3;have H:=ag h;have HR:=ag hR;have VU:=ag b8;have HX:=ag hx;have bh:=hR.st;obtain⟨c0,c1,c2,c3,c4,c5,c6,c7,c8,c9,gj,fD,fZ,fW,fO,dC,iR,jh,jM,jL,jK,iD,jJ,jI,jH,gN,jG,iC,iB,hl,hf⟩:=h.hc.eQ;rw[jn]at c9;obtain⟨nx,fx⟩:=aH (tLoad (aF NN) m.c D raw);rw[fx]at tL |-;have jP:=ag fx;clear fx NT G3 h hR b8 hx c1 c2 c3 c4 c5 c6 c7 gj fZ fW iR jh jM jL jK iD jJ jI jH jG iB;rcases(by omega:D.aa=1\/D.aa=2\/D.aa=3\/D.aa=4\/(5<=D.aa/\D.aa<=12)\/D.aa=13)with hs|hs|hs|hs|hs|hs
 . rw[hs,show((1:Nat):Int)=1 from rfl]at c8
   clear bh hf fD fO dC gN iC;go_enter func79,ntmps79
   go_wp2_with (first
    |(go_at_call 112;refine R4.out.mono ?_;rintro e w1 ⟨rfl,hb⟩;obtain⟨y,rfl⟩:=aE hb;clear hb)
    |(go_at_call 113;(with_reducible refine((tL.out _ aC).1 hs).mono ?_);rintro e w3 ⟨rfl,h3⟩;have H3:=ag h3;clear h3))
   first|go_end0|(refine bH (v:= .tuple #[]) (by simp[results,results79,go_sem]) rfl ?_)
   exact⟨rfl,H3.out⟩
 . rw[hs,show((2:Nat):Int)=2 from rfl]at c8
   clear bh hf fD fO dC gN iC;go_enter func79,ntmps79
   go_wp2_with (first
    |(go_at_call 112;refine R4.out.mono ?_;rintro e w1 ⟨rfl,hb⟩;obtain⟨y,rfl⟩:=aE hb;clear hb)
    |(go_at_call 114;(with_reducible refine((tL.out _ aC).2.1 hs).mono ?_);rintro e w3 ⟨rfl,h3⟩;have H3:=ag h3;clear h3))
   first|go_end0|(refine bH (v:= .tuple #[]) (by simp[results,results79,go_sem]) rfl ?_)
   exact⟨rfl,H3.out⟩
 . rw[hs,show((3:Nat):Int)=3 from rfl]at c8
   have hR:=HR.out;have lQ:tLoad (aF NN) m.c D raw=fE (aF NN) m.c {D with depth:=D.depth+1} x:=by unfold tLoad;simp only[hs,VU.out,Int.toNat_natCast]
   have hdp:=hR.dp;obtain⟨d1,kP⟩:=aH (D.depth+1);have e1:IntKind.i64.wrap ((D.depth:Int)+1)=(d1:Int):=by rw[b9 _ ae];omega
   rw[kP]at lQ;have hxN:=HX.out ae;have HV:=ag (λ(W:World) (hW:Below w.heap.size w W)=>H.out.AQ (w':=W) (W2:=W.setCell ⟨a,14,none⟩ (.int .i64 (d1:Int))) (D':={D with depth:=d1}) (rd':=some g) hW ((Ch.refl _ _).bj _ _) (λhx=>hx.set 14 _));have HTO:Hid (nx=fE (aF NN) m.c {D with depth:=d1} x):=jP.out.symm.trans lQ;have f14:=hf 14;clear bh hf fD dC gN iC lQ hR hdp kP;go_enter func79,ntmps79
   go_upto_region 11 with(go_at_call 112;refine R4.out.mono ?_;rintro e w1 ⟨rfl,hb⟩;have dZ:=ag hb;obtain⟨y,rfl⟩:=aE hb;clear hb)
   obtain⟨h2,cz⟩:=HV.out y.w dZ.out;obtain⟨W2,eM⟩:=aH (y.w.setCell ⟨a,14,none⟩ (.int .i64 (d1:Int)));rw[eM]at h2 cz |-;have HL:=ag (EG h2 x hxN);have dh:=ag cz;clear eM h2 cz c0 c8 c9 fO f14 hl;go_wp2_with (go_at_call 115;(with_reducible refine HL.out.mono ?_);rintro e w3 ⟨rfl,h3⟩;have H3:=ag h3;clear h3)
   first|go_end0|(refine bH (v:= .tuple #[]) (by simp[results,results79,go_sem]) rfl ?_)
   rw[HTO.out];exact⟨rfl,H3.out.trans dh.out⟩
 . rw[hs,show((4:Nat):Int)=4 from rfl]at c8
   have hR:=HR.out;have lQ:tLoad (aF NN) m.c D raw=EW (aF NN) m.c {D with value:=(x:Int)}:=by unfold tLoad EW;simp only[hs,VU.out]
   have vO:=hR.b ae;have Q8:BA (aF NN) m.c {D with value:=(x:Int)}:=⟨vO.raw,vO.node,vO.last,vO.free,vO.zero,vO.next,vO.link,⟨(show KR (x:Int) by have:=VU.out;unfold KR;omega),vO.fQ.2.1,vO.fQ.2.2.1,vO.fQ.2.2.2.1,vO.fQ.2.2.2.2⟩,vO.dp⟩;have qm:=hR.n1 ae;have HV:=ag (λ(W:World) (hW:Below w.heap.size w W)=>H.out.AQ (w':=W) (W2:=W.setCell ⟨a,15,none⟩ (.int .u64 (x:Int))) (D':={D with value:=(x:Int)}) (rd':=some g) hW ((Ch.refl _ _).bj _ _) (λhx=>hx.set 15 _));have HTO:Hid (nx=EW (aF NN) m.c {D with value:=(x:Int)}):=jP.out.symm.trans lQ;have HRB:=ag (And.intro Q8 qm);have f15:=hf 15;clear bh hf fD fO gN iC lQ hR vO Q8 qm;go_enter func79,ntmps79
   go_upto_region 14 with(go_at_call 112;refine R4.out.mono ?_;rintro e w1 ⟨rfl,hb⟩;have dZ:=ag hb;obtain⟨y,rfl⟩:=aE hb;clear hb)
   obtain⟨h2,cz⟩:=HV.out y.w dZ.out;obtain⟨W2,eM⟩:=aH (y.w.setCell ⟨a,15,none⟩ (.int .u64 (x:Int)));rw[eM]at h2 cz |-;have HL:=ag (H6 h2 HRB.out.1 HRB.out.2);have dh:=ag cz;clear eM h2 cz c0 c8 c9 dC f15 hl;go_wp2_with (go_at_call 116;(with_reducible refine HL.out.mono ?_);rintro e w3 ⟨rfl,h3⟩;have H3:=ag h3;clear h3)
   first|go_end0|(refine bH (v:= .tuple #[]) (by simp[results,results79,go_sem]) rfl ?_)
   rw[HTO.out];exact⟨rfl,H3.out.trans dh.out⟩
 . have n1:((D.aa:Int)==1)=false:=by simp;omega
   have n2:((D.aa:Int)==2)=false:=by simp;omega
   have n3:((D.aa:Int)==3)=false:=by simp;omega
   have n4:((D.aa:Int)==4)=false:=by simp;omega
   have n13:((D.aa:Int)==13)=false:=by simp;omega
   clear bh hf fD fO dC gN iC;go_enter func79,ntmps79
   go_wp2_with (first
    |(go_at_call 112;refine R4.out.mono ?_;rintro e w1 ⟨rfl,hb⟩;obtain⟨y,rfl⟩:=aE hb;clear hb)
    |(go_at_call 118;(with_reducible refine((tL.out _ aC).2.2 hs).mono ?_);rintro e w3 ⟨rfl,h3⟩;have H3:=ag h3;clear h3))
   first|go_end0|(refine bH (v:= .tuple #[]) (by simp[results,results79,go_sem]) rfl ?_)
   exact⟨rfl,H3.out⟩
 . rw[hs,show((13:Nat):Int)=13 from rfl]at c8
   have lQ:tLoad (aF NN) m.c D raw=if raw=D.raw then .done D.res D.err else dQ (aF NN) m.c D raw:=by unfold tLoad;simp only[hs]
   have hxN:=HX.out ae;by_cases G6:raw=D.raw
   . rw[aA G6]at lQ
     have HTO:Hid (nx= .done D.res D.err):=jP.out.symm.trans lQ;have HL:=ag (λ(W:World) (hW:Below w.heap.size w W)=>n_ (H.out.bl hW).2 (OE (H.out.bl hW).1 D.res D.err));rw[<-G6]at fD;clear bh hf fO dC lQ G6;go_enter func79,ntmps79
     go_upto_region 16 with(go_at_call 112;refine R4.out.mono ?_;rintro e w1 ⟨rfl,hb⟩;obtain⟨y,rfl⟩:=aE hb;clear hb)
     refine cy krQ krQ ?_;repeat(go_big_quiet_step (first|(go_at_call 117;exact bK (CT.out _ aC))))
     refine cE ?_;rintro _ ⟨y2,rfl⟩;have wQ:Below w.heap.size w y2.w:=by exact aC
     have k25:=(wQ.cell (p:=⟨a,25,none⟩) hl).trans gN;have k27:=(wQ.cell (p:=⟨a,27,none⟩) hl).trans iC;have kl:=cD hl wQ.size;clear gN iC;go_upto_region 17 with(fail)
     refine aL 9 krQ krQ ?_;simp only[List.take_succ_cons,List.take_zero,jm,iq];repeat(go_big_quiet_step (fail))
     refine cE ?_;rintro _ ⟨y3,rfl⟩;go_wp2_with (go_at_call 105;(with_reducible refine(HL.out _ aC).mono ?_);rintro e w3 ⟨rfl,h3⟩;have H3:=ag h3;clear h3)
     first|go_end0|(refine bH (v:= .tuple #[]) (by simp[results,results79,go_sem]) rfl ?_)
     rw[HTO.out];exact⟨rfl,H3.out⟩
   . rw[ax G6]at lQ
     have HTO:Hid (nx=dQ (aF NN) m.c D raw):=jP.out.symm.trans lQ;have hri:(raw==D.raw)=false:=by simpa using G6
     have HL:=ag (λ(W:World) (hW:Below w.heap.size w W)=>n_ (H.out.bl hW).2 (EJ (H.out.bl hW).1 raw x VU.out hxN (λW' Gb=>CT.out W' (hW.trans (Gb.mono hW.size)))));clear bh hf fO dC lQ G6 gN iC;go_enter func79,ntmps79
     go_upto_region 16 with(go_at_call 112;refine R4.out.mono ?_;rintro e w1 ⟨rfl,hb⟩;obtain⟨y,rfl⟩:=aE hb;clear hb)
     refine cy krQ krQ ?_;repeat(go_big_quiet_step (first|(go_at_call 117;exact bK (CT.out _ aC))))
     refine cE ?_;rintro _ ⟨y2,rfl⟩;go_wp2_with (go_at_call 113;(with_reducible refine(HL.out _ aC).mono ?_);rintro e w3 ⟨rfl,h3⟩;have H3:=ag h3;clear h3)
     first|go_end0|(refine bH (v:= .tuple #[]) (by simp[results,results79,go_sem]) rfl ?_)
     rw[HTO.out];exact⟨rfl,H3.out⟩
end
section
variable{κ dL:Nat->Nat}{r p d q a g n NN lines x:Nat}{t:Nat->Nat}{w w' W2 w3:World}{m m':TM}{bs:Nat->Option Nat}{σ σ':PwS}{D D':TD}{rd rd':Option Nat}{nx:TO}{o:aX}
structure ZdH(κ:Nat->Nat)(r p d q a n NN lines:Nat)(t:Nat->Nat)(w:World)(σ:PwS)(m:TM)(bs:Nat->Option Nat)(D:TD)(rd:Option Nat)(x:Nat)(o:aX):Prop where
 pm:bB (λb=>κ b≠0) p d t 0 32 ((n:Int)*64) w σ
 hn:n<1000
 dS:272+4*NN<=8*n
 hq:CB w q 117 (aK d p NN lines bs)
 kq:κ q=2
 ka:κ a=r
 r3:3<=r
 th:m.th<8
 bs:bs m.th=some a
 hc:CB w a 107 (bV q m.th m.c (cr m.c.key) ((aF NN).rt m.c) D rd (some x) 0 false)
 er:∀i,(σ.dev.a8 i).err=0
 bz:σ.busy.length=8/\firstFree σ.busy<8
 ck:CK (aF NN) m.c
 ho:σ.ops x=some o
 he:o.ended=true
 e0:o.err=0
theorem mv.tpo{ph:pz}(h:mv κ r p d q a n NN lines t w bs σ m nx w')(hn:∀bl,fY σ m.th bl nx=(σ,ph)):RZ κ r p d q a n NN lines t w bs σ {m with ph:=ph} w':=by
 obtain⟨bl,_,_,h3⟩:=h;rw[hn]at h3;exact h3
theorem H_(h:ZdH κ r p d q a n NN lines t w σ m bs D rd x o):
 Calls prog 76 #[.pointer (some ⟨a,0,none⟩)] w λe w'=>e= .returned (.tuple #[])/\RZ κ r p d q a n NN lines t w bs σ {m with ph:=if o.changed then .fin D.res 0 else .rd {D with aa:=1} (eV m.th ((aF NN).rt m.c))} w':=by
 have WI:q≠a:=λhe=>by have h1:=h.kq;have h2:=h.ka;have h3:=h.r3;rw[he]at h1;omega
 have hK:κ a≠0:=by have:=h.ka;have:=h.r3;omega
 have hC:Ch (At a) w (w.setCell ⟨a,10,none⟩ (.pointer none)):=(Ch.refl _ _).bj _ _;have hT:dt κ r p d q a n NN lines t (w.setCell ⟨a,10,none⟩ (.pointer none)) σ m bs D rd:=⟨h.pm.SZ hC (λb _ hb=>by rw[show b=a from hb];exact hK),h.hn,h.dS,h.hq.keep (hC.block q h.hq.lt (λhx=>WI hx)),h.kq,h.ka,h.r3,h.th,h.bs,h.hc.set 10 _,h.er,h.bz,h.ck⟩;have cz:Ch (λb=>κ b=0\/κ b=r\/κ b=2) w (w.setCell ⟨a,10,none⟩ (.pointer none)):=hC.mono (λb hb _=> .inr (.inl (by rw[show b=a from hb];exact h.ka)));obtain⟨c0,c1,c2,c3,c4,c5,c6,c7,c8,c9,gj,fD,fZ,fW,fO,dC,iR,jh,jM,jL,jK,iD,jJ,jI,jH,gN,jG,iC,iB,hl,Lb⟩:=h.hc.eQ;rw[jn]at gj;have Zdj:=Lb 10;obtain⟨W2,eM⟩:=aH (w.setCell ⟨a,10,none⟩ (.pointer none));rw[eM]at hT cz
 have hE:∀W,Below W2.heap.size W2 W->(Calls prog 106 #[.pointer (some ⟨x,0,none⟩)] W λe w'=>e= .returned (.bool o.changed)/\Below W.heap.size W w')/\Calls prog 104 #[.pointer (some ⟨x,0,none⟩)] W λe w'=>e= .returned (.int .i64 0)/\Below W.heap.size W w':=λW hW=>by
  obtain⟨role,bb,hh,hK⟩:=hT.pm.ko hW;have h1:=Zcr (hh.op x o h.ho);have h2:=Za8 (hh.op x o h.ho);rw[h.he,h.e0]at h1;rw[h.e0]at h2;refine⟨?_,h2⟩;simpa using h1
 have HE:=ag hE;have jQ:=ag (λ(W:World) (hW:Below W2.heap.size W2 W)=>n_ (hT.bl hW).2 (OE (hT.bl hW).1 D.res 0));have Ht:=ag (λ(W:World) (hW:Below W2.heap.size W2 W)=>n_ (hT.bl hW).2 (pF (hT.bl hW).1));have dh:=ag cz;have y0:=hT.hc.eQ.c0;have y25:=hT.hc.eQ.gN;have yl:=hT.hc.lt;obtain⟨dH,rI⟩:=aH o.changed;rw[rI]at HE |-;clear h WI hK hC hT cz Lb hE rI c0 c1 c2 c3 c4 c5 c6 c7 c8 c9 fD fZ fW fO dC iR jh jM jL jK iD jJ jI jH gN jG iC iB;go_enter func76,ntmps76
 go_upto_region 2 with(fail)
 try rw[eM]
 clear eM gj hl Zdj;cases dH with
 |true=>
  go_wp2_with (first
   |(go_at_call 104;(with_reducible refine(HE.out _ aC).2.mono ?_);rintro e w3 ⟨rfl,hb⟩;obtain⟨y,rfl⟩:=aE hb;have l1:a<y.w.heap.size:=cD yl hb.size;clear hb)
   |(go_at_call 106;(with_reducible refine(HE.out _ aC).1.mono ?_);rintro e w3 ⟨rfl,hb⟩;obtain⟨z,rfl⟩:=aE hb;have l2:a<z.w.heap.size:=cD l1 hb.size;clear hb)
   |(go_at_call 105;(with_reducible refine(jQ.out _ aC).mono ?_);rintro e w3 ⟨rfl,h3⟩;have H3:=ag h3;clear h3))
  first|go_end0|(refine bH (v:= .tuple #[]) (by simp[results,results76,go_sem]) rfl ?_)
  exact⟨rfl,(H3.out.trans dh.out).tpo (λbl=>rfl)⟩
 |false=>
  go_wp2_with (first
   |(go_at_call 104;(with_reducible refine(HE.out _ aC).2.mono ?_);rintro e w3 ⟨rfl,hb⟩;obtain⟨y,rfl⟩:=aE hb;have l1:a<y.w.heap.size:=cD yl hb.size;clear hb)
   |(go_at_call 106;(with_reducible refine(HE.out _ aC).1.mono ?_);rintro e w3 ⟨rfl,hb⟩;obtain⟨z,rfl⟩:=aE hb;have l2:a<z.w.heap.size:=cD l1 hb.size;clear hb)
   |(go_at_call 77;(with_reducible refine(Ht.out _ aC).mono ?_);rintro e w3 ⟨rfl,h3⟩;have H3:=ag h3;clear h3))
  first|go_end0|(refine bH (v:= .tuple #[]) (by simp[results,results76,go_sem]) rfl ?_)
  exact⟨rfl,(H3.out.trans dh.out).tpo (λbl=>rfl)⟩
end
theorem CX{s x y:Nat}(hs:0<s)(hx:x<18446744073709551616)(hy:y<18446744073709551616)(h:Ee x s=Ee y s):x=y:=by
 have key:∀d j:Nat,64<=j+d->x.testBit j=y.testBit j:=λd=>by
  induction d with
  |zero=>
   intro j hj;have h2:(2:Nat)^64<=2^j:=yN ae ae;rw[vq (show x<2^j by omega),vq (show y<2^j by omega)]
  |succ d ih=>
   intro j hj;have h1:=ih (s+j) ae;have h2:(Ee x s).testBit j=(Ee y s).testBit j:=by rw[h]
   unfold Ee at h2;rw[Fi,Fi,Nat.testBit_shiftRight,Nat.testBit_shiftRight,h1]at h2;cases eD:x.testBit j<;>cases dy:y.testBit j<;>cases xO:y.testBit (s+j)<;>rw[eD,dy,xO]at h2<;>first|rfl|cases h2
 exact Di λj=>key 64 j ae
theorem Wj(x c c':Nat)(hc:c*c'%18446744073709551616=1)(hx:x<18446744073709551616):(nC x c*c')%18446744073709551616=x:=by
 unfold nC;rw[Nat.mul_mod,Nat.mod_mod,<-Nat.mul_mod,Nat.mul_assoc,Nat.mul_mod,hc,wo,Nat.mod_mod,Pz hx]
theorem Cv{c x y:Nat}(c':Nat)(hc:c*c'%18446744073709551616=1)(hx:x<18446744073709551616)(hy:y<18446744073709551616)(h:nC x c=nC y c):x=y:=by
 rw[<-Wj x c c' hc hx,<-Wj y c c' hc hy,h]
theorem Qm{x y:Int}(hx:KR x)(hy:KR y)(h:cr x=cr y):x=y:=by
 obtain⟨x1,x2⟩:=hx;obtain⟨y1,y2⟩:=hy;have lx:x.toNat<18446744073709551616:=by omega
 have ly:y.toNat<18446744073709551616:=by omega
 unfold cr at h;have e1:=CX ae (iK _ _) (iK _ _) h;have e2:=Cv 3573116690164977347 (by decide+kernel) (sy (iK _ _)) (sy (iK _ _)) e1;have e3:=CX ae (iK _ _) (iK _ _) e2;have e4:=Cv 10871156337175269513 (by decide+kernel) (sy lx) (sy ly) e3;have e5:=CX ae lx ly e4;omega
theorem MS(NN:Nat):HK (aF NN):=⟨λx _=>qW x,λ_ _ hx hy h=>Qm hx hy h⟩
end Go.Proofs.YtjkpjakodomnmaaGreatDoor
