/- The base, part 9 (merged). -/
import Derived.Test.YtjkpjakodomnmaaGreatDoorKtah
import Derived.RowKit
set_option linter.unusedVariables false
set_option linter.unusedSimpArgs false
set_option maxRecDepth 100000
set_option maxHeartbeats 16000000
namespace Go.Proofs.YtjkpjakodomnmaaGreatDoor
open Go.RowKit Go.Proofs.Tryz
structure TW(sum:List Int->Int)(at0:Nat->Int)(n:Nat)(K:TK)(q0:List (Int×Int))(σ:PwS)(ms:List TM)(N Tm:Nat)(xs:List Int)(L:Nat->Int)(T:Nat->TT)(fl:List Nat)(ord:List Nat):Prop where
 inv:Inv sum at0 n 8 (Mq K.W K.P) N σ xs L
 ls:eZ K q0 σ ms Tm L T fl ord N
 sb:wZ σ ms
def pg(σ:PwS)(ms:List TM)(lv:Nat->Bool):Prop:=∀(j:Nat) (mj:TM) (x:Nat),ms[j]?=some mj->aT mj=some x->σ.cur=some x->lv j=true
def GD(st:Nat->Bool)(ms:List TM)(q:Nat):Prop:=∀(j:Nat) (mj:TM),ms[j]?=some mj->mj.ph.over=false->o9 (λk mk=>decide (k≠j)&&(st k&& !mk.ph.over)) ms 0<=q
section
variable{K:TK}{n N Tm w:Nat}{q0:List (Int×Int)}{σ σ':PwS}{ms:List TM}{L L':Nat->Int}{ord:List Nat}{i j a:Nat}{m m' m2:TM}{sum:List Int->Int}{at0:Nat->Int}{cnt:Nat}{xs dz:List Int}{r r':eP}{o:aX}{b:Bool}{v:Int}{bl:Nat×(List bO->List Nat)}{st lv:Nat->Bool}{M:Nat->Prop}{d d':TD}{T:Nat->TT}{fl:List Nat}{es:List bO}{q:Nat}
theorem Oc.lt(h:Oc ms)(hi:ms[i]?=some m)(bU:m.ph.over=false):m.th<8:=by
 rcases h.WD i m hi bU with h|h|h|h<;>omega
theorem Oc.st3(h:Oc ms):GD st ms 3:=λj mj hj bU=>h.ZdF (λk mk _ hx=>by simp at hx;exact hx.2.2) hj bU (λmk=>by simp)
theorem wZ.chO(h:wZ σ ms):∀(j:Nat) (mj:TM) (a:Nat),ms[j]?=some mj->aT mj=some a->∃o,σ.ops a=some o:=by
 intro j mj a hj ha;obtain⟨d,hp⟩:=qZ ha;obtain⟨o,h1,_⟩:=h.ch j mj d a hj hp;exact⟨o,h1⟩
theorem uv(hp:m.ph= .rd d r):aT m=none:=by unfold aT;rw[hp]
theorem wZ.load(B:wZ σ ms)(hi:ms[i]?=some m)(bU:m.ph.over=false)(hc:aT m=none)(xN:σ.ops bl.1=none){nx:TO}(bQ:m'.th=m.th)(hp:m'.ph=(fY σ m.th bl nx).2):
 wZ (fY σ m.th bl nx).1 (ms.set i m'):=by
 cases nx with
 |read d k=>exact B.keep hi bQ bU hc (uv hp) (λd2 r2 hx=>by rw[hp]at hx;injection hx with _ hx;rw[<-hx];exact⟨rfl,bQ.symm⟩) rfl rfl
 |done v e=>exact B.keep hi bQ bU hc (by unfold aT;rw[hp];rfl) (λd2 r2 hx=>by rw[hp]at hx;cases hx) rfl rfl
 |dH d es v=>exact B.beg hi bQ bU hc hp xN d es B.chO
theorem OZ(hI:Inv sum at0 n 8 M N σ xs L)(ha:σ.ops bl.1=none){nx:TO}{th:Nat}(hm:∀x,aT m=some x->x≠bl.1):tM w st lv K (fY σ th bl nx).1 L j m=tM w st lv K σ L j m:=by
 cases nx with
 |read d k=>rfl
 |done v e=>rfl
 |dH d es v=>exact XW hI ha th d es hm
theorem L7{nx:TO}{th:Nat}:(fY σ th bl nx).1.cur=σ.cur:=by cases nx<;>rfl
theorem TW.Ng(h:TW sum at0 n K q0 σ (ms.set i m') N (Tm+1) xs L T fl ord)(hN:N<1000000)(fU:i<ms.length)(hn:K.W+8+K.P<=8*n)(iX:K.NN<1000000)(hH:HK K)(hp:m'.ph= .rd d r)(ha:σ.ops bl.1=none)(G7:∀es,(bl.2 es).Perm (List.range es.length)):
 ∃aZ,TW sum at0 n K q0 (mR K σ m' d r bl).1 (ms.set i {m' with ph:=(mR K σ m' d r bl).2,en:=if(mR K σ m' d r bl).2.over then Tm else m'.en}) (N+1) (Tm+1) xs L T fl aZ/\
  (mR K σ m' d r bl).1.cur=σ.cur/\∀(w:Nat) (st lv:Nat->Bool),st i=true->
    uS w st lv K (mR K σ m' d r bl).1 L (ms.set i {m' with ph:=(mR K σ m' d r bl).2,en:=if(mR K σ m' d r bl).2.over then Tm else m'.en})+1<=uS w st lv K σ L (ms.set i m'):=by
 have hi:(ms.set i m')[i]?=some m':=nX fU;have bU:m'.ph.over=false:=by rw[hp];rfl
 have bQ:=h.sb.th.lt hi bU;obtain⟨he,mJ⟩:=h.sb.rd i m' d r hi hp;have xN:BlT σ bl:=⟨ha,G7,h.sb.free.1⟩;obtain⟨Zcq,A1,A2⟩:=h.ls.Ng h.inv hN fU hn iX bQ hp he xN;obtain⟨Qc,h1,h2,h3,h4,h5,h6,h7,h8⟩:=h.ls.read h.inv hN hn hi hp he;rw[yS]at h8
 have lS:r.place<=2:=by
  have hf:=(h.ls.ok i m' hi).ph;rw[hp]at hf;exact hf.2.2.2.2.1 he
 have hc:aT m'=none:=uv hp
 have B1:wZ (σ.aI r).1 (ms.set i m'):=by
  have:=h.sb.keep (m':=m') (σ':=(σ.aI r).1) hi rfl bU hc hc (λd2 r2 hx=>h.sb.rd i m' d2 r2 hi hx) h2 h4;rwa[cZ hi]at this
 have P1:∀(w:Nat) (st lv:Nat->Bool),st i=true->uS w st lv K (σ.aI r).1 L (ms.set i {m' with ph:= .rd d (σ.aI r).2})+1<=uS w st lv K σ L (ms.set i m'):=by
  intro w st lv bh;have:=lY (w:=w) (st:=st) (lv:=lv) (K:=K) (σ:=σ) (σ':=(σ.aI r).1) (L:=L) (L':=L) (m':={m' with ph:= .rd d (σ.aI r).2}) (k:=1) hi (λj mj _ _=>BZ (Ki h2 h3 j mj)) (TQ hp lS h5 h7 h2 h3 bh);rwa[yS]at this
 refine⟨Zcq,⟨A1,A2,?_⟩,?_,λw st lv bh=> ?_⟩
 . unfold mR
   cases Zv:(σ.aI r).2.ended with
   |false=>
    simp only[eS,dF];have:=h.sb.keep (m':={m' with ph:= .rd d (σ.aI r).2,en:=if(pz.rd d (σ.aI r).2).over then Tm else m'.en}) (σ':=(σ.aI r).1) hi rfl bU hc rfl (λd2 r2 hx=>by injection hx with _ hx;rw[<-hx];exact⟨Zv,h6.trans mJ⟩) h2 h4;rwa[yS]at this
   |true=>
    simp only[cR];have:=B1.load (m':={m' with ph:=(fY (σ.aI r).1 m'.th bl (tLoad K m'.c d (σ.aI r).2.raw)).2,en:=if(fY (σ.aI r).1 m'.th bl (tLoad K m'.c d (σ.aI r).2.raw)).2.over then Tm else m'.en}) hi bU hc (by rw[h2];exact ha) rfl rfl;rwa[yS]at this
 . unfold mR
   split
   . rw[L7,h3]
   . exact h3
 . unfold mR
   cases Zv:(σ.aI r).2.ended with
   |false=>
    simp only[eS,dF];exact P1 w st lv bh
   |true=>
    simp only[cR];have hi2:(ms.set i {m' with ph:= .rd d (σ.aI r).2})[i]?=some {m' with ph:= .rd d (σ.aI r).2}:=nX fU;have dy:BlT (σ.aI r).1 bl:=⟨by rw[h2];exact ha,G7,by rw[h4];exact xN.2.2⟩;have h8':=h8.later (a_ _) (lM N)
    have:=lY (w:=w) (st:=st) (lv:=lv) (K:=K) (σ:=(σ.aI r).1) (σ':=(fY (σ.aI r).1 m'.th bl (tLoad K m'.c d (σ.aI r).2.raw)).1) (L:=L) (L':=L) (m':={m' with ph:=(fY (σ.aI r).1 m'.th bl (tLoad K m'.c d (σ.aI r).2.raw)).2,en:=if(fY (σ.aI r).1 m'.th bl (tLoad K m'.c d (σ.aI r).2.raw)).2.over then Tm else m'.en}) (k:=0) hi2
     (λj mj hj SK=>BZ (OZ h1 dy.1 (λx hx MK=>by
        rw[rE (cC hj)]at SK;obtain⟨ox,hox⟩:=h.sb.chO j mj x (by rw[rE (cC hj)];exact SK) hx;rw[MK,ha]at hox;cases hox)))
     (TR (m:={m' with ph:= .rd d (σ.aI r).2}) h8' hi2 h1 hn iX hH bQ rfl Zv dy bh)
    rw[yS]at this;have h9:=P1 w st lv bh;omega
theorem pg.keep(h:pg σ ms lv)(hi:ms[i]?=some m)(hc:aT m=none)(mM:lv i=true)(cS:σ'.cur=σ.cur):pg σ' (ms.set i m') lv:=by
 intro j mj x hj hx gh;rcases aJ hi hj with⟨rfl,_⟩|⟨_,iz⟩
 . exact mM
 . exact h j mj x iz hx (by rw[<-cS];exact gh)
theorem pg.oper(h:pg σ ms lv)(hi:ms[i]?=some m)(hc:aT m=some a)(mM:lv i=true)(lT:∀(i j:Nat)(mi mj:TM)(a:Nat),ms[i]?=some mi->ms[j]?=some mj->aT mi=some a->aT mj=some a->i=j)(cS:σ'.cur=σ.cur\/σ'.cur=none\/σ'.cur=some a):pg σ' (ms.set i m') lv:=by
 intro j mj x hj hx gh;rcases aJ hi hj with⟨rfl,_⟩|⟨aG,iz⟩
 . exact mM
 . rcases cS with e|e|e
   . exact h j mj x iz hx (by rw[<-e];exact gh)
   . rw[e]at gh;cases gh
   . rw[e]at gh
     injection gh with gh;rw[<-gh]at hx;exact absurd (lT j i mj m a iz hi hx hc) aG
open Classical in
theorem TW.step(h:TW sum at0 n K q0 σ ms N Tm xs L T fl ord)(hR:kh n 8 (Mq K.W K.P) at0)(hN:N<1000000)(hn:K.W+8+K.P<=8*n)(iX:K.NN<1000000)(hH:HK K)(hi:ms[i]?=some m)(bU:m.ph.over=false)(ha:σ.ops bl.1=none)(G7:∀es,(bl.2 es).Perm (List.range es.length)):
 ∃dz L' T' eG aZ,TW sum at0 n K q0 (aV sum at0 K σ m bl).1 (ms.set i (m.next Tm (aV sum at0 K σ m bl).2)) (N+1) (Tm+1) dz L' T' eG aZ/\
  ∀(w q:Nat) (st lv:Nat->Bool),st i=true->lv i=true->pg σ ms lv->GD st ms q->1700*q<=w->
   pg (aV sum at0 K σ m bl).1 (ms.set i (m.next Tm (aV sum at0 K σ m bl).2)) lv/\uS w st lv K (aV sum at0 K σ m bl).1 L' (ms.set i (m.next Tm (aV sum at0 K σ m bl).2))+1<=uS w st lv K σ L ms:=by
 have fU:=(ki.1 hi).1;have h1:=h.ls.later (lM Tm) (a_ N);have bQ:=h.sb.th.lt hi bU;have jD:=h.ls.ck hi iX;cases hp:m.ph with
 |fin v e=>rw[hp]at bU;cases bU
 |start=>
  have hc:aT m=none:=by unfold aT;rw[hp]
  have hq:aV sum at0 K σ m bl=mR K σ m ke (eV m.th (K.rt m.c)) bl:=by unfold aV;rw[hp]
  rw[hq];obtain⟨m1,fv⟩:∃m1:TM,m1={m with ph:= .rd ke (eV m.th (K.rt m.c)),bg:=Tm}:=⟨_,rfl⟩
  have hb:TW sum at0 n K q0 σ (ms.set i m1) N (Tm+1) xs L T fl ord:=by
   refine⟨h.inv,?_,?_⟩
   . rw[fv]
     refine h1.move (σ':=σ) (m':={m with ph:= .rd ke (eV m.th (K.rt m.c)),bg:=Tm}) hi rfl ?_ ?_ (λ_ _ hx=>hx) rfl (λd a hx=>by rw[hp]at hx;cases hx) (λd a hx=>(by cases hx)) ⟨λ_=>Nat.lt_succ_self Tm,λhx=>(by cases hx)⟩ (λhx=>by rw[hp]at hx;cases hx) bU (λhx=>(by cases hx))
     . have e2:m.out σ=none:=by unfold TM.out;rw[hp]
       rw[e2];simp[TM.out,eV]
     . exact kY (d:=ke) bQ (JR jD) (λhx=>absurd rfl hx)
   . exact h.sb.keep hi (by rw[fv]) bU hc (by rw[fv];rfl) (λd2 r2 hx=>by rw[fv]at hx |-;injection hx with _ hx;rw[<-hx];exact⟨rfl,rfl⟩) rfl rfl
  have MM:m1.ph= .rd ke (eV m.th (K.rt m.c)):=by rw[fv]
  obtain⟨aZ,g1,g2,g3⟩:=hb.Ng (bl:=bl) hN fU hn iX hH MM ha G7
  have hx:m.next Tm (mR K σ m ke (eV m.th (K.rt m.c)) bl).2={m1 with ph:=(mR K σ m1 ke (eV m.th (K.rt m.c)) bl).2,en:=if(mR K σ m1 ke (eV m.th (K.rt m.c)) bl).2.over then Tm else m1.en}:=by
   unfold TM.next;rw[hp,fv];rfl
  have hy:mR K σ m ke (eV m.th (K.rt m.c)) bl=mR K σ m1 ke (eV m.th (K.rt m.c)) bl:=by rw[fv];rfl
  rw[hx,hy];refine⟨xs,L,T,fl,aZ,g1,λw q st lv bh mM qo kE hw=>⟨qo.keep hi hc mM g2,f_ (g3 w st lv bh) ?_⟩⟩;refine lY (k:=0) hi (λj mj _ _=>a_ _) (BZ ?_);rw[fv];have e1:gM σ m=0:=by unfold gM;rw[hc]
  have e2:wM m=1678:=by unfold wM;rw[hp]
  have e3:stM K L σ m=0:=by unfold stM;rw[hp]
  have e4:nO σ m=1:=by unfold nO TM.out;rw[hp];rfl
  have d1:gM σ {m with ph:= .rd ke (eV m.th (K.rt m.c)),bg:=Tm}=0:=rfl
  have d2:wM {m with ph:= .rd ke (eV m.th (K.rt m.c)),bg:=Tm}=1678:=by
   show 868+3*wR ke (eV m.th (K.rt m.c))+(3-0)=1678
   unfold wR;rw[aA (.inl rfl)]
  have d3:stM K L σ {m with ph:= .rd ke (eV m.th (K.rt m.c)),bg:=Tm}=0:=by
   show(if Fr K m.c L ke (eV m.th (K.rt m.c))then 0 else 1)=0
   rw[aA (fr0 rfl)]
  have d4:nO σ {m with ph:= .rd ke (eV m.th (K.rt m.c)),bg:=Tm}=1:=by
   unfold nO;rw[aA (by simp[TM.out,eV])]
  unfold tM;rw[e1,e2,e3,e4,d1,d2,d3,d4];rfl
 |rd d r=>
  have hc:aT m=none:=uv hp;have hq:aV sum at0 K σ m bl=mR K σ m d r bl:=by unfold aV;rw[hp]
  rw[hq];have hb:TW sum at0 n K q0 σ (ms.set i m) N (Tm+1) xs L T fl ord:=by rw[cZ hi];exact⟨h.inv,h1,h.sb⟩
  obtain⟨aZ,g1,g2,g3⟩:=hb.Ng (bl:=bl) hN fU hn iX hH hp ha G7
  have hx:m.next Tm (mR K σ m d r bl).2={m with ph:=(mR K σ m d r bl).2,en:=if(mR K σ m d r bl).2.over then Tm else m.en}:=by
   unfold TM.next;rw[hp];rfl
  rw[hx];refine⟨xs,L,T,fl,aZ,g1,λw q st lv bh mM qo kE hw=>⟨qo.keep hi hc mM g2,?_⟩⟩;have:=g3 w st lv bh;rwa[cZ hi]at this
 |dH d a=>
  have je:=cK hp;obtain⟨o,f6,Jd,_,_⟩:=h.sb.ch i m d a hi hp
  have f8:my K m.c {d with aa:=1}:=by
   have hf:=(h.ls.ok i m hi).ph;rw[hp]at hf;obtain⟨_,_,_,_,_,_,f8,_⟩:=hf;exact f8
  obtain⟨σ',b,dz,L',S⟩:=h.inv.step hR hN f6;obtain⟨T',eG,aZ,g1,_⟩:=h1.oper h.inv hN S hi hp;have FY:∀ph:pz,m.next Tm ph={m with ph:=ph,en:=if ph.over then Tm else m.en}:=λph=>by unfold TM.next;rw[hp];rfl
  have hq:aV sum at0 K σ m bl=if b then(σ',if D3 σ' a then .fin d.res 0 else .rd {d with aa:=1} (eV m.th (K.rt m.c)))else(σ',m.ph):=by unfold aV;rw[hp];simp only[S.eq]
  have cS:=yD (sum:=sum) (at0:=at0) (σ:=σ) (a:=a);rw[S.eq]at cS;dsimp only at cS
  have Zf:∀lv:Nat->Bool,lv i=true->pg σ ms lv->∀(j:Nat) (mj:TM) (x:Nat),ms[j]?=some mj->aT mj=some x->(σ.cur=some x\/x=a)->lv j=true:=λlv mM qo j mj x hj hx SI=>by
   rcases SI with e|e
   . exact qo j mj x hj hx e
   . rw[e]at hx;rw[h.ls.qh j i mj m a hj hi hx je];exact mM
  have oo:∀(w q:Nat) (st lv:Nat->Bool),lv i=true->pg σ ms lv->GD st ms q->1700*q<=w->uS w st lv K σ' L' ms+1<=uS w st lv K σ L ms:=λw q st lv mM qo kE hw=>
   Ft h.ls h.sb h.inv hR hN S hi hp f6 Jd (Zf lv mM qo) kE hw
  rw[hq];cases b with
  |false=>
   simp only[eS,dF];have hx:m.next Tm m.ph=m:=by rw[FY,bU];rfl
   rw[hx];refine⟨dz,L',T',eG,aZ,⟨S.inv,by rw[cZ hi];exact g1,?_⟩,λw q st lv bh mM qo kE hw=>⟨qo.oper hi je mM h.ls.qh cS,by rw[cZ hi];exact oo w q st lv mM qo kE hw⟩⟩;exact h.sb.oper h.ls.qh S hi hp f6 Jd rfl (by rw[je];rfl) (λ_ _ _=>rfl) (λd2 r2 hx=>by rw[hp]at hx;cases hx)
  |true=>
   simp only[cR];obtain⟨o',t1,t2,t3,t4,t5,t6,t7,t8⟩:=S.self;have CH:=S.inv.fin a o' t1 t2;have I_:o'.res=some o'.changed:=by unfold aX.res;rw[aA CH]
   have ZC:D3 σ' a=o'.changed:=by unfold D3;rw[t1]
   have MP:σ'.cur≠some a:=λhc=>by
    obtain⟨oc,u1,u2,_⟩:=S.inv.run a hc;rw[t1]at u1;injection u1 with u1;rw[<-u1,CH]at u2;cases u2
   have g2:eZ K q0 σ' (ms.set i m) (Tm+1) L' T' eG aZ (N+1):=by rw[cZ hi];exact g1
   have wK:m.out σ'=if o'.changed then some (d.res,0)else none:=by
    unfold TM.out;rw[hp];show cH σ' d.res a=_;unfold cH;rw[t1];show(if o'.res=some true then _ else _)=_;rw[I_];cases o'.changed<;>rfl
   rw[FY,ZC];cases rI:o'.changed with
   |true=>
    rw[rI]at wK;simp only[cR];refine⟨dz,L',T',eG,aZ,⟨S.inv,?_,?_⟩,λw q st lv bh mM qo kE hw=>⟨qo.oper hi je mM h.ls.qh cS,?_⟩⟩
    . exact g2.yq fU (by rw[wK];rfl) trivial (λ_ _ hx=>hx) rfl (λd a' hx=>by rw[hp]at hx;injection hx with _ hx;rw[<-hx];exact MP) (λd a hx=>(by cases hx)) (by rw[hp];rfl) bU (λ_=>rfl)
    . exact h.sb.oper h.ls.qh S hi hp f6 Jd rfl rfl (λd' a' hx=>(by cases hx)) (λd2 r2 hx=>(by cases hx))
    . have h2:=lY (w:=w) (st:=st) (lv:=lv) (K:=K) (σ:=σ') (σ':=σ') (L:=L') (L':=L') (m':={m with ph:= .fin d.res 0,en:=if(pz.fin d.res 0).over then Tm else m.en}) (k:=0) hi (λj mj _ _=>a_ _) (by rw[Ih];exact im _)
      have h3:=oo w q st lv mM qo kE hw;omega
   |false=>
    rw[rI]at wK;simp only[eS,dF];refine⟨dz,L',T',eG,aZ,⟨S.inv,?_,?_⟩,λw q st lv bh mM qo kE hw=>⟨qo.oper hi je mM h.ls.qh cS,?_⟩⟩
    . refine g2.yq fU (by rw[wK];exact yn) ?_ (λ_ _ hx=>hx) rfl (λd a' hx=>by rw[hp]at hx;injection hx with _ hx;rw[<-hx];exact MP) (λd a hx=>(by cases hx)) (by rw[hp];rfl) bU (λhx=>(by cases hx))
      exact f8.again bQ
    . exact h.sb.oper h.ls.qh S hi hp f6 Jd rfl rfl (λd' a' hx=>(by cases hx)) (λd2 r2 hx=>by injection hx with _ hx;rw[<-hx];exact⟨rfl,rfl⟩)
    . have h2:=lY (w:=w) (st:=st) (lv:=lv) (K:=K) (σ:=σ') (σ':=σ') (L:=L') (L':=L') (m':={m with ph:= .rd {d with aa:=1} (eV m.th (K.rt m.c)),en:=if(pz.rd {d with aa:=1} (eV m.th (K.rt m.c))).over then Tm else m.en}) (k:=0) hi (λj mj _ _=>a_ _) (EY hp (by rw[t1];show o'.res=some false;rw[I_,rI]) bh)
      have h3:=oo w q st lv mM qo kE hw;omega
end
structure RQ where
 c:TC
 bg:Int
 en:Int
 ended:Bool
 got:Int
 err:Int
def du:RQ:=⟨⟨0,0,0,0⟩,0,0,false,0,0⟩
def yK(a b:RQ):Bool:=a.ended&&decide (a.en<b.bg)
def eR(l:List RQ)(used:List Bool)(i:Nat):Bool:= !used.getD i true&&(List.range l.length).all λk=> !(decide (k≠i)&&(!used.getD k true&&yK (l.getD k du) (l.getD i du)))
def pR(P:Nat)(q:List (Int×Int))(c:RQ):Bool:= !c.ended||((cI P q c.c).2.1==c.got&&(cI P q c.c).2.2==c.err)
def pS(P:Nat)(q:List (Int×Int))(c:RQ):List (Int×Int):=(cI P q c.c).1
def wh(l:List RQ)(used:List Bool):Bool:=(List.range l.length).all λi=>used.getD i true|| !(l.getD i du).ended
def exq(P:Nat)(l:List RQ)(fin:List (Int×Int)):Nat->List (Int×Int)->List Bool->Bool
 |0,q,used=>wh l used&&q==fin
 |n+1,q,used=>(wh l used&&q==fin)||(List.range l.length).any λi=>eR l used i&&pR P q (l.getD i du)&&exq P l fin n (pS P q (l.getD i du)) (used.set i true)
section
variable{P:Nat}{l:List RQ}{fin q:List (Int×Int)}{used:List Bool}{n:Nat}
theorem Vp(h1:wh l used=true)(h2:q=fin):exq P l fin n q used=true:=by
 cases n with
 |zero=>simp[exq,h1,h2]
 |succ n=>simp[exq,h1,h2]
theorem Z0{i:Nat}(hi:i<l.length)(h1:eR l used i=true)(h2:pR P q (l.getD i du)=true)(h3:exq P l fin n (pS P q (l.getD i du)) (used.set i true)=true):exq P l fin (n+1) q used=true:=by
 unfold exq;rw[Kz];right;rw[Px];exact⟨i,by simpa using hi,by simp only[Bool.and_eq_true];exact⟨⟨h1,h2⟩,h3⟩⟩
theorem ZZ(ord:List Nat)(V:Nat->List (Int×Int))(oy:ord.Nodup)(hm:∀i∈ord,i<l.length)(hV:V ord.length=fin)
 (hs:∀p i,ord[p]?=some i->pR P (V p) (l.getD i du)=true/\V (p+1)=pS P (V p) (l.getD i du))
 (hr:∀p i k,ord[p]?=some i->k<l.length->yK (l.getD k du) (l.getD i du)=true->k∈ord.take p)
 (ha:∀k,k<l.length->(l.getD k du).ended=true->k∈ord):
 ∀d p,p+d=ord.length->∀m,d<=m->exq P l fin m (V p) ((List.range l.length).map λi=>decide (i∈ord.take p))=true:=by
 intro d;induction d with
 |zero=>
  intro p hp m _;have hp':p=ord.length:=by omega
  subst hp';refine Vp ?_ hV;unfold wh;rw[ir];intro i hi;have Jl:i<l.length:=by simpa using hi
  cases he:(l.getD i du).ended with
  |false=>simp
  |true=>
   have:=ha i Jl he;simp[eY,Jl,this]
 |succ d ih=>
  intro p hp m hm';obtain⟨m',rfl⟩:∃m',m=m'+1:=⟨m-1,by omega⟩;have lS:p<ord.length:=by omega
  have hg:ord[p]?=some ord[p]:=dG lS;obtain⟨i,hi⟩:=aH (ord[p]);rw[hi]at hg;have fU:i<l.length:=hm i (AZ hg);obtain⟨f1,f2⟩:=hs p i hg
  have Je:i∉ord.take p:=by
   intro hx;obtain⟨q,hq⟩:=Cn hx;have gg:q<p:=by have:=(ki.1 hq).1;simp at this;omega
   rw[Fl,aA gg]at hq;have h1:=(ki.1 hq);obtain⟨h1,h2⟩:=h1;have:=(Ci oy (i:=q) (j:=p) (h₀:=h1) (h₁:=lS)).1 (by rw[h2,hi]);omega
  refine Z0 fU ?_ f1 ?_
  . unfold eR
    rw[kz];refine⟨by simp[eY,fU,Je],?_⟩;rw[ir];intro k hk;have jC:k<l.length:=by simpa using hk
    by_cases hb:yK (l.getD k du) (l.getD i du)=true
    . have:=hr p i k hg jC hb
      simp[eY,jC,this]
    . simp only[Bool.not_eq_true]at hb
      rw[hb];simp
  . rw[<-f2]
    have e:((List.range l.length).map λi=>decide (i∈ord.take p)).set i true=(List.range l.length).map λi=>decide (i∈ord.take (p+1)):=by
     apply Cg
     . simp
     . intro j h1 h2
       have oZ:j<l.length:=by simpa using h2
       have et:ord.take (p+1)=ord.take p++[i]:=by rw[List.take_add_one,hg];rfl
       rw[List.getElem_set];simp only[et,vo,PJ];by_cases xn:i=j
       . subst xn;simp
       . rw[ax xn];simp[show¬j=i from λh=>xn h.symm]
    rw[e];exact ih (p+1) ae m' ae
theorem Vq(ord:List Nat)(V:Nat->List (Int×Int))(oy:ord.Nodup)(hm:∀i∈ord,i<l.length)(hV:V ord.length=fin)
 (hs:∀p i,ord[p]?=some i->pR P (V p) (l.getD i du)=true/\V (p+1)=pS P (V p) (l.getD i du))
 (hr:∀p i k,ord[p]?=some i->k<l.length->yK (l.getD k du) (l.getD i du)=true->k∈ord.take p)
 (ha:∀k,k<l.length->(l.getD k du).ended=true->k∈ord):exq P l fin l.length (V 0) (List.replicate l.length false)=true:=by
 have hlen:ord.length<=l.length:=by
  have:=Wx oy (l₂:=List.range l.length) (λi hi=>by simpa using hm i hi);simpa using this
 have:=ZZ (P:=P) ord V oy hm hV hs hr ha ord.length 0 ae l.length hlen
 have e:(List.range l.length).map (λi=>decide (i∈ord.take 0))=List.replicate l.length false:=by
  apply Cg<;>simp
 rw[e]at this;exact this
end
def fp(m:TM):RQ:=match m.ph with
 | .fin v e=>⟨m.c,m.bg,m.en,true,v,e⟩
 |_=>⟨m.c,m.bg,m.en,false,0,0⟩
theorem jU{ms:List TM}{i:Nat}{m:TM}(hi:ms[i]?=some m):(ms.map fp).getD i du=fp m:=by
 rw[eY,AX,hi];rfl
theorem kS(m:TM):(fp m).c=m.c/\(fp m).bg=m.bg/\(fp m).en=m.en/\(fp m).ended=m.ph.over:=by
 unfold fp;cases m.ph<;>exact⟨rfl,rfl,rfl,rfl⟩
section
variable{K:TK}{n N Tm w:Nat}{q0:List (Int×Int)}{σ σ':PwS}{ms:List TM}{L L':Nat->Int}{ord:List Nat}{i j a:Nat}{m m' m2:TM}{sum:List Int->Int}{at0:Nat->Int}{cnt:Nat}{xs dz:List Int}{r r':eP}{o:aX}{b:Bool}{v:Int}{bl:Nat×(List bO->List Nat)}{st lv:Nat->Bool}{M:Nat->Prop}{d d':TD}{T:Nat->TT}{fl:List Nat}{es:List bO}{q:Nat}
theorem eZ.Gl(h:eZ K q0 σ ms Tm L T fl ord N):exq K.NN (ms.map fp) (dY K.NN ms q0 ord) (ms.map fp).length q0 (List.replicate (ms.map fp).length false)=true:=by
 have h0:q0=(λp=>dY K.NN ms q0 (ord.take p)) 0:=rfl;obtain⟨V,hV⟩:∃V:Nat->List (Int×Int),V=λp=>dY K.NN ms q0 (ord.take p):=⟨_,rfl⟩
 have WX:exq K.NN (ms.map fp) (dY K.NN ms q0 ord) (ms.map fp).length (V 0) (List.replicate (ms.map fp).length false)=true:=by
  refine Vq ord V h.nd (λi hi=>by rw[vk];exact h.mem i hi) (by rw[hV];simp) (λp i hp=> ?_) (λp i k hp hk hb=> ?_) (λk hk he=> ?_)
  . have fU:i<ms.length:=h.mem i (AZ hp)
    have hi:ms[i]?=some ms[i]:=dG fU;have bF:=h.ok i _ hi;have hr:=bF.res p hp;rw[jU hi];obtain⟨s1,_,_,s5⟩:=kS ms[i]
    have SF:ord.take (p+1)=ord.take p++[i]:=by
     obtain⟨l1,e1⟩:=ki.1 hp;rw[iw l1,e1]
    constructor
    . unfold pR
      rw[s1,hV];cases oo:ms[i].ph with
      |fin v e=>
       have ho:ms[i].out σ=some (v,e):=by unfold TM.out;rw[oo]
       rw[ho]at hr;injection hr with hr;have e1:(fp ms[i]).got=v/\(fp ms[i]).err=e:=by unfold fp;rw[oo];exact⟨rfl,rfl⟩
       rw[e1.1,e1.2,<-hr];simp
      |start=>rw[s5,oo];rfl
      |rd d r=>rw[s5,oo];rfl
      |dH d a=>rw[s5,oo];rfl
    . unfold pS
      rw[s1,hV];dsimp only;rw[SF,pJ,dU hi]
  . have fU:i<ms.length:=h.mem i (AZ hp)
    rw[vk]at hk;have hi:ms[i]?=some ms[i]:=dG fU;have jC:ms[k]?=some ms[k]:=dG hk;rw[jU hi,jU jC]at hb;obtain⟨_,b1,_,_⟩:=kS ms[i];obtain⟨_,_,b2,b3⟩:=kS ms[k];unfold yK at hb;rw[b1,b2,b3,kz,sQ]at hb;exact h.rt p i k _ _ hp hi jC hb.1 ae
  . rw[vk]at hk
    have jC:ms[k]?=some ms[k]:=dG hk;rw[jU jC]at he;obtain⟨_,_,_,b3⟩:=kS ms[k];exact(h.ok k _ jC).io.2 (uZ (by rw[<-b3];exact he))
 rw[hV]at WX;exact WX
theorem eZ.quiet(h:eZ K q0 σ ms Tm L T fl ord N)(hd:∀(i:Nat)(m:TM),ms[i]?=some m->m.ph.over=true):σ.cur=none:=by
 cases hc:σ.cur with
 |none=>rfl
 |some c=>
  obtain⟨i,m,d,g1,g2⟩:=h.cur c hc;have:=hd i m g1;rw[g2]at this;cases this
theorem eZ.start(Br:kQ K.W K.B K.NN K.hs K.bk L T fl q0)(U5:∀b,b<K.B->L (eJ K.W b)/1099511627776<=(N:Int))(hc:σ.cur=none):eZ K q0 σ [] Tm L T fl [] N:=
 ⟨Br,U5,by simp,λi hi=>(by simp at hi),λi m hi=>(by simp at hi),λi j mi mj di dj a hi=>(by simp at hi),λc gh=>(by rw[hc]at gh;cases gh),λi m hi=>(by simp at hi),λp i k mi mk hp=>(by simp at hp)⟩
theorem eZ.add(h:eZ K q0 σ ms Tm L T fl ord N)(hf:m.ph= .start)(hv:KR m.c.key/\K.bk m.c.key<K.B/\KR m.c.val/\KR m.c.old/\m.c.kind<=3):eZ K q0 σ (ms++[m]) Tm L T fl ord N:=by
 have get:∀(j:Nat) (mj:TM),(ms++[m])[j]?=some mj->(j=ms.length/\mj=m)\/(j<ms.length/\ms[j]?=some mj):=by
  intro j mj hj;by_cases hl:j<ms.length
  . rw[nY hl]at hj;exact .inr ⟨hl,hj⟩
  . rw[nZ ae]at hj
    have h0:j-ms.length=0:=by
     have:=(ki.1 hj).1;simp at this;omega
    rw[h0]at hj;simp at hj;exact .inl ⟨by omega,hj.symm⟩
 have bh:∀o:List Nat,(∀x∈o,x<ms.length)->dY K.NN (ms++[m]) q0 o=dY K.NN ms q0 o:=by
  intro o;unfold dY;generalize q0=q;induction o generalizing q with
  |nil=>intro _;rfl
  |cons x o ih=>
   intro hx;rw[List.foldl_cons,List.foldl_cons]
   have h1:(ms++[m]).getD x tI=ms.getD x tI:=by
    rw[eY,eY,nY (hx x smQ)]
   rw[h1];exact ih _ (λy hy=>hx y (by simp[hy]))
 have uT:∀p,∀x∈ord.take p,x<ms.length:=λp x hx=>h.mem x (za hx)
 have js:∀(d:TD) (a:Nat),m.ph≠ .dH d a:=λd a he=>by rw[hf]at he;cases he
 refine⟨by rw[bh ord h.mem];exact h.ab,h.cn,h.nd,λj hj=>by have:=h.mem j hj;simp;omega,λj mj hj=> ?_,λi1 j1 mi mj di dj a g1 g2 g3 g4=> ?_,λc gh=> ?_,λj mj hj=> ?_,λp i1 k mi mk g1 g2 g3 g4 g5=> ?_⟩
 . rcases get j mj hj with⟨rfl,rfl⟩|⟨hl,hj⟩
   . have hn:ms.length∉ord:=λhx=>by have:=h.mem _ hx;omega
     refine⟨⟨λhx=>absurd hx hn,λhx=>absurd (yr (by rw[hf];rfl)) hx⟩,λp hp=>absurd (AZ hp) hn,by rw[hf];trivial,hv⟩
   . have ho:=h.ok j mj hj
     refine⟨ho.io,λp hp=>by rw[bh _ (uT p)];exact ho.res p hp,ho.ph.mono ho.vl.2.1 rO.refl (λd a o _ ho=>⟨o,ho,rfl⟩) (λhF=> ?_),ho.vl⟩;obtain⟨p,f1,f2,f3,f4⟩:=hF;refine⟨p,f1,by rw[bh _ (uT p)];exact f2,by rw[bh _ (uT p)];exact f3,λk mk hk hx hb=> ?_⟩;rcases get k mk hk with⟨_,rfl⟩|⟨_,hk⟩
     . rw[hf]at hx;cases hx
     . exact f4 k mk hk hx hb
 . rcases get _ _ g1 with⟨_,rfl⟩|⟨_,g1⟩
   . exact absurd g3 (js _ _)
   . rcases get _ _ g2 with⟨_,rfl⟩|⟨_,g2⟩
     . exact absurd g4 (js _ _)
     . exact h.inj _ _ _ _ _ _ _ g1 g2 g3 g4
 . obtain⟨j,mj,d,g1,g2⟩:=h.cur c gh
   exact⟨j,mj,d,by rw[nY (ki.1 g1).1];exact g1,g2⟩
 . rcases get j mj hj with⟨rfl,rfl⟩|⟨hl,hj⟩
   . rw[hf];exact⟨λhx=>(by cases hx),λhx=>(by cases hx)⟩
   . exact h.tm j mj hj
 . rcases get _ _ g2 with⟨rfl,_⟩|⟨_,g2⟩
   . have:=h.mem _ (AZ g1);omega
   . rcases get _ _ g3 with⟨_,rfl⟩|⟨_,g3⟩
     . rw[hf]at g4;cases g4
     . exact h.rt p i1 k mi mk g1 g2 g3 g4 g5
theorem wZ.add(B:wZ σ ms)(hf:m.ph= .start)(bQ:m.th=0\/m.th=1\/m.th=2\/m.th=5)(kO:∀(j:Nat)(mj:TM),ms[j]?=some mj->mj.ph.over=false->mj.th≠m.th):wZ σ (ms++[m]):=by
 have get:∀(j:Nat) (mj:TM),(ms++[m])[j]?=some mj->(j=ms.length/\mj=m)\/(j<ms.length/\ms[j]?=some mj):=by
  intro j mj hj;by_cases hl:j<ms.length
  . rw[nY hl]at hj;exact .inr ⟨hl,hj⟩
  . rw[nZ ae]at hj
    have h0:j-ms.length=0:=by
     have:=(ki.1 hj).1;simp at this;omega
    rw[h0]at hj;simp at hj;exact .inl ⟨by omega,hj.symm⟩
 have rI:aT m=none:=by unfold aT;rw[hf]
 have hold:∀(j:Nat) (mj:TM) (a:Nat),(ms++[m])[j]?=some mj->aT mj=some a->ms[j]?=some mj:=λj mj a hj ha=>by
  rcases get j mj hj with⟨_,rfl⟩|⟨_,iz⟩
  . rw[rI]at ha;cases ha
  . exact iz
 have Zc8:∀(j:Nat) (mj:TM),ms[j]?=some mj->(ms++[m])[j]?=some mj:=λj mj hj=>by rw[nY (ki.1 hj).1];exact hj
 refine⟨⟨λj mj hj ho=> ?_,λj k mj mk hj hk oj ok ht=> ?_⟩,λj mj d r hj hp=> ?_,λj mj d a hj hp=>B.ch j mj d a (hold j mj a hj (cK hp)) hp,B.len,λk hk=> ?_,λj k mj mk a a' o o' hj hk ha ha'=>B.un j k mj mk a a' o o' (hold j mj a hj ha) (hold k mk a' hk ha') ha ha'⟩
 . rcases get j mj hj with⟨_,rfl⟩|⟨_,iz⟩
   . exact bQ
   . exact B.th.WD j mj iz ho
 . rcases get j mj hj with⟨e1,rfl⟩|⟨_,iz⟩
   . rcases get k mk hk with⟨e2,_⟩|⟨_,jC⟩
     . rw[e1,e2]
     . exact absurd ht.symm (kO k mk jC ok)
   . rcases get k mk hk with⟨e2,rfl⟩|⟨_,jC⟩
     . exact absurd ht (kO j mj iz oj)
     . exact B.th.one j k mj mk iz jC oj ok ht
 . rcases get j mj hj with⟨_,rfl⟩|⟨_,iz⟩
   . rw[hf]at hp;cases hp
   . exact B.rd j mj d r iz hp
 . rw[B.bt k hk]
   constructor
   . rintro⟨j,mj,a,o,e1,e2,e3,e4⟩;exact⟨j,mj,a,o,Zc8 j mj e1,e2,e3,e4⟩
   . rintro⟨j,mj,a,o,e1,e2,e3,e4⟩;exact⟨j,mj,a,o,hold j mj a e1 e2,e2,e3,e4⟩
theorem TW.add(h:TW sum at0 n K q0 σ ms N Tm xs L T fl ord)(hf:m.ph= .start)(hv:KR m.c.key/\K.bk m.c.key<K.B/\KR m.c.val/\KR m.c.old/\m.c.kind<=3)(bQ:m.th=0\/m.th=1\/m.th=2\/m.th=5)(kO:∀(j:Nat)(mj:TM),ms[j]?=some mj->mj.ph.over=false->mj.th≠m.th):
 TW sum at0 n K q0 σ (ms++[m]) N Tm xs L T fl ord:=⟨h.inv,h.ls.add hf hv,h.sb.add hf bQ kO⟩
theorem TW.later(h:TW sum at0 n K q0 σ ms N Tm xs L T fl ord){Tm':Nat}(hT:Tm<=Tm'):TW sum at0 n K q0 σ ms N Tm' xs L T fl ord:=⟨h.inv,h.ls.later hT (a_ N),h.sb⟩
theorem Ue(hf:m.ph= .start):uS w st lv K σ L (ms++[m])=uS w st lv K σ L ms+((if st ms.length then 1678 else 0)+if lv ms.length then w else 0):=by
 unfold uS;rw[E4,cY];congr 1;have e1:gM σ m=0:=by unfold gM aT;rw[hf]
 have e2:wM m=1678:=by unfold wM;rw[hf]
 have e3:stM K L σ m=0:=by unfold stM;rw[hf]
 have e4:nO σ m=1:=by unfold nO TM.out;rw[hf];rfl
 unfold tM;rw[e1,e2,e3,e4,cY];simp only[Nat.mul_zero,Nat.add_zero,wo]
theorem XV(bU:m.ph.over=false)(bh:st i=true)(hI:Inv sum at0 n cnt M N σ xs L)(rI:∀d a,m.ph= .dH d a->∃o,σ.ops a=some o/\o.ended=false):1<=tM w st lv K σ L i m:=by
 unfold tM;rw[bh,aA rfl];cases hp:m.ph with
 |fin v e=>rw[hp]at bU;cases bU
 |start=>
  have e2:wM m=1678:=by unfold wM;rw[hp]
  omega
 |rd d r=>
  have e2:wM m=868+3*wR d r+(3-r.place):=by unfold wM;rw[hp]
  omega
 |dH d a=>
  obtain⟨o,h1,h2⟩:=rI d a hp
  have:1<=gM σ m:=by
   unfold gM;rw[cK hp];show 1<=gAq σ a
   unfold gAq;rw[h1];show 1<=gOq (kI σ) a o
   cases kI σ with
   |none=>simp only[gOq,h2,eS,dF];omega
   |some p=>obtain⟨c,oc⟩:=p;simp only[gOq,h2,eS,dF];omega
  omega
end
section
variable{K:TK}{n N Tm w:Nat}{q0:List (Int×Int)}{σ σ':PwS}{ms:List TM}{L L':Nat->Int}{ord:List Nat}{i:Nat}{m:TM}{sum:List Int->Int}{at0:Nat->Int}{xs:List Int}{T:Nat->TT}{fl:List Nat}{r:eP}
theorem CQ{p:Nat->TM->Bool}:∀{ms:List TM} {k:Nat},(∀i m,ms[i]?=some m->p (k+i) m=false)->o9 p ms k=0
 |[],_,_=>rfl
 |m::ms,k,h=>by
  have h0:=h 0 m rfl;rw[Nat.add_zero]at h0;have ih:=CQ (p:=p) (ms:=ms) (k:=k+1) (λi m hi=>by rw[show k+1+i=k+(i+1) by omega];exact h (i+1) m hi);unfold o9 at ih |-;simp only[sumF];rw[h0,ih];rfl
theorem uJ{p:Nat->TM->Bool}:∀{ms:List TM} {k:Nat},(∀i j mi mj,ms[i]?=some mi->ms[j]?=some mj->p (k+i) mi=true->p (k+j) mj=true->i=j)->o9 p ms k<=1
 |[],_,_=>im _
 |m::ms,k,h=>by
  by_cases hp:p k m=true
  . have hz:=CQ (p:=p) (ms:=ms) (k:=k+1) (λi mi hi=>by
     cases hx:p (k+1+i) mi with
     |false=>rfl
     |true=>
      have:=h 0 (i+1) m mi rfl hi (by rwa[Nat.add_zero]) (by rwa[show k+(i+1)=k+1+i by omega]);omega)
    unfold o9 at hz |-;simp only[sumF];rw[hz,aA hp];exact a_ _
  . have ih:=uJ (p:=p) (ms:=ms) (k:=k+1) (λi j mi mj hi hj pi pj=>by
     have:=h (i+1) (j+1) mi mj hi hj (by rwa[show k+(i+1)=k+1+i by omega]) (by rwa[show k+(j+1)=k+1+j by omega]);omega)
    unfold o9 at ih |-;simp only[sumF];rw[ax hp];omega
theorem ZaL(m:TM):wM m<=1678:=by
 unfold wM;cases m.ph with
 |rd d r=>dsimp only;have:=Wh d r;omega
 |_=>dsimp only;omega
open Classical in
theorem GD.one(i:Nat):GD (λj=>decide (j=i)) ms 1:=λj mj _ _=>uJ (λa b ma mb _ _ ha hb=>by
 simp only[cY,kz,sQ]at ha hb;omega)
open Classical in
theorem TW.O_(h:TW sum at0 n K q0 σ ms N Tm xs L T fl ord)(i:Nat):∃lv:Nat->Bool,lv i=true/\pg σ ms lv/\uS 1700 (λj=>decide (j=i)) lv K σ L ms<=10300:=by
 have lT:=h.ls.qh;let lw:Nat->Bool:=λj=>decide (∃mj x,ms[j]?=some mj/\aT mj=some x/\σ.cur=some x)
 refine⟨λj=>decide (j=i)||lw j,by simp,λj mj x hj hx hc=> ?_,?_⟩
 . show(decide (j=i)||lw j)=true
   rw[Kz];right;exact kx ⟨mj,x,hj,hx,hc⟩
 . rw[IH]
   have hl:(l_ ms).length<=4:=by
    rw[oe ms 0]
    exact h.sb.th.Zb5 (λi m hi hp=>by
     obtain⟨a,ha⟩:=Option.isSome_iff_exists.1 hp;exact fJ ha)
   have h1:Gi σ (l_ ms)<=868*(l_ ms).length:=Rg h.inv hl
   have h2:sumF (rM 1700 (λj=>decide (j=i)) (λj=>decide (j=i)||lw j) K σ L) ms 0<=sumF (λj m=>(if decide (j=i)=true then 5078 else 0)+(if lw j=true then 1700 else 0)) ms 0:=by
    refine qM ms 0 (λj m hj=> ?_);simp only[cY];unfold rM;have a1:=ZaL m;have a2:=O8 (K:=K) (L:=L) (σ:=σ) m;have a3:=Yw (σ:=σ) m;by_cases eb:j=i
    . simp only[eb,decide_true,Bool.true_or,cR]
      omega
    . simp only[eb,B3,Bool.false_or,eS,dF,cY]
      split<;>omega
   have h3:sumF (λj m=>(if decide (j=i)=true then 5078 else 0)+(if lw j=true then 1700 else 0)) ms 0<=5078*1+1700*1:=by
    rw[pL (λj _=>if decide (j=i)=true then 5078 else 0) (λj _=>if lw j=true then 1700 else 0)];rw[tS (λj _=>decide (j=i)) 5078 ms 0,tS (λj _=>lw j) 1700 ms 0]
    have b1:o9 (λj _=>decide (j=i)) ms 0<=1:=uJ (λa b ma mb _ _ ha hb=>by
     simp only[cY,sQ]at ha hb;omega)
    have b2:o9 (λj _=>lw j) ms 0<=1:=uJ (λa b ma mb hma hmb ha hb=>by
     simp only[cY]at ha hb;obtain⟨m1,x1,e1,e2,e3⟩:=kB ha;obtain⟨m2,x2,d1,d2,d3⟩:=kB hb;rw[e3]at d3;injection d3 with d3;exact lT a b m1 m2 x1 e1 d1 e2 (by rw[d2,d3]))
    omega
   omega
end
section
variable{K:TK}{n N Tm w:Nat}{q0:List (Int×Int)}{σ σ':PwS}{ms:List TM}{L L':Nat->Int}{ord:List Nat}{i j a:Nat}{m m' m2:TM}{sum:List Int->Int}{at0:Nat->Int}{cnt:Nat}{xs dz:List Int}{r r':eP}{o:aX}{b:Bool}{v:Int}{bl:Nat×(List bO->List Nat)}{st lv:Nat->Bool}{M:Nat->Prop}{d d':TD}{T:Nat->TT}{fl:List Nat}{es:List bO}{q:Nat}
theorem eZ.Qq(h:eZ K q0 σ ms Tm L T fl ord N)(hE:LJ a σ σ' L L')(hi:ms[i]?=some m)(hp:m.ph= .dH d a){k:Nat}(hk:k<K.W+2):L' k=L k:=by
 rcases hE with⟨e,_⟩|⟨c,oc,oc',h1,h2,h3,h4,h5,h6,h7,h8,h9,_⟩
 . rw[e]
 . have hj:∃(j:Nat) (mj:TM) (dj:TD),ms[j]?=some mj/\mj.ph= .dH dj c:=by
    rcases h9 with e|e
    . exact h.cur c e
    . exact⟨i,m,d,hi,by rw[e];exact hp⟩
   obtain⟨j,mj,dj,g1,g2⟩:=hj;have hf:=(h.ok j mj g1).ph;rw[g2]at hf;obtain⟨o,f1,f2,_⟩:=hf;rw[h1]at f1;injection f1 with f1;rw[h5];split
   . refine xY (λq hq=> ?_)
     have hm:oc.es.getD q E0∈oc.es:=by rw[eY,dG hq];exact fq hq
     rw[<-f1]at f2;obtain⟨_,_,k',e1,e2⟩:=f2 _ hm;have e3:ee oc.es q=k':=by unfold ee;rw[e1];omega
     rw[e3];rcases e2 with e2|e2|⟨n,j,_,_,_,e2⟩
     . rw[e2];unfold TK.rt eJ;omega
     . rw[e2];unfold TK.fr nV;omega
     . rw[e2];unfold TK.nd aQ;omega
   . rfl
open Classical in
theorem TW.O6(h:TW sum at0 n K q0 σ ms N Tm xs L T fl ord)(hR:kh n 8 (Mq K.W K.P) at0)(hN:N<1000000)(hn:K.W+8+K.P<=8*n)(iX:K.NN<1000000)(hH:HK K)(hi:ms[i]?=some m)(bU:m.ph.over=false)(ha:σ.ops bl.1=none)(G7:∀es,(bl.2 es).Perm (List.range es.length)):
 ∃dz L' T' eG aZ,TW sum at0 n K q0 (aV sum at0 K σ m bl).1 (ms.set i (m.next Tm (aV sum at0 K σ m bl).2)) (N+1) (Tm+1) dz L' T' eG aZ/\(∀k,k<K.W+2->L' k=L k)/\
  ∀(w q:Nat) (st lv:Nat->Bool),st i=true->lv i=true->pg σ ms lv->GD st ms q->1700*q<=w->
   pg (aV sum at0 K σ m bl).1 (ms.set i (m.next Tm (aV sum at0 K σ m bl).2)) lv/\uS w st lv K (aV sum at0 K σ m bl).1 L' (ms.set i (m.next Tm (aV sum at0 K σ m bl).2))+1<=uS w st lv K σ L ms:=by
 have fU:=(ki.1 hi).1;have h1:=h.ls.later (lM Tm) (a_ N);have bQ:=h.sb.th.lt hi bU;have jD:=h.ls.ck hi iX;cases hp:m.ph with
 |fin v e=>rw[hp]at bU;cases bU
 |start=>
  have hc:aT m=none:=by unfold aT;rw[hp]
  have hq:aV sum at0 K σ m bl=mR K σ m ke (eV m.th (K.rt m.c)) bl:=by unfold aV;rw[hp]
  rw[hq];obtain⟨m1,fv⟩:∃m1:TM,m1={m with ph:= .rd ke (eV m.th (K.rt m.c)),bg:=Tm}:=⟨_,rfl⟩
  have hb:TW sum at0 n K q0 σ (ms.set i m1) N (Tm+1) xs L T fl ord:=by
   refine⟨h.inv,?_,?_⟩
   . rw[fv]
     refine h1.move (σ':=σ) (m':={m with ph:= .rd ke (eV m.th (K.rt m.c)),bg:=Tm}) hi rfl ?_ ?_ (λ_ _ hx=>hx) rfl (λd a hx=>by rw[hp]at hx;cases hx) (λd a hx=>(by cases hx)) ⟨λ_=>Nat.lt_succ_self Tm,λhx=>(by cases hx)⟩ (λhx=>by rw[hp]at hx;cases hx) bU (λhx=>(by cases hx))
     . have e2:m.out σ=none:=by unfold TM.out;rw[hp]
       rw[e2];simp[TM.out,eV]
     . exact kY (d:=ke) bQ (JR jD) (λhx=>absurd rfl hx)
   . exact h.sb.keep hi (by rw[fv]) bU hc (by rw[fv];rfl) (λd2 r2 hx=>by rw[fv]at hx |-;injection hx with _ hx;rw[<-hx];exact⟨rfl,rfl⟩) rfl rfl
  have MM:m1.ph= .rd ke (eV m.th (K.rt m.c)):=by rw[fv]
  obtain⟨aZ,g1,g2,g3⟩:=hb.Ng (bl:=bl) hN fU hn iX hH MM ha G7
  have hx:m.next Tm (mR K σ m ke (eV m.th (K.rt m.c)) bl).2={m1 with ph:=(mR K σ m1 ke (eV m.th (K.rt m.c)) bl).2,en:=if(mR K σ m1 ke (eV m.th (K.rt m.c)) bl).2.over then Tm else m1.en}:=by
   unfold TM.next;rw[hp,fv];rfl
  have hy:mR K σ m ke (eV m.th (K.rt m.c)) bl=mR K σ m1 ke (eV m.th (K.rt m.c)) bl:=by rw[fv];rfl
  rw[hx,hy];refine⟨xs,L,T,fl,aZ,g1,λ_ _=>rfl,λw q st lv bh mM qo kE hw=>⟨qo.keep hi hc mM g2,f_ (g3 w st lv bh) ?_⟩⟩;refine lY (k:=0) hi (λj mj _ _=>a_ _) (BZ ?_);rw[fv];have e1:gM σ m=0:=by unfold gM;rw[hc]
  have e2:wM m=1678:=by unfold wM;rw[hp]
  have e3:stM K L σ m=0:=by unfold stM;rw[hp]
  have e4:nO σ m=1:=by unfold nO TM.out;rw[hp];rfl
  have d1:gM σ {m with ph:= .rd ke (eV m.th (K.rt m.c)),bg:=Tm}=0:=rfl
  have d2:wM {m with ph:= .rd ke (eV m.th (K.rt m.c)),bg:=Tm}=1678:=by
   show 868+3*wR ke (eV m.th (K.rt m.c))+(3-0)=1678
   unfold wR;rw[aA (.inl rfl)]
  have d3:stM K L σ {m with ph:= .rd ke (eV m.th (K.rt m.c)),bg:=Tm}=0:=by
   show(if Fr K m.c L ke (eV m.th (K.rt m.c))then 0 else 1)=0
   rw[aA (fr0 rfl)]
  have d4:nO σ {m with ph:= .rd ke (eV m.th (K.rt m.c)),bg:=Tm}=1:=by
   unfold nO;rw[aA (by simp[TM.out,eV])]
  unfold tM;rw[e1,e2,e3,e4,d1,d2,d3,d4];rfl
 |rd d r=>
  have hc:aT m=none:=uv hp;have hq:aV sum at0 K σ m bl=mR K σ m d r bl:=by unfold aV;rw[hp]
  rw[hq];have hb:TW sum at0 n K q0 σ (ms.set i m) N (Tm+1) xs L T fl ord:=by rw[cZ hi];exact⟨h.inv,h1,h.sb⟩
  obtain⟨aZ,g1,g2,g3⟩:=hb.Ng (bl:=bl) hN fU hn iX hH hp ha G7
  have hx:m.next Tm (mR K σ m d r bl).2={m with ph:=(mR K σ m d r bl).2,en:=if(mR K σ m d r bl).2.over then Tm else m.en}:=by
   unfold TM.next;rw[hp];rfl
  rw[hx];refine⟨xs,L,T,fl,aZ,g1,λ_ _=>rfl,λw q st lv bh mM qo kE hw=>⟨qo.keep hi hc mM g2,?_⟩⟩;have:=g3 w st lv bh;rwa[cZ hi]at this
 |dH d a=>
  have je:=cK hp;obtain⟨o,f6,Jd,_,_⟩:=h.sb.ch i m d a hi hp
  have f8:my K m.c {d with aa:=1}:=by
   have hf:=(h.ls.ok i m hi).ph;rw[hp]at hf;obtain⟨_,_,_,_,_,_,f8,_⟩:=hf;exact f8
  obtain⟨σ',b,dz,L',S⟩:=h.inv.step hR hN f6;obtain⟨T',eG,aZ,g1,_⟩:=h1.oper h.inv hN S hi hp;have FY:∀ph:pz,m.next Tm ph={m with ph:=ph,en:=if ph.over then Tm else m.en}:=λph=>by unfold TM.next;rw[hp];rfl
  have hq:aV sum at0 K σ m bl=if b then(σ',if D3 σ' a then .fin d.res 0 else .rd {d with aa:=1} (eV m.th (K.rt m.c)))else(σ',m.ph):=by unfold aV;rw[hp];simp only[S.eq]
  have cS:=yD (sum:=sum) (at0:=at0) (σ:=σ) (a:=a);rw[S.eq]at cS;dsimp only at cS
  have Zf:∀lv:Nat->Bool,lv i=true->pg σ ms lv->∀(j:Nat) (mj:TM) (x:Nat),ms[j]?=some mj->aT mj=some x->(σ.cur=some x\/x=a)->lv j=true:=λlv mM qo j mj x hj hx SI=>by
   rcases SI with e|e
   . exact qo j mj x hj hx e
   . rw[e]at hx;rw[h.ls.qh j i mj m a hj hi hx je];exact mM
  have oo:∀(w q:Nat) (st lv:Nat->Bool),lv i=true->pg σ ms lv->GD st ms q->1700*q<=w->uS w st lv K σ' L' ms+1<=uS w st lv K σ L ms:=λw q st lv mM qo kE hw=>
   Ft h.ls h.sb h.inv hR hN S hi hp f6 Jd (Zf lv mM qo) kE hw
  rw[hq];cases b with
  |false=>
   simp only[eS,dF];have hx:m.next Tm m.ph=m:=by rw[FY,bU];rfl
   rw[hx];refine⟨dz,L',T',eG,aZ,⟨S.inv,by rw[cZ hi];exact g1,?_⟩,λk hk=>h.ls.Qq S.Z5 hi hp hk,λw q st lv bh mM qo kE hw=>⟨qo.oper hi je mM h.ls.qh cS,by rw[cZ hi];exact oo w q st lv mM qo kE hw⟩⟩;exact h.sb.oper h.ls.qh S hi hp f6 Jd rfl (by rw[je];rfl) (λ_ _ _=>rfl) (λd2 r2 hx=>by rw[hp]at hx;cases hx)
  |true=>
   simp only[cR];obtain⟨o',t1,t2,t3,t4,t5,t6,t7,t8⟩:=S.self;have CH:=S.inv.fin a o' t1 t2;have I_:o'.res=some o'.changed:=by unfold aX.res;rw[aA CH]
   have ZC:D3 σ' a=o'.changed:=by unfold D3;rw[t1]
   have MP:σ'.cur≠some a:=λhc=>by
    obtain⟨oc,u1,u2,_⟩:=S.inv.run a hc;rw[t1]at u1;injection u1 with u1;rw[<-u1,CH]at u2;cases u2
   have g2:eZ K q0 σ' (ms.set i m) (Tm+1) L' T' eG aZ (N+1):=by rw[cZ hi];exact g1
   have wK:m.out σ'=if o'.changed then some (d.res,0)else none:=by
    unfold TM.out;rw[hp];show cH σ' d.res a=_;unfold cH;rw[t1];show(if o'.res=some true then _ else _)=_;rw[I_];cases o'.changed<;>rfl
   rw[FY,ZC];cases rI:o'.changed with
   |true=>
    rw[rI]at wK;simp only[cR];refine⟨dz,L',T',eG,aZ,⟨S.inv,?_,?_⟩,λk hk=>h.ls.Qq S.Z5 hi hp hk,λw q st lv bh mM qo kE hw=>⟨qo.oper hi je mM h.ls.qh cS,?_⟩⟩
    . exact g2.yq fU (by rw[wK];rfl) trivial (λ_ _ hx=>hx) rfl (λd a' hx=>by rw[hp]at hx;injection hx with _ hx;rw[<-hx];exact MP) (λd a hx=>(by cases hx)) (by rw[hp];rfl) bU (λ_=>rfl)
    . exact h.sb.oper h.ls.qh S hi hp f6 Jd rfl rfl (λd' a' hx=>(by cases hx)) (λd2 r2 hx=>(by cases hx))
    . have h2:=lY (w:=w) (st:=st) (lv:=lv) (K:=K) (σ:=σ') (σ':=σ') (L:=L') (L':=L') (m':={m with ph:= .fin d.res 0,en:=if(pz.fin d.res 0).over then Tm else m.en}) (k:=0) hi (λj mj _ _=>a_ _) (by rw[Ih];exact im _)
      have h3:=oo w q st lv mM qo kE hw;omega
   |false=>
    rw[rI]at wK;simp only[eS,dF];refine⟨dz,L',T',eG,aZ,⟨S.inv,?_,?_⟩,λk hk=>h.ls.Qq S.Z5 hi hp hk,λw q st lv bh mM qo kE hw=>⟨qo.oper hi je mM h.ls.qh cS,?_⟩⟩
    . refine g2.yq fU (by rw[wK];exact yn) ?_ (λ_ _ hx=>hx) rfl (λd a' hx=>by rw[hp]at hx;injection hx with _ hx;rw[<-hx];exact MP) (λd a hx=>(by cases hx)) (by rw[hp];rfl) bU (λhx=>(by cases hx))
      exact f8.again bQ
    . exact h.sb.oper h.ls.qh S hi hp f6 Jd rfl rfl (λd' a' hx=>(by cases hx)) (λd2 r2 hx=>by injection hx with _ hx;rw[<-hx];exact⟨rfl,rfl⟩)
    . have h2:=lY (w:=w) (st:=st) (lv:=lv) (K:=K) (σ:=σ') (σ':=σ') (L:=L') (L':=L') (m':={m with ph:= .rd {d with aa:=1} (eV m.th (K.rt m.c)),en:=if(pz.rd {d with aa:=1} (eV m.th (K.rt m.c))).over then Tm else m.en}) (k:=0) hi (λj mj _ _=>a_ _) (EY hp (by rw[t1];show o'.res=some false;rw[I_,rI]) bh)
      have h3:=oo w q st lv mM qo kE hw;omega
end
def xr(lines:Nat)(L:Nat->Int):Prop:=L 256=327831077452/\L 257=(lines:Int)
theorem xr.keep{lines:Nat}{L L':Nat->Int}(h:xr lines L)(hk:∀k,k<256+2->L' k=L k):xr lines L':=⟨by rw[hk 256 ae];exact h.1,by rw[hk 257 ae];exact h.2⟩
def fu(c:Option Nat):Value:= .pointer (c.map λa=>⟨a,0,none⟩)
@[go_sem] theorem jn (a:Nat):fu (some a)= .pointer (some ⟨a,0,none⟩):=rfl
@[go_sem] theorem qT:fu none= .pointer none:=rfl
def ba(es:List bO):List Value:=es.flatMap λe=>[.int .u64 e.off, .int .u64 e.old, .int .u64 e.new, .bool e.ex]
def ic(ks:List Nat):List Value:=ks.map λ(k:Nat)=> .int .i64 (k:Int)
def bools(bs:List Bool):List Value:=bs.map Value.bool
theorem mH(es:List bO):(ba es).length=es.length*4:=by
 induction es with
 |nil=>rfl
 |cons e es ih=>rw[ba,yM,dO];change _+(ba es).length=_;rw[ih];simp;omega
theorem zT(es:List bO):∀(k:Nat) (h:k<es.length),(ba es)[k*4]?=some (.int .u64 es[k].off)/\(ba es)[k*4+1]?=some (.int .u64 es[k].old)/\(ba es)[k*4+2]?=some (.int .u64 es[k].new)/\(ba es)[k*4+3]?=some (.bool es[k].ex):=by
 induction es with
 |nil=>intro k h;simp at h
 |cons p es ih=>
  intro k h;cases k with
  |zero=>simp[ba]
  |succ k=>
   have:=ih k (by simpa using h);rw[show ba (p::es)= .int .u64 p.off:: .int .u64 p.old:: .int .u64 p.new:: .bool p.ex::ba es from rfl,show(k+1)*4=k*4+1+1+1+1 by omega];simpa using this
def ei(p:Nat)(t:Nat->Nat)(o:aX)(ea:Option Addr)(ec:Nat)(oa:Option Addr)(oc sb sc:Nat)(pa:Option Addr)(pc:Nat):Array Value:=
 #[.pointer (some ⟨p,0,none⟩), .pointer (some ⟨t o.th,0,none⟩), .int .i64 o.k, .slice ea o.es.length ec, .slice oa o.order.length oc, .slice (some ⟨sb,0,none⟩) o.seen.length sc, .int .i64 o.loaded, .int .i64 o.aa, .slice pa o.prog.length pc, .bool o.done, .bool o.changed, .bool o.ended, .int .i64 o.err,fu o.tgt, .int .i64 o.sf, .int .i64 o.next]
def CS(role:Nat->Nat)(w:World)(p:Nat)(t:Nat->Nat)(a:Nat)(o:aX):Prop:=
 ∃ea ec oa oc sb sc pa pc,CB w a 187 (ei p t o ea ec oa oc sb sc pa pc)/\Sl 223 4 w ea o.es.length ec (ba o.es)/\Sl 3 1 w oa o.order.length oc (ic o.order)/\IB .u64 22 w sb o.seen/\o.seen.length<=sc/\Sl 164 3 w pa o.prog.length pc (bw o.prog)/\
  role a=a+3/\role sb=a+3/\sb≠a/\(∀b,ah ea b->role b=a+3/\b≠a/\b≠sb)/\(∀b,ah oa b->role b=a+3/\b≠a/\b≠sb)/\∀b,ah pa b->role b=a+3/\b≠a/\b≠sb
structure PM(role:Nat->Nat)(p d bb:Nat)(t:Nat->Nat)(line lines:Nat)(size:Int)(w:World)(σ:PwS):Prop where
 dv:DV (λb=>role b=1\/w.heap.size<=b) d t w σ.dev
 pl:CB w p 172 #[.pointer (some ⟨d,0,none⟩), .int .i64 line, .int .i64 lines, .int .u64 size, .slice (some ⟨bb,0,none⟩) σ.busy.length σ.busy.length,fu σ.cur]
 bz:Sl 4 1 w (some ⟨bb,0,none⟩) σ.busy.length σ.busy.length (bools σ.busy)
 rp:role p=2
 rb:role bb=2
 pb:p≠bb
 op:∀a o,σ.ops a=some o->CS role w p t a o
def bB(K:Nat->Prop)(p d:Nat)(t:Nat->Nat)(line lines:Nat)(size:Int)(w:World)(σ:PwS):Prop:=
 ∃role bb,PM role p d bb t line lines size w σ/\∀b,K b->role b=0/\b<w.heap.size
section
variable{role Ws:Nat->Nat}{K:Nat->Prop}{p d bb a line lines:Nat}{t:Nat->Nat}{size:Int}{w w':World}{σ:PwS}{o:aX}
theorem CS.lt(h:CS role w p t a o):a<w.heap.size:=by
 obtain⟨ea,ec,oa,oc,sb,sc,pa,pc,h1,_⟩:=h;exact h1.lt
theorem CS.keep(h:CS role w p t a o)(hr:∀b,b<w.heap.size->role b=a+3->Ws b=a+3)(hb:∀b,b<w.heap.size->role b=a+3->w'.heap[b]?=w.heap[b]?):CS Ws w' p t a o:=by
 obtain⟨ea,ec,oa,oc,sb,sc,pa,pc,h1,h2,h3,h4,zN,h5,r1,r2,n1,r3,r4,r5⟩:=h;refine⟨ea,ec,oa,oc,sb,sc,pa,pc,h1.keep (hb a h1.lt r1),h2.keep (λb bG=>hb b (h2.lt bG) (r3 b bG).1),h3.keep (λb bG=>hb b (h3.lt bG) (r4 b bG).1),h4.keep (hb sb h4.lt r2),zN,h5.keep (λb bG=>hb b (h5.lt bG) (r5 b bG).1),hr a h1.lt r1,hr sb h4.lt r2,n1,λb bG=>⟨hr b (h2.lt bG) (r3 b bG).1,(r3 b bG).2⟩,λb bG=>⟨hr b (h3.lt bG) (r4 b bG).1,(r4 b bG).2⟩,λb bG=>⟨hr b (h5.lt bG) (r5 b bG).1,(r5 b bG).2⟩⟩
theorem bB.bl(h:bB K p d t line lines size w σ)(hb:Below w.heap.size w w'):bB (λb=>K b\/(w.heap.size<=b/\b<w'.heap.size)) p d t line lines size w' σ:=by
 obtain⟨role,bb,h,hK⟩:=h;have hs:=hb.size;refine⟨λb=>if w.heap.size<=b then 0 else role b,bb,⟨?_,h.pl.keep (hb.block p h.pl.lt),h.bz.keep (λb bG=>hb.block b (h.bz.lt bG)),?_,?_,h.pb,λa o ho=>(h.op a o ho).keep (λb hl hr=>by rw[ax ae];exact hr) (λb hl _=>hb.block b hl)⟩,λb hk=> ?_⟩
 . refine(h.dv.less hb (λb=>w.heap.size<=b/\b<w'.heap.size) (λb hx=>hx)).mono (λb hf=> ?_)
   by_cases hl:w.heap.size<=b
   . right
     have:=hf.2;omega
   . left
     rw[ax hl];exact hf.1.resolve_right hl
 . rw[ax (by have:=h.pl.lt;omega)];exact h.rp
 . rw[ax (by have:=h.bz.lt (b:=bb) (by simp[ah]);omega)];exact h.rb
 . rcases hk with hk|hk
   . obtain⟨h1,h2⟩:=hK b hk
     exact⟨by show(if _ then _ else role b)=0;rw[ax ae];exact h1,by omega⟩
   . exact⟨aA hk.1,hk.2⟩
theorem bB.less{K':Nat->Prop}(h:bB K p d t line lines size w σ)(hK:∀b,K' b->K b):bB K' p d t line lines size w σ:=by
 obtain⟨role,bb,h,hk⟩:=h;exact⟨role,bb,h,λb hb=>hk b (hK b hb)⟩
theorem bB.ko(h:bB K p d t line lines size w σ)(hb:Below w.heap.size w w'):bB K p d t line lines size w' σ:=(h.bl hb).less (λb hk=> .inl hk)
theorem Fs{v:Value}{f:FuncId}{args:Array Value}{S':aq}(h:bB K p d t line lines size w σ)(CI:∀F,DV F d t w σ.dev->Calls prog f args w λe w'=>e= .returned v/\DV F d t w' S'/\Ch F w w'):
 Calls prog f args w λe w'=>e= .returned v/\bB K p d t line lines size w' {σ with dev:=S'}/\Ch (λb=>¬K b) w w':=by
 obtain⟨role,bb,h,hK⟩:=h;refine(CI _ h.dv).mono ?_;rintro e w' ⟨rfl,hD,hC⟩;have hs:=hC.size;have aG:∀b,b<w.heap.size->role b≠1->w'.heap[b]?=w.heap[b]?:=λb hb hr=>hC.block b hb (λhf=>hf.elim hr (λhx=>by omega))
 refine⟨rfl,⟨λb=>if w.heap.size<=b then 1 else role b,bb,⟨hD.mono (λb hf=> ?_),h.pl.keep (aG p h.pl.lt (by rw[h.rp];omega)),h.bz.keep (λb bG=>aG b (h.bz.lt bG) ?_),?_,?_,h.pb,λa o ho=>(h.op a o ho).keep (λb hl hr=>by rw[ax ae];exact hr) (λb hl hr=>aG b hl (by rw[hr];omega))⟩,λb hk=> ?_⟩,hC.mono (λb hf hb hk=> ?_)⟩
 . by_cases hl:w.heap.size<=b
   . left;exact aA hl
   . left;rw[ax hl];exact hf.resolve_right hl
 . have:b=bb:=by simpa [ah,wm]using bG
   rw[this,h.rb];omega
 . rw[ax (by have:=h.pl.lt;omega)];exact h.rp
 . rw[ax (by have:=h.bz.lt (b:=bb) (by simp[ah]);omega)];exact h.rb
 . obtain⟨h1,h2⟩:=hK b hk
   exact⟨by show(if _ then _ else role b)=0;rw[ax ae];exact h1,by omega⟩
 . have:=(hK b hk).1
   rcases hf with hf|hf
   . omega
   . omega
end
section
variable{role:Nat->Nat}{K F:Nat->Prop}{p d bb a line lines:Nat}{t:Nat->Nat}{size:Int}{w w':World}{σ:PwS}{o o':aX}{S:aq}
theorem DV.Ab{T X:Nat->Prop}(h:DV F d t w S)(hc:Ch T w w')(hT:∀b,b<w.heap.size->F b->¬T b)(hX:∀b,X b->w.heap.size<=b/\b<w'.heap.size):DV (λb=>F b/\¬X b) d t w' S:=by
 obtain⟨h1,L,h2,h3,h4⟩:=h;exact⟨λb bG=>⟨h1 b (f_ hc.size bG),λhx=>by have:=hX b hx;omega⟩,L,h2,h3.ch hc (λb hb=>hT b (h3.fr b hb) (h4 b hb)),λb bG=>⟨h4 b bG,λhx=>by have:=hX b hx;have:=h3.fr b bG;omega⟩⟩
def rl(w:World)(r:Nat)(role:Nat->Nat):Nat->Nat:=λb=>if w.heap.size<=b then r else role b
theorem bR{b r:Nat}(hb:b<w.heap.size):rl w r role b=role b:=ax ae
theorem ve{b r:Nat}(hb:w.heap.size<=b):rl w r role b=r:=aA hb
theorem PM.lt(h:PM role p d bb t line lines size w σ):p<w.heap.size/\bb<w.heap.size:=⟨h.pl.lt,h.bz.lt (b:=bb) (by simp[ah])⟩
theorem PM.ua(h:PM role p d bb t line lines size w σ)(hC:Ch (λb=>role b=a+3) w w')(ho:CS (rl w (a+3) role) w' p t a o'):PM (rl w (a+3) role) p d bb t line lines size w' (σ.aB a o'):=by
 obtain⟨l1,l2⟩:=h.lt;have aG:∀b,b<w.heap.size->role b≠a+3->w'.heap[b]?=w.heap[b]?:=λb hb hr=>hC.block b hb hr
 refine⟨?_,h.pl.keep (aG p l1 (by rw[h.rp];omega)),h.bz.keep (λb bG=> ?_),by rw[bR l1];exact h.rp,by rw[bR l2];exact h.rb,h.pb,λb ob hb=> ?_⟩
 . refine(h.dv.Ab hC (X:=λb=>w.heap.size<=b/\b<w'.heap.size) (λb hb hf=> ?_) (λb hx=>hx)).mono (λb hf=> ?_)
   . rcases hf with hf|hf
     . rw[hf];omega
     . omega
   . by_cases hl:w.heap.size<=b
     . right
       have:=hf.2;omega
     . left
       rw[bR ae];exact hf.1.resolve_right hl
 . have:b=bb:=by simpa [ah,wm]using bG
   rw[this];exact aG bb l2 (by rw[h.rb];omega)
 . have hb:(if b=a then some o' else σ.ops b)=some ob:=hb
   by_cases jg:b=a
   . rw[aA jg]at hb
     injection hb with hb;rw[jg,<-hb];exact ho
   . rw[ax jg]at hb
     exact(h.op b ob hb).keep (λb' hl hr=>by rw[bR hl];exact hr) (λb' hl hr=>aG b' hl (by rw[hr];omega))
theorem PM.KU(h:PM role p d bb t line lines size w σ)(hC:Ch (λb=>role b=2) w w'){cur:Option Nat}{busy:List Bool}(hl:busy.length=σ.busy.length)
 (hp:CB w' p 172 #[.pointer (some ⟨d,0,none⟩), .int .i64 line, .int .i64 lines, .int .u64 size, .slice (some ⟨bb,0,none⟩) σ.busy.length σ.busy.length,fu cur])
 (hb:Sl 4 1 w' (some ⟨bb,0,none⟩) σ.busy.length σ.busy.length (bools busy)):PM (rl w 0 role) p d bb t line lines size w' {σ with cur:=cur,busy:=busy}:=by
 obtain⟨l1,l2⟩:=h.lt;have aG:∀b,b<w.heap.size->role b≠2->w'.heap[b]?=w.heap[b]?:=λb hb hr=>hC.block b hb hr
 refine⟨?_,by show CB w' p _ #[_,_,_,_, .slice _ busy.length busy.length,_];rw[hl];exact hp,by show Sl _ _ _ _ busy.length busy.length _;rw[hl];exact hb,by rw[bR l1];exact h.rp,by rw[bR l2];exact h.rb,h.pb,λb ob hb=> ?_⟩
 . refine(h.dv.Ab hC (X:=λb=>w.heap.size<=b/\b<w'.heap.size) (λb hb hf=> ?_) (λb hx=>hx)).mono (λb hf=> ?_)
   . rcases hf with hf|hf
     . rw[hf];omega
     . omega
   . by_cases hl:w.heap.size<=b
     . right
       have:=hf.2;omega
     . left
       rw[bR ae];exact hf.1.resolve_right hl
 . exact(h.op b ob hb).keep (λb' hl hr=>by rw[bR hl];exact hr) (λb' hl hr=>aG b' hl (by rw[hr];omega))
theorem bB.ua(h:PM role p d bb t line lines size w σ)(hK:∀b,K b->role b=0/\b<w.heap.size)(hC:Ch (λb=>role b=a+3) w w')(ho:CS (rl w (a+3) role) w' p t a o'):
 bB K p d t line lines size w' (σ.aB a o')/\Ch (λb=>¬K b) w w':=by
 have hs:=hC.size;refine⟨⟨_,bb,h.ua hC ho,λb hk=> ?_⟩,hC.mono λb hb _ hk=> ?_⟩
 . obtain⟨h1,h2⟩:=hK b hk
   exact⟨by rw[bR h2];exact h1,by omega⟩
 . rw[(hK b hk).1]at hb;omega
theorem bB.KU(h:PM role p d bb t line lines size w σ)(hK:∀b,K b->role b=0/\b<w.heap.size)(hC:Ch (λb=>role b=2) w w'){cur:Option Nat}{busy:List Bool}(hl:busy.length=σ.busy.length)
 (hp:CB w' p 172 #[.pointer (some ⟨d,0,none⟩), .int .i64 line, .int .i64 lines, .int .u64 size, .slice (some ⟨bb,0,none⟩) σ.busy.length σ.busy.length,fu cur])
 (hb:Sl 4 1 w' (some ⟨bb,0,none⟩) σ.busy.length σ.busy.length (bools busy)):bB K p d t line lines size w' {σ with cur:=cur,busy:=busy}/\Ch (λb=>¬K b) w w':=by
 have hs:=hC.size;refine⟨⟨_,bb,h.KU hC hl hp hb,λb hk=> ?_⟩,hC.mono λb hb _ hk=> ?_⟩
 . obtain⟨h1,h2⟩:=hK b hk
   exact⟨by rw[bR h2];exact h1,by omega⟩
 . rw[(hK b hk).1]at hb;omega
end
theorem Tn(x s:Nat)(hx:x<18446744073709551616)(hs:s<64):bits .and .u64 (x:Int) (IntKind.u64.wrap (18446744073709551615*2^s))=((x/2^s*2^s:Nat):Int):=by
 have hp:(2:Int)^s=((2^s:Nat):Int):=(Int.natCast_pow 2 s).symm;have aM:2^s<2^64:=Nat.pow_lt_pow_right ae hs;have Bh:=KA s
 have e1:IntKind.u64.wrap (18446744073709551615*2^s)=((18446744073709551616-2^s:Nat):Int):=by
  rw[hp,Cf];omega
 rw[e1,Fe _ _ hx ae];congr 1;apply Di
 intro i;rw[Pu,Nat.testBit_mul_two_pow,Nat.testBit_div_two_pow];by_cases hi:i<64
 . have e2:18446744073709551616-2^s=(2^64-((2^s-1)+1)):=by omega
   rw[e2,Nat.testBit_two_pow_sub_succ ae,Ww];by_cases h:s<=i
   . rw[show i-s+s=i by omega]
     simp[h,hi]
   . simp[h];omega
 . have G2:x.testBit i=false:=vq (cD hx (by have:=yN (n:=2) ae (show 64<=i by omega);omega))
   rw[G2];by_cases h:s<=i
   . rw[show i-s+s=i by omega,G2];simp
   . simp[h]
theorem yj(x:Int)(h:0<=x/\x<18446744073709551616):bits .and .u64 x 1099511627775=x%1099511627776:=by
 obtain⟨n,rfl⟩:=vr h.1;have e:=Fe n 1099511627775 ae ae;rw[show n&&&1099511627775=n%2^40 from P6 n 40]at e;have e':bits .and .u64 (n:Int) 1099511627775=((n%2^40:Nat):Int):=e;rw[e'];omega
theorem XM(x:Int)(h:0<=x/\x<18446744073709551616):bits .and .u64 x 4194303=x%4194304:=by
 obtain⟨n,rfl⟩:=vr h.1;have e:=Fe n 4194303 ae ae;rw[show n&&&4194303=n%2^22 from P6 n 22]at e;have e':bits .and .u64 (n:Int) 4194303=((n%2^22:Nat):Int):=e;rw[e'];omega
theorem Ke(x:Int)(h:0<=x/\x<9223372036854775808):bits .and .u64 x 9223372036854775808=0:=by
 obtain⟨n,rfl⟩:=vr h.1;have e:=Fe n 9223372036854775808 ae ae;rw[show n&&&9223372036854775808=n/2^63%2*2^63 from nat_bit 63 n,Nat.div_eq_of_lt ae]at e;exact e
theorem OA(x:Int)(h:0<=x/\x<18446744073709551616):bits .and .u64 x 13835058055282163712=x/4611686018427387904*4611686018427387904:=by
 obtain⟨n,rfl⟩:=vr h.1;have e:=Tn n 62 ae ae;rw[show IntKind.u64.wrap (18446744073709551615*2^62)=13835058055282163712 by rw[Cf];rfl]at e;exact e.trans ae
theorem ED(x:Int)(h:0<=x/\x<4611686018427387904):bits .andNot .u64 x 4611686018427387904=x:=by
 obtain⟨n,rfl⟩:=vr h.1;have e:=u64_andNot_nat n 4611686018427387904 ae ae
 have e2:n&&&(18446744073709551615-4611686018427387904)=n:=by
  apply Di
  intro i;rw[Pu];by_cases hi:i<62
  . have:Nat.testBit (18446744073709551615-4611686018427387904) i=true:=by
     have:∀j,j<62->Nat.testBit (18446744073709551615-4611686018427387904) j=true:=by decide+kernel
     exact this i hi
    rw[this,Bool.and_true]
  . rw[vq (show n<2^i from cD (show n<2^62 by omega) (yN ae ae))]
    simp
 rw[e2]at e;exact e
theorem ZaJ(v c:Int)(hv:0<=v/\v<1099511627776)(hc:0<=c/\c<4194304):bits .or .u64 v (c*1099511627776)=v+c*1099511627776:=by
 obtain⟨n,rfl⟩:=vr hv.1;obtain⟨m,rfl⟩:=vr hc.1;have e:=BW n (m*1099511627776) ae ae;rw[Fb,nat_join 40 (m*1099511627776) n ae ae]at e;rw[Int.natCast_mul m 1099511627776]at e;have e2:bits .or .u64 (n:Int) ((m:Int)*1099511627776)=((m*1099511627776+n:Nat):Int):=e;rw[e2];clear e e2;omega
theorem XL(k:Nat)(h:8*k<18446744073709551615):bits .or .u64 (8*(k:Int)) 1=8*(k:Int)+1:=by
 have e:=BW (8*k) 1 ae ae;rw[nat_join 3 (8*k) 1 ae ae]at e;have e1:((8*k:Nat):Int)=8*(k:Int):=by omega
 rw[e1]at e;have e2:bits .or .u64 (8*(k:Int)) 1=((8*k+1:Nat):Int):=e;rw[e2];omega
theorem Tk(n c:Nat)(hn:n<256)(hc:c<4294967296):bits .or .u64 (bits .or .u64 (bits .or .u64 3 ((n:Int)*256)) 1836515328) ((c:Int)*4294967296)=3+(n:Int)*256+1836515328+(c:Int)*4294967296:=by
 have s1:bits .or .u64 3 ((n:Int)*256)=((n*256+3:Nat):Int):=by
  have a1:=BW 3 (n*256) ae ae;rw[Fb,nat_join 8 (n*256) 3 ae ae,Int.natCast_mul n 256]at a1;exact a1
 have s2:bits .or .u64 ((n*256+3:Nat):Int) 1836515328=((1836515328+(n*256+3):Nat):Int):=by
  have a1:=BW (n*256+3) 1836515328 ae ae;rw[Fb,nat_join 16 1836515328 (n*256+3) ae ae]at a1;exact a1
 have s3:bits .or .u64 ((1836515328+(n*256+3):Nat):Int) ((c:Int)*4294967296)=((c*4294967296+(1836515328+(n*256+3)):Nat):Int):=by
  have a1:=BW (1836515328+(n*256+3)) (c*4294967296) ae ae;rw[Fb,nat_join 32 (c*4294967296) (1836515328+(n*256+3)) ae ae,Int.natCast_mul c 4294967296]at a1;exact a1
 rw[s1,s2,s3];clear s1 s2 s3;omega
def DX(e:bO):Value:= .agg #[.int .u64 e.off, .int .u64 e.old, .int .u64 e.new, .bool e.ex]
def Wt(line lines size:Int):Value:= .agg #[.int .i64 line, .int .i64 lines, .int .u64 size]
def rgB(line lines n:Int):Bool:=decide (0<=line)&&(decide (4<=lines)&&(decide (line<=n)&&decide (lines<=n-line)))
theorem Ko(w:World)(line lines:Int)(n:Nat)(hn:n<=100000)(hl: -9223372036854775808<=line/\line<9223372036854775808)(hm: -9223372036854775808<=lines/\lines<9223372036854775808):
 Calls prog 53 #[Wt line lines ((n:Int)*64)] w λe w'=>e= .returned (.bool (rgB line lines n))/\Below w.heap.size w w':=by
 obtain⟨l1,l2⟩:=hl;obtain⟨m1,m2⟩:=hm;have q2:((n:Int)*64).tdiv 64=(n:Int):=by rw[IC ae];omega
 have q2':(n:Int)*64/64=(n:Int):=by omega
 unfold Wt rgB;by_cases c1:0<=line
 . by_cases c2:4<=lines
   . have e1:IntKind.u64.wrap line=line:=bY _ ae
     have e2:IntKind.u64.wrap lines=lines:=bY _ ae;have RI:line≥0:=c1;have Lv:lines≥4:=c2;by_cases c3:line<=(n:Int)
     . have e3:IntKind.u64.wrap ((n:Int)-line)=(n:Int)-line:=bY _ ae
       go_enter func53,ntmps53
       go_wp2;go_ret;exact⟨by simp[c1,c2,c3]<;>omega,aC⟩
     . go_enter func53,ntmps53
       go_wp2;go_ret;exact⟨by simp[c3]<;>omega,aC⟩
   . have RI:line≥0:=c1
     have Lv:¬lines≥4:=c2;go_enter func53,ntmps53
     go_wp2;go_ret;exact⟨by simp[c2]<;>omega,aC⟩
 . have RI:¬line≥0:=c1
   go_enter func53,ntmps53
   go_wp2;go_ret;exact⟨by simp[c1]<;>omega,aC⟩
theorem xD(w:World)(line:Int)(lines:Nat)(size:Int)(hl:lines<100000):
 Calls prog 54 #[Wt line (lines:Int) size] w λe w'=>e= .returned (.int .i64 ((lines/4:Nat):Int))/\Below w.heap.size w w':=by
 have e1:(lines:Int).tdiv 4=(lines:Int)/4:=IC ae;have e3:IntKind.i64.wrap ((lines:Int)/4)=(lines:Int)/4:=b9 _ ae;unfold Wt;go_enter func54,ntmps54
 go_wp2;go_ret;exact⟨rfl,aC⟩
theorem T7(w:World)(line:Nat)(lines:Int)(size:Int)(k:Nat)(hl:line+4*k<100000):
 Calls prog 55 #[Wt (line:Int) lines size, .int .i64 (k:Int)] w λe w'=>e= .returned (.int .u64 (8*((8*(line+4*k):Nat):Int)))/\Below w.heap.size w w':=by
 have e1:IntKind.i64.wrap ((k:Int)*4)=(k:Int)*4:=b9 _ ae;have e2:IntKind.i64.wrap ((line:Int)+(k:Int)*4)=(line:Int)+(k:Int)*4:=b9 _ ae;have e3:IntKind.u64.wrap ((line:Int)+(k:Int)*4)=(line:Int)+(k:Int)*4:=bY _ ae;have e4:IntKind.u64.wrap (((line:Int)+(k:Int)*4)*64)=((line:Int)+(k:Int)*4)*64:=bY _ ae;have HF:Hid (8*((8*(line+4*k):Nat):Int)=((line:Int)+(k:Int)*4)*64):=by show _=_;omega
 unfold Wt;go_enter func55,ntmps55
 go_wp2;go_ret;rw[HF.out];exact⟨rfl,aC⟩
def A_(line lines n:Nat)(off:Int):Bool:=decide (off%8=0)&&(decide (off<(n:Int)*64)&&(decide (off/64<(line:Int))||decide ((line:Int)+lines<=off/64)))
theorem BR(w:World)(line lines n:Nat)(hl:line+lines<100000)(hn:n<100000)(off:Int)(ho:0<=off/\off<18446744073709551616):
 Calls prog 162 #[Wt (line:Int) (lines:Int) ((n:Int)*64), .int .u64 off] w λe w'=>e= .returned (.bool (A_ line lines n off))/\Below w.heap.size w w':=by
 obtain⟨o1,o2⟩:=ho;unfold Wt A_;have e1:IntKind.u64.wrap (line:Int)=(line:Int):=bY _ ae;have e2:IntKind.u64.wrap (lines:Int)=(lines:Int):=bY _ ae;by_cases c1:off%8=0
 . have RI:(off%8 !=0)=false:=by simpa using c1
   by_cases c2:(n:Int)*64<=off
   . go_enter func162,ntmps162
     go_wp2;go_ret;exact⟨by simp[c1,show¬off<(n:Int)*64 by omega]<;>omega,aC⟩
   . have e3:IntKind.u64.wrap (off/64)=off/64:=bY _ ae
     by_cases c3:off/64<(line:Int)
     . go_enter func162,ntmps162
       go_wp2;go_ret;exact⟨by simp[c1,show off<(n:Int)*64 by omega,c3]<;>omega,aC⟩
     . have e4:IntKind.u64.wrap (off/64-(line:Int))=off/64-(line:Int):=bY _ ae
       go_enter func162,ntmps162
       go_wp2;go_ret
       exact⟨by
        have:decide (off/64-(line:Int)≥(lines:Int))=decide ((line:Int)+lines<=off/64):=by congr 1;apply propext;omega
        simp[c1,show off<(n:Int)*64 by omega,c3,this]<;>omega,aC⟩
 . have RI:(off%8 !=0)=true:=by simpa using c1
   go_enter func162,ntmps162
   go_wp2;go_ret;exact⟨by simp[c1]<;>omega,aC⟩
def bO.t_(e:bO):Bool:=decide (e.new<1099511627776)&&(if e.ex then decide (e.old<4611686018427387904)else decide (e.old<1099511627776))
theorem Gp(w:World)(e:bO)(ho:0<=e.old/\e.old<18446744073709551616):
 Calls prog 163 #[DX e] w λr w'=>r= .returned (.bool e.t_)/\Below w.heap.size w w':=by
 obtain⟨off,old,new,ex⟩:=e;unfold DX bO.t_;dsimp only at ho |-;have hF:=OA old ho;obtain⟨o1,o2⟩:=ho;by_cases c1:new<1099511627776
 . have RI:¬1099511627776<=new:=by omega
   cases ex with
   |true=>
    obtain⟨z,hz⟩:=aH (old/4611686018427387904*4611686018427387904);rw[hz]at hF;have hd:(z==0)=decide (old<4611686018427387904):=by rw[Ps];simp;omega
    have HD:=ag hd;clear hd hz o1 o2;go_enter func163,ntmps163
    go_wp2;go_ret;exact⟨by have:=HD.out;simp[c1,<-this],aC⟩
   |false=>
    clear hF;go_enter func163,ntmps163
    go_wp2;go_ret;exact⟨by simp[c1]<;>omega,aC⟩
 . have RI:1099511627776<=new:=by omega
   clear hF;have HN:Hid ((decide (new<1099511627776)&&(if ex then decide (old<4611686018427387904)else decide (old<1099511627776)))=false):=by show _=_;rw[oX c1];rfl
   rw[HN.out];go_enter func163,ntmps163
   go_wp2;go_ret;exact⟨rfl,aC⟩
theorem DY(w:World)(e:bO)(raw:Int)(hr:0<=raw/\raw<18446744073709551616):
 Calls prog 170 #[DX e, .int .u64 raw] w λr w'=>r= .returned (.bool (e.sat raw))/\Below w.heap.size w w':=by
 obtain⟨off,old,new,ex⟩:=e;unfold DX bO.sat;have hF:=yj raw hr;dsimp only;cases ex with
 |true=>
  clear hF;go_enter func170,ntmps170
  go_wp2;go_ret;exact⟨rfl,aC⟩
 |false=>
  go_enter func170,ntmps170
  go_wp2;go_ret;exact⟨rfl,aC⟩
theorem Rp(w:World)(e:bO)(raw:Int)(hn:0<=e.new/\e.new<1099511627776)(hr:0<=raw/\raw<4611686018427387904):
 Calls prog 173 #[DX e, .int .u64 raw] w λr w'=>r= .returned (.int .u64 (e.after raw))/\Below w.heap.size w w':=by
 obtain⟨off,old,new,ex⟩:=e;unfold DX bO.after;dsimp only at hn |-;obtain⟨z,hz⟩:=aH (raw/1099511627776+1);have e1:IntKind.u64.wrap (raw/1099511627776+1)=z:=by rw[hz];exact bY _ ae
 have e2:=XM z ae;obtain⟨y,hy⟩:=aH (z%4194304);have hyr:0<=y/\y<4194304:=by omega
 have e3:IntKind.u64.wrap (y*1099511627776)=y*1099511627776:=bY _ ae;have e4:=ZaJ new y hn hyr;have HE:Hid ((raw/1099511627776+1)%4194304=y):=by show _=_;rw[hz,hy]
 rw[hy]at e2;clear hz hy;rw[HE.out];go_enter func173,ntmps173
 go_wp2;go_ret;exact⟨rfl,aC⟩
theorem Mr{F:Nat->Prop}{d:Nat}{t:Nat->Nat}(w:World){S:aq}{N:Nat}(h:DV F d t w S)(i:Nat)(hi:i<8)(hG:Good S N)(hN:N<1000000)(q:Ins)(ho:0<=q.2.1/\q.2.1<18446744073709551616)(hop:1<=q.1/\q.1<=3):
 Calls prog 138 #[.pointer (some ⟨t i,0,none⟩), .agg #[.int .u8 q.1, .int .u64 q.2.1, .int .u64 q.2.2]] w λe w'=>e= .returned (.tuple #[])/\DV F d t w' (S.cW i q)/\Ch F w w':=by
 obtain⟨op,off,v⟩:=q;dsimp only at ho hop |-;have H:=ag h;have HG:=ag hG;have HO:=ag ho;clear h hG ho;rcases(by omega:op=1\/op=2\/op=3)with rfl|rfl|rfl
 . have HE:Hid (S.cW i (1,off,v)=S.store i off v):=by show _=_;simp[aq.cW]
   go_enter func138,ntmps138
   go_wp2_with (first|(go_at_call 172;refine(O5 (H.out.alloc _) i hi HG.out hN off v HO.out).mono ?_;rintro e w1 ⟨rfl,hD,hC⟩;have HD:=ag hD;have HC:=ag hC;clear hD hC))
   go_end0
   rw[HE.out];exact⟨rfl,HD.out,(Ch.au (ai (bZ _ _) _)).trans HC.out (λ_ h _=>h)⟩
 . have HE:Hid (S.cW i (2,off,v)=S.flush i off):=by show _=_;simp[aq.cW]
   go_enter func138,ntmps138
   go_wp2_with (first|(go_at_call 110;refine(Jy (H.out.alloc _) i hi HG.out hN off HO.out).mono ?_;rintro e w1 ⟨rfl,hD,hC⟩;have HD:=ag hD;have HC:=ag hC;clear hD hC))
   go_end0
   rw[HE.out];exact⟨rfl,HD.out,(Ch.au (ai (bZ _ _) _)).trans HC.out (λ_ h _=>h)⟩
 . have HE:Hid (S.cW i (3,off,v)=S.fence i):=by show _=_;simp[aq.cW]
   go_enter func138,ntmps138
   go_wp2_with (first|(go_at_call 111;refine(Jz (H.out.alloc _) i hi HG.out hN).mono ?_;rintro e w1 ⟨rfl,hD,hC⟩;have HD:=ag hD;have HC:=ag hC;clear hD hC))
   go_end0
   rw[HE.out];exact⟨rfl,HD.out,(Ch.au (ai (bZ _ _) _)).trans HC.out (λ_ h _=>h)⟩
structure OpC(w:World)(p:Nat)(t:Nat->Nat)(a:Nat)(o:aX)(ea:Option Addr)(ec:Nat)(oa:Option Addr)(oc sb sc:Nat)(pa:Option Addr)(pc:Nat):Prop where
 c0:w.cell? ⟨a,0,none⟩=some (.pointer (some ⟨p,0,none⟩))
 c1:w.cell? ⟨a,1,none⟩=some (.pointer (some ⟨t o.th,0,none⟩))
 c2:w.cell? ⟨a,2,none⟩=some (.int .i64 o.k)
 c3:w.cell? ⟨a,3,none⟩=some (.slice ea o.es.length ec)
 c4:w.cell? ⟨a,4,none⟩=some (.slice oa o.order.length oc)
 c5:w.cell? ⟨a,5,none⟩=some (.slice (some ⟨sb,0,none⟩) o.seen.length sc)
 c6:w.cell? ⟨a,6,none⟩=some (.int .i64 o.loaded)
 c7:w.cell? ⟨a,7,none⟩=some (.int .i64 o.aa)
 c8:w.cell? ⟨a,8,none⟩=some (.slice pa o.prog.length pc)
 c9:w.cell? ⟨a,9,none⟩=some (.bool o.done)
 gj:w.cell? ⟨a,10,none⟩=some (.bool o.changed)
 fD:w.cell? ⟨a,11,none⟩=some (.bool o.ended)
 fZ:w.cell? ⟨a,12,none⟩=some (.int .i64 o.err)
 fW:w.cell? ⟨a,13,none⟩=some (fu o.tgt)
 fO:w.cell? ⟨a,14,none⟩=some (.int .i64 o.sf)
 dC:w.cell? ⟨a,15,none⟩=some (.int .i64 o.next)
section
variable{role:Nat->Nat}{K:Nat->Prop}{p d bb a line lines:Nat}{t:Nat->Nat}{size:Int}{w w':World}{σ:PwS}{o:aX}
theorem CB.h_{ea:Option Addr}{ec:Nat}{oa:Option Addr}{oc sb sc:Nat}{pa:Option Addr}{pc:Nat}(h:CB w a 187 (ei p t o ea ec oa oc sb sc pa pc)):OpC w p t a o ea ec oa oc sb sc pa pc:=
 ⟨h.cell 0,h.cell 1,h.cell 2,h.cell 3,h.cell 4,h.cell 5,h.cell 6,h.cell 7,h.cell 8,h.cell 9,h.cell 10,h.cell 11,h.cell 12,h.cell 13,h.cell 14,h.cell 15⟩
theorem Za8(h:CS role w p t a o):Calls prog 104 #[.pointer (some ⟨a,0,none⟩)] w λe w'=>e= .returned (.int .i64 o.err)/\Below w.heap.size w w':=by
 obtain⟨ea,ec,oa,oc,sb,sc,pa,pc,h1,_⟩:=h;have fZ:=h1.h_.fZ;have HL:a<w.heap.size:=h1.lt;clear h1;go_enter func104,ntmps104
 go_wp2;go_ret;exact⟨rfl,aC⟩
theorem Zcr(h:CS role w p t a o):Calls prog 106 #[.pointer (some ⟨a,0,none⟩)] w λe w'=>e= .returned (.bool (o.ended&&(decide (o.err=0)&&o.changed)))/\Below w.heap.size w w':=by
 obtain⟨ea,ec,oa,oc,sb,sc,pa,pc,h1,_⟩:=h;have gj:=h1.h_.gj;have fD:=h1.h_.fD;have fZ:=h1.h_.fZ;have HL:a<w.heap.size:=h1.lt;clear h1;cases he:o.ended with
 |false=>
  rw[he]at fD;go_enter func106,ntmps106
  go_wp2;go_ret;exact⟨rfl,aC⟩
 |true=>
  rw[he]at fD;by_cases h0:o.err=0
  . rw[h0]at fZ |-
    go_enter func106,ntmps106
    go_wp2;go_ret;exact⟨by simp,aC⟩
  . have h0':(o.err==0)=false:=by simpa using h0
    go_enter func106,ntmps106
    go_wp2;go_ret;exact⟨by simp[h0],aC⟩
theorem CS.TY(h:CS role w p t a o)(e:Int):CS (rl w (a+3) role) ((w.setCell ⟨a,11,none⟩ (.bool true)).setCell ⟨a,12,none⟩ (.int .i64 e)) p t a {o with ended:=true,err:=e}:=by
 obtain⟨ea,ec,oa,oc,sb,sc,pa,pc,h1,h2,h3,h4,zN,h5,r1,r2,n1,r3,r4,r5⟩:=h;have hC:Ch (At a) w ((w.setCell ⟨a,11,none⟩ (.bool true)).setCell ⟨a,12,none⟩ (.int .i64 e)):=((Ch.refl _ _).bj _ _).bj _ _;have lt:∀{A:Option Addr} {et:TypeId} {sz n c:Nat} {xs:List Value},Sl et sz w A n c xs->∀b,ah A b->b<w.heap.size:=λhS b hb=>hS.lt hb
 refine⟨ea,ec,oa,oc,sb,sc,pa,pc,(h1.set _ _).set _ _,h2.ch hC (λb hb=>(r3 b hb).2.1),h3.ch hC (λb hb=>(r4 b hb).2.1),h4.ch hC n1,zN,h5.ch hC (λb hb=>(r5 b hb).2.1),by rw[bR h1.lt];exact r1,by rw[bR h4.lt];exact r2,n1,λb hb=>by rw[bR (h2.lt hb)];exact r3 b hb,λb hb=>by rw[bR (h3.lt hb)];exact r4 b hb,λb hb=>by rw[bR (h5.lt hb)];exact r5 b hb⟩
end
end Go.Proofs.YtjkpjakodomnmaaGreatDoor
