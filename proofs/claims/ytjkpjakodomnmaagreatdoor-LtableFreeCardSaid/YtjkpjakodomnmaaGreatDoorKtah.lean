/- The base, part 8 (merged). -/
import Derived.Test.YtjkpjakodomnmaaGreatDoorKtag
set_option linter.unusedVariables false
set_option linter.unusedSimpArgs false
set_option maxRecDepth 100000
set_option maxHeartbeats 16000000
namespace Go.Proofs.YtjkpjakodomnmaaGreatDoor
open Go.RowKit
def gOq:Option (Nat×aX)->Nat->aX->Nat
 |none,_,o=>(if o.ended then 0 else 1)+(if o.done then 0 else 701)
 |some (c,oc),b,o=>(if o.ended then 0 else 1)+(if o.done then 0 else(if c=b then 1 else 701))+o.rem c oc
def gAq(σ:PwS)(b:Nat):Nat:=match σ.ops b with
 |none=>0
 |some o=>gOq (kI σ) b o
def Gi(σ:PwS)(al:List Nat):Nat:=(al.map (gAq σ)).sum
section
variable{sum:List Int->Int}{at0:Nat->Int}{n cnt N N':Nat}{M:Nat->Prop}{σ σ' Ed:PwS}{xs dz:List Int}{L L':Nat->Int}{a b c:Nat}{o o' oc oc':aX}{al:List Nat}
theorem DP(he:o'.ended=o.ended)(hd:o'.done=o.done)(hr:o'.rem c oc'<o.rem c oc):gOq (some (c,oc')) b o'<gOq (some (c,oc)) b o:=by
 simp only[gOq,he,hd];omega
theorem uC(he:o'.ended=o.ended)(hd:o'.done=true\/(o'.done=o.done/\c≠b))(hr:0<o.rem c oc):gOq none b o'<gOq (some (c,oc)) b o:=by
 simp only[gOq,he];rcases hd with hd|⟨hd,hb⟩
 . simp only[hd,cR];omega
 . simp only[hd,ax hb];omega
def xy(a:Nat)(σ σ':PwS):Prop:=∀b o',σ'.ops b=some o'->∃o,σ.ops b=some o/\gOq (kI σ') b o'<=gOq (kI σ) b o/\(b=a->gOq (kI σ') b o'<gOq (kI σ) b o)
theorem xy.tot(h:xy a σ σ')(hn:al.Nodup)(ha:a∈al)(h1:σ'.ops a=some o):Gi σ' al+1<=Gi σ al:=by
 have:=yA (f:=gAq σ') (g:=gAq σ) (m:=0) (K:=1) al hn ha (λb hb _=> ?_) ?_
 . simpa [Gi]using this
 . unfold gAq
   cases bG:σ'.ops b with
   |none=>simp
   |some o'=>
    obtain⟨o,e1,e2,_⟩:=h b o' bG;rw[e1];exact e2
 . unfold gAq
   obtain⟨o2,e1,_,e3⟩:=h a o h1;rw[h1,e1];exact e3 rfl
theorem xy.Dp(oO:σ'.cur=some c)(rG:σ'.ops c=some oc')(h:∀b o',σ'.ops b=some o'->∃o,σ.ops b=some o/\gOq (some (c,oc')) b o'<=gOq (kI σ) b o/\(b=a->gOq (some (c,oc')) b o'<gOq (kI σ) b o)):xy a σ σ':=by
 intro b o' hb;rw[xS oO rG];exact h b o' hb
theorem MA(h:Inv sum at0 n cnt M N σ xs L)(hc:σ.cur=some c)(bT:σ.ops c=some oc)(hs:oc.aa=0)(i:Nat):xy a σ (σ.load sum at0 c oc i):=by
 obtain⟨IK,g1,g2,g3,g4⟩:=h.run c hc;rw[bT]at g1;injection g1 with g1;subst g1;have bF:=h.ok c oc bT;rcases g4 with⟨_,hl,AE,hM⟩|⟨e,_⟩|⟨e,_⟩|⟨e,_⟩;rotate_left
 . omega
 . omega
 . omega
 obtain⟨q,hq⟩:=aH (oc.order.getD oc.loaded 0);have gg:q<oc.es.length:=by rw[<-hq];exact bF.qQ hl
 have UO:oc.loaded<6:=by have:=bF.vv;have:=bF.l6;omega
 obtain⟨w1,w2,w3⟩:=bF.wd gg;rw[Ds h.on hq w3 w2 (hM _ w1)];have NY:=xS hc bT;have Ix:∀ob:aX,ob.rem c oc=160+(6-oc.loaded):=λob=>by unfold aX.rem;rw[aA hs]
 split
 . split
   . unfold PwS.enter
     rw[aA ae];refine xy.Dp (c:=c) (oc':={({oc with seen:=oc.seen.set q (L (ee oc.es q)),loaded:=oc.loaded+1}:aX)with aa:=1,prog:=({oc with seen:=oc.seen.set q (L (ee oc.es q)),loaded:=oc.loaded+1}:aX).bS sum at0 1}) hc (aA rfl) λb ob hb=> ?_
     rw[NY];have hb:(if b=c then _ else if b=c then _ else σ.ops b)=some ob:=hb
     have key:∀(o1:aX),ob.ended=o1.ended->ob.done=o1.done->gOq (some (c,{({oc with seen:=oc.seen.set q (L (ee oc.es q)),loaded:=oc.loaded+1}:aX)with aa:=1,prog:=({oc with seen:=oc.seen.set q (L (ee oc.es q)),loaded:=oc.loaded+1}:aX).bS sum at0 1})) b ob<gOq (some (c,oc)) b o1:=λo1 e1 e2=>by
      refine DP e1 e2 ?_;rw[Ix];unfold aX.rem;rw[ax (by show¬1=0;omega)];show 40*(4-1)+(38-ob.mS c 1)<_
      omega
     by_cases l9:b=c
     . rw[aA l9]at hb
       injection hb with hb;exact⟨oc,by rw[l9];exact bT,tU (key oc (by rw[<-hb]) (by rw[<-hb])),λ_=>key oc (by rw[<-hb]) (by rw[<-hb])⟩
     . rw[ax l9,ax l9]at hb
       exact⟨ob,hb,tU (key ob rfl rfl),λ_=>key ob rfl rfl⟩
   . refine xy.Dp (c:=c) (oc':={oc with seen:=oc.seen.set q (L (ee oc.es q)),loaded:=oc.loaded+1}) hc (aA rfl) λb ob hb=> ?_
     rw[NY];have hb:(if b=c then _ else σ.ops b)=some ob:=hb
     have key:∀(o1:aX),ob.ended=o1.ended->ob.done=o1.done->gOq (some (c,{oc with seen:=oc.seen.set q (L (ee oc.es q)),loaded:=oc.loaded+1})) b ob<gOq (some (c,oc)) b o1:=λo1 e1 e2=>by
      refine DP e1 e2 ?_;rw[Ix];unfold aX.rem;rw[aA (show aX.aa _=0 from hs)];show 160+(6-(oc.loaded+1))<_
      omega
     by_cases l9:b=c
     . rw[aA l9]at hb
       injection hb with hb;exact⟨oc,by rw[l9];exact bT,tU (key oc (by rw[<-hb]) (by rw[<-hb])),λ_=>key oc (by rw[<-hb]) (by rw[<-hb])⟩
     . rw[ax l9]at hb
       exact⟨ob,hb,tU (key ob rfl rfl),λ_=>key ob rfl rfl⟩
 . unfold PwS.fin
   intro b ob hb;rw[NY,rr rfl];have hb:(if b=c then _ else σ.ops b)=some ob:=hb;by_cases l9:b=c
   . rw[aA l9]at hb
     injection hb with hb;have:=uC (b:=b) (o':=ob) (o:=oc) (c:=c) (oc:=oc) (by rw[<-hb]) (.inl (by rw[<-hb])) (by rw[Ix];omega);exact⟨oc,by rw[l9];exact bT,tU this,λ_=>this⟩
   . rw[ax l9]at hb
     have:=uC (b:=b) (o':=ob) (o:=ob) (c:=c) (oc:=oc) rfl (.inr ⟨rfl,λhe=>l9 he.symm⟩) (by rw[Ix];omega);exact⟨ob,hb,tU this,λ_=>this⟩
theorem NC(h:Inv sum at0 n cnt M N σ xs L)(hR:kh n cnt M at0)(hN:N<1000000)(ha:σ.ops a=some o)(hc:σ.cur=some c)(bT:σ.ops c=some oc)(hs:oc.aa≠0):xy a σ (σ.ry sum at0 a o c oc):=by
 obtain⟨IK,g1,g2,g3,g4⟩:=h.run c hc;rw[bT]at g1;injection g1 with g1;subst g1;obtain⟨h1,h4,hp⟩:=g4.info hs;have bF:=h.ok c oc bT;have NY:=xS hc bT;have hle:∀b ob,σ.ops b=some ob->ob.mS c oc.aa<=36:=λb ob hb=>by have:=h.I3 hR hc bT hb hs;omega
 obtain⟨hj,Jj⟩:=h.I3 hR hc bT ha hs;obtain⟨hv,_,_,_⟩:=K4 (sum:=sum) (xs:=xs) hR bF h.on.length h1 h4 hp (j:=o.mS c oc.aa) hj;have dP:=h.on.ins o.th (h.ok a o ha).th hN hv;rw[JQ σ a o c oc hs (dP.err _)];obtain⟨j,UT⟩:=aH (o.mS c oc.aa);have xl:=UT;rw[UT]at hj |-;have X3:∀ob:aX,ob.rem c oc=40*(4-oc.aa)+(38-ob.mS c oc.aa):=λob=>by unfold aX.rem;rw[ax hs]
 split
 . unfold PwS.enter
   split
   . rename_i _ YQ
     obtain⟨oc',rG⟩:∃oc':aX,{(if c=a then o.pos c oc.aa (j+1)else oc)with aa:=oc.aa+1,prog:=(if c=a then o.pos c oc.aa (j+1)else oc).bS sum at0 (oc.aa+1)}=oc':=⟨_,rfl⟩;have e1:oc'.aa=oc.aa+1:=by rw[<-rG]
     have e2:oc'.ended=oc.ended/\oc'.done=oc.done:=by
      rw[<-rG];by_cases fA:c=a
      . rw[aA fA]
        rw[fA,ha]at bT;injection bT with bT;rw[<-bT];exact⟨rfl,rfl⟩
      . rw[ax fA];exact⟨rfl,rfl⟩
     rw[rG];refine xy.Dp (c:=c) (oc':=oc') hc (aA rfl) λb ob hb=> ?_
     rw[NY];have hb:(if b=c then some oc' else if b=a then some (o.pos c oc.aa (j+1))else σ.ops b)=some ob:=hb
     have key:∀(o1:aX),o1.mS c oc.aa<=36->ob.ended=o1.ended->ob.done=o1.done->gOq (some (c,oc')) b ob<gOq (some (c,oc)) b o1:=λo1 e0 e1' e2'=>by
      refine DP e1' e2' ?_;rw[X3];unfold aX.rem;rw[e1,ax ae];omega
     by_cases l9:b=c
     . rw[aA l9]at hb
       injection hb with hb;have:=key oc (hle c oc bT) (by rw[<-hb];exact e2.1) (by rw[<-hb];exact e2.2);exact⟨oc,by rw[l9];exact bT,tU this,λ_=>this⟩
     . rw[ax l9]at hb
       by_cases jg:b=a
       . rw[aA jg]at hb
         injection hb with hb;have:=key o (hle a o ha) (by rw[<-hb];rfl) (by rw[<-hb];rfl);exact⟨o,by rw[jg];exact ha,tU this,λ_=>this⟩
       . rw[ax jg]at hb
         have:=key ob (hle b ob hb) rfl rfl;exact⟨ob,hb,tU this,λ_=>this⟩
   . unfold PwS.fin
     obtain⟨oc',rG⟩:∃oc':aX,{({(if c=a then o.pos c oc.aa (j+1)else oc)with aa:=oc.aa+1}:aX)with done:=true,changed:=true}=oc':=⟨_,rfl⟩
     have e2:oc'.ended=oc.ended/\oc'.done=true:=by
      rw[<-rG];by_cases fA:c=a
      . rw[aA fA]
        rw[fA,ha]at bT;injection bT with bT;rw[<-bT];exact⟨rfl,rfl⟩
      . rw[ax fA];exact⟨rfl,rfl⟩
     rw[rG];intro b ob hb;rw[NY,rr rfl];have hb:(if b=c then some oc' else if b=a then some (o.pos c oc.aa (j+1))else σ.ops b)=some ob:=hb;by_cases l9:b=c
     . rw[aA l9]at hb
       injection hb with hb;have:=uC (b:=b) (o':=ob) (o:=oc) (c:=c) (oc:=oc) (by rw[<-hb];exact e2.1) (.inl (by rw[<-hb];exact e2.2)) (Dd (λ_=>by have:=hle c oc bT;omega));exact⟨oc,by rw[l9];exact bT,tU this,λ_=>this⟩
     . rw[ax l9]at hb
       by_cases jg:b=a
       . rw[aA jg]at hb
         injection hb with hb;have:=uC (b:=b) (o':=ob) (o:=o) (c:=c) (oc:=oc) (by rw[<-hb];rfl) (.inr ⟨by rw[<-hb];rfl,λhe=>l9 he.symm⟩) (Dd (λ_=>by have:=hle a o ha;omega));exact⟨o,by rw[jg];exact ha,tU this,λ_=>this⟩
       . rw[ax jg]at hb
         have:=uC (b:=b) (o':=ob) (o:=ob) (c:=c) (oc:=oc) rfl (.inr ⟨rfl,λhe=>l9 he.symm⟩) (Dd (λ_=>by have:=hle b ob hb;omega));exact⟨ob,hb,tU this,λ_=>this⟩
 . obtain⟨oc',rG,e1⟩:∃oc',(if c=a then some (o.pos c oc.aa (j+1))else σ.ops c)=some oc'/\oc'.aa=oc.aa:=by
    by_cases fA:c=a
    . rw[aA fA]
      rw[fA,ha]at bT;injection bT with bT;exact⟨_,rfl,by rw[<-bT];rfl⟩
    . rw[ax fA];exact⟨oc,bT,rfl⟩
   refine xy.Dp (c:=c) (oc':=oc') hc rG λb ob hb=> ?_
   rw[NY];have hb:(if b=a then some (o.pos c oc.aa (j+1))else σ.ops b)=some ob:=hb;have Wu:∀ob:aX,ob.rem c oc'=40*(4-oc.aa)+(38-ob.mS c oc.aa):=λob=>by unfold aX.rem;rw[e1,ax hs]
   by_cases jg:b=a
   . rw[aA jg]at hb
     injection hb with hb;have:gOq (some (c,oc')) b ob<gOq (some (c,oc)) b o:=DP (by rw[<-hb];rfl) (by rw[<-hb];rfl) (by rw[X3,Wu,<-hb,Ut,xl];omega);exact⟨o,by rw[jg];exact ha,tU this,λ_=>this⟩
   . rw[ax jg]at hb
     refine⟨ob,hb,?_,λhe=>absurd he jg⟩;simp only[gOq,X3,Wu];exact a_ _
theorem RV(h:Inv sum at0 n cnt M N σ xs L)(hR:kh n cnt M at0)(hN:N<1000000)(ha:σ.ops a=some o)(hc:σ.cur=some c)(bT:σ.ops c=some oc):xy a σ (σ.ry sum at0 a o c oc):=by
 by_cases hs:oc.aa=0
 . have e:σ.ry sum at0 a o c oc=σ.load sum at0 c oc o.th:=by unfold PwS.ry;rw[aA hs]
   rw[e];exact MA h hc bT hs o.th
 . exact NC h hR hN ha hc bT hs
theorem JH(h:Inv sum at0 n cnt M N σ xs L)(hc:σ.cur=none)(ha:σ.ops a=some o)(hd:o.done=false)(hn:al.Nodup)(hm:a∈al)(hl:al.length<=4):Gi {σ with cur:=some a} al+1<=Gi σ al:=by
 obtain⟨f1,f2,f3⟩:=h.fresh a o ha (by rw[hc];simp) hd;have NY:kI {σ with cur:=some a}=some (a,o):=xS rfl ha;have Ix:∀ob:aX,ob.rem a o=166:=λob=>by unfold aX.rem;rw[aA f1,f2]
 have:=yA (f:=gAq {σ with cur:=some a}) (g:=gAq σ) (m:=166) (K:=534) al hn hm (λb hb jg=> ?_) ?_
 . have h3:166*(al.length-1)<=498:=by omega
   unfold Gi;omega
 . unfold gAq
   show(match σ.ops b with|none=>0|some o=>_)<=_
   cases xM:σ.ops b with
   |none=>simp
   |some ob=>
    simp only;rw[NY,rr hc];simp only[gOq,Ix,ax (show¬a=b from λhe=>jg he.symm)];omega
 . unfold gAq
   show(match σ.ops a with|none=>0|some o=>_)+_<=_
   rw[ha];simp only;rw[NY,rr hc];simp only[gOq,Ix,cR,hd,eS,dF];omega
theorem CM(h:Inv sum at0 n cnt M N σ xs L)(ha:σ.ops a=some o)(hd:o.done=true)(he:o.ended=false)(e:Int):xy a σ (σ.fB a o e):=by
 have ef:σ.fB a o e={σ.aB a {o with ended:=true,err:=e}with busy:=σ.busy.set o.k false}:=by
  unfold PwS.fB;rw[ax (by simp[hd])]
 rw[ef]
 have fA:∀c,σ.cur=some c->c≠a:=λc hc fA=>by
  obtain⟨oc,g1,g2,_⟩:=h.run c hc;rw[fA,ha]at g1;injection g1 with g1;rw[g1]at hd;rw[hd]at g2;cases g2
 have NY:kI ({σ.aB a {o with ended:=true,err:=e}with busy:=σ.busy.set o.k false}:PwS)=kI σ:=by
  unfold kI;show σ.cur.bind _=_
  cases hc:σ.cur with
  |none=>rfl
  |some c=>
   show((if c=a then _ else σ.ops c):Option aX).map _=(σ.ops c).map _
   rw[ax (fA c hc)]
 intro b ob hb;rw[NY];have hb:(if b=a then some {o with ended:=true,err:=e}else σ.ops b)=some ob:=hb;by_cases jg:b=a
 . rw[aA jg]at hb
   injection hb with hb
   have:gOq (kI σ) b ob<gOq (kI σ) b o:=by
    rw[<-hb];cases kI σ with
    |none=>simp[gOq,he]
    |some p=>
     obtain⟨c,oc⟩:=p;have hr:({o with ended:=true,err:=e}:aX).rem c oc=o.rem c oc:=rfl;simp[gOq,hr,he]
   exact⟨o,by rw[jg];exact ha,tU this,λ_=>this⟩
 . rw[ax jg]at hb
   exact⟨ob,hb,a_ _,λW9=>absurd W9 jg⟩
theorem Inv.Mc(h:Inv sum at0 n cnt M N σ xs L)(hR:kh n cnt M at0)(hN:N<1000000)(ha:σ.ops a=some o)(he:o.ended=false)(hn:al.Nodup)(hm:a∈al)(hl:al.length<=4):Gi (σ.step sum at0 a).1 al+1<=Gi σ al:=by
 have cM:∀i,(σ.dev.a8 i).err=0:=h.on.err;cases hd:o.done with
 |true=>
  have bh:σ.step sum at0 a=(σ.fB a o 0,true):=by
   unfold PwS.step;rw[ha];simp[he,hd,cM]
  rw[bh];refine(CM h ha hd he 0).tot hn hm (o:={o with ended:=true,err:=0}) ?_;unfold PwS.fB;rw[ax (by simp[hd])];exact aA rfl
 |false=>
  obtain⟨mQ,c,QB,Jq,Gf,tx,hg⟩:∃mQ c,mQ=(if σ.cur.isSome then σ else{σ with cur:=some a})/\mQ.cur=some c/\Inv sum at0 n cnt M N mQ xs L/\mQ.ops=σ.ops/\Gi mQ al<=Gi σ al:=by
   cases cS:σ.cur with
   |none=>exact⟨{σ with cur:=some a},a,rfl,rfl,h.claim cS ha hd,rfl,by have:=JH h cS ha hd hn hm hl;omega⟩
   |some c=>exact⟨σ,c,rfl,cS,h,rfl,a_ _⟩
  obtain⟨oc,g1,g2,g3,g4⟩:=Gf.run c Jq;have N1:mQ.ops a=some o:=by rw[tx];exact ha
  obtain⟨ys,L1,xQ,Rc⟩:=Gf.ry hR hN N1 Jq g1;have F9:=RV Gf hR hN N1 Jq g1;obtain⟨o1,k1,k2,k3,k4⟩:=Rc.sm N1;have Er:=(JP (sum:=sum) (at0:=at0) N1 g1).2 a;have vI:=F9.tot hn hm k1;obtain⟨τ,DB⟩:=aH (mQ.ry sum at0 a o c oc);rw[DB]at xQ k1 vI Er
  have M0:o1.ended=false:=by
   rw[k1,N1,Option.map_some,Option.map_some]at Er;injection Er with Er;exact(bP (λx=>x.1) Er).trans he
  have bh:σ.step sum at0 a=if o1.done then(τ.fB a o1 0,true)else(τ,false):=by
   unfold PwS.step;rw[ha];simp only[he,eS,dF,hd,cM,ne_eq,KK];rw[<-QB,Jq,Option.getD_some,g1];simp only[DB,k1];rw[ax (by rw[xQ.on.err];simp)]
  rw[bh];cases kP:o1.done with
  |false=>simp only[eS,dF];omega
  |true=>
   simp only[cR]
   have h2:=(CM xQ k1 kP M0 0).tot hn hm (o:={o1 with ended:=true,err:=0}) (by
    unfold PwS.fB;rw[ax (by simp[kP])];exact aA rfl)
   omega
theorem Rg(h:Inv sum at0 n cnt M N σ xs L)(hl:al.length<=4):Gi σ al<=868*al.length:=by
 have h0:∀b∈al,gAq σ b<=(λ_=>0) b+868:=λb _=>by
  unfold gAq;cases xM:σ.ops b with
  |none=>simp
  |some ob=>
   simp only;cases kI σ with
   |none=>simp only[gOq];split<;>split<;>omega
   |some p=>
    obtain⟨c,oc⟩:=p
    have hr:ob.rem c oc<=166:=by
     unfold aX.rem;split
     . omega
     . omega
    simp only[gOq];split<;>split<;>(try split)<;>omega
 have:=sF (f:=gAq σ) (g:=λ_=>0) (m:=868) al h0;rw[E3]at this;unfold Gi;omega
end
def sumF(f:Nat->TM->Nat):List TM->Nat->Nat
 |[],_=>0
 |m::ms,k=>f k m+sumF f ms (k+1)
theorem qM{f g:Nat->TM->Nat}:∀(ms:List TM) (k:Nat),(∀i m,ms[i]?=some m->f (k+i) m<=g (k+i) m)->sumF f ms k<=sumF g ms k
 |[],_,_=>a_ _
 |m::ms,k,h=>by
  have h1:=h 0 m rfl;have h2:=qM (f:=f) (g:=g) ms (k+1) (λi mi hi=>by have:=h (i+1) mi hi;rwa[show k+(i+1)=k+1+i by omega]at this);simp only[sumF];rw[Nat.add_zero]at h1;omega
theorem pL(f g:Nat->TM->Nat):∀(ms:List TM) (k:Nat),sumF (λi m=>f i m+g i m) ms k=sumF f ms k+sumF g ms k
 |[],_=>rfl
 |m::ms,k=>by
  simp only[sumF];rw[pL f g ms (k+1)];omega
theorem yB{f:Nat->TM->Nat}{m':TM}:∀{ms:List TM} {i:Nat} {m:TM} (k:Nat),ms[i]?=some m->sumF f (ms.set i m') k+f (k+i) m=sumF f ms k+f (k+i) m'
 |[],i,m,k,h=>by simp at h
 |x::ms,0,m,k,h=>by
  simp at h;subst h;simp only[List.set_cons_zero,sumF,Nat.add_zero];omega
 |x::ms,i+1,m,k,h=>by
  have h1:ms[i]?=some m:=by simpa using h
  have:=yB (f:=f) (m':=m') (k:=k+1) h1;simp only[List.set_cons_succ,sumF];rw[show k+(i+1)=k+1+i by omega];omega
theorem E4(f:Nat->TM->Nat):∀(ms:List TM) (m:TM) (k:Nat),sumF f (ms++[m]) k=sumF f ms k+f (k+ms.length) m
 |[],m,k=>by simp[sumF]
 |x::ms,m,k=>by
  simp only[List.cons_append,sumF,List.length_cons];rw[E4 f ms m (k+1),show k+(ms.length+1)=k+1+ms.length by omega];omega
def aT(m:TM):Option Nat:=match m.ph with
 | .dH _ a=>some a
 |_=>none
def l_(ms:List TM):List Nat:=ms.filterMap aT
def gM(σ:PwS)(m:TM):Nat:=match aT m with
 |some a=>gAq σ a
 |none=>0
theorem O3(σ:PwS):∀(ms:List TM) (k:Nat),sumF (λ_ m=>gM σ m) ms k=Gi σ (l_ ms)
 |[],_=>rfl
 |m::ms,k=>by
  simp only[sumF];rw[O3 σ ms (k+1)];unfold l_;rw[List.filterMap_cons];unfold gM;cases h:aT m with
  |none=>simp
  |some a=>simp[Gi]
structure Oc(ms:List TM):Prop where
 WD:∀(i:Nat) (m:TM),ms[i]?=some m->m.ph.over=false->m.th=0\/m.th=1\/m.th=2\/m.th=5
 one:∀(i j:Nat) (mi mj:TM),ms[i]?=some mi->ms[j]?=some mj->mi.ph.over=false->mj.ph.over=false->mi.th=mj.th->i=j
theorem DS{l:List Nat}(hn:l.Nodup)(h:∀x∈l,x=0\/x=1\/x=2\/x=5):l.length<=4:=by
 have:=Wx hn (l₂:=[0,1,2,5]) (λx hx=>by simpa using h x hx);simpa using this
theorem OJ{l:List Nat}{t:Nat}(hn:l.Nodup)(h:∀x∈l,x=0\/x=1\/x=2\/x=5)(ht:t=0\/t=1\/t=2\/t=5)(hnt:t∉l):l.length<=3:=by
 have:=DS (l:=t::l) (rD.2 ⟨hnt,hn⟩) (λx hx=>by
  rcases List.mem_cons.1 hx with rfl|hx
  . exact ht
  . exact h x hx)
 simpa using this
def o9(p:Nat->TM->Bool)(ms:List TM)(k:Nat):Nat:=sumF (λi m=>if p i m then 1 else 0) ms k
def OK(p:Nat->TM->Bool):List TM->Nat->List Nat
 |[],_=>[]
 |m::ms,k=>if p k m then m.th::OK p ms (k+1)else OK p ms (k+1)
theorem sY(p:Nat->TM->Bool):∀(ms:List TM) (k:Nat),(OK p ms k).length=o9 p ms k
 |[],_=>rfl
 |m::ms,k=>by
  have:=sY p ms (k+1);unfold o9 at this |-;simp only[OK,sumF];split
  . rw[List.length_cons,this];omega
  . rw[this];omega
theorem qX{p:Nat->TM->Bool}:∀{ms:List TM} {k x:Nat},x∈OK p ms k->∃i m,ms[i]?=some m/\p (k+i) m=true/\m.th=x
 |[],k,x,h=>by simp[OK]at h
 |m::ms,k,x,h=>by
  simp only[OK]at h;split at h
  . rename_i hp
    rcases List.mem_cons.1 h with h|h
    . exact⟨0,m,rfl,by simpa using hp,h.symm⟩
    . obtain⟨i,mi,h1,h2,h3⟩:=qX h
      exact⟨i+1,mi,h1,by rwa[show k+(i+1)=k+1+i by omega],h3⟩
  . obtain⟨i,mi,h1,h2,h3⟩:=qX h
    exact⟨i+1,mi,h1,by rwa[show k+(i+1)=k+1+i by omega],h3⟩
theorem vz{p:Nat->TM->Bool}:∀{ms:List TM} {k:Nat},(∀(i j:Nat) (mi mj:TM),ms[i]?=some mi->ms[j]?=some mj->p (k+i) mi=true->p (k+j) mj=true->mi.th=mj.th->i=j)->(OK p ms k).Nodup
 |[],k,h=>by simp[OK]
 |m::ms,k,h=>by
  have h2:(OK p ms (k+1)).Nodup:=vz (λi j mi mj hi hj pi pj ht=>by
   have:=h (i+1) (j+1) mi mj hi hj (by rwa[show k+(i+1)=k+1+i by omega]) (by rwa[show k+(j+1)=k+1+j by omega]) ht;omega)
  simp only[OK];split
  . rename_i hp
    rw[rD];refine⟨λhx=> ?_,h2⟩;obtain⟨i,mi,h3,h4,h5⟩:=qX hx;have:=h 0 (i+1) m mi rfl h3 (by simpa using hp) (by rwa[show k+(i+1)=k+1+i by omega]) h5.symm;omega
  . exact h2
section
variable{ms:List TM}{p:Nat->TM->Bool}{j:Nat}{mj:TM}
theorem Oc.Zb5(h:Oc ms)(hp:∀i m,ms[i]?=some m->p i m=true->m.ph.over=false):o9 p ms 0<=4:=by
 rw[<-sY];refine DS (vz (λi j mi mj hi hj pi pj ht=> ?_)) (λx hx=> ?_)
 . rw[cY]at pi pj
   exact h.one i j mi mj hi hj (hp i mi hi pi) (hp j mj hj pj) ht
 . obtain⟨i,m,h1,h2,h3⟩:=qX hx
   rw[cY]at h2;rw[<-h3];exact h.WD i m h1 (hp i m h1 h2)
theorem Oc.ZdF(h:Oc ms)(hp:∀i m,ms[i]?=some m->p i m=true->m.ph.over=false)(hj:ms[j]?=some mj)(bU:mj.ph.over=false)(rk:∀m,p j m=false):o9 p ms 0<=3:=by
 rw[<-sY];refine OJ (t:=mj.th) (vz (λi j mi mj hi hj pi pj ht=> ?_)) (λx hx=> ?_) (h.WD j mj hj bU) (λhx=> ?_)
 . rw[cY]at pi pj
   exact h.one i j mi mj hi hj (hp i mi hi pi) (hp j mj hj pj) ht
 . obtain⟨i,m,h1,h2,h3⟩:=qX hx
   rw[cY]at h2;rw[<-h3];exact h.WD i m h1 (hp i m h1 h2)
 . obtain⟨i,m,h1,h2,h3⟩:=qX hx
   rw[cY]at h2;have:=h.one i j m mj h1 hj (hp i m h1 h2) bU h3;subst this;rw[rk]at h2;cases h2
end
structure HK(K:TK):Prop where
 lt:∀x,KR x->K.hs x<2^64
 inj:∀x y,KR x->KR y->K.hs x=K.hs y->x=y
def Nq(d:TD)(r:eP):Prop:=d.aa=1\/(d.aa=13/\r.place≠0/\r.raw≠d.raw)
def FrD(K:TK)(c:TC)(L:Nat->Int)(d:TD):Prop:=
 L (K.rt c)=d.raw/\(10<=d.aa/\d.aa<=12->bu L K.fr=d.free)/\(11<=d.aa/\d.aa<=12->bu L (K.nd d.free 2)=d.cN)/\(d.aa=12->bu L (K.nd d.free 0)=d.fy)
def Fr(K:TK)(c:TC)(L:Nat->Int)(d:TD)(r:eP):Prop:=
 (Nq d r->r.place≠0->r.raw=L (K.rt c))/\(¬Nq d r->FrD K c L d/\(r.place≠0->r.raw%1099511627776=bu L (tWd K c d)))
def tR(d:TD):Nat:=match d.aa with
 |1=>269
 |2=>2*(64-d.depth)+140
 |3=>if d.depth<64 then 2*(64-d.depth)+139 else 141
 |4=>139
 |5=>2*(64-d.depth)+10
 |6=>2*(64-d.depth)+9
 |7=>7
 |8=>6
 |9=>5
 |10=>4
 |11=>3
 |12=>2
 |_=>1
section
variable{K:TK}{c:TC}{d d0:TD}{L:Nat->Int}{T:Nat->TT}{fl:List Nat}{raw:Int}{q:List (Int×Int)}{es:List bO}{t:TT}
theorem Wp(d:TD):tR d<=269:=by
 unfold tR;split
 case h_3=>split<;>omega
 all_goals omega
def rP(n:Nat):TO->Prop
 | .read d' _=>d'.aa=1\/tR d'<n
 |_=>True
theorem rP.visit{n k:Nat}(h:2*(64-d.depth)+140<k):rP k (fE K c d n):=by
 unfold fE;split
 . trivial
 . split
   . right;show 2*(64-d.depth)+140<k;exact h
   . split
     . right;show 5<k;omega
     . right;show 1<k;omega
theorem rP.enter:rP 269 (dQ K c d raw):=by
 unfold dQ;exact rP.visit (by show 2*(64-0)+140<269;omega)
theorem rP.comm{v:Int}{k:Nat}:rP k (fF K c d v es):=by
 unfold fF;split
 . exact .inl rfl
 . trivial
theorem rP.load(h:1<=d.aa/\d.aa<=13):rP (if d.aa=1\/(d.aa=13/\raw≠d.raw)then 269 else tR d) (tLoad K c d raw):=by
 rcases(by omega:d.aa=1\/d.aa=2\/d.aa=3\/d.aa=4\/d.aa=5\/d.aa=6\/d.aa=7\/d.aa=8\/d.aa=9\/d.aa=10\/d.aa=11\/d.aa=12\/d.aa=13)with hs|hs|hs|hs|hs|hs|hs|hs|hs|hs|hs|hs|hs
 . rw[aA (.inl hs)]
   unfold tLoad;simp only[hs];exact rP.enter
 . rw[ax ae]
   have e:tR d=2*(64-d.depth)+140:=by unfold tR;simp only[hs]
   rw[e];unfold tLoad;simp only[hs];by_cases h1:raw%1099511627776=c.key
   . rw[aA h1];right;show 139<_;omega
   . rw[ax h1]
     by_cases h2:64<=d.depth
     . rw[aA h2];exact .inl rfl
     . rw[ax h2];right;show(if d.depth<64 then 2*(64-d.depth)+139 else 141)<_;rw[aA ae];omega
 . rw[ax ae]
   have e:tR d=if d.depth<64 then 2*(64-d.depth)+139 else 141:=by unfold tR;simp only[hs]
   rw[e];unfold tLoad;simp only[hs];refine rP.visit ?_;show 2*(64-(d.depth+1))+140<_
   split<;>omega
 . rw[ax ae]
   have e:tR d=139:=by unfold tR;simp only[hs]
   rw[e];unfold tLoad;simp only[hs];split
   . right;show 1<139;omega
   . split
     . right;show 2*(64-0)+10<139;omega
     . split
       . right;show 1<139;omega
       . exact rP.comm
 . rw[ax ae]
   have e:tR d=2*(64-d.depth)+10:=by unfold tR;simp only[hs]
   rw[e];unfold tLoad;simp only[hs];right;show 2*(64-d.depth)+9<_;omega
 . rw[ax ae]
   have e:tR d=2*(64-d.depth)+9:=by unfold tR;simp only[hs]
   rw[e];have e2:tLoad K c d raw=ni K c d (raw%1099511627776).toNat:=by unfold tLoad;simp only[hs]
   rw[e2];unfold ni;dsimp only;generalize (if d.aN=0 then(raw%1099511627776).toNat else d.aN)=n;by_cases h0:K.NN<n
   . rw[aA h0];trivial
   . rw[ax h0]
     by_cases h1:n=0
     . rw[aA h1]
       by_cases h2:d.last=d.node
       . rw[aA h2];right;show 5<_;omega
       . rw[ax h2];right;show 7<_;omega
     . rw[ax h1]
       by_cases h2:64<=d.depth
       . rw[aA h2];exact .inl rfl
       . rw[ax h2];right;show 2*(64-(d.depth+1))+10<_;omega
 . rw[ax ae]
   have e:tR d=7:=by unfold tR;simp only[hs]
   rw[e];unfold tLoad;simp only[hs];right;show 6<7;omega
 . rw[ax ae]
   have e:tR d=6:=by unfold tR;simp only[hs]
   rw[e];unfold tLoad;simp only[hs];right;show 5<6;omega
 . rw[ax ae]
   have e:tR d=5:=by unfold tR;simp only[hs]
   rw[e];unfold tLoad;simp only[hs];split
   . trivial
   . split
     . exact rP.comm
     . split
       . right;show 1<5;omega
       . right;show 4<5;omega
 . rw[ax ae]
   have e:tR d=4:=by unfold tR;simp only[hs]
   rw[e];unfold tLoad;simp only[hs];right;show 3<4;omega
 . rw[ax ae]
   have e:tR d=3:=by unfold tR;simp only[hs]
   rw[e];unfold tLoad;simp only[hs];right;show 2<3;omega
 . rw[ax ae]
   unfold tLoad;simp only[hs];exact rP.comm
 . unfold tLoad;simp only[hs]
   by_cases h1:raw=d.raw
   . rw[aA h1];trivial
   . rw[ax h1,aA (.inr ⟨trivial,h1⟩)];exact rP.enter
end
def J9(K:TK)(c:TC)(L:Nat->Int):TO->Prop
 | .read d' _=>d'.aa≠1/\FrD K c L d'
 | .dH _ es _=>nu L es=true
 | .done _ _=>True
section
variable{K:TK}{c:TC}{d d0:TD}{L:Nat->Int}{T:Nat->TT}{fl:List Nat}{raw:Int}{q:List (Int×Int)}{es:List bO}{t:TT}{k n m:Nat}{o x v:Int}
theorem T3(h:∀e∈es,∃k:Nat,e.off=8*(k:Int)/\e.sat (L k)=true):nu L es=true:=by
 unfold nu;rw[ir];intro i hi;have Jl:i<es.length:=by simpa using hi
 have hg:es.getD i E0=es[i]:=by rw[eY,dG Jl];rfl
 obtain⟨k,h1,h2⟩:=h es[i] (fq Jl);have hw:ee es i=k:=by unfold ee;rw[hg,h1];omega
 rw[hg,hw];exact h2
theorem qU:(jF k o x).off=8*(k:Int):=rfl
theorem nB:(dD K c d x).off=8*((K.rt c:Nat):Int):=rfl
theorem eA(h:bu L k=o):∃j:Nat,(jF k o x).off=8*(j:Int)/\(jF k o x).sat (L j)=true:=⟨k,rfl,by unfold bO.sat jF;simpa [bu]using h⟩
theorem nj(h:L (K.rt c)=d.raw):∃j:Nat,(dD K c d x).off=8*(j:Int)/\(dD K c d x).sat (L j)=true:=⟨K.rt c,rfl,by unfold bO.sat dD;simpa using h⟩
theorem J9.comm(hd:dupE es=false)(h:∀e∈es,∃k:Nat,e.off=8*(k:Int)/\e.sat (L k)=true):J9 K c L (fF K c d v es):=by
 unfold fF;rw[hd];exact T3 h
theorem J9.visit{n:Nat}(h:L (K.rt c)=d.raw):J9 K c L (fE K c d n):=by
 unfold fE;split
 . trivial
 . split
   . exact⟨by simp,h,by simp,by simp,by simp⟩
   . split
     . exact⟨by simp,h,by simp,by simp,by simp⟩
     . exact⟨by simp[lV],h,by simp,by simp,by simp⟩
theorem J9.enter(h:L (K.rt c)=raw):J9 K c L (dQ K c d raw):=by
 unfold dQ;exact J9.visit h
theorem ZV(hb:K.bk c.key<K.B)(h1:L (K.rt c)=d.raw)(h2:bu L (K.nd d.node 1)=d.value):dupE (g_ K c d)=false/\∀e∈g_ K c d,∃k:Nat,e.off=8*(k:Int)/\e.sat (L k)=true:=by
 refine⟨?_,λe he=> ?_⟩
 . simp only[g_,dupE,List.any_cons,List.any_nil,tY,AY,vp,ne_eq,qU,nB,mF]
   unfold TK.rt TK.nd eJ aQ;omega
 . simp only[g_,dr,fH,gF]at he
   rcases he with rfl|rfl
   . exact nj h1
   . exact eA h2
def Zao(K:TK)(c:TC)(L:Nat->Int)(d:TD)(ns:List Nat):Prop:=bu L d.link=d.node/\(d.link=K.rt c\/∃m,1<=m/\m∉ns/\(d.link=K.nd m 2\/d.link=K.nd m 3))
theorem ZW(hb:K.bk c.key<K.B)(h1:L (K.rt c)=d.raw)(h2:Zao K c L d [d.free])(hf:1<=d.free)(h3:bu L K.fr=d.free)(h4:bu L (K.nd d.free 2)=d.cN)(h5:bu L (K.nd d.free 0)=d.fy)(h6:bu L (K.nd d.free 1)=d.bI):
 dupE (dg K c d)=false/\∀e∈dg K c d,∃k:Nat,e.off=8*(k:Int)/\e.sat (L k)=true:=by
 obtain⟨l1,l2⟩:=h2;unfold dg bC;by_cases hl:d.link=K.rt c
 . rw[aA hl]
   refine⟨?_,λe he=> ?_⟩
   . simp only[List.cons_append,List.nil_append,dupE,List.any_cons,List.any_nil,tY,AY,vp,ne_eq,qU,nB,mF]
     unfold TK.rt TK.nd TK.fr eJ aQ nV;omega
   . simp only[List.cons_append,List.nil_append,dr,fH,gF]at he
     rcases he with rfl|rfl|rfl|rfl|rfl
     . exact nj h1
     . exact eA h3
     . exact eA h4
     . exact eA h5
     . exact eA h6
 . rw[ax hl]
   obtain⟨m,m1,m2,m3⟩:=l2.resolve_left hl;have m2:m≠d.free:=by simpa using m2
   refine⟨?_,λe he=> ?_⟩
   . simp only[List.cons_append,List.nil_append,dupE,List.any_cons,List.any_nil,tY,AY,vp,ne_eq,qU,nB,mF]
     rcases m3 with m3|m3<;>rw[m3]<;>unfold TK.rt TK.nd TK.fr eJ aQ nV<;>omega
   . simp only[List.cons_append,List.nil_append,dr,fH,gF]at he
     rcases he with rfl|rfl|rfl|rfl|rfl|rfl
     . exact nj h1
     . exact eA l1
     . exact eA h3
     . exact eA h4
     . exact eA h5
     . exact eA h6
theorem Rk(hb:K.bk c.key<K.B)(h1:L (K.rt c)=d.raw)(h2:Zao K c L d [d.last])(hf:1<=d.last)(vK:d.last=d.node)(h3:bu L K.fr=d.free)(h4:bu L (K.nd d.last 2)=0):
 dupE (cB K c d)=false/\∀e∈cB K c d,∃k:Nat,e.off=8*(k:Int)/\e.sat (L k)=true:=by
 obtain⟨l1,l2⟩:=h2;unfold cB bC;rw[aA vK];by_cases hl:d.link=K.rt c
 . rw[aA hl]
   refine⟨?_,λe he=> ?_⟩
   . simp only[List.cons_append,List.nil_append,dupE,List.any_cons,List.any_nil,tY,AY,vp,ne_eq,qU,nB,mF]
     unfold TK.rt TK.nd TK.fr eJ aQ nV;omega
   . simp only[List.cons_append,List.nil_append,dr,fH,gF]at he
     rcases he with rfl|rfl|rfl
     . exact nj h1
     . exact eA h3
     . exact eA h4
 . rw[ax hl]
   obtain⟨m,m1,m2,m3⟩:=l2.resolve_left hl;have m2:m≠d.last:=by simpa using m2
   refine⟨?_,λe he=> ?_⟩
   . simp only[List.cons_append,List.nil_append,dupE,List.any_cons,List.any_nil,tY,AY,vp,ne_eq,qU,nB,mF]
     rcases m3 with m3|m3<;>rw[m3]<;>unfold TK.rt TK.nd TK.fr eJ aQ nV<;>omega
   . simp only[List.cons_append,List.nil_append,dr,fH,gF]at he
     rcases he with rfl|rfl|rfl|rfl
     . exact nj h1
     . exact eA l1
     . exact eA h3
     . exact eA h4
theorem Rj(hb:K.bk c.key<K.B)(h1:L (K.rt c)=d.raw)(iW:bu L d.aD=d.last)(G9:∃m,1<=m/\m≠d.last/\(d.aD=K.nd m 2\/d.aD=K.nd m 3))(hf:1<=d.last)(hn:1<=d.node)(vK:d.last≠d.node)(h3:bu L K.fr=d.free)(h4:bu L (K.nd d.last 2)=0)(h5:bu L (K.nd d.node 0)=c.key)(h6:bu L (K.nd d.node 1)=d.value):
 dupE (cB K c d)=false/\∀e∈cB K c d,∃k:Nat,e.off=8*(k:Int)/\e.sat (L k)=true:=by
 unfold cB;rw[ax vK];obtain⟨m,m1,m2,m3⟩:=G9;refine⟨?_,λe he=> ?_⟩
 . simp only[List.cons_append,List.nil_append,dupE,List.any_cons,List.any_nil,tY,AY,vp,ne_eq,qU,nB,mF]
   rcases m3 with m3|m3<;>rw[m3]<;>unfold TK.rt TK.nd TK.fr eJ aQ nV<;>omega
 . simp only[List.cons_append,List.nil_append,dr,fH,gF]at he
   rcases he with rfl|rfl|rfl|rfl|rfl|rfl
   . exact nj h1
   . exact eA iW
   . exact eA h5
   . exact eA h6
   . exact eA h3
   . exact eA h4
theorem TT.RE{nd:Nat->Nat->Nat}{T:TT}{l:Nat}(hn:T.ar.Nodup)(hs:T.eX=true)(hr:T.root≠(T.leaf.1:Nat)):∃m,m∈T.ar/\m≠T.leaf.1/\(T.clink nd l=nd m 2\/T.clink nd l=nd m 3):=by
 cases T with
 |nil=>cases hs
 |node n k v z o=>
  rw[TT.ar,rD,tW]at hn;cases z with
  |node n2 k2 v2 z2 o2=>
   have hl:=(TT.iN (T:= .node n2 k2 v2 z2 o2) rfl).1;simp only[TT.clink,TT.leaf];rcases TT.ij (nd:=nd) (T:= .node n2 k2 v2 z2 o2) (l:=nd n 2) hn.2.1 rfl with h|⟨m,h1,h2,h3⟩
   . exact⟨n,by simp[TT.ar],λhe=>hn.1 (by rw[he];exact iu _ hl), .inl h⟩
   . exact⟨m,by rw[TT.ar];exact pV _ (iu _ h1),h2,h3⟩
  |nil=>
   cases o with
   |nil=>exact absurd rfl hr
   |node n2 k2 v2 z2 o2=>
    have hl:=(TT.iN (T:= .node n2 k2 v2 z2 o2) rfl).1;simp only[TT.clink,TT.leaf];rcases TT.ij (nd:=nd) (T:= .node n2 k2 v2 z2 o2) (l:=nd n 3) hn.2.2.1 rfl with h|⟨m,h1,h2,h3⟩
    . exact⟨n,by simp[TT.ar],λhe=>hn.1 (by rw[he];exact i_ _ hl), .inr h⟩
    . exact⟨m,by rw[TT.ar];exact pV _ (i_ _ h1),h2,h3⟩
end
section
variable{K:TK}{c:TC}{d d0:TD}{L:Nat->Int}{T:Nat->TT}{fl:List Nat}{raw:Int}{q:List (Int×Int)}{es:List bO}{t:TT}{k n m:Nat}{o x v:Int}{r:eP}
structure FrH(K:TK)(c:TC)(L:Nat->Int)(T:Nat->TT)(fl:List Nat)(q:List (Int×Int))(d:TD)(raw:Int):Prop where
 ab:kQ K.W K.B K.NN K.hs K.bk L T fl q
 ck:CK K c
 hk:HK K
 rg:my K c d
 st:2<=d.aa/\d.aa<=12
 go:TGo K c (T (K.bk c.key)) d (raw%1099511627776)
 fr:FrD K c L d
 rd:raw%1099511627776=bu L (tWd K c d)
 lk:d.aa=3\/d.aa=6\/d.aa=9->raw%1099511627776<=K.NN
theorem FrD.of{d d':TD}(h:FrD K c L d)(h1:d'.raw=d.raw)(h2:d'.aa<10\/d'.aa=13):FrD K c L d':=⟨h.1.trans h1.symm,λhx=>by omega,λhx=>by omega,λhx=>by omega⟩
theorem FrH.deep(h:FrH K c L T fl q d raw)(hs:d.aa=2)(aG:raw%1099511627776≠c.key):d.depth<64:=by
 have hg:=h.go;simp only[TGo,hs]at hg;obtain⟨v,z,o,hg⟩:=hg;exact TT.Nt (h.ab.wf _ h.ck.bk) hg (λx hx=>h.hk.lt x hx.1) ⟨h.ck.key,rfl⟩ (λx y hx hy=>h.hk.inj x y hx.1 hy.1) aG
theorem Xp.deep{n:Nat}{k v:Int}{z o:TT}{s:Nat}(hH:HK K)(h:Xp K (.node n k v z o) s)(hc:z.eX=true\/o.eX=true):s<64:=by
 obtain⟨d',Q,hw,hs,hq,ha⟩:=h;rcases Nat.lt_or_ge s 64 with h1|h1
 . exact h1
 . exfalso
   have key:∀k2:Int,Q k2->(∃e∈z.aP++o.aP,e.1=k2)->False:=λk2 h2 ⟨e,he,h3⟩=>by
    refine hw.2.1 e he (h3.trans (hH.inj k2 k (hq _ h2) (hq _ hw.1) (Di λj=> ?_)));by_cases hj:j<d'
    . exact ha _ _ h2 hw.1 j hj
    . have e1:=vq (i:=j) (cD (hH.lt k2 (hq _ h2)) (yN ae ae))
      have e2:=vq (i:=j) (cD (hH.lt k (hq _ hw.1)) (yN ae ae));rw[e1,e2]
   rcases hc with hc|hc
   . cases z with
     |nil=>cases hc
     |node n2 k2 v2 z2 o2=>exact key k2 hw.2.2.1.1.1 ⟨(k2,v2),by simp[TT.aP],rfl⟩
   . cases o with
     |nil=>cases hc
     |node n2 k2 v2 z2 o2=>exact key k2 hw.2.2.2.1.1 ⟨(k2,v2),by simp[TT.aP],rfl⟩
theorem FrH.link(h:FrH K c L T fl q d raw){S:TT}{d1:TD}{ns:List Nat}(h1:(T (K.bk c.key)).aU K.hs c.key 0=S)(h2:(T (K.bk c.key)).linkAt K.hs (aQ K.W K.B) c.key (K.rt c) 0=d1.link)(hr:S.root=d1.node)(FW:∀x∈ns,x∈S.ar\/x∉(T (K.bk c.key)).ar):Zao K c L d1 ns:=by
 have hM:=h.ab.tr _ h.ck.bk;have gV:=gU.sub (hs:=K.hs) (key:=c.key) (d:=0) hM;have G9:=TT.jX (hs:=K.hs) (nd:=aQ K.W K.B) (key:=c.key) (l:=eJ K.W (K.bk c.key)) (d:=0) (h.ab.n1 _ h.ck.bk);have Ju:(T (K.bk c.key)).linkAt K.hs (aQ K.W K.B) c.key (eJ K.W (K.bk c.key)) 0=d1.link:=h2;rw[h1,Ju]at gV;rw[h1,Ju]at G9;refine⟨gV.root.trans hr,?_⟩;rcases G9 with e|⟨m,a1,a2,a3⟩
 . exact .inl e
 . refine .inr ⟨m,(hM.num m a1).1,λhx=> ?_,a3⟩
   rcases FW m hx with hy|hy
   . exact a2 hy
   . exact hy a1
theorem FrH.next(h:FrH K c L T fl q d raw):J9 K c L (tLoad K c d raw):=by
 have gW:=h.fr;have mJ:L (K.rt c)=d.raw:=gW.1;have Bg:=h.rd;have bh:=h.st;have hb:=h.ck.bk;have ux:0<=raw%1099511627776:=by omega
 have hM:=h.ab.tr _ h.ck.bk;have ZcU:=h.ab.n1 _ h.ck.bk;have zD:∀y∈(T (K.bk c.key)).ar,1<=y:=λy hy=>(hM.num y hy).1
 have hg:=h.go;have gV:=gU.sub (hs:=K.hs) (key:=c.key) (d:=0) hM;have zz:∀y∈((T (K.bk c.key)).aU K.hs c.key 0).ar,y∈(T (K.bk c.key)).ar:=λy hy=>TT.ez hy
 have ZH:=TT.BO (hs:=K.hs) (key:=c.key) ZcU;rcases(by omega:d.aa=2\/d.aa=3\/d.aa=4\/d.aa=5\/d.aa=6\/d.aa=7\/d.aa=8\/d.aa=9\/d.aa=10\/d.aa=11\/d.aa=12)with hs|hs|hs|hs|hs|hs|hs|hs|hs|hs|hs
 . have hd:=h.deep hs
   unfold tLoad;simp only[hs];by_cases h1:raw%1099511627776=c.key
   . rw[aA h1];exact⟨by simp,gW.of rfl smQ⟩
   . rw[ax h1,ax (by have:=hd h1;omega)];exact⟨by simp,gW.of rfl smQ⟩
 . unfold tLoad;simp only[hs]
   exact J9.visit mJ
 . simp only[TGo,hs]at hg
   obtain⟨z,o,g1,g2⟩:=hg;have hw:tWd K c d=K.nd d.node 1:=by unfold tWd;simp only[hs]
   rw[hw]at Bg;unfold tLoad;simp only[hs];split
   . exact⟨by simp[lV],gW.of rfl smQ⟩
   . split
     . exact⟨by simp,gW.of rfl smQ⟩
     . split
       . exact⟨by simp[lV],gW.of rfl smQ⟩
       . obtain⟨e1,e2⟩:=ZV (d:={d with aa:=4,value:=raw%1099511627776}) hb mJ Bg.symm
         exact J9.comm e1 e2
 . unfold tLoad;simp only[hs]
   exact⟨by simp,gW.of rfl smQ⟩
 . have e2:tLoad K c d raw=ni K c d (raw%1099511627776).toNat:=by unfold tLoad;simp only[hs]
   rw[e2];simp only[TGo,hs]at hg;obtain⟨g0,z,o,k,v,z',o',g1,g2,g3,g4,g5,g6⟩:=hg;have Ze6:∀y∈(TT.node d.last k v z' o').ar,1<=y:=λy hy=>zD y (zz y (by rw[g1];exact g3.ar y hy))
   unfold ni;dsimp only
   have aG:(if d.aN=0 then(raw%1099511627776).toNat else d.aN)≠0->d.depth<64:=λhx=>by
    refine Xp.deep h.hk g6 ?_;by_cases hz:d.aN=0
    . rw[aA hz]at hx
      right;cases o' with
      |nil=>exact absurd (show raw%1099511627776=0 from g5.symm) ae
      |node=>rfl
    . left
      cases z' with
      |nil=>exact absurd (show(d.aN:Int)=0 from g4.symm) ae
      |node=>rfl
   generalize (if d.aN=0 then(raw%1099511627776).toNat else d.aN)=n at aG |-;by_cases h0:K.NN<n
   . rw[aA h0];trivial
   . rw[ax h0]
     by_cases h1:n=0
     . rw[aA h1]
       by_cases h2:d.last=d.node
       . rw[aA h2];exact⟨by simp,gW.of rfl smQ⟩
       . rw[ax h2];exact⟨by simp,gW.of rfl smQ⟩
     . rw[ax h1,ax (by have:=aG h1;omega)]
       exact⟨by simp,gW.of rfl smQ⟩
 . unfold tLoad;simp only[hs]
   exact⟨by simp,gW.of rfl smQ⟩
 . unfold tLoad;simp only[hs]
   exact⟨by simp,gW.of rfl smQ⟩
 . have hw:tWd K c d=K.fr:=by unfold tWd;simp only[hs]
   rw[hw]at Bg;simp only[TGo,TSy,hs]at hg;have hl9:=h.lk ae;unfold tLoad;simp only[hs];have oN:bu L K.fr=(((raw%1099511627776).toNat:Nat):Int):=by rw[<-Bg];omega
   split
   . trivial
   . split
     . rename_i hk
       rcases hg with⟨a1,_⟩|⟨a1,a2,a3,a4⟩|⟨a1,a2,z,o,a3,a4,a5⟩
       . omega
       . rw[a3]at gV ZH zz
         rw[show(T (K.bk c.key)).linkAt K.hs (aQ K.W K.B) c.key (eJ K.W (K.bk c.key)) 0=d.link from a4]at gV;have hn:=zD d.node (zz _ (by simp[TT.ar]))
         obtain⟨e1,e2⟩:=Rk (d:={d with aa:=9,free:=(raw%1099511627776).toNat}) hb mJ (h.link (d1:={d with aa:=9,free:=(raw%1099511627776).toNat}) a3 a4 rfl (λy hy=>by
          rw[gH.1 hy];left;show d.last∈_
          rw[a2];simp[TT.ar])) (by show 1<=d.last;omega) a2 oN (by show bu L (K.nd d.last 2)=0;rw[a2];exact gV.2.2.2.2.2.1)
         exact J9.comm e1 e2
       . rw[a3]at gV ZH zz
         rw[show(T (K.bk c.key)).linkAt K.hs (aQ K.W K.B) c.key (eJ K.W (K.bk c.key)) 0=d.link from a4]at gV;have hn:=zD d.node (zz _ (by simp[TT.ar]));have oM:=a5.mem L K.NN gV;have tG:=a5.ar d.last (by simp[TT.ar]);have jB:=zD d.last (zz _ tG);have uU:(TT.node d.node c.key d.value z o).leaf=(d.last,d.dB,d.cF):=a5.leaf.symm;have jD:(TT.node d.node c.key d.value z o).clink (aQ K.W K.B) d.link=d.aD:=a5.link.symm;obtain⟨m,m1,m2,m3⟩:=TT.RE (nd:=aQ K.W K.B) (l:=d.link) ZH rfl (by rw[uU];show((d.node:Nat):Int)≠((d.last:Nat):Int);omega);rw[uU]at m2;rw[jD]at m3;obtain⟨e1,e2⟩:=Rj (d:={d with aa:=9,free:=(raw%1099511627776).toNat}) hb mJ (show bu L d.aD=d.last from oM.1) ⟨m,zD m (zz m m1),m2,m3⟩ jB hn a2 oN (show bu L (K.nd d.last 2)=0 from oM.2.2.2.2.2.1) (show bu L (K.nd d.node 0)=c.key from gV.2.2.2.1) (show bu L (K.nd d.node 1)=d.value from gV.2.2.2.2.1);exact J9.comm e1 e2
     . split
       . exact⟨by simp[lV],gW.of rfl smQ⟩
       . exact⟨by simp,mJ,λ_=>oN,λhx=>absurd hx smQ,λhx=>absurd hx smQ⟩
 . have hw:tWd K c d=K.nd d.free 2:=by unfold tWd;simp only[hs]
   rw[hw]at Bg;have f2:=gW.2.1 ae;unfold tLoad;simp only[hs];exact⟨by simp,mJ,λ_=>f2,λ_=>by show bu L (K.nd d.free 2)=(((raw%1099511627776).toNat:Nat):Int);rw[<-Bg];omega,λhx=>absurd hx smQ⟩
 . have hw:tWd K c d=K.nd d.free 0:=by unfold tWd;simp only[hs]
   rw[hw]at Bg;have f2:=gW.2.1 ae;have f3:=gW.2.2.1 ae;unfold tLoad;simp only[hs];exact⟨by simp,mJ,λ_=>f2,λ_=>f3,λ_=>Bg.symm⟩
 . have hw:tWd K c d=K.nd d.free 1:=by unfold tWd;simp only[hs]
   rw[hw]at Bg;have f2:=gW.2.1 ae;have f3:=gW.2.2.1 ae;have f4:=gW.2.2.2 hs;have Em:=(h.rg.f1 ae).1;simp only[TGo,TSy,hs]at hg;unfold tLoad;simp only[hs];rcases hg with⟨a1,a2,a3,a4⟩|⟨a1,_⟩|⟨a1,_⟩
   . have Bn:d.free∉(T (K.bk c.key)).ar:=λhx=>by
      have hF:=h.ab.fr;cases MY:fl with
      |nil=>rw[MY]at hF;have:bu L (nV K.W)=0:=hF;have f2':bu L (nV K.W)=d.free:=f2;omega
      |cons y l=>
       rw[MY]at hF;have f2':bu L (nV K.W)=d.free:=f2;have hy:y=d.free:=by have:=hF.1;omega
       exact h.ab.n4 _ d.free hb hx (by rw[MY,hy];exact yX)
     obtain⟨e1,e2⟩:=ZW (d:={d with aa:=12,bI:=raw%1099511627776}) hb mJ (h.link (d1:={d with aa:=12,bI:=raw%1099511627776}) a3 a4 (by show(0:Int)=((d.node:Nat):Int);omega) (λy hy=>by
      rw[gH.1 hy];exact .inr Bn)) Em f2 f3 f4 Bg.symm
     exact J9.comm e1 e2
   . have:=(h.rg.f1 ae).2;omega
   . have:=(h.rg.f1 ae).2;omega
end
open Classical in
noncomputable def wR (d:TD) (r:eP):Nat:=if Nq d r then 269 else tR d
noncomputable def wM (m:TM):Nat:=match m.ph with
 | .start=>1678
 | .rd d r=>868+3*wR d r+(3-r.place)
 |_=>0
open Classical in
noncomputable def stM (K:TK) (L:Nat->Int) (σ:PwS) (m:TM):Nat:=match m.ph with
 | .rd d r=>if Fr K m.c L d r then 0 else 1
 | .dH d a=>match(σ.ops a).bind aX.res with
   |none=>if nu L ((σ.ops a).elim [] aX.es)=true then 0 else 1
   |some true=>0
   |some false=>1
 |_=>0
def nO(σ:PwS)(m:TM):Nat:=if m.out σ=none then 1 else 0
noncomputable def tM (w:Nat) (st lv:Nat->Bool) (K:TK) (σ:PwS) (L:Nat->Int) (i:Nat) (m:TM):Nat:=
 gM σ m+((if st i then wM m+1700*stM K L σ m else 0)+(if lv i then w*nO σ m else 0))
noncomputable def uS (w:Nat) (st lv:Nat->Bool) (K:TK) (σ:PwS) (L:Nat->Int) (ms:List TM):Nat:=sumF (tM w st lv K σ L) ms 0
structure wZ(σ:PwS)(ms:List TM):Prop where
 th:Oc ms
 rd:∀(i:Nat) (m:TM) (d:TD) (r:eP),ms[i]?=some m->m.ph= .rd d r->r.ended=false/\r.th=m.th
 ch:∀(i:Nat) (m:TM) (d:TD) (a:Nat),ms[i]?=some m->m.ph= .dH d a->∃o,σ.ops a=some o/\o.ended=false/\o.k<8/\o.th=m.th
 len:σ.busy.length=8
 bt:∀k,k<8->(σ.busy.getD k false=true↔∃(i:Nat) (m:TM) (a:Nat) (o:aX),ms[i]?=some m/\aT m=some a/\σ.ops a=some o/\o.k=k)
 un:∀(i j:Nat) (mi mj:TM) (a a':Nat) (o o':aX),ms[i]?=some mi->ms[j]?=some mj->aT mi=some a->aT mj=some a'->σ.ops a=some o->σ.ops a'=some o'->o.k=o'.k->i=j
section
variable{K:TK}{n N Tm w:Nat}{q0:List (Int×Int)}{σ σ':PwS}{ms:List TM}{L L':Nat->Int}{ord:List Nat}{i j a:Nat}{m m' m2:TM}{sum:List Int->Int}{at0:Nat->Int}{cnt:Nat}{xs dz:List Int}{r r':eP}{o:aX}{b:Bool}{v:Int}{bl:Nat×(List bO->List Nat)}{st lv:Nat->Bool}{M:Nat->Prop}{d d':TD}{T:Nat->TT}{fl:List Nat}
theorem cK(h:m.ph= .dH d a):aT m=some a:=by unfold aT;rw[h]
theorem qZ(h:aT m=some a):∃d,m.ph= .dH d a:=by
 unfold aT at h;cases hp:m.ph with
 |dH d a'=>rw[hp]at h;injection h with h;exact⟨d,by rw[h]⟩
 |start=>rw[hp]at h;cases h
 |rd d r=>rw[hp]at h;cases h
 |fin v e=>rw[hp]at h;cases h
theorem fJ(h:aT m=some a):m.ph.over=false:=by
 obtain⟨d,hp⟩:=qZ h;rw[hp];rfl
theorem qv:∀(bs:List Bool),(∃k,k<bs.length/\bs.getD k false=false)->firstFree bs<bs.length/\bs.getD (firstFree bs) false=false
 |[],⟨k,h,_⟩=>by simp at h
 |true::bs,⟨k,h,h2⟩=>by
  have:∃k,k<bs.length/\bs.getD k false=false:=by
   cases k with
   |zero=>simp at h2
   |succ k=>exact⟨k,by simpa using h,by simpa using h2⟩
  obtain⟨h3,h4⟩:=qv bs this;simp only[firstFree,cR];exact⟨by simpa using h3,by simpa using h4⟩
 |false::bs,_=>by simp[firstFree]
theorem wZ.free(h:wZ σ ms):firstFree σ.busy<8/\σ.busy.getD (firstFree σ.busy) false=false:=by
 have hex:∃k,k<σ.busy.length/\σ.busy.getD k false=false:=by
  apply Classical.byContradiction
  intro js
  have aS:∀k,k<8->∃(i:Nat) (m:TM) (a:Nat) (o:aX),ms[i]?=some m/\aT m=some a/\σ.ops a=some o/\o.k=k:=λk hk=>(h.bt k hk).1 (by
   cases hb:σ.busy.getD k false with
   |true=>rfl
   |false=>exact absurd ⟨k,by rw[h.len];exact hk,hb⟩ js)
  have rI:∀k,∃t:Nat,k<8->∃(i:Nat) (m:TM) (a:Nat) (o:aX),ms[i]?=some m/\aT m=some a/\σ.ops a=some o/\o.k=k/\m.th=t:=λk=>by
   by_cases hk:k<8
   . obtain⟨i,m,a,o,h1,h2,h3,h4⟩:=aS k hk
     exact⟨m.th,λ_=>⟨i,m,a,o,h1,h2,h3,h4,rfl⟩⟩
   . exact⟨0,λhx=>absurd hx hk⟩
  obtain⟨g,hg⟩:=Classical.axiomOfChoice rI
  have oy:((List.range 8).map g).Nodup:=by
   refine List.Pairwise.map _ ?_ (Py (n:=8)|>.imp_of_mem ?_) (R:=λx y=>g x≠g y)
   . exact λx y Ux=>Ux
   . intro x y hx hy aG he
     obtain⟨i1,m1,a1,o1,e1,e2,e3,e4,e5⟩:=hg x (by simpa using hx);obtain⟨i2,m2,a2,o2,d1,d2,d3,d4,d5⟩:=hg y (by simpa using hy);have hi:i1=i2:=h.th.one i1 i2 m1 m2 e1 d1 (fJ e2) (fJ d2) (by rw[e5,d5,he]);subst hi;rw[e1]at d1;injection d1 with d1;subst d1;rw[e2]at d2;injection d2 with d2;subst d2;rw[e3]at d3;injection d3 with d3;subst d3;exact aG (e4.symm.trans d4)
  have:=DS oy (λx hx=>by
   obtain⟨k,hk,rfl⟩:=iJ.1 hx;obtain⟨i1,m1,a1,o1,e1,e2,e3,e4,e5⟩:=hg k (by simpa using hk);rw[<-e5];exact h.th.WD i1 m1 e1 (fJ e2))
  simp at this
 have:=qv σ.busy hex;rw[h.len]at this;exact this
theorem Rh(h1:σ'.ops=σ.ops)(h2:σ'.cur=σ.cur)(b:Nat):gAq σ' b=gAq σ b:=by
 unfold gAq kI;rw[h1,h2]
theorem Ki(h1:σ'.ops=σ.ops)(h2:σ'.cur=σ.cur)(i:Nat)(m:TM):tM w st lv K σ' L i m=tM w st lv K σ L i m:=by
 have e1:gM σ' m=gM σ m:=by unfold gM;cases aT m with|none=>rfl|some a=>exact Rh h1 h2 a
 have e2:stM K L σ' m=stM K L σ m:=by unfold stM;rw[h1]
 have e3:nO σ' m=nO σ m:=by
  have:m.out σ'=m.out σ:=by unfold TM.out cH;rw[h1]
  unfold nO;rw[this]
 unfold tM;rw[e1,e2,e3]
theorem lY(hi:ms[i]?=some m){k:Nat}(aS:∀j mj,j≠i->ms[j]?=some mj->tM w st lv K σ' L' j mj<=tM w st lv K σ L j mj)(Jc:tM w st lv K σ' L' i m'+k<=tM w st lv K σ L i m):
 uS w st lv K σ' L' (ms.set i m')+k<=uS w st lv K σ L ms:=by
 have fU:=(ki.1 hi).1;have h1:=yB (f:=tM w st lv K σ' L') (m':=m') (k:=0) hi
 have h2:=qM (f:=λj mj=>if j=i then tM w st lv K σ' L' i m'+k else tM w st lv K σ' L' j mj) (g:=tM w st lv K σ L) ms 0 (λj mj hj=>by
  simp only[cY];split
  . rename_i eb
    subst eb;rw[hi]at hj;injection hj with hj;rw[<-hj];exact Jc
  . rename_i eb;exact aS j mj eb hj)
 have h3:sumF (λj mj=>if j=i then tM w st lv K σ' L' i m'+k else tM w st lv K σ' L' j mj) ms 0=sumF (λj mj=>if j=i then tM w st lv K σ' L' i m'+k else tM w st lv K σ' L' j mj) (ms.set i m) 0:=by rw[cZ hi]
 have h4:=yB (f:=λj mj=>if j=i then tM w st lv K σ' L' i m'+k else tM w st lv K σ' L' j mj) (m':=m') (k:=0) hi;simp only[cY,cR]at h1 h4
 have h5:sumF (λj mj=>if j=i then tM w st lv K σ' L' i m'+k else tM w st lv K σ' L' j mj) (ms.set i m') 0=sumF (tM w st lv K σ' L') (ms.set i m') 0+k:=by
  have e:∀(l:List TM) (q:Nat) (x:TM),l[i-q]?=some x->q<=i->x=m'->sumF (λj mj=>if j=i then tM w st lv K σ' L' i m'+k else tM w st lv K σ' L' j mj) l q=sumF (tM w st lv K σ' L') l q+k:=by
   intro l;induction l with
   |nil=>intro q x hx;simp at hx
   |cons y l ih=>
    intro q x hx hq WG;simp only[sumF];by_cases hqi:q=i
    . subst hqi
      have hy:y=m':=by simp at hx;rw[hx,WG]
      rw[aA rfl,hy]
      have:∀(l:List TM) (q':Nat),q<q'->sumF (λj mj=>if j=q then tM w st lv K σ' L' q m'+k else tM w st lv K σ' L' j mj) l q'=sumF (tM w st lv K σ' L') l q':=by
       intro l;induction l with
       |nil=>intro _ _;rfl
       |cons z l ih2=>
        intro q' wJ;simp only[sumF];rw[ax ae,ih2 (q'+1) ae]
      rw[this l (q+1) ae];omega
    . rw[ax hqi,ih (q+1) x (by
       rw[show i-q=(i-(q+1))+1 by omega]at hx;simpa using hx) ae WG]
      omega
  exact e (ms.set i m') 0 m' (by rw[Nat.sub_zero];exact nX fU) (im _) rfl
 unfold uS;omega
end
end Go.Proofs.YtjkpjakodomnmaaGreatDoor
namespace Go.Proofs.YtjkpjakodomnmaaGreatDoor
open Go.RowKit
section
variable{K:TK}{n N Tm w:Nat}{q0:List (Int×Int)}{σ σ':PwS}{ms:List TM}{L L':Nat->Int}{ord:List Nat}{i j a:Nat}{m m' m2:TM}{sum:List Int->Int}{at0:Nat->Int}{cnt:Nat}{xs dz:List Int}{r r':eP}{o:aX}{b:Bool}{v:Int}{bl:Nat×(List bO->List Nat)}{st lv:Nat->Bool}{M:Nat->Prop}{d d':TD}{T:Nat->TT}{fl:List Nat}{es:List bO}
theorem Oc.set(h:Oc ms)(hi:ms[i]?=some m)(bQ:m'.th=m.th)(bU:m.ph.over=false):Oc (ms.set i m'):=by
 refine⟨λj mj hj ho=> ?_,λj k mj mk hj hk oj ok ht=> ?_⟩
 . rcases aJ hi hj with⟨rfl,rfl⟩|⟨_,iz⟩
   . rw[bQ];exact h.WD j m hi bU
   . exact h.WD j mj iz ho
 . rcases aJ hi hj with⟨e1,e2⟩|⟨_,iz⟩
   . rcases aJ hi hk with⟨e3,_⟩|⟨_,jC⟩
     . rw[e1,e3]
     . rw[e1]
       rw[e2,bQ]at ht;exact h.one i k m mk hi jC bU ok ht
   . rcases aJ hi hk with⟨e1,e2⟩|⟨_,jC⟩
     . rw[e1]
       rw[e2,bQ]at ht;exact h.one j i mj m iz hi oj bU ht
     . exact h.one j k mj mk iz jC oj ok ht
theorem wZ.keep(h:wZ σ ms)(hi:ms[i]?=some m)(bQ:m'.th=m.th)(bU:m.ph.over=false)(hc:aT m=none)(oO:aT m'=none)(Bg:∀d r,m'.ph= .rd d r->r.ended=false/\r.th=m'.th)(ho:σ'.ops=σ.ops)(hb:σ'.busy=σ.busy):wZ σ' (ms.set i m'):=by
 have key:∀(j:Nat) (mj:TM) (a:Nat),(ms.set i m')[j]?=some mj->aT mj=some a->ms[j]?=some mj:=λj mj a hj ha=>by
  rcases aJ hi hj with⟨_,e⟩|⟨_,iz⟩
  . rw[e,oO]at ha;cases ha
  . exact iz
 refine⟨h.th.set hi bQ bU,λj mj d r hj hp=> ?_,λj mj d a hj hp=> ?_,by rw[hb];exact h.len,λk hk=> ?_,λj k mj mk a a' o o' hj hk ha ha' Bj pq uV=> ?_⟩
 . rcases aJ hi hj with⟨rfl,rfl⟩|⟨_,iz⟩
   . exact Bg d r hp
   . exact h.rd j mj d r iz hp
 . rw[ho];exact h.ch j mj d a (key j mj a hj (cK hp)) hp
 . rw[hb,ho,h.bt k hk]
   constructor
   . rintro⟨j,mj,a,o,e1,e2,e3,e4⟩
     refine⟨j,mj,a,o,?_,e2,e3,e4⟩
     have aG:i≠j:=λhe=>by
      subst he;rw[hi]at e1;injection e1 with e1;subst e1;rw[hc]at e2;cases e2
     rw[rE aG];exact e1
   . rintro⟨j,mj,a,o,e1,e2,e3,e4⟩
     exact⟨j,mj,a,o,key j mj a e1 e2,e2,e3,e4⟩
 . rw[ho]at Bj pq
   exact h.un j k mj mk a a' o o' (key _ _ _ hj ha) (key _ _ _ hk ha') ha ha' Bj pq uV
theorem wZ.beg(h:wZ σ ms)(hi:ms[i]?=some m)(bQ:m'.th=m.th)(bU:m.ph.over=false)(hc:aT m=none)(hp:m'.ph= .dH d bl.1)(ha:σ.ops bl.1=none)(d0:TD)(Z1:List bO)
 (rI:∀(j:Nat) (mj:TM) (a:Nat),ms[j]?=some mj->aT mj=some a->∃o,σ.ops a=some o):
 wZ (iI σ m.th d0 Z1 bl).1 (ms.set i m'):=by
 obtain⟨Em,hf2⟩:=h.free;have fU:=(ki.1 hi).1;obtain⟨no,js⟩:=aH (sV (firstFree σ.busy) m.th Z1 (bl.2 Z1));have WM:no.k=firstFree σ.busy:=by rw[<-js];rfl
 have kO:(iI σ m.th d0 Z1 bl).1.ops bl.1=some no:=by rw[<-js];exact aA rfl
 have hold:∀x,x≠bl.1->(iI σ m.th d0 Z1 bl).1.ops x=σ.ops x:=λx hx=>ax hx
 have Bo:(iI σ m.th d0 Z1 bl).1.busy=σ.busy.set (firstFree σ.busy) true:=rfl
 have aG:∀(j:Nat) (mj:TM) (a:Nat),ms[j]?=some mj->aT mj=some a->a≠bl.1:=λj mj a hj Bq he=>by
  obtain⟨o,ho⟩:=rI j mj a hj Bq;rw[he,ha]at ho;cases ho
 have je:aT m'=some bl.1:=cK hp
 have Zu:∀k:Nat,(σ.busy.set (firstFree σ.busy) true).getD k false=if k=firstFree σ.busy then true else σ.busy.getD k false:=λk=>by
  rw[eY,De];split
  . rename_i he
    subst he;rw[aA (by rw[h.len];exact Em),aA rfl];rfl
  . rename_i he
    rw[ax (λhx=>he hx.symm),eY]
 refine⟨h.th.set hi bQ bU,λj mj d r hj rk=> ?_,λj mj d a hj rk=> ?_,by rw[Bo,lO];exact h.len,λk hk=> ?_,λj k mj mk a a' o o' hj hk Bq SS Bj pq uV=> ?_⟩
 . rcases aJ hi hj with⟨rfl,rfl⟩|⟨_,iz⟩
   . rw[hp]at rk;cases rk
   . exact h.rd j mj d r iz rk
 . rcases aJ hi hj with⟨rfl,rfl⟩|⟨_,iz⟩
   . rw[hp]at rk
     injection rk with _ rk;rw[<-rk];refine⟨no,kO,by rw[<-js];rfl,by rw[WM];exact Em,by rw[bQ,<-js];rfl⟩
   . rw[hold a (aG j mj a iz (cK rk))]
     exact h.ch j mj d a iz rk
 . rw[Bo,Zu]
   by_cases hkf:k=firstFree σ.busy
   . rw[aA hkf]
     refine⟨λ_=>⟨i,m',bl.1,no,nX fU,je,kO,by rw[WM,hkf]⟩,λ_=>rfl⟩
   . rw[ax hkf,h.bt k hk]
     constructor
     . rintro⟨j,mj,a,o,e1,e2,e3,e4⟩
       have xn:i≠j:=λhe=>by
        subst he;rw[hi]at e1;injection e1 with e1;subst e1;rw[hc]at e2;cases e2
       exact⟨j,mj,a,o,by rw[rE xn];exact e1,e2,by rw[hold a (aG j mj a e1 e2)];exact e3,e4⟩
     . rintro⟨j,mj,a,o,e1,e2,e3,e4⟩
       rcases aJ hi e1 with⟨rfl,rfl⟩|⟨_,iz⟩
       . rw[je]at e2
         injection e2 with e2;rw[<-e2,kO]at e3;injection e3 with e3;rw[<-e3,WM]at e4;exact absurd e4.symm hkf
       . exact⟨j,mj,a,o,iz,e2,by rw[hold a (aG j mj a iz e2)]at e3;exact e3,e4⟩
 . have fk:∀(j:Nat) (mj:TM) (a:Nat) (o:aX),ms[j]?=some mj->aT mj=some a->(iI σ m.th d0 Z1 bl).1.ops a=some o->σ.ops a=some o/\o.k≠firstFree σ.busy:=by
    intro j mj a o hj Bq xl;rw[hold a (aG j mj a hj Bq)]at xl;refine⟨xl,λhx=> ?_⟩;have:=(h.bt (firstFree σ.busy) Em).2 ⟨j,mj,a,o,hj,Bq,xl,hx⟩;rw[hf2]at this;cases this
   rcases aJ hi hj with⟨e1,e2⟩|⟨_,iz⟩
   . rcases aJ hi hk with⟨e3,_⟩|⟨_,jC⟩
     . rw[e1,e3]
     . rw[e2,je]at Bq
       injection Bq with Bq;rw[<-Bq,kO]at Bj;injection Bj with Bj;rw[<-Bj,WM]at uV;exact absurd uV.symm (fk k mk a' o' jC SS pq).2
   . rcases aJ hi hk with⟨e1,e2⟩|⟨_,jC⟩
     . rw[e2,je]at SS
       injection SS with SS;rw[<-SS,kO]at pq;injection pq with pq;rw[<-pq,WM]at uV;exact absurd uV (fk j mj a o iz Bq Bj).2
     . exact h.un j k mj mk a a' o o' iz jC Bq SS (fk j mj a o iz Bq Bj).1 (fk k mk a' o' jC SS pq).1 uV
theorem wZ.oper(h:wZ σ ms)(lT:∀(i j:Nat)(mi mj:TM)(a:Nat),ms[i]?=some mi->ms[j]?=some mj->aT mi=some a->aT mj=some a->i=j){N':Nat}(S:vX sum at0 n cnt M N' a o σ L σ' b dz L')(hi:ms[i]?=some m)(hp:m.ph= .dH d a)(ha:σ.ops a=some o)(Jd:o.ended=false)
 (bQ:m'.th=m.th) (oO:aT m'=if b then none else some a) (K8:∀d' a',m'.ph= .dH d' a'->b=false) (Bg:∀d r,m'.ph= .rd d r->r.ended=false/\r.th=m'.th):wZ σ' (ms.set i m'):=by
 have fU:=(ki.1 hi).1;have je:=cK hp;have bU:m.ph.over=false:=fJ je;obtain⟨o',t1,t2,t3,t4,t5,t6,t7,t8⟩:=S.self;have Bo:σ'.busy=if b then σ.busy.set o.k false else σ.busy:=by rw[S.busy,Jd];simp
 have Bn:∀x ox,x≠a->σ.ops x=some ox->∃AD,σ'.ops x=some AD/\AD.ended=ox.ended/\AD.k=ox.k/\AD.th=ox.th:=by
  intro x ox hx hox;have h1:=S.other x hx;obtain⟨AD,e1,e2,e3,e4⟩:=S.Z5.sm hox;rw[e1,hox,Option.map_some,Option.map_some]at h1;injection h1 with h1;exact⟨AD,e1,bP (λz=>z.1) h1,e4,e3⟩
 have hfb:∀x AD,x≠a->σ'.ops x=some AD->∃ox,σ.ops x=some ox/\AD.k=ox.k:=by
  intro x AD hx ZcQ;obtain⟨ox,e1,_,e3⟩:=S.Z5.back ZcQ;exact⟨ox,e1,e3⟩
 have mK:∀(j:Nat) (mj:TM) (aj:Nat),j≠i->ms[j]?=some mj->aT mj=some aj->aj≠a:=λj mj aj aG hj Bq he=>aG (by rw[he]at Bq;exact lT j i mj m a hj hi Bq je)
 have hkm:∃d,m.ph= .dH d a:=⟨d,hp⟩;obtain⟨om,u1,u2,u3,u4⟩:=h.ch i m d a hi hp;rw[ha]at u1;injection u1 with u1;subst u1;refine⟨h.th.set hi bQ bU,λj mj d r hj rk=> ?_,λj mj d aj hj rk=> ?_,?_,λk hk=> ?_,λj k mj mk aj ak oj ok hj hk Bq SS Bj pq uV=> ?_⟩
 . rcases aJ hi hj with⟨rfl,rfl⟩|⟨_,iz⟩
   . exact Bg d r rk
   . exact h.rd j mj d r iz rk
 . rcases aJ hi hj with⟨rfl,rfl⟩|⟨aG,iz⟩
   . have hb:=K8 d aj rk
     rw[hb,cK rk]at oO;simp at oO;rw[oO];exact⟨o',t1,by rw[t2,hb],by rw[t4];exact u3,by rw[t3,bQ];exact u4⟩
   . obtain⟨oj,e1,e2,e3,e4⟩:=h.ch j mj d aj iz rk
     obtain⟨oj',d1,d2,d3,d4⟩:=Bn aj oj (mK j mj aj aG iz (cK rk)) e1;exact⟨oj',d1,by rw[d2,e2],by rw[d3];exact e3,by rw[d4];exact e4⟩
 . rw[Bo]
   split
   . rw[lO];exact h.len
   . exact h.len
 . have Zu:σ'.busy.getD k false=if b/\k=o.k then false else σ.busy.getD k false:=by
    rw[Bo];cases b with
    |false=>simp
    |true=>
     simp only[cR,true_and];rw[eY,De];split
     . rename_i he
       subst he;rw[aA (by rw[h.len];exact u3),aA rfl];rfl
     . rename_i he
       rw[ax (λhx=>he hx.symm),eY]
   rw[Zu];by_cases eO:b=true/\k=o.k
   . rw[aA eO]
     refine⟨λhx=>(by cases hx),?_⟩;rintro⟨j,mj,aj,oj,e1,e2,e3,e4⟩;rcases aJ hi e1 with⟨rfl,rfl⟩|⟨aG,iz⟩
     . rw[e2,eO.1]at oO;simp at oO
     . obtain⟨ox,d1,d2⟩:=hfb aj oj (mK j mj aj aG iz e2) e3
       exact absurd (h.un j i mj m aj a ox o iz hi e2 je d1 ha (by rw[<-d2,e4,eO.2])) aG
   . rw[ax eO,h.bt k hk]
     constructor
     . rintro⟨j,mj,aj,oj,e1,e2,e3,e4⟩
       by_cases eb:j=i
       . subst eb
         rw[hi]at e1;injection e1 with e1;subst e1;rw[je]at e2;injection e2 with e2;subst e2;rw[ha]at e3;injection e3 with e3;subst e3
         have hb:b=false:=by
          cases b with
          |false=>rfl
          |true=>exact absurd ⟨rfl,e4.symm⟩ eO
         rw[hb]at oO;exact⟨j,m',a,o',nX fU,by simpa using oO,t1,by rw[t4];exact e4⟩
       . obtain⟨oj',d1,_,d3,_⟩:=Bn aj oj (mK j mj aj eb e1 e2) e3
         exact⟨j,mj,aj,oj',by rw[rE (cC eb)];exact e1,e2,d1,by rw[d3];exact e4⟩
     . rintro⟨j,mj,aj,oj,e1,e2,e3,e4⟩
       rcases aJ hi e1 with⟨rfl,rfl⟩|⟨aG,iz⟩
       . rw[e2]at oO
         have hb:b=false:=by
          cases b with
          |false=>rfl
          |true=>simp at oO
         rw[hb]at oO;simp at oO;subst oO;rw[t1]at e3;injection e3 with e3;exact⟨j,m,aj,o,hi,je,ha,by rw[<-t4,e3];exact e4⟩
       . obtain⟨ox,d1,d2⟩:=hfb aj oj (mK j mj aj aG iz e2) e3
         exact⟨j,mj,aj,ox,iz,e2,d1,by rw[<-d2];exact e4⟩
 . have back:∀(j:Nat) (mj:TM) (aj:Nat) (oj:aX),(ms.set i m')[j]?=some mj->aT mj=some aj->σ'.ops aj=some oj->∃mj0 ox,ms[j]?=some mj0/\aT mj0=some aj/\σ.ops aj=some ox/\oj.k=ox.k:=by
    intro j mj aj oj hj Bq xl;rcases aJ hi hj with⟨rfl,rfl⟩|⟨aG,iz⟩
    . rw[Bq]at oO
      have hb:b=false:=by
       cases b with
       |false=>rfl
       |true=>simp at oO
      rw[hb]at oO;simp at oO;subst oO;rw[t1]at xl;injection xl with xl;exact⟨m,o,hi,je,ha,by rw[<-xl,t4]⟩
    . obtain⟨ox,d1,d2⟩:=hfb aj oj (mK j mj aj aG iz Bq) xl
      exact⟨mj,ox,iz,Bq,d1,d2⟩
   obtain⟨mj0,oj0,x1,x2,x3,x4⟩:=back j mj aj oj hj Bq Bj;obtain⟨mk0,ok0,y1,y2,y3,y4⟩:=back k mk ak ok hk SS pq;exact h.un j k mj0 mk0 aj ak oj0 ok0 x1 y1 x2 y2 x3 y3 (by rw[<-x4,<-y4];exact uV)
end
section
variable{K:TK}{n N Tm w:Nat}{q0:List (Int×Int)}{σ σ':PwS}{ms:List TM}{L L':Nat->Int}{ord:List Nat}{i j a:Nat}{m m' m2:TM}{sum:List Int->Int}{at0:Nat->Int}{cnt:Nat}{xs dz:List Int}{r r':eP}{o:aX}{b:Bool}{v:Int}{bl:Nat×(List bO->List Nat)}{st lv:Nat->Bool}{M:Nat->Prop}{d d':TD}{T:Nat->TT}{fl:List Nat}{es:List bO}
theorem O8(m:TM):stM K L σ m<=1:=by
 unfold stM;cases m.ph with
 |start=>exact im _
 |fin v e=>exact im _
 |rd d r=>simp only;split<;>omega
 |dH d a=>
  simp only;cases(σ.ops a).bind aX.res with
  |none=>simp only;split<;>omega
  |some x=>cases x<;>simp
theorem Yw(m:TM):nO σ m<=1:=by unfold nO;split<;>omega
theorem IW(h:m.out σ≠none->m'.out σ'≠none):nO σ' m'<=nO σ m:=by
 unfold nO;split
 . rename_i h1
   split
   . exact a_ _
   . rename_i h2;exact absurd h1 (h h2)
 . exact im _
theorem Wh(d:TD)(r:eP):wR d r<=269:=by
 unfold wR;split
 . exact a_ _
 . exact Wp d
theorem Tp(h:Nq d r'↔Nq d r):wR d r'=wR d r:=by
 unfold wR;by_cases hx:Nq d r
 . rw[aA hx,aA (h.2 hx)]
 . rw[ax hx,ax (λhy=>hx (h.1 hy))]
open Classical in
theorem TQ(hp:m.ph= .rd d r)(h3:r.place<=2)(lS:r'.place=r.place+1)(b8:r'.raw=if r.place=0 then L (tWd K m.c d)else r.raw)(h1:σ'.ops=σ.ops)(h2:σ'.cur=σ.cur)(bh:st i=true):
 tM w st lv K σ' L i {m with ph:= .rd d r'}+1<=tM w st lv K σ L i m:=by
 rw[Ki h1 h2];have hg:gM σ {m with ph:= .rd d r'}=gM σ m:=by unfold gM aT;rw[hp]
 have hl:nO σ {m with ph:= .rd d r'}<=nO σ m:=by
  refine IW (λhx=> ?_);unfold TM.out at hx |-;rw[hp]at hx;simp only at hx |-;by_cases hc:d.aa=13/\r.place≠0/\r.raw=d.raw
  . rw[ax hc.2.1]at b8
    rw[aA ⟨hc.1,by omega,b8.trans hc.2.2⟩];simp
  . rw[ax hc]at hx;exact absurd rfl hx
 have hw0:wM m=868+3*wR d r+(3-r.place):=by unfold wM;rw[hp]
 have xJ:wM {m with ph:= .rd d r'}=868+3*wR d r'+(3-r'.place):=rfl;have K7:stM K L σ m=if Fr K m.c L d r then 0 else 1:=by unfold stM;rw[hp]
 have vI:stM K L σ {m with ph:= .rd d r'}=if Fr K m.c L d r' then 0 else 1:=rfl
 have ZcL:wM {m with ph:= .rd d r'}+1700*stM K L σ {m with ph:= .rd d r'}+1<=wM m+1700*stM K L σ m:=by
  by_cases Eh:d.aa=13/\r.place=0/\L (K.rt m.c)≠d.raw
  . obtain⟨a1,a2,a3⟩:=Eh
    have ew:tWd K m.c d=K.rt m.c:=by unfold tWd;simp only[a1]
    rw[aA a2,ew]at b8
    have f1:¬Fr K m.c L d r:=λhx=>by
     have aG:¬Nq d r:=λhy=>by
      rcases hy with hy|hy
      . omega
      . exact hy.2.1 a2
     exact a3 (hx.2 aG).1.1
    have f2:Fr K m.c L d r':=⟨λ_ _=>b8,λhy=>absurd (.inr ⟨a1,by omega,by rw[b8];exact a3⟩) hy⟩;rw[K7,vI,ax f1,aA f2,hw0,xJ];have:=Wh d r';omega
  . have heq:Nq d r'↔Nq d r:=by
     unfold Nq;by_cases po:r.place=0
     . rw[aA po]at b8
       constructor
       . rintro(hx|⟨a1,a2,a3⟩)
         . exact .inl hx
         . exfalso
           have ew:tWd K m.c d=K.rt m.c:=by unfold tWd;simp only[a1]
           rw[b8,ew]at a3;exact Eh ⟨a1,po,a3⟩
       . rintro(hx|⟨a1,a2,a3⟩)
         . exact .inl hx
         . exact absurd po a2
     . rw[ax po]at b8
       rw[b8];constructor
       . rintro(hx|⟨a1,a2,a3⟩)
         . exact .inl hx
         . exact .inr ⟨a1,po,a3⟩
       . rintro(hx|⟨a1,a2,a3⟩)
         . exact .inl hx
         . exact .inr ⟨a1,by omega,a3⟩
    have hw:=Tp heq
    have hs:stM K L σ {m with ph:= .rd d r'}<=stM K L σ m:=by
     rw[K7,vI];by_cases hF:Fr K m.c L d r
     . have hF':Fr K m.c L d r':=by
        refine⟨λhe _=> ?_,λhe=>⟨(hF.2 (λhx=>he (heq.2 hx))).1,λ_=> ?_⟩⟩
        . rw[b8]
          by_cases po:r.place=0
          . rw[aA po]
            rcases heq.1 he with hx|hx
            . unfold tWd;simp only[hx]
            . exact absurd po hx.2.1
          . rw[ax po];exact hF.1 (heq.1 he) po
        . rw[b8]
          by_cases po:r.place=0
          . rw[aA po];rfl
          . rw[ax po];exact(hF.2 (λhx=>he (heq.2 hx))).2 po
       rw[aA hF'];exact im _
     . rw[ax hF]
       split<;>omega
    rw[hw0,xJ,hw];omega
 unfold tM;rw[hg,bh,aA rfl,aA rfl];cases lv i
 . simp only[eS,dF];omega
 . simp only[cR]
   have:=Cm w hl;omega
theorem Vl(hI:Inv sum at0 n cnt M N σ xs L)(ha:σ.ops bl.1=none)(th:Nat)(d:TD)(es:List bO){x:Nat}(hx:x≠bl.1):gAq (iI σ th d es bl).1 x=gAq σ x:=by
 have hold:∀y,y≠bl.1->(iI σ th d es bl).1.ops y=σ.ops y:=λy hy=>ax hy
 have cS:kI (iI σ th d es bl).1=kI σ:=by
  unfold kI;show σ.cur.bind _=σ.cur.bind _
  cases hc:σ.cur with
  |none=>rfl
  |some y=>
   obtain⟨oc,h1,_⟩:=hI.run y hc;have hy:y≠bl.1:=λhe=>by rw[he,ha]at h1;cases h1
   show((iI σ th d es bl).1.ops y).map _=_
   rw[hold y hy];rfl
 unfold gAq;rw[hold x hx,cS]
theorem XW(hI:Inv sum at0 n cnt M N σ xs L)(ha:σ.ops bl.1=none)(th:Nat)(d:TD)(es:List bO)(hm:∀x,aT m=some x->x≠bl.1):tM w st lv K (iI σ th d es bl).1 L i m=tM w st lv K σ L i m:=by
 have hold:∀y,y≠bl.1->(iI σ th d es bl).1.ops y=σ.ops y:=λy hy=>ax hy
 have e1:gM (iI σ th d es bl).1 m=gM σ m:=by
  unfold gM;cases hc:aT m with
  |none=>rfl
  |some x=>exact Vl hI ha th d es (hm x hc)
 have e2:stM K L (iI σ th d es bl).1 m=stM K L σ m:=by
  unfold stM;cases hp:m.ph with
  |dH d' a'=>simp only;rw[hold a' (hm a' (cK hp))]
  |_=>rfl
 have e3:nO (iI σ th d es bl).1 m=nO σ m:=by
  have:m.out (iI σ th d es bl).1=m.out σ:=by
   unfold TM.out;cases hp:m.ph with
   |dH d' a'=>simp only;unfold cH;rw[hold a' (hm a' (cK hp))]
   |_=>rfl
  unfold nO;rw[this]
 unfold tM;rw[e1,e2,e3]
theorem Ih{v e:Int}{en:Nat}:tM w st lv K σ L i {m with ph:= .fin v e,en:=en}=0:=by
 unfold tM;have h1:gM σ {m with ph:= .fin v e,en:=en}=0:=rfl;have h2:wM {m with ph:= .fin v e,en:=en}=0:=rfl;have h3:stM K L σ {m with ph:= .fin v e,en:=en}=0:=rfl;have h4:nO σ {m with ph:= .fin v e,en:=en}=0:=rfl;rw[h1,h2,h3,h4];simp
theorem eZ.fresh(h:eZ K q0 σ ms Tm L T fl ord N)(hi:ms[i]?=some m)(hH:HK K)(iX:K.NN<1000000)(hp:m.ph= .rd d r)(he:r.ended=true)(hF:Fr K m.c L d r):J9 K m.c L (tLoad K m.c d r.raw):=by
 have hf:=(h.ok i m hi).ph;rw[hp]at hf;obtain⟨f1,f2,f3,f4,f5,f6,f7,f8,f9⟩:=hf;have lS:=f6 he;obtain⟨g1,g2⟩:=f7 lS;have bh:=f1.st;by_cases M0:Nq d r
 . have e:tLoad K m.c d r.raw=dQ K m.c d r.raw:=by
    rcases M0 with hs|⟨hs,_,aG⟩
    . unfold tLoad;simp only[hs]
    . unfold tLoad;simp only[hs];rw[ax aG]
   rw[e];exact J9.enter (hF.1 M0 lS).symm
 . by_cases h13:d.aa=13
   . have e:tLoad K m.c d r.raw= .done d.res d.err:=by
      unfold tLoad;simp only[h13];rw[aA (KH.1 (λhx=>M0 (.inr ⟨h13,lS,hx⟩)))]
     rw[e];trivial
   . obtain⟨k1,k2⟩:=hF.2 M0
     have h1:d.aa≠1:=λhx=>M0 (.inl hx)
     refine FrH.next ⟨h.ab,h.ck hi iX,hH,f1,by omega,?_,k1,k2 lS,λhs=>g2 ae⟩;rcases f8 h1 with hx|⟨_,_,hx,_⟩
     . exfalso;unfold lI at hx;rw[k1.1]at hx;exact Int.lt_irrefl _ hx
     . exact hx lS
open Classical in
theorem TR(h:eZ K q0 σ ms Tm L T fl ord N)(hi:ms[i]?=some m)(hI:Inv sum at0 n 8 (Mq K.W K.P) N σ xs L)(hn:K.W+8+K.P<=8*n)(iX:K.NN<1000000)(hH:HK K)(bQ:m.th<8)(hp:m.ph= .rd d r)(he:r.ended=true)(xN:BlT σ bl)(bh:st i=true){en:Nat}:
 tM w st lv K (fY σ m.th bl (tLoad K m.c d r.raw)).1 L i {m with ph:=(fY σ m.th bl (tLoad K m.c d r.raw)).2,en:=en}<=tM w st lv K σ L i m:=by
 have bF:=h.ok i m hi;have jD:=h.ck hi iX;have hfn:=h.fresh hi hH iX hp he;have hf:=bF.ph;rw[hp]at hf;obtain⟨f1,f2,f3,f4,f5,f6,f7,f8,f9⟩:=hf;have lS:=f6 he;obtain⟨g1,g2⟩:=f7 lS;have xK:=uW.load jD f1 g1 g2;have F9:=rP.load (K:=K) (c:=m.c) (raw:=r.raw) f1.st;have DL:gM σ m=0:=by unfold gM aT;rw[hp]
 have YJ:wM m=868+3*wR d r+(3-r.place):=by unfold wM;rw[hp]
 have G5:stM K L σ m=if Fr K m.c L d r then 0 else 1:=by unfold stM;rw[hp]
 have wK:m.out σ=if d.aa=13/\r.place≠0/\r.raw=d.raw then some (d.res,d.err)else none:=by unfold TM.out;rw[hp]
 have qk:(∀v e,tLoad K m.c d r.raw≠ .done v e)->m.out σ=none:=λhx=>by
  rw[wK,ax];rintro⟨a1,_,a3⟩;refine hx d.res d.err ?_;unfold tLoad;simp only[a1];rw[aA a3]
 have hwR:wR d r=if d.aa=1\/(d.aa=13/\r.raw≠d.raw)then 269 else tR d:=by
  unfold wR Nq;by_cases hx:d.aa=1\/(d.aa=13/\r.raw≠d.raw)
  . rw[aA hx,aA]
    rcases hx with hx|⟨a,b⟩
    . exact .inl hx
    . exact .inr ⟨a,lS,b⟩
  . rw[ax hx,ax]
    rintro(hy|⟨a,_,b⟩)
    . exact hx (.inl hy)
    . exact hx (.inr ⟨a,b⟩)
 rw[<-hwR]at F9
 have ZaO:∀(nS:PwS) (m1:TM),gM nS m1+wM m1+1700*stM K L nS m1<=wM m+1700*stM K L σ m->(m.out σ≠none->m1.out nS≠none)->tM w st lv K nS L i m1<=tM w st lv K σ L i m:=by
  intro nS m1 h1 h4;have h5:=IW h4;unfold tM;rw[bh,aA rfl,aA rfl,DL];cases lv i
  . simp only[eS,dF];omega
  . simp only[cR]
    have:=Cm w h5;omega
 revert xK hfn F9 qk
 cases lQ:tLoad K m.c d r.raw with
 |done v e=>
  intro _ _ _ _;show tM w st lv K σ L i {m with ph:= .fin v e,en:=en}<=_
  rw[Ih];exact im _
 |read d' k=>
  intro hfn xK F9 qk;obtain⟨rfl,e2⟩:=xK;refine ZaO σ _ ?_ (λhx=>absurd (qk (λv e hx=>by cases hx)) hx)
  have aG:∀hx:d'.aa≠1,¬Nq d' (eV m.th (tWd K m.c d')):=λhx hy=>by
   rcases hy with hy|⟨_,hy,_⟩
   . exact hx hy
   . exact hy rfl
  have hw':wR d' (eV m.th (tWd K m.c d'))=tR d':=by
   unfold wR;by_cases h1:d'.aa=1
   . rw[aA (.inl h1)];unfold tR;simp only[h1]
   . rw[ax (aG h1)]
  show 0+(868+3*wR d' (eV m.th (tWd K m.c d'))+(3-0))+1700*(if Fr K m.c L d' (eV m.th (tWd K m.c d'))then 0 else 1)<=_
  rw[hw',YJ,G5];have ht:=Wp d';by_cases hF:Fr K m.c L d r
  . obtain⟨k1,k2⟩:=hfn hF
    have hF':Fr K m.c L d' (eV m.th (tWd K m.c d')):=⟨λhx=>absurd hx (aG k1),λ_=>⟨k2,λhx=>absurd rfl hx⟩⟩;rw[aA hF,aA hF'];rcases F9 with hx|hx
    . exact absurd hx k1
    . omega
  . rw[ax hF]
    rcases F9 with hx|hx
    . have hF':Fr K m.c L d' (eV m.th (tWd K m.c d')):=⟨λ_ hy=>absurd rfl hy,λhy=>absurd (.inl hx) hy⟩
      rw[aA hF'];omega
    . split<;>omega
 |dH d' es v=>
  intro hfn xK F9 qk;obtain⟨r1,r2,r3,r4,⟨x,r5⟩,r8,r6,r7⟩:=xK;obtain⟨b1,b2,b3⟩:=xN
  have hoo:eU 8 n (Mq K.W K.P) (sV (firstFree σ.busy) m.th es (bl.2 es)):=
   Fy bQ b3 r6 r7 (λe he=>by
    obtain⟨c1,c2,k,c3,c4⟩:=r2 e he
    have hk:Mq K.W K.P k:=by
     have hb:=jD.bk;unfold Mq TK.P;rcases c4 with rfl|rfl|⟨n',j,h1,h2,h3,rfl⟩
     . unfold TK.rt eJ;omega
     . unfold TK.fr nV;omega
     . unfold TK.nd aQ;omega
    exact⟨⟨k,hk,by have:=hk.2;omega,c3⟩,c1,c2⟩) (oB r3) (b2 es)
  have hIb:Inv sum at0 n 8 (Mq K.W K.P) N (iI σ m.th d' es bl).1 xs L:=hI.Xo b1 hoo rfl rfl rfl rfl rfl;have kO:(iI σ m.th d' es bl).1.ops bl.1=some (sV (firstFree σ.busy) m.th es (bl.2 es)):=aA rfl;have hg:=Rg (al:=[bl.1]) hIb smQ;refine ZaO (iI σ m.th d' es bl).1 _ ?_ (λhx=>absurd (qk (λv e hx=>by cases hx)) hx)
  have g1':gM (iI σ m.th d' es bl).1 {m with ph:= .dH d' bl.1,en:=en}<=868:=by
   show gAq (iI σ m.th d' es bl).1 bl.1<=868
   simpa [Gi]using hg
  have s1:stM K L (iI σ m.th d' es bl).1 {m with ph:= .dH d' bl.1,en:=en}=if nu L es=true then 0 else 1:=by
   show(match((iI σ m.th d' es bl).1.ops bl.1).bind aX.res with|none=>_|some true=>_|some false=>_)=_
   rw[kO];rfl
  have w1:wM {m with ph:=pz.dH d' bl.1,en:=en}=0:=rfl;show gM (iI σ m.th d' es bl).1 {m with ph:= .dH d' bl.1,en:=en}+wM {m with ph:=pz.dH d' bl.1,en:=en}+1700*stM K L (iI σ m.th d' es bl).1 {m with ph:= .dH d' bl.1,en:=en}<=_
  rw[s1,w1,YJ,G5];by_cases hF:Fr K m.c L d r
  . rw[aA hF,aA (show nu L es=true from hfn hF)];omega
  . rw[ax hF];split<;>omega
end
theorem oe:∀(ms:List TM) (k:Nat),(l_ ms).length=o9 (λ_ m=>(aT m).isSome) ms k
 |[],_=>rfl
 |m::ms,k=>by
  have:=oe ms (k+1);unfold o9 l_ at*;rw[List.filterMap_cons];simp only[sumF];rcases(match aT m with|none=> .inl rfl|some a=> .inr ⟨a,rfl⟩:aT m=none\/∃a,aT m=some a)with h|⟨a,h⟩
  . simp[h,this]
  . simp[h,this];omega
theorem Cx{ms:List TM}{a:Nat}:a∈l_ ms↔∃(i:Nat) (m:TM),ms[i]?=some m/\aT m=some a:=by
 unfold l_;rw[List.mem_filterMap];constructor
 . rintro⟨m,h1,h2⟩
   obtain⟨i,hi⟩:=ze.1 h1;exact⟨i,m,hi,h2⟩
 . rintro⟨i,m,h1,h2⟩
   exact⟨m,AZ h1,h2⟩
theorem wF:∀{ms:List TM},(∀(i j:Nat) (mi mj:TM) (a:Nat),ms[i]?=some mi->ms[j]?=some mj->aT mi=some a->aT mj=some a->i=j)->(l_ ms).Nodup
 |[],_=>by simp[l_]
 |m::ms,h=>by
  have h2:(l_ ms).Nodup:=wF (λi j mi mj a hi hj pi pj=>by
   have:=h (i+1) (j+1) mi mj a hi hj pi pj;omega)
  unfold l_ at*;rw[List.filterMap_cons];cases hc:aT m with
  |none=>exact h2
  |some a=>
   simp only;rw[rD];refine⟨λhx=> ?_,h2⟩;obtain⟨i,mi,h3,h4⟩:=Cx.1 hx;have:=h 0 (i+1) m mi a rfl h3 hc h4;omega
theorem yC{f:Nat->TM->Nat}:∀{ms:List TM} {j:Nat} {mj:TM} (k:Nat),ms[j]?=some mj->f (k+j) mj<=sumF f ms k
 |[],j,mj,k,h=>by simp at h
 |x::ms,0,mj,k,h=>by
  simp at h;subst h;simp only[sumF,Nat.add_zero];omega
 |x::ms,j+1,mj,k,h=>by
  have h1:ms[j]?=some mj:=by simpa using h
  have:=yC (f:=f) (k+1) h1;simp only[sumF];rw[show k+(j+1)=k+1+j by omega];omega
theorem tS(p:Nat->TM->Bool)(c:Nat):∀(ms:List TM) (k:Nat),sumF (λi m=>if p i m then c else 0) ms k=c*o9 p ms k
 |[],_=>rfl
 |m::ms,k=>by
  have:=tS p c ms (k+1);unfold o9 at*;simp only[sumF];rw[this,Nat.mul_add];split<;>simp
noncomputable def rM (w:Nat) (st lv:Nat->Bool) (K:TK) (σ:PwS) (L:Nat->Int) (i:Nat) (m:TM):Nat:=
 (if st i then wM m+1700*stM K L σ m else 0)+(if lv i then w*nO σ m else 0)
section
variable{K:TK}{n N Tm w:Nat}{q0:List (Int×Int)}{σ σ':PwS}{ms:List TM}{L L':Nat->Int}{ord:List Nat}{i j a:Nat}{m m' m2:TM}{sum:List Int->Int}{at0:Nat->Int}{cnt:Nat}{xs dz:List Int}{r r':eP}{o:aX}{b:Bool}{v:Int}{bl:Nat×(List bO->List Nat)}{st lv:Nat->Bool}{M:Nat->Prop}{d d':TD}{T:Nat->TT}{fl:List Nat}{es:List bO}{q:Nat}
theorem IH:uS w st lv K σ L ms=Gi σ (l_ ms)+sumF (rM w st lv K σ L) ms 0:=by
 rw[<-O3 σ ms 0,<-pL];rfl
theorem Gy{x:Nat}(h:(σ'.ops x).map aX.key=(σ.ops x).map aX.key):(σ'.ops x).bind aX.res=(σ.ops x).bind aX.res:=by
 cases h1:σ.ops x with
 |none=>rw[h1]at h;cases h2:σ'.ops x with
  |none=>rfl
  |some o=>rw[h2]at h;cases h
 |some o=>rw[h1]at h;cases h2:σ'.ops x with
  |none=>rw[h2]at h;cases h
  |some o'=>
   rw[h2]at h;injection h with h;exact bP (λy=>y.2.2.2) h
theorem VF{x:Nat}(h:(σ'.ops x).map aX.key=(σ.ops x).map aX.key):(σ'.ops x).elim [] aX.es=(σ.ops x).elim [] aX.es:=by
 cases h1:σ.ops x with
 |none=>rw[h1]at h;cases h2:σ'.ops x with
  |none=>rfl
  |some o=>rw[h2]at h;cases h
 |some o=>rw[h1]at h;cases h2:σ'.ops x with
  |none=>rw[h2]at h;cases h
  |some o'=>
   rw[h2]at h;injection h with h;exact bP (λy=>y.1) h
theorem Dl(h:∀x,aT m=some x->(σ'.ops x).map aX.key=(σ.ops x).map aX.key):m.out σ'=m.out σ:=by
 unfold TM.out;cases hp:m.ph with
 |dH d a=>simp only;unfold cH;rw[Gy (h a (cK hp))]
 |_=>rfl
theorem Kk(h:∀x,aT m=some x->(σ'.ops x).map aX.key=(σ.ops x).map aX.key):stM K L σ' m=stM K L σ m:=by
 unfold stM;cases hp:m.ph with
 |dH d a=>simp only;rw[Gy (h a (cK hp)),VF (h a (cK hp))]
 |_=>rfl
theorem eZ.qh(h:eZ K q0 σ ms Tm L T fl ord N):∀(i j:Nat) (mi mj:TM) (a:Nat),ms[i]?=some mi->ms[j]?=some mj->aT mi=some a->aT mj=some a->i=j:=by
 intro i j mi mj a hi hj pi pj;obtain⟨d1,p1⟩:=qZ pi;obtain⟨d2,p2⟩:=qZ pj;exact h.inj i j mi mj _ _ a hi hj p1 p2
theorem Uc(h:eZ K q0 σ ms Tm L T fl ord N)(B:wZ σ ms)(S:vX sum at0 n cnt (Mq K.W K.P) (N+1) a o σ L σ' b dz L')(hi:ms[i]?=some m)(hp:m.ph= .dH d a)
 (mM:∀(j:Nat) (mj:TM) (x:Nat),ms[j]?=some mj->aT mj=some x->(σ.cur=some x\/x=a)->lv j=true)
 (hq:∀(j:Nat) (mj:TM),ms[j]?=some mj->mj.ph.over=false->o9 (λk mk=>decide (k≠j)&&(st k&& !mk.ph.over)) ms 0<=q) (hw:1700*q<=w):
 sumF (rM w st lv K σ' L') ms 0<=sumF (rM w st lv K σ L) ms 0:=by
 rcases S.Z5 with⟨e1,e2⟩|⟨cc,oc,oc',e1,e2,e3,e4,e5,e6,e7,e8,e9,e10,e11⟩
 . refine qM ms 0 (λj mj hj=> ?_)
   unfold rM nO;rw[e1,Kk (λx _=>e2 x),Dl (λx _=>e2 x)];exact a_ _
 . obtain⟨j,mj,dj,g1,g2⟩:∃(j:Nat) (mj:TM) (d:TD),ms[j]?=some mj/\mj.ph= .dH d cc:=by
    rcases e9 with e9|e9
    . exact h.cur cc e9
    . rw[e9];exact⟨i,m,d,hi,hp⟩
   have aG:∀(k:Nat) (mk:TM),ms[k]?=some mk->k≠j->∀x,aT mk=some x->x≠cc:=λk mk hk UR x hx hxc=>UR (h.qh k j mk mj cc hk g1 (by rw[<-hxc];exact hx) (cK g2))
   by_cases rF:nu L oc.es=true
   . rw[aA rF]at e5
     have hlj:lv j=true:=mM j mj cc g1 (cK g2) e9;have bU:mj.ph.over=false:=fJ (cK g2)
     have h1:sumF (λk mk=>rM w st lv K σ' L' k mk+(if k=j then w else 0)) ms 0<=sumF (λk mk=>rM w st lv K σ L k mk+(if(decide (k≠j)&&(st k&& !mk.ph.over))then 1700 else 0)) ms 0:=by
      refine qM ms 0 (λk mk hk=> ?_);simp only[cY];by_cases UR:k=j
      . subst UR
        rw[g1]at hk;injection hk with hk;subst hk;have QE:stM K L' σ' mj=0:=by unfold stM;rw[g2];simp only;rw[e2];show(match oc'.res with|none=>_|some true=>_|some false=>_)=0;rw[e4,rF]
        have hl':nO σ' mj=0:=by unfold nO TM.out;rw[g2];show(if cH σ' dj.res cc=none then 1 else 0)=0;unfold cH;rw[e2];simp[e4,rF]
        have hl:nO σ mj=1:=by unfold nO TM.out;rw[g2];show(if cH σ dj.res cc=none then 1 else 0)=1;unfold cH;rw[e1];simp[e3]
        unfold rM;rw[QE,hl',hl,hlj];simp only[cR,ne_eq,KK,B3,Bool.false_and,eS,dF];split<;>omega
      . have jC:=aG k mk hk UR
        have hl:nO σ' mk=nO σ mk:=by unfold nO;rw[Dl (λx hx=>e11 x (jC x hx))]
        unfold rM;rw[hl,ax UR];cases Zep:st k with
        |false=>
         simp only[eS,dF,Bool.false_and,Bool.and_false];omega
        |true=>
         have hs:stM K L' σ' mk<=stM K L σ mk+(if(decide (k≠j)&&(true&& !mk.ph.over))then 1 else 0):=by
          cases Zbr:mk.ph.over with
          |true=>
           have:stM K L' σ' mk=0:=by
            unfold stM;cases hpk:mk.ph<;>rw[hpk]at Zbr<;>first|rfl|cases Zbr
           omega
          |false=>
           have:=O8 (K:=K) (L:=L') (σ:=σ') mk;simp[UR];omega
         simp only[cR];cases hd:(decide (k≠j)&&(true&& !mk.ph.over))with
         |true=>rw[hd]at hs;simp only[cR]at hs |-;omega
         |false=>rw[hd]at hs;simp only[eS,dF]at hs |-;omega
     have h2:=pL (rM w st lv K σ' L') (λk _=>if k=j then w else 0) ms 0;have h3:=pL (rM w st lv K σ L) (λk mk=>if(decide (k≠j)&&(st k&& !mk.ph.over))then 1700 else 0) ms 0;have h4:=yC (f:=λk _=>if k=j then w else 0) 0 g1;have h5:=tS (λk mk=>decide (k≠j)&&(st k&& !mk.ph.over)) 1700 ms 0;have h6:=hq j mj g1 bU;simp only[cY,cR]at h4;omega
   . rw[ax rF]at e5
     have hsf:nu L oc.es=false:=by simpa using rF
     refine qM ms 0 (λk mk hk=> ?_);rw[e5];by_cases UR:k=j
     . subst UR
       rw[g1]at hk;injection hk with hk;subst hk
       have QE:stM K L σ' mj=stM K L σ mj:=by
        unfold stM;rw[g2];simp only;rw[e2,e1];show(match oc'.res with|none=>_|some true=>_|some false=>_)=(match oc.res with|none=>_|some true=>_|some false=>_)
        rw[e4,e3,hsf];show 1=if nu L oc.es=true then 0 else 1
        rw[hsf];rfl
       have hl':nO σ' mj=nO σ mj:=by
        unfold nO TM.out;rw[g2];show(if cH σ' dj.res cc=none then 1 else 0)=(if cH σ dj.res cc=none then 1 else 0)
        unfold cH;rw[e2,e1];simp[e4,e3,hsf]
       unfold rM;rw[QE,hl'];exact a_ _
     . have jC:=aG k mk hk UR
       unfold rM nO;rw[Kk (λx hx=>e11 x (jC x hx)),Dl (λx hx=>e11 x (jC x hx))];exact a_ _
theorem Ft(h:eZ K q0 σ ms Tm L T fl ord N)(B:wZ σ ms)(hI:Inv sum at0 n cnt (Mq K.W K.P) N σ xs L)(hR:kh n cnt (Mq K.W K.P) at0)(hN:N<1000000)(S:vX sum at0 n cnt (Mq K.W K.P) (N+1) a o σ L σ' b dz L')(hi:ms[i]?=some m)(hp:m.ph= .dH d a)(ha:σ.ops a=some o)(he:o.ended=false)
 (mM:∀(j:Nat) (mj:TM) (x:Nat),ms[j]?=some mj->aT mj=some x->(σ.cur=some x\/x=a)->lv j=true)
 (hq:∀(j:Nat) (mj:TM),ms[j]?=some mj->mj.ph.over=false->o9 (λk mk=>decide (k≠j)&&(st k&& !mk.ph.over)) ms 0<=q) (hw:1700*q<=w):
 uS w st lv K σ' L' ms+1<=uS w st lv K σ L ms:=by
 rw[IH,IH];have h1:=Uc (w:=w) (st:=st) h B S hi hp mM hq hw
 have h2:=hI.Mc hR hN ha he (wF h.qh) (Cx.2 ⟨i,m,hi,cK hp⟩) (by
  rw[oe ms 0]
  exact B.th.Zb5 (λk mk _ hx=>by
   cases hc:aT mk with
   |none=>rw[hc]at hx;cases hx
   |some x=>exact fJ hc))
 rw[S.eq]at h2;dsimp only at h2;omega
theorem fr0{th:Nat}(hs:d.aa=1){c:TC}:Fr K c L d (eV th (K.rt c)):=⟨λ_ hy=>absurd rfl hy,λhy=>absurd (.inl hs) hy⟩
open Classical in
theorem EY(hp:m.ph= .dH d a)(hr:(σ.ops a).bind aX.res=some false)(bh:st i=true){en:Nat}:
 tM w st lv K σ L i {m with ph:= .rd {d with aa:=1} (eV m.th (K.rt m.c)),en:=en}<=tM w st lv K σ L i m:=by
 have h1:gM σ {m with ph:= .rd {d with aa:=1} (eV m.th (K.rt m.c)),en:=en}=0:=rfl
 have h2:wM {m with ph:= .rd {d with aa:=1} (eV m.th (K.rt m.c)),en:=en}=1678:=by
  show 868+3*wR {d with aa:=1} (eV m.th (K.rt m.c))+(3-0)=1678
  unfold wR;rw[aA (.inl rfl)]
 have h3:stM K L σ {m with ph:= .rd {d with aa:=1} (eV m.th (K.rt m.c)),en:=en}=0:=by
  show(if Fr K m.c L {d with aa:=1} (eV m.th (K.rt m.c))then 0 else 1)=0
  rw[aA (fr0 rfl)]
 have h4:stM K L σ m=1:=by unfold stM;rw[hp];simp only;rw[hr]
 have h5:nO σ {m with ph:= .rd {d with aa:=1} (eV m.th (K.rt m.c)),en:=en}<=nO σ m:=IW (λhx=>by
  unfold TM.out at hx;rw[hp]at hx;exact absurd (show cH σ d.res a=none by unfold cH;rw[hr];rfl) hx)
 unfold tM;rw[h1,h2,h3,h4,bh,aA rfl,aA rfl];cases lv i
 . simp only[eS,dF];omega
 . simp only[cR]
   have:=Cm w h5;omega
end
end Go.Proofs.YtjkpjakodomnmaaGreatDoor
