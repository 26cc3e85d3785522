/- The base, part 5 (merged). -/
import Derived.Test.YtjkpjakodomnmaaGreatDoorKtad
set_option linter.unusedVariables false
set_option linter.unusedSimpArgs false
set_option maxRecDepth 100000
set_option maxHeartbeats 16000000
namespace Go.Proofs.YtjkpjakodomnmaaGreatDoor
open Go.RowKit
structure eP where
 th:Nat
 off:Int
 place:Nat
 raw:Int
 ended:Bool
 err:Int
def aX.S0(o:aX)(off:Int):Option Int:=
 if o.aa=3 then((List.range o.es.length).find? λq=>(o.es.getD q E0).off==off).map λq=>kW o.seen q else none
def PwS.before(σ:PwS)(off:Int):Option Int:=(σ.cur.bind σ.ops).bind λo=>o.S0 off
def eP.fail(r:eP)(e:Int):eP:={r with ended:=true,err:=e,raw:=0}
def eP.wW(r:eP)(D:aq):eP:=if(D.a8 r.th).err≠0 then r.fail (D.a8 r.th).err else r
def PwS.aI(σ:PwS)(r:eP):PwS×eP:=
 if r.ended then(σ,r)
 else if(σ.dev.a8 r.th).err≠0 then(σ,r.fail (σ.dev.a8 r.th).err)
 else if r.place=0 then
  let D:=σ.dev.on r.th (σ.dev.cQ r.off)
  ({σ with dev:=D},match({σ with dev:=D}:PwS).before r.off with
    |some x=>({r with raw:=x,ended:=true,place:=1}:eP).wW D
    |none=>({r with raw:=σ.dev.load r.off,place:=1}:eP).wW D)
 else if r.place=1 then
  let D:=σ.dev.flush r.th r.off
  ({σ with dev:=D},({r with place:=2}:eP).wW D)
 else
  let D:=σ.dev.fence r.th
  ({σ with dev:=D},({r with place:=3,ended:=true}:eP).wW D)
section
variable{sum:List Int->Int}{at0:Nat->Int}{n cnt N N':Nat}{M:Nat->Prop}{σ σ' Ed:PwS}{xs dz:List Int}{L L':Nat->Int}{a c:Nat}{o oc oc':aX}{D D':aq}{r:eP}
theorem Inv.same(h:Inv sum at0 n cnt M N σ xs L)(dP:On D n xs N'):Inv sum at0 n cnt M N' {σ with dev:=D} xs L:=
 ⟨dP,h.hL,h.ok,h.idle,h.run,h.fresh,h.pos,h.sf,h.fin⟩
theorem Inv.look(h:Inv sum at0 n cnt M N σ xs L){k:Nat}(hk:M k):(∀x,σ.before (8*(k:Int))=some x->x=L k)/\(σ.before (8*(k:Int))=none->xs[k]?=some (L k)):=by
 cases hc:σ.cur with
 |none=>
  refine⟨λx hx=> ?_,λ_=>h.idle hc k hk⟩;simp[PwS.before,hc]at hx
 |some c=>
  obtain⟨oc,g1,g2,g3,g4⟩:=h.run c hc;have bF:=h.ok c oc g1;have e:σ.before (8*(k:Int))=oc.S0 (8*(k:Int)):=by simp[PwS.before,hc,g1]
  rw[e]
  have aG:oc.aa≠3->(∀k,M k->xs[k]?=some (L k))->(∀x,oc.S0 (8*(k:Int))=some x->x=L k)/\(oc.S0 (8*(k:Int))=none->xs[k]?=some (L k)):=λh3 hx=>by
   refine⟨λx hx=> ?_,λ_=>hx k hk⟩;unfold aX.S0 at hx;rw[ax h3]at hx;cases hx
  rcases g4 with⟨e1,_,_,hx⟩|⟨e1,_,_,hx⟩|⟨e1,hs,_,hx,_⟩|⟨e1,_,hx⟩
  . exact aG ae hx
  . exact aG ae hx
  . unfold aX.S0
    rw[aA e1];refine⟨λx hf=> ?_,λhf=> ?_⟩
    . rw[KS]at hf
      obtain⟨q,hq,rfl⟩:=hf;have h1:=Fh hq;have h2:q<oc.es.length:=by simpa using List.mem_of_find?_eq_some hq
      have h3:=(bF.wd h2).2.2;have h4:(oc.es.getD q E0).off=8*(k:Int):=by simpa using h1
      have h5:ee oc.es q=k:=by omega
      rw[(hs q h2).1,h5]
    . rw[Option.map_eq_none_iff,yW]at hf
      refine hx k hk (λq hq he=> ?_);have h3:=(bF.wd hq).2.2;exact hf q (by simpa using hq) (by rw[h3,he];simp)
  . exact aG ae hx
structure ZdL(n cnt:Nat)(M:Nat->Prop)(N:Nat)(sum:List Int->Int)(at0:Nat->Int)(σ:PwS)(L:Nat->Int)(k:Nat)(r:eP)(dz:List Int):Prop where
 inv:Inv sum at0 n cnt M N (σ.aI r).1 dz L
 ops:(σ.aI r).1.ops=σ.ops/\(σ.aI r).1.cur=σ.cur/\(σ.aI r).1.busy=σ.busy
 th:(σ.aI r).2.th=r.th/\(σ.aI r).2.off=r.off/\(σ.aI r).2.err=0
 raw:(σ.aI r).2.raw=if r.place=0 then L k else r.raw
 place:r.place+1=(σ.aI r).2.place/\(σ.aI r).2.place<=3
 ended:(σ.aI r).2.ended=true\/(σ.aI r).2.place<=2
theorem Inv.aI(h:Inv sum at0 n cnt M N σ xs L)(hN:N<1000000){k:Nat}(hk:M k)(zF:k<8*n)(mL:r.off=8*(k:Int))(bQ:r.th<8)(he:r.ended=false)(h0:r.err=0)(hp:r.place<=2):ZdL n cnt M (N+1) sum at0 σ L k r xs:=by
 have cM:∀i,(σ.dev.a8 i).err=0:=h.on.err
 have bh:σ.aI r=if r.place=0 then
  ({σ with dev:=σ.dev.on r.th (σ.dev.cQ r.off)},match({σ with dev:=σ.dev.on r.th (σ.dev.cQ r.off)}:PwS).before r.off with
  |some x=>({r with raw:=x,ended:=true,place:=1}:eP).wW (σ.dev.on r.th (σ.dev.cQ r.off))
  |none=>({r with raw:=σ.dev.load r.off,place:=1}:eP).wW (σ.dev.on r.th (σ.dev.cQ r.off)))
  else if r.place=1 then({σ with dev:=σ.dev.flush r.th r.off},({r with place:=2}:eP).wW (σ.dev.flush r.th r.off))
  else({σ with dev:=σ.dev.fence r.th},({r with place:=3,ended:=true}:eP).wW (σ.dev.fence r.th)):=by
  unfold PwS.aI;rw[ax (by rw[he];simp),ax (by rw[cM];simp)]
 have VB:∀(s:eP) (D:aq),(∀i,(D.a8 i).err=0)->s.wW D=s:=λs D hD=>by
  unfold eP.wW;rw[ax (by rw[hD];simp)]
 by_cases p0:r.place=0
 . rw[aA p0]at bh
   rw[mL]at bh;obtain⟨jB,ju⟩:=h.look hk;have G3:σ.dev.cQ (8*(k:Int))=true:=by unfold aq.cQ;rw[h.on.nl];simp;omega
   have ZbK:σ.dev.on r.th (σ.dev.cQ (8*(k:Int)))=σ.dev:=by unfold aq.on;rw[h.on.off,G3];simp
   rw[ZbK]at bh;have e0:({σ with dev:=σ.dev}:PwS)=σ:=rfl;rw[e0]at bh;cases hb:σ.before (8*(k:Int))with
   |some x=>
    rw[hb]at bh;dsimp only at bh;rw[VB _ _ cM]at bh;have hx:=jB x hb;refine⟨by rw[bh];exact h.mono (lM _),by rw[bh];exact⟨rfl,rfl,rfl⟩,by rw[bh];exact⟨rfl,by rw[mL],h0⟩,by rw[bh,aA p0];exact hx,by rw[bh];exact⟨by rw[p0],by show(1:Nat)<=3;omega⟩,by rw[bh];exact .inl rfl⟩
   |none=>
    rw[hb]at bh;dsimp only at bh;rw[VB _ _ cM]at bh;have hx:=(h.on.Dt zF (ju hb) r.th).2;rw[hx]at bh;refine⟨by rw[bh];exact h.mono (lM _),by rw[bh];exact⟨rfl,rfl,rfl⟩,by rw[bh];exact⟨rfl,by rw[mL],h0⟩,by rw[bh,aA p0],by rw[bh];exact⟨by rw[p0],by show(1:Nat)<=3;omega⟩,by rw[bh];exact .inr (by show(1:Nat)<=2;omega)⟩
 . rw[ax p0]at bh
   by_cases p1:r.place=1
   . rw[aA p1]at bh
     have dP:=h.on.flush r.th k zF hN;rw[mL]at bh;rw[VB _ _ dP.err]at bh;refine⟨by rw[bh];exact h.same dP,by rw[bh];exact⟨rfl,rfl,rfl⟩,by rw[bh];exact⟨rfl,mL▸rfl,h0⟩,by rw[bh,ax p0],by rw[bh];exact⟨by rw[p1],by show(2:Nat)<=3;omega⟩,by rw[bh];exact .inr (by show(2:Nat)<=2;omega)⟩
   . rw[ax p1]at bh
     have dP:=h.on.fence r.th bQ hN;rw[VB _ _ dP.err]at bh;have p2:r.place=2:=by omega
     refine⟨by rw[bh];exact h.same dP,by rw[bh];exact⟨rfl,rfl,rfl⟩,by rw[bh];exact⟨rfl,rfl,h0⟩,by rw[bh,ax p0],by rw[bh];exact⟨by rw[p2],by show(3:Nat)<=3;omega⟩,by rw[bh];exact .inl rfl⟩
end
inductive TT
 |nil
 |node (n:Nat) (k v:Int) (z o:TT)
def TT.root:TT->Int
 | .nil=>0
 | .node n _ _ _ _=>n
def TT.ar:TT->List Nat
 | .nil=>[]
 | .node n _ _ z o=>n::(z.ar++o.ar)
def TT.aP:TT->List (Int×Int)
 | .nil=>[]
 | .node _ k v z o=>(k,v)::(z.aP++o.aP)
def TT.Wf(hs:Int->Nat):TT->Nat->(Int->Prop)->Prop
 | .nil,_,_=>True
 | .node _ k _ z o,d,P=>P k/\(∀e∈z.aP++o.aP,e.1≠k)/\z.Wf hs (d+1) (λx=>P x/\(hs x).testBit d=false)/\o.Wf hs (d+1) (λx=>P x/\(hs x).testBit d=true)
def TT.look(hs:Int->Nat)(key:Int):TT->Nat->Option Int
 | .nil,_=>none
 | .node _ k v z o,d=>if k=key then some v else if(hs key).testBit d then o.look hs key (d+1)else z.look hs key (d+1)
section
variable{hs:Int->Nat}{P Q:Int->Prop}{key v:Int}{d:Nat}
theorem TT.Wf.mono:∀{T:TT} {d:Nat} {P Q:Int->Prop},T.Wf hs d P->(∀x,P x->Q x)->T.Wf hs d Q
 | .nil,_,_,_,_,_=>trivial
 | .node _ k _ z o,d,P,Q,⟨h1,h2,h3,h4⟩,h=>⟨h k h1,h2,h3.mono (λx hx=>⟨h x hx.1,hx.2⟩),h4.mono (λx hx=>⟨h x hx.1,hx.2⟩)⟩
theorem TT.Wf.all:∀{T:TT} {d:Nat} {P:Int->Prop},T.Wf hs d P->∀e∈T.aP,P e.1
 | .nil,_,_,_,e,he=>by simp[TT.aP]at he
 | .node _ k v z o,d,P,⟨h1,h2,h3,h4⟩,e,he=>by
   simp only[TT.aP,dr,gG]at he;rcases he with rfl|he|he
   . exact h1
   . exact(h3.all e he).1
   . exact(h4.all e he).1
theorem TT.zp:∀{T:TT} {d:Nat} {P:Int->Prop},T.Wf hs d P->(T.look hs key d=some v↔(key,v)∈T.aP)
 | .nil,_,_,_=>by simp[TT.look,TT.aP]
 | .node n k w z o,d,P,⟨h1,h2,h3,h4⟩=>by
   have i3:=TT.zp h3;have i4:=TT.zp h4;simp only[TT.look,TT.aP,dr,gG];by_cases hk:k=key
   . rw[aA hk]
     constructor
     . intro h;injection h with h;exact .inl (by rw[hk,h])
     . rintro(h|h)
       . injection h with _ h;rw[h]
       . exact absurd hk.symm (h2 (key,v) (gG.2 h))
   . rw[ax hk]
     have aG:(key,v)≠(k,w):=λh=>hk (by injection h with h;exact h.symm)
     cases hb:(hs key).testBit d with
     |true=>
      rw[aA rfl,i4];refine⟨λh=> .inr (.inr h),?_⟩;rintro(h|h|h)
      . exact absurd h aG
      . have:=(h3.all _ h).2;dsimp only at this;rw[hb]at this;cases this
      . exact h
     |false=>
      rw[ax smQ,i3];refine⟨λh=> .inr (.inl h),?_⟩;rintro(h|h|h)
      . exact absurd h aG
      . exact h
      . have:=(h4.all _ h).2;dsimp only at this;rw[hb]at this;cases this
def TT.desc(hs:Int->Nat)(nd:Nat->Nat->Nat)(key:Int):TT->Nat->Nat->Nat->Option (TT×Nat)
 |T,l,_,0=>some (T,l)
 | .nil,_,_,_+1=>none
 | .node n k _ z o,_,d,s+1=>if k=key then none else if(hs key).testBit d then o.desc hs nd key (nd n 3) (d+1) s else z.desc hs nd key (nd n 2) (d+1) s
def TT.eN(hs:Int->Nat)(key:Int)(f:TT->TT):TT->Nat->TT
 | .nil,_=>f .nil
 | .node n k v z o,d=>if k=key then f (.node n k v z o)else if(hs key).testBit d then .node n k v z (o.eN hs key f (d+1))else .node n k v (z.eN hs key f (d+1)) o
def TT.aU(hs:Int->Nat)(key:Int):TT->Nat->TT
 | .nil,_=> .nil
 | .node n k v z o,d=>if k=key then .node n k v z o else if(hs key).testBit d then o.aU hs key (d+1)else z.aU hs key (d+1)
def TT.linkAt(hs:Int->Nat)(nd:Nat->Nat->Nat)(key:Int):TT->Nat->Nat->Nat
 | .nil,l,_=>l
 | .node n k _ z o,l,d=>if k=key then l else if(hs key).testBit d then o.linkAt hs nd key (nd n 3) (d+1)else z.linkAt hs nd key (nd n 2) (d+1)
variable{nd:Nat->Nat->Nat}
theorem TT.zU:∀{T:TT} {l d s r:Nat} {S:TT} {l':Nat},T.desc hs nd key l d s=some (S,l')->T.desc hs nd key l d (s+r)=S.desc hs nd key l' (d+s) r
 |T,l,d,0,r,S,l',h=>by
  rw[show T.desc hs nd key l d 0=some (T,l) by cases T<;>rfl]at h
  injection h with h;injection h with h1 h2;rw[h1,h2,cY];rfl
 | .nil,_,_,s+1,r,S,l',h=>by cases h
 | .node n k v z o,l,d,s+1,r,S,l',h=>by
   rw[show s+1+r=(s+r)+1 by omega];simp only[TT.desc]at h |-;by_cases hk:k=key
   . rw[aA hk]at h;cases h
   . rw[ax hk]at h |-
     rw[show d+(s+1)=d+1+s by omega];cases hb:(hs key).testBit d with
     |true=>rw[hb,aA rfl]at h;rw[aA rfl];exact TT.zU h
     |false=>rw[hb,ax smQ]at h;rw[ax smQ];exact TT.zU h
theorem TT.rq:∀{T:TT} {l d s:Nat} {S:TT} {l':Nat},T.desc hs nd key l d s=some (S,l')->T.look hs key d=S.look hs key (d+s)/\T.aU hs key d=S.aU hs key (d+s)/\T.linkAt hs nd key l d=S.linkAt hs nd key l' (d+s)
 |T,l,d,0,S,l',h=>by
  rw[show T.desc hs nd key l d 0=some (T,l) by cases T<;>rfl]at h
  injection h with h;injection h with h1 h2;rw[h1,h2];exact⟨rfl,rfl,rfl⟩
 | .nil,_,_,s+1,S,l',h=>by cases h
 | .node n k v z o,l,d,s+1,S,l',h=>by
   simp only[TT.desc]at h;simp only[TT.look,TT.aU,TT.linkAt];by_cases hk:k=key
   . rw[aA hk]at h;cases h
   . rw[ax hk]at h
     rw[ax hk,ax hk,ax hk,show d+(s+1)=d+1+s by omega];cases hb:(hs key).testBit d with
     |true=>rw[hb,aA rfl]at h;simp only[cR];exact TT.rq h
     |false=>rw[hb,ax smQ]at h;simp only[eS,dF];exact TT.rq h
theorem TT.DZ:∀{T:TT} {l d s:Nat} {S:TT} {l':Nat} {P:Int->Prop},T.Wf hs d P->T.desc hs nd key l d s=some (S,l')->S.Wf hs (d+s) (λx=>P x/\∀j,d<=j->j<d+s->(hs x).testBit j=(hs key).testBit j)
 |T,l,d,0,S,l',P,hw,h=>by
  rw[show T.desc hs nd key l d 0=some (T,l) by cases T<;>rfl]at h
  injection h with h;injection h with h1 h2;rw[<-h1];exact hw.mono (λx hx=>⟨hx,λj h1 h2=>by omega⟩)
 | .nil,_,_,s+1,S,l',P,hw,h=>by cases h
 | .node n k v z o,l,d,s+1,S,l',P,⟨h1,h2,h3,h4⟩,h=>by
   simp only[TT.desc]at h;by_cases hk:k=key
   . rw[aA hk]at h;cases h
   . rw[ax hk]at h
     rw[show d+(s+1)=d+1+s by omega];cases hb:(hs key).testBit d with
     |true=>
      rw[hb,aA rfl]at h;refine(TT.DZ h4 h).mono (λx hx=>⟨hx.1.1,λj j1 j2=> ?_⟩);by_cases hj:j=d
      . rw[hj,hb];exact hx.1.2
      . exact hx.2 j ae j2
     |false=>
      rw[hb,ax smQ]at h;refine(TT.DZ h3 h).mono (λx hx=>⟨hx.1.1,λj j1 j2=> ?_⟩);by_cases hj:j=d
      . rw[hj,hb];exact hx.1.2
      . exact hx.2 j ae j2
theorem TT.Nt{T:TT}{l s:Nat}{l' n:Nat}{k w:Int}{z o:TT}(hw:T.Wf hs 0 P)(h:T.desc hs nd key l 0 s=some (.node n k w z o,l'))(wT:∀x,P x->hs x<2^64)(zG:P key)(lT:∀x y,P x->P y->hs x=hs y->x=y)(aG:k≠key):s<64:=by
 rcases Nat.lt_or_ge s 64 with h1|h1
 . exact h1
 . exfalso
   have hd:=TT.DZ hw h;obtain⟨⟨hk,U8⟩,_⟩:=hd;refine aG (lT k key hk zG (Di λj=> ?_));by_cases hj:j<64
   . exact U8 j (im _) ae
   . have e1:=vq (i:=j) (cD (wT k hk) (yN ae ae))
     have e2:=vq (i:=j) (cD (wT key zG) (yN ae ae));rw[e1,e2]
end
def bu(L:Nat->Int)(k:Nat):Int:=L k%1099511627776
def gU(L:Nat->Int)(nd:Nat->Nat->Nat)(NN:Nat):TT->Int->Prop
 | .nil,x=>x=0
 | .node n k v z o,x=>x=n/\1<=n/\n<=NN/\bu L (nd n 0)=k/\bu L (nd n 1)=v/\gU L nd NN z (bu L (nd n 2))/\gU L nd NN o (bu L (nd n 3))
structure Zan(nd:Nat->Nat->Nat):Prop where
 inj:∀n m i j,1<=n->1<=m->i<4->j<4->nd n i=nd m j->n=m/\i=j
section
variable{hs:Int->Nat}{nd:Nat->Nat->Nat}{NN:Nat}{L L':Nat->Int}{key:Int}{f:TT->TT}
theorem gU.num:∀{T:TT} {x:Int},gU L nd NN T x->∀n∈T.ar,1<=n/\n<=NN
 | .nil,_,_,n,hn=>by simp[TT.ar]at hn
 | .node m k v z o,x,⟨_,h1,h2,_,_,h3,h4⟩,n,hn=>by
   simp only[TT.ar,dr,gG]at hn;rcases hn with rfl|hn|hn
   . exact⟨h1,h2⟩
   . exact h3.num n hn
   . exact h4.num n hn
theorem gU.root:∀{T:TT} {x:Int},gU L nd NN T x->x=T.root
 | .nil,_,h=>h
 | .node _ _ _ _ _,_,h=>h.1
theorem gU.keep:∀{T:TT} {x:Int},gU L nd NN T x->(∀n∈T.ar,∀j,j<4->bu L' (nd n j)=bu L (nd n j))->gU L' nd NN T x
 | .nil,_,h,_=>h
 | .node m k v z o,x,⟨h0,h1,h2,h3,h4,h5,h6⟩,hk=>by
   have hm:=hk m (by simp[TT.ar]);refine⟨h0,h1,h2,(hm 0 ae).trans h3,(hm 1 ae).trans h4,?_,?_⟩
   . rw[hm 2 ae];exact h5.keep (λn hn=>hk n (by simp[TT.ar,hn]))
   . rw[hm 3 ae];exact h6.keep (λn hn=>hk n (by simp[TT.ar,hn]))
theorem TT.ez:∀{T:TT} {d n:Nat},n∈(T.aU hs key d).ar->n∈T.ar
 | .nil,_,_,h=>h
 | .node m k v z o,d,n,h=>by
   simp only[TT.aU]at h;split at h
   . exact h
   . split at h
     . have:=TT.ez h;simp[TT.ar,this]
     . have:=TT.ez h;simp[TT.ar,this]
theorem TT.gy:∀{T:TT} {d:Nat} {e:Int×Int},e∈(T.aU hs key d).aP->e∈T.aP
 | .nil,_,_,h=>h
 | .node m k v z o,d,e,h=>by
   simp only[TT.aU]at h;split at h
   . exact h
   . split at h
     . have:=TT.gy h;simp[TT.aP,this]
     . have:=TT.gy h;simp[TT.aP,this]
theorem TT.jX:∀{T:TT} {l d:Nat},T.ar.Nodup->T.linkAt hs nd key l d=l\/∃m,m∈T.ar/\m∉(T.aU hs key d).ar/\(T.linkAt hs nd key l d=nd m 2\/T.linkAt hs nd key l d=nd m 3)
 | .nil,_,_,_=> .inl rfl
 | .node n k v z o,l,d,hn=>by
   simp only[TT.linkAt,TT.aU];by_cases hk:k=key
   . rw[aA hk];exact .inl rfl
   . rw[ax hk,ax hk]
     simp only[TT.ar,rD,tW,gG,not_or]at hn;obtain⟨⟨n1,n2⟩,n3,n4,_⟩:=hn;right;cases hb:(hs key).testBit d with
     |true=>
      simp only[cR];rcases TT.jX (l:=nd n 3) (d:=d+1) n4 with h|⟨m,h1,h2,h3⟩
      . exact⟨n,by simp[TT.ar],λhx=>n2 (TT.ez hx), .inr h⟩
      . exact⟨m,by simp[TT.ar,h1],h2,h3⟩
     |false=>
      simp only[eS,dF];rcases TT.jX (l:=nd n 2) (d:=d+1) n3 with h|⟨m,h1,h2,h3⟩
      . exact⟨n,by simp[TT.ar],λhx=>n1 (TT.ez hx), .inl h⟩
      . exact⟨m,by simp[TT.ar,h1],h2,h3⟩
theorem gU.sub:∀{T:TT} {l d:Nat},gU L nd NN T (bu L l)->gU L nd NN (T.aU hs key d) (bu L (T.linkAt hs nd key l d))
 | .nil,_,_,h=>h
 | .node n k v z o,l,d,h=>by
   simp only[TT.aU,TT.linkAt];by_cases hk:k=key
   . rw[aA hk,aA hk];exact h
   . rw[ax hk,ax hk]
     obtain⟨_,_,_,_,_,h5,h6⟩:=h;cases hb:(hs key).testBit d with
     |true=>simp only[cR];exact gU.sub h6
     |false=>simp only[eS,dF];exact gU.sub h5
theorem gU.mod(hN:Zan nd):∀{T:TT} {l d:Nat},gU L nd NN T (bu L l)->T.ar.Nodup->(∀n∈T.ar,∀j,j<4->nd n j≠l)->
 gU L' nd NN (f (T.aU hs key d)) (bu L' (T.linkAt hs nd key l d))->(∀n∈T.ar,n∉(T.aU hs key d).ar->∀j,j<4->nd n j≠T.linkAt hs nd key l d->bu L' (nd n j)=bu L (nd n j))->(l≠T.linkAt hs nd key l d->bu L' l=bu L l)->
 gU L' nd NN (T.eN hs key f d) (bu L' l)
 | .nil,l,d,_,_,_,h,_,_=>h
 | .node n k v z o,l,d,hM,hn,hl,h,hk,iW=>by
   simp only[TT.eN,TT.aU,TT.linkAt]at h hk iW |-;by_cases QR:k=key
   . rw[aA QR]at h hk iW |-
     rw[aA QR]at h;exact h
   . rw[ax QR]at h hk iW |-
     rw[ax QR]at h hk;simp only[TT.ar,rD,tW,gG,not_or]at hn;obtain⟨⟨n1,n2⟩,n3,n4,n5⟩:=hn;obtain⟨g0,g1,g2,g3,g4,g5,g6⟩:=hM;cases hb:(hs key).testBit d with
     |true=>
      rw[hb]at h hk iW;simp only[cR]at h hk iW |-;obtain⟨lk,jt⟩:=aH (o.linkAt hs nd key (nd n 3) (d+1));have G9:=TT.jX (hs:=hs) (nd:=nd) (key:=key) (l:=nd n 3) (d:=d+1) n4;rw[jt]at G9 h hk iW
      have nl:∀m j,1<=m->j<4->m∉o.ar->(m=n->j≠3)->nd m j≠lk:=λm j hm hj wK Zq he=>by
       rcases G9 with h1|⟨m',h1,_,h2|h2⟩
       . obtain⟨e1,e2⟩:=hN.inj m n j 3 hm g1 hj ae (he.trans h1)
         exact Zq e1 e2
       . obtain⟨e1,_⟩:=hN.inj m m' j 2 hm (g6.num m' h1).1 hj ae (he.trans h2)
         exact wK (e1▸h1)
       . obtain⟨e1,_⟩:=hN.inj m m' j 3 hm (g6.num m' h1).1 hj ae (he.trans h2)
         exact wK (e1▸h1)
      have SJ:n∉(o.aU hs key (d+1)).ar:=λhx=>n2 (TT.ez hx)
      have QP:l≠lk:=λhe=>by
       rcases G9 with h1|⟨m',h1,_,h2|h2⟩
       . exact hl n (by simp[TT.ar]) 3 ae (h1.symm.trans he.symm)
       . exact hl m' (by simp[TT.ar,h1]) 2 ae (h2.symm.trans he.symm)
       . exact hl m' (by simp[TT.ar,h1]) 3 ae (h2.symm.trans he.symm)
      have kn:∀j,j<3->bu L' (nd n j)=bu L (nd n j):=λj hj=>hk n (by simp[TT.ar]) SJ j ae (nl n j g1 ae n2 (λ_=>by omega))
      refine⟨(iW QP).trans g0,g1,g2,(kn 0 ae).trans g3,(kn 1 ae).trans g4,?_,?_⟩
      . rw[kn 2 ae]
        refine g5.keep (λm hm j hj=>hk m (by simp[TT.ar,hm]) (λhx=>n5 m hm m (TT.ez hx) rfl) j hj (nl m j (g5.num m hm).1 hj (λhx=>n5 m hm m hx rfl) (λhe=>absurd (he▸hm) n1)))
      . refine gU.mod hN g6 n4 (λm hm j hj he=> ?_) (by rw[jt];exact h) (λm hm hms j hj aG=>hk m (by simp[TT.ar,hm]) hms j hj (by rw[<-jt];exact aG)) (λaG=>hk n (by simp[TT.ar]) SJ 3 ae (by rw[<-jt];exact aG))
        exact n2 ((hN.inj m n j 3 (g6.num m hm).1 g1 hj ae he).1▸hm)
     |false=>
      rw[hb]at h hk iW;simp only[eS,dF]at h hk iW |-;obtain⟨lk,jt⟩:=aH (z.linkAt hs nd key (nd n 2) (d+1));have G9:=TT.jX (hs:=hs) (nd:=nd) (key:=key) (l:=nd n 2) (d:=d+1) n3;rw[jt]at G9 h hk iW
      have nl:∀m j,1<=m->j<4->m∉z.ar->(m=n->j≠2)->nd m j≠lk:=λm j hm hj wK Zq he=>by
       rcases G9 with h1|⟨m',h1,_,h2|h2⟩
       . obtain⟨e1,e2⟩:=hN.inj m n j 2 hm g1 hj ae (he.trans h1)
         exact Zq e1 e2
       . obtain⟨e1,_⟩:=hN.inj m m' j 2 hm (g5.num m' h1).1 hj ae (he.trans h2)
         exact wK (e1▸h1)
       . obtain⟨e1,_⟩:=hN.inj m m' j 3 hm (g5.num m' h1).1 hj ae (he.trans h2)
         exact wK (e1▸h1)
      have SJ:n∉(z.aU hs key (d+1)).ar:=λhx=>n1 (TT.ez hx)
      have QP:l≠lk:=λhe=>by
       rcases G9 with h1|⟨m',h1,_,h2|h2⟩
       . exact hl n (by simp[TT.ar]) 2 ae (h1.symm.trans he.symm)
       . exact hl m' (by simp[TT.ar,h1]) 2 ae (h2.symm.trans he.symm)
       . exact hl m' (by simp[TT.ar,h1]) 3 ae (h2.symm.trans he.symm)
      have kn:∀j,j<4->j≠2->bu L' (nd n j)=bu L (nd n j):=λj hj MT=>hk n (by simp[TT.ar]) SJ j hj (nl n j g1 hj n1 (λ_=>MT))
      refine⟨(iW QP).trans g0,g1,g2,(kn 0 ae ae).trans g3,(kn 1 ae ae).trans g4,?_,?_⟩
      . refine gU.mod hN g5 n3 (λm hm j hj he=> ?_) (by rw[jt];exact h) (λm hm hms j hj aG=>hk m (by simp[TT.ar,hm]) hms j hj (by rw[<-jt];exact aG)) (λaG=>hk n (by simp[TT.ar]) SJ 2 ae (by rw[<-jt];exact aG))
        exact n1 ((hN.inj m n j 2 (g5.num m hm).1 g1 hj ae he).1▸hm)
      . rw[kn 3 ae ae]
        refine g6.keep (λm hm j hj=>hk m (by simp[TT.ar,hm]) (λhx=>n5 m (TT.ez hx) m hm rfl) j hj (nl m j (g6.num m hm).1 hj (λhx=>n5 m hx m hm rfl) (λhe=>absurd (he▸hm) n2)))
end
section
variable{hs:Int->Nat}{key:Int}{f:TT->TT}{e:Int×Int}
theorem TT.pY:∀{T:TT} {d:Nat},((T.eN hs key f d).ar++(T.aU hs key d).ar).Perm (T.ar++(f (T.aU hs key d)).ar)
 | .nil,_=>by simp only[TT.eN,TT.aU];exact Cq
 | .node n k v z o,d=>by
   simp only[TT.eN,TT.aU];by_cases hk:k=key
   . rw[aA hk,aA hk];exact Cq
   . rw[ax hk,ax hk]
     cases hb:(hs key).testBit d with
     |true=>
      simp only[cR,TT.ar,List.cons_append,iZ];exact(zd z.ar TT.pY).cons n
     |false=>
      simp only[eS,dF,TT.ar,List.cons_append,iZ];refine List.Perm.cons n ?_
      have h1:((z.eN hs key f (d+1)).ar++(o.ar++(z.aU hs key (d+1)).ar)).Perm (((z.eN hs key f (d+1)).ar++(z.aU hs key (d+1)).ar)++o.ar):=by
       rw[iZ];exact zd _ Cq
      have h2:((z.ar++(f (z.aU hs key (d+1))).ar)++o.ar).Perm (z.ar++(o.ar++(f (z.aU hs key (d+1))).ar)):=by
       rw[iZ];exact zd _ Cq
      exact h1.trans ((List.Perm.append_right _ TT.pY).trans h2)
theorem TT.pZ:∀{T:TT} {d:Nat} {P:Int->Prop},T.Wf hs d P->(e∈(T.eN hs key f d).aP↔e∈(f (T.aU hs key d)).aP\/(e∈T.aP/\e∉(T.aU hs key d).aP))
 | .nil,_,_,_=>by simp[TT.eN,TT.aU,TT.aP]
 | .node n k v z o,d,P,⟨h1,h2,h3,h4⟩=>by
   simp only[TT.eN,TT.aU];by_cases hk:k=key
   . rw[aA hk,aA hk]
     constructor
     . exact λh=> .inl h
     . rintro(h|⟨h,h'⟩)
       . exact h
       . exact absurd h h'
   . rw[ax hk,ax hk]
     have zG:∀{S:TT} {d':Nat},(∀e∈S.aP,e∈z.aP++o.aP)->(k,v)∉S.aP:=λhS hx=>h2 (k,v) (hS _ hx) rfl
     cases hb:(hs key).testBit d with
     |true=>
      simp only[cR,TT.aP,dr,gG];rw[TT.pZ h4];have n1:(k,v)∉(o.aU hs key (d+1)).aP:=λhx=>h2 (k,v) (gG.2 (.inr (TT.gy hx))) rfl
      have n2:∀e∈z.aP,e∉(o.aU hs key (d+1)).aP:=λe he hx=>by
       have a1:=(h3.all e he).2;have a2:=(h4.all e (TT.gy hx)).2;rw[a1]at a2;cases a2
      constructor
      . rintro(rfl|h|h|⟨h,h'⟩)
        . exact .inr ⟨.inl rfl,n1⟩
        . exact .inr ⟨.inr (.inl h),n2 e h⟩
        . exact .inl h
        . exact .inr ⟨.inr (.inr h),h'⟩
      . rintro(h|⟨rfl|h|h,h'⟩)
        . exact .inr (.inr (.inl h))
        . exact .inl rfl
        . exact .inr (.inl h)
        . exact .inr (.inr (.inr ⟨h,h'⟩))
     |false=>
      simp only[eS,dF,TT.aP,dr,gG];rw[TT.pZ h3];have n1:(k,v)∉(z.aU hs key (d+1)).aP:=λhx=>h2 (k,v) (gG.2 (.inl (TT.gy hx))) rfl
      have n2:∀e∈o.aP,e∉(z.aU hs key (d+1)).aP:=λe he hx=>by
       have a1:=(h4.all e he).2;have a2:=(h3.all e (TT.gy hx)).2;rw[a1]at a2;cases a2
      constructor
      . rintro(rfl|(h|⟨h,h'⟩)|h)
        . exact .inr ⟨.inl rfl,n1⟩
        . exact .inl h
        . exact .inr ⟨.inr (.inl h),h'⟩
        . exact .inr ⟨.inr (.inr h),n2 e h⟩
      . rintro(h|⟨rfl|h|h,h'⟩)
        . exact .inr (.inl (.inl h))
        . exact .inl rfl
        . exact .inr (.inl (.inr ⟨h,h'⟩))
        . exact .inr (.inr h)
theorem TT.Wf.mod:∀{T:TT} {d:Nat} {P:Int->Prop},T.Wf hs d P->P key->(∀(d':Nat) (Q:Int->Prop),(T.aU hs key d).Wf hs d' Q->Q key->(f (T.aU hs key d)).Wf hs d' Q)->
 (∀e∈(f (T.aU hs key d)).aP,e.1=key\/∃e'∈(T.aU hs key d).aP,e'.1=e.1)->(T.eN hs key f d).Wf hs d P
 | .nil,d,P,hw,hP,h,_=>h d P hw hP
 | .node n k v z o,d,P,hw,hP,h,he=>by
   simp only[TT.eN,TT.aU]at h he |-;by_cases hk:k=key
   . rw[aA hk]at h he |-
     exact h d P hw hP
   . rw[ax hk]at h he |-
     obtain⟨h1,h2,h3,h4⟩:=hw;cases hb:(hs key).testBit d with
     |true=>
      rw[hb]at h he;simp only[cR]at h he |-;refine⟨h1,λe hx=> ?_,h3,h4.mod ⟨hP,hb⟩ h he⟩;rcases List.mem_append.1 hx with hx|hx
      . exact h2 e (iu _ hx)
      . rw[TT.pZ h4]at hx
        rcases hx with hx|hx
        . rcases he e hx with e1|⟨e',e2,e3⟩
          . rw[e1];exact λe=>hk e.symm
          . rw[<-e3];exact h2 e' (i_ _ (TT.gy e2))
        . exact h2 e (i_ _ hx.1)
     |false=>
      rw[hb]at h he;simp only[eS,dF]at h he |-;refine⟨h1,λe hx=> ?_,h3.mod ⟨hP,hb⟩ h he,h4⟩;rcases List.mem_append.1 hx with hx|hx
      . rw[TT.pZ h3]at hx
        rcases hx with hx|hx
        . rcases he e hx with e1|⟨e',e2,e3⟩
          . rw[e1];exact λe=>hk e.symm
          . rw[<-e3];exact h2 e' (iu _ (TT.gy e2))
        . exact h2 e (iu _ hx.1)
      . exact h2 e (i_ _ hx)
theorem TT.jT:∀{T:TT} {d:Nat},(T.aU hs key d= .nil/\T.look hs key d=none)\/∃n v z o,T.aU hs key d= .node n key v z o/\T.look hs key d=some v
 | .nil,_=> .inl ⟨rfl,rfl⟩
 | .node n k v z o,d=>by
   simp only[TT.aU,TT.look];by_cases hk:k=key
   . rw[aA hk,aA hk];exact .inr ⟨n,v,z,o,by rw[hk],rfl⟩
   . rw[ax hk,ax hk]
     cases hb:(hs key).testBit d with
     |true=>simp only[cR];exact TT.jT
     |false=>simp only[eS,dF];exact TT.jT
end
def TT.leaf:TT->Nat×Int×Int
 | .nil=>(0,0,0)
 | .node n k v .nil .nil=>(n,k,v)
 | .node _ _ _ .nil o=>o.leaf
 | .node _ _ _ z _=>z.leaf
def TT.cut:TT->TT
 | .nil=> .nil
 | .node _ _ _ .nil .nil=> .nil
 | .node n k v .nil o=> .node n k v .nil o.cut
 | .node n k v z o=> .node n k v z.cut o
section
variable{hs:Int->Nat}{key:Int}{e:Int×Int}
def TT.eX:TT->Bool
 | .nil=>false
 |_=>true
theorem TT.iN:∀{T:TT},T.eX=true->T.leaf.1∈T.ar/\(T.leaf.2.1,T.leaf.2.2)∈T.aP
 | .nil,h=>by cases h
 | .node n k v .nil .nil,_=>by simp[TT.leaf,TT.ar,TT.aP]
 | .node n k v .nil (.node n2 k2 v2 z2 o2),_=>by
   have:=TT.iN (T:= .node n2 k2 v2 z2 o2) rfl;simp only[TT.leaf];exact⟨by rw[TT.ar];simp[this.1],by rw[TT.aP];simp[this.2]⟩
 | .node n k v (.node n2 k2 v2 z2 o2) o,_=>by
   have:=TT.iN (T:= .node n2 k2 v2 z2 o2) rfl;simp only[TT.leaf];exact⟨by rw[TT.ar];simp[this.1],by rw[TT.aP];simp[this.2]⟩
theorem TT.zV:∀{T:TT},T.eX=true->(T.leaf.1::T.cut.ar).Perm T.ar
 | .nil,h=>by cases h
 | .node n k v .nil .nil,_=>by simp[TT.leaf,TT.cut,TT.ar]
 | .node n k v .nil (.node n2 k2 v2 z2 o2),_=>by
   have:=TT.zV (T:= .node n2 k2 v2 z2 o2) rfl;simp only[TT.leaf,TT.cut];rw[TT.ar,TT.ar];simp only[TT.ar,List.nil_append]at this |-;exact(List.Perm.swap _ _ _).trans (this.cons n)
 | .node n k v (.node n2 k2 v2 z2 o2) o,_=>by
   have:=TT.zV (T:= .node n2 k2 v2 z2 o2) rfl;simp only[TT.leaf,TT.cut];rw[TT.ar,TT.ar];refine(List.Perm.swap _ _ _).trans (List.Perm.cons n ?_);rw[<-List.cons_append];exact this.append_right _
theorem TT.j_:∀{T:TT},T.eX=true->((T.leaf.2.1,T.leaf.2.2)::T.cut.aP).Perm T.aP
 | .nil,h=>by cases h
 | .node n k v .nil .nil,_=>by simp[TT.leaf,TT.cut,TT.aP]
 | .node n k v .nil (.node n2 k2 v2 z2 o2),_=>by
   have:=TT.j_ (T:= .node n2 k2 v2 z2 o2) rfl;simp only[TT.leaf,TT.cut];rw[TT.aP,TT.aP];simp only[TT.aP,List.nil_append]at this |-;exact(List.Perm.swap _ _ _).trans (this.cons (k,v))
 | .node n k v (.node n2 k2 v2 z2 o2) o,_=>by
   have:=TT.j_ (T:= .node n2 k2 v2 z2 o2) rfl;simp only[TT.leaf,TT.cut];rw[TT.aP,TT.aP];refine(List.Perm.swap _ _ _).trans (List.Perm.cons (k,v) ?_);rw[<-List.cons_append];exact this.append_right _
theorem TT.Wf.cut:∀{T:TT} {d:Nat} {P:Int->Prop},T.Wf hs d P->T.cut.Wf hs d P
 | .nil,_,_,h=>h
 | .node n k v .nil .nil,_,_,_=>trivial
 | .node n k v .nil (.node n2 k2 v2 z2 o2),d,P,⟨h1,h2,h3,h4⟩=>by
   refine⟨h1,λe he=>h2 e ?_,h3,h4.cut⟩;have hp:=TT.j_ (T:= .node n2 k2 v2 z2 o2) rfl;rcases List.mem_append.1 he with h|h
   . exact iu _ h
   . exact i_ _ (hp.mem_iff.1 (pV _ h))
 | .node n k v (.node n2 k2 v2 z2 o2) o,d,P,⟨h1,h2,h3,h4⟩=>by
   refine⟨h1,λe he=>h2 e ?_,h3.cut,h4⟩;have hp:=TT.j_ (T:= .node n2 k2 v2 z2 o2) rfl;rcases List.mem_append.1 he with h|h
   . exact iu _ (hp.mem_iff.1 (pV _ h))
   . exact i_ _ h
theorem TT.Wf.uniq:∀{T:TT} {d:Nat} {P:Int->Prop},T.Wf hs d P->T.aP.Pairwise (λa b=>a.1≠b.1)
 | .nil,_,_,_=>List.Pairwise.nil
 | .node n k v z o,d,P,⟨h1,h2,h3,h4⟩=>by
   rw[TT.aP,yY,Fo];refine⟨λe he h=>h2 e he h.symm,h3.uniq,h4.uniq,λa ha b hb h=> ?_⟩;have a1:=(h3.all a ha).2;have a2:=(h4.all b hb).2;rw[h,a2]at a1;cases a1
end
def nV(W:Nat):Nat:=W+2
def eJ(W b:Nat):Nat:=W+8+b
def aQ(W B n j:Nat):Nat:=W+8+B+4*(n-1)+j
theorem u7(W B:Nat):Zan (aQ W B):=⟨λn m i j hn hm hi hj h=>by unfold aQ at h;omega⟩
def J_(L:Nat->Int)(nd:Nat->Nat->Nat)(NN:Nat):List Nat->Int->Prop
 |[],x=>x=0
 |n::l,x=>x=n/\1<=n/\n<=NN/\bu L (nd n 3)=0/\J_ L nd NN l (bu L (nd n 2))
def KR(k:Int):Prop:=0<=k/\k<1099511627776
structure kQ(W B NN:Nat)(hs:Int->Nat)(bk:Int->Nat)(L:Nat->Int)(T:Nat->TT)(fl:List Nat)(q:List (Int×Int)):Prop where
 tr:∀b,b<B->gU L (aQ W B) NN (T b) (bu L (eJ W b))
 wf:∀b,b<B->(T b).Wf hs 0 (λk=>KR k/\bk k=b)
 fr:J_ L (aQ W B) NN fl (bu L (nV W))
 n1:∀b,b<B->(T b).ar.Nodup
 n2:∀b b' n,b<B->b'<B->n∈(T b).ar->n∈(T b').ar->b=b'
 n3:fl.Nodup
 n4:∀b n,b<B->n∈(T b).ar->n∉fl
 so:q.Pairwise (λa b=>a.1<b.1)
 me:∀e,e∈q↔∃b,b<B/\e∈(T b).aP
 ct:q.length+fl.length=NN
 cv:∀n,1<=n->n<=NN->n∈fl\/∃b,b<B/\n∈(T b).ar
def bJ(q:List (Int×Int))(key:Int):Option Int:=(q.find? λe=>e.1==key).map (·.2)
def il(q:List (Int×Int))(key v:Int):List (Int×Int):=(q.filter λe=>decide (e.1<key))++(key,v)::q.filter λe=>decide (key<e.1)
def eK(q:List (Int×Int))(key:Int):List (Int×Int):=q.filter λe=>decide (e.1≠key)
def eu(NN:Nat)(q:List (Int×Int))(kind:Nat)(key val old:Int):List (Int×Int)×Int×Int:=
 match bJ q key with
 |none=>if kind=1 then(if NN<=q.length then(q,0,4)else(il q key val,0,0))else(q,0,5)
 |some v=>if kind=0 then(q,v,0)else if kind=1 then(il q key val,v,0)else if kind=2 then(eK q key,v,0)else if v≠old then(q,v,6)else(il q key val,v,0)
section
variable{q:List (Int×Int)}{key v:Int}{e:Int×Int}
theorem dV(h:q.Pairwise (λa b=>a.1<b.1)):bJ q key=some v↔(key,v)∈q:=by
 unfold bJ;induction q with
 |nil=>simp
 |cons a q ih=>
  rw[yY]at h;rw[List.find?_cons];by_cases ha:a.1=key
  . have hb:(a.1==key)=true:=by simp[ha]
    rw[hb];simp only[Option.map_some,sP,dr];constructor
    . intro hv;left;rw[<-ha,<-hv]
    . rintro(h1|h1)
      . rw[<-h1]
      . have:=h.1 _ h1;dsimp only at this;omega
  . have hb:(a.1==key)=false:=by simpa using ha
    rw[hb];simp only[dr];rw[ih h.2];constructor
    . exact λh1=> .inr h1
    . rintro(h1|h1)
      . exact absurd (by rw[<-h1]) ha
      . exact h1
theorem uk:e∈il q key v↔e=(key,v)\/(e∈q/\e.1≠key):=by
 unfold il;simp only[gG,dr,xe,sQ];constructor
 . rintro(⟨h1,h2⟩|h|⟨h1,h2⟩)
   . exact .inr ⟨h1,by omega⟩
   . exact .inl h
   . exact .inr ⟨h1,by omega⟩
 . rintro(h|⟨h1,h2⟩)
   . exact .inr (.inl h)
   . rcases Int.lt_or_gt_of_ne h2 with h3|h3
     . exact .inl ⟨h1,h3⟩
     . exact .inr (.inr ⟨h1,h3⟩)
theorem cU(h:q.Pairwise (λa b=>a.1<b.1)):(il q key v).Pairwise (λa b=>a.1<b.1):=by
 unfold il;rw[Fo,yY];refine⟨h.filter _,⟨λb hb=>by simpa using(List.mem_filter.1 hb).2,h.filter _⟩,λa ha b hb=> ?_⟩;have h1:a.1<key:=by simpa using(List.mem_filter.1 ha).2
 rcases List.mem_cons.1 hb with rfl|hb
 . exact h1
 . have h2:key<b.1:=by simpa using(List.mem_filter.1 hb).2
   omega
theorem um:e∈eK q key↔e∈q/\e.1≠key:=by
 unfold eK;simp[xe]
theorem hJ(h:q.Pairwise (λa b=>a.1<b.1)):(eK q key).Pairwise (λa b=>a.1<b.1):=h.filter _
theorem MC(q:List (Int×Int))(key:Int):(q.filter λe=>decide (e.1<key)).length+(q.filter λe=>decide (key<e.1)).length+(q.filter λe=>decide (e.1=key)).length=q.length:=by
 induction q with
 |nil=>rfl
 |cons a q ih=>
  simp only[sN];rcases Int.lt_trichotomy a.1 key with h|h|h
  . simp[h,show¬key<a.1 by omega,show a.1≠key by omega];omega
  . simp[h];omega
  . simp[h,show¬a.1<key by omega,show a.1≠key by omega];omega
theorem K2(h:q.Pairwise (λa b=>a.1<b.1)):(q.filter λe=>decide (e.1=key)).length=if(bJ q key).isSome then 1 else 0:=by
 induction q with
 |nil=>rfl
 |cons a q ih=>
  rw[yY]at h;have ih:=ih h.2;unfold bJ at ih |-;rw[sN,List.find?_cons];by_cases ha:a.1=key
  . have hb:(a.1==key)=true:=by simp[ha]
    have hz:(q.filter λe=>decide (e.1=key))=[]:=by
     rw[Cr];intro x hx;have:=h.1 x hx;simp;omega
    rw[hb];simp[ha,hz]
  . have hb:(a.1==key)=false:=by simpa using ha
    rw[hb];simp only[ha,B3,eS,dF];exact ih
theorem nh(h:q.Pairwise (λa b=>a.1<b.1)):(il q key v).length=if(bJ q key).isSome then q.length else q.length+1:=by
 have h1:=MC q key;have h2:=K2 (key:=key) h;unfold il;rw[dO,List.length_cons];split at h2<;>split<;>simp_all<;>omega
theorem pK(h:q.Pairwise (λa b=>a.1<b.1)):(eK q key).length+(if(bJ q key).isSome then 1 else 0)=q.length:=by
 have h2:=K2 (key:=key) h;rw[<-h2];unfold eK
 have:∀q:List (Int×Int),(q.filter λe=>decide (e.1≠key)).length+(q.filter λe=>decide (e.1=key)).length=q.length:=by
  intro q;induction q with
  |nil=>rfl
  |cons a q ih=>
   simp only[sN];by_cases ha:a.1=key
   . simp[ha]at ih |-;omega
   . simp[ha]at ih |-;omega
 exact this q
end
section
variable{W B NN:Nat}{hs:Int->Nat}{bk:Int->Nat}{L L':Nat->Int}{T:Nat->TT}{fl:List Nat}{q:List (Int×Int)}{key v:Int}{e:Int×Int}
theorem J_.num:∀{fl:List Nat} {x:Int},J_ L (aQ W B) NN fl x->∀n∈fl,1<=n/\n<=NN
 |[],_,_,n,hn=>by simp at hn
 |m::fl,x,⟨_,h1,h2,_,h3⟩,n,hn=>by
  rcases List.mem_cons.1 hn with rfl|hn
  . exact⟨h1,h2⟩
  . exact h3.num n hn
theorem J_.keep:∀{fl:List Nat} {x:Int},J_ L (aQ W B) NN fl x->(∀n∈fl,bu L' (aQ W B n 2)=bu L (aQ W B n 2)/\bu L' (aQ W B n 3)=bu L (aQ W B n 3))->J_ L' (aQ W B) NN fl x
 |[],_,h,_=>h
 |m::fl,x,⟨h0,h1,h2,h4,h3⟩,hk=>by
  obtain⟨k1,k2⟩:=hk m smQ;refine⟨h0,h1,h2,k2.trans h4,?_⟩;rw[k1];exact h3.keep (λn hn=>hk n (pV _ hn))
theorem kQ.get(h:kQ W B NN hs bk L T fl q)(hk:KR key)(hb:bk key<B):bJ q key=(T (bk key)).look hs key 0:=by
 have h1:∀v,bJ q key=some v↔(T (bk key)).look hs key 0=some v:=λv=>by
  rw[dV h.so,h.me,TT.zp (h.wf _ hb)];constructor
  . rintro⟨b,bG,he⟩
    have:=((h.wf b bG).all _ he).2;dsimp only at this;rw[this];exact he
  . exact λhe=>⟨_,hb,he⟩
 cases h2:bJ q key with
 |none=>
  cases h3:(T (bk key)).look hs key 0 with
  |none=>rfl
  |some v=>rw[(h1 v).2 h3]at h2;cases h2
 |some v=>exact((h1 v).1 h2).symm
theorem gU.link{nd:Nat->Nat->Nat}:∀{T:TT} {x:Int},gU L nd NN T x->∀n∈T.ar,∀j,(j=2\/j=3)->bu L (nd n j)<=NN
 | .nil,_,_,n,hn,_,_=>by simp[TT.ar]at hn
 | .node m k v z o,x,⟨_,_,_,_,_,h5,h6⟩,n,hn,j,hj=>by
   have up:∀{S:TT} {y:Int},gU L nd NN S y->y<=NN:=λ{S y} hS=>by
    cases S with
    |nil=>have:y=0:=hS;omega
    |node m' _ _ _ _=>have h1:=hS.1;have h2:=hS.2.2.1;omega
   simp only[TT.ar,dr,gG]at hn;rcases hn with rfl|hn|hn
   . rcases hj with rfl|rfl
     . exact up h5
     . exact up h6
   . exact h5.link n hn j hj
   . exact h6.link n hn j hj
theorem gU.le{nd:Nat->Nat->Nat}{S:TT}{y:Int}(hS:gU L nd NN S y):y<=NN:=by
 cases S with
 |nil=>have:y=0:=hS;omega
 |node m' _ _ _ _=>have h1:=hS.1;have h2:=hS.2.2.1;omega
theorem J_.le{fl:List Nat}{x:Int}(h:J_ L (aQ W B) NN fl x):x<=NN:=by
 cases fl with
 |nil=>have:x=0:=h;omega
 |cons n l=>have h1:=h.1;have h2:=h.2.2.1;omega
theorem J_.next:∀{fl:List Nat} {x:Int},J_ L (aQ W B) NN fl x->∀n∈fl,bu L (aQ W B n 2)<=NN/\bu L (aQ W B n 3)=0
 |[],_,_,n,hn=>by simp at hn
 |m::fl,x,⟨_,h1,h2,h4,h3⟩,n,hn=>by
  rcases List.mem_cons.1 hn with rfl|hn
  . exact⟨h3.le,h4⟩
  . exact h3.next n hn
theorem kQ.rg(h:kQ W B NN hs bk L T fl q){n j:Nat}(h1:1<=n)(h2:n<=NN)(hj:j=2\/j=3):bu L (aQ W B n j)<=NN:=by
 rcases h.cv n h1 h2 with hx|⟨b,hb,hx⟩
 . obtain⟨a,b⟩:=h.fr.next n hx
   rcases hj with rfl|rfl
   . exact a
   . rw[b];omega
 . exact(h.tr b hb).link n hx j hj
theorem kQ.rgr(h:kQ W B NN hs bk L T fl q){b:Nat}(hb:b<B):bu L (eJ W b)<=NN:=(h.tr b hb).le
theorem kQ.rgf(h:kQ W B NN hs bk L T fl q):bu L (nV W)<=NN:=h.fr.le
def C5(T:Nat->TT)(b:Nat)(t:TT):Nat->TT:=λb'=>if b'=b then t else T b'
theorem fh{b:Nat}{t:TT}:C5 T b t b=t:=aA rfl
theorem gR{b b':Nat}{t:TT}(h:b'≠b):C5 T b t b'=T b':=ax h
theorem kQ.dH{f:TT->TT}{eG:List Nat}{q':List (Int×Int)}(h:kQ W B NN hs bk L T fl q)(hk:KR key)(hb:bk key<B){S:TT}{lk:Nat}(hS:(T (bk key)).aU hs key 0=S)(jt:(T (bk key)).linkAt hs (aQ W B) key (eJ W (bk key)) 0=lk)
 (hM:gU L' (aQ W B) NN (f S) (bu L' lk)) (nJ:∀k,k≠lk->k≠nV W->(∀n,n∈S.ar\/n∈fl\/n∈eG->∀j,j<4->k≠aQ W B n j)->bu L' k=bu L k)
 (gW:J_ L' (aQ W B) NN eG (bu L' (nV W))) (QD:∀(d':Nat) (Q:Int->Prop),S.Wf hs d' Q->Q key->(f S).Wf hs d' Q) (En:∀e∈(f S).aP,e.1=key\/∃e'∈S.aP,e'.1=e.1)
 (hn:((f S).ar++eG).Perm (S.ar++fl)) (kE:q'.Pairwise (λa b=>a.1<b.1)) (hme:∀e,e∈q'↔e∈(f S).aP\/(e∈q/\e∉S.aP)) (Lc:q'.length+eG.length=NN):
 kQ W B NN hs bk L' (C5 T (bk key) ((T (bk key)).eN hs key f 0)) eG q':=by
 have hN:=u7 W B;have G9:=TT.jX (hs:=hs) (nd:=aQ W B) (key:=key) (l:=eJ W (bk key)) (d:=0) (h.n1 _ hb);rw[jt,hS]at G9;have hSn:∀n∈S.ar,n∈(T (bk key)).ar:=λn hn=>by rw[<-hS]at hn;exact TT.ez hn
 have hSe:∀e∈S.aP,e∈(T (bk key)).aP:=λe he=>by rw[<-hS]at he;exact TT.gy he
 have Hg:∀n∈(T (bk key)).ar,1<=n:=λn hn=>((h.tr _ hb).num n hn).1
 have Zdi:∀n∈fl,1<=n:=λn hn=>(h.fr.num n hn).1
 have WQ:∀n,n∈S.ar\/n∈fl\/n∈eG->n∈S.ar\/n∈fl:=λn hx=>by
  rcases hx with hx|hx|hx
  . exact .inl hx
  . exact .inr hx
  . exact gG.1 (hn.mem_iff.1 (i_ _ hx))
 have h1:∀n,n∈S.ar\/n∈fl\/n∈eG->1<=n:=λn hx=>by
  rcases WQ n hx with hx|hx
  . exact Hg n (hSn n hx)
  . exact Zdi n hx
 have mJ:∀b n j,eJ W b=aQ W B n j->B<=b:=λb n j he=>by unfold eJ aQ at he;omega
 have Zdg:∀n j,nV W≠aQ W B n j:=λn j he=>by unfold nV aQ at he;omega
 have Zdf:∀b,nV W≠eJ W b:=λb he=>by unfold nV eJ at he;omega
 have kept:∀n,1<=n->n∉S.ar->n∉fl->(∀j,j<4->aQ W B n j≠lk->bu L' (aQ W B n j)=bu L (aQ W B n j)):=λn qm SJ FX j hj aG=>
  nJ _ aG (λhe=>Zdg n j he.symm) (λm hm i hi he=>by
   have e1:=(hN.inj n m j i qm (h1 m hm) hj hi he).1;rcases WQ m hm with hx|hx
   . exact SJ (e1▸hx)
   . exact FX (e1▸hx))
 have tq:∀b',b'<B->b'≠bk key->eJ W b'≠lk:=λb' bG aG he=>by
  rcases G9 with h2|⟨m,h2,_,h3|h3⟩
  . rw[h2]at he;unfold eJ at he;omega
  . have:=mJ b' m 2 (he.trans h3);omega
  . have:=mJ b' m 3 (he.trans h3);omega
 have WC:∀b',b'<B->eJ W b'≠lk->bu L' (eJ W b')=bu L (eJ W b'):=λb' bG aG=>
  nJ _ aG (λhe=>Zdf b' he.symm) (λm hm i hi he=>by have:=mJ b' m i he;omega)
 have Y_:∀b' n j,b'<B->b'≠bk key->n∈(T b').ar->j<4->aQ W B n j≠lk:=λb' n j bG U7 G8 hj he=>by
  have qm:=((h.tr b' bG).num n G8).1;rcases G9 with h2|⟨m,h2,_,h3|h3⟩
  . rw[h2]at he;have:=mJ (bk key) n j he.symm;omega
  . have e1:=(hN.inj n m j 2 qm (Hg m h2) hj ae (he.trans h3)).1
    exact U7 (h.n2 b' (bk key) n bG hb G8 (e1▸h2))
  . have e1:=(hN.inj n m j 3 qm (Hg m h2) hj ae (he.trans h3)).1
    exact U7 (h.n2 b' (bk key) n bG hb G8 (e1▸h2))
 have FU:(((T (bk key)).eN hs key f 0).ar++S.ar).Perm ((T (bk key)).ar++(f S).ar):=by have:=TT.pY (hs:=hs) (key:=key) (f:=f) (T:=T (bk key)) (d:=0);rw[hS]at this;exact this
 have aS:(((T (bk key)).eN hs key f 0).ar++eG).Perm ((T (bk key)).ar++fl):=by
  have a1:((((T (bk key)).eN hs key f 0).ar++eG)++S.ar).Perm (((T (bk key)).ar++fl)++S.ar):=by
   calc ((((T (bk key)).eN hs key f 0).ar++eG)++S.ar).Perm ((((T (bk key)).eN hs key f 0).ar++S.ar)++eG):=by
         rw[iZ,iZ];exact zd _ Cq
    _|>.Perm (((T (bk key)).ar++(f S).ar)++eG):=FU.append_right _
    _|>.Perm (((T (bk key)).ar++fl)++S.ar):=by
     rw[iZ,iZ];exact zd _ (hn.trans Cq)
  exact(List.perm_append_right_iff _).1 a1
 have ZcT:((T (bk key)).ar++fl).Nodup:=tW.2 ⟨h.n1 _ hb,h.n3,λa ha b bG he=>h.n4 _ a hb ha (he▸bG)⟩;have UJ:=aS.nodup_iff.2 ZcT;rw[tW]at UJ;have nQ:∀n∈((T (bk key)).eN hs key f 0).ar,n∈(T (bk key)).ar\/n∈fl:=λn hx=>gG.1 (aS.mem_iff.1 (iu _ hx))
 have Zc9:∀n∈eG,n∈(T (bk key)).ar\/n∈fl:=λn hx=>gG.1 (aS.mem_iff.1 (i_ _ hx))
 have fresh:∀b' n,b'<B->b'≠bk key->n∈(T b').ar->n∉(T (bk key)).ar/\n∉fl:=λb' n bG U7 hx=>⟨λhy=>U7 (h.n2 b' _ n bG hb hx hy),h.n4 b' n bG hx⟩
 refine⟨λb' bG=> ?_,λb' bG=> ?_,gW,λb' bG=> ?_,λb1 b2 n eD dy hx hy=> ?_,UJ.2.1,λb' n bG hx=> ?_,kE,λe=> ?_,Lc,λn qm hnN=> ?_⟩
 . by_cases qp:b'=bk key
   . rw[qp,fh]
     refine gU.mod hN (h.tr _ hb) (h.n1 _ hb) (λn _ j _ he=> ?_) ?_ (λn hx SJ j hj aG=> ?_) (λaG=> ?_)
     . have:=mJ (bk key) n j he.symm;omega
     . rw[hS,jt];exact hM
     . rw[hS]at SJ;rw[jt]at aG
       exact kept n (Hg n hx) SJ (h.n4 _ n hb hx) j hj aG
     . rw[jt]at aG
       exact WC _ hb aG
   . rw[gR qp,WC b' bG (tq b' bG qp)]
     exact(h.tr b' bG).keep (λn hx j hj=>kept n ((h.tr b' bG).num n hx).1 (λhy=>(fresh b' n bG qp hx).1 (hSn n hy)) (fresh b' n bG qp hx).2 j hj (Y_ b' n j bG qp hx hj))
 . by_cases qp:b'=bk key
   . rw[qp,fh]
     exact(h.wf _ hb).mod ⟨hk,rfl⟩ (by rw[hS];exact QD) (by rw[hS];exact En)
   . rw[gR qp];exact h.wf b' bG
 . by_cases qp:b'=bk key
   . rw[qp,fh];exact UJ.1
   . rw[gR qp];exact h.n1 b' bG
 . by_cases e1:b1=bk key
   . by_cases e2:b2=bk key
     . rw[e1,e2]
     . rw[e1,fh]at hx;rw[gR e2]at hy
       obtain⟨f1,f2⟩:=fresh b2 n dy e2 hy;rcases nQ n hx with hz|hz
       . exact absurd hz f1
       . exact absurd hz f2
   . by_cases e2:b2=bk key
     . rw[e2,fh]at hy;rw[gR e1]at hx
       obtain⟨f1,f2⟩:=fresh b1 n eD e1 hx;rcases nQ n hy with hz|hz
       . exact absurd hz f1
       . exact absurd hz f2
     . rw[gR e1]at hx;rw[gR e2]at hy
       exact h.n2 b1 b2 n eD dy hx hy
 . by_cases qp:b'=bk key
   . rw[qp,fh]at hx
     exact λhy=>UJ.2.2 n hx n hy rfl
   . rw[gR qp]at hx
     obtain⟨f1,f2⟩:=fresh b' n bG qp hx;intro hy;rcases Zc9 n hy with hz|hz
     . exact f1 hz
     . exact f2 hz
 . rw[hme]
   have UK:=TT.pZ (e:=e) (hs:=hs) (key:=key) (f:=f) (h.wf _ hb);rw[hS]at UK;constructor
   . rintro(hx|⟨hx,hy⟩)
     . exact⟨_,hb,by rw[fh,UK];exact .inl hx⟩
     . obtain⟨b',bG,hz⟩:=(h.me e).1 hx
       by_cases qp:b'=bk key
       . exact⟨_,hb,by rw[fh,UK];exact .inr ⟨qp▸hz,hy⟩⟩
       . exact⟨b',bG,by rw[gR qp];exact hz⟩
   . rintro⟨b',bG,hz⟩
     by_cases qp:b'=bk key
     . rw[qp,fh,UK]at hz
       rcases hz with hz|⟨hz,hy⟩
       . exact .inl hz
       . exact .inr ⟨(h.me e).2 ⟨_,hb,hz⟩,hy⟩
     . rw[gR qp]at hz
       refine .inr ⟨(h.me e).2 ⟨b',bG,hz⟩,λhy=> ?_⟩;have a1:=((h.wf b' bG).all _ hz).2;have a2:=((h.wf _ hb).all _ (hSe e hy)).2;exact qp (a1.symm.trans a2)
 . have put:n∈(T (bk key)).ar++fl->n∈eG\/∃b,b<B/\n∈(C5 T (bk key) ((T (bk key)).eN hs key f 0) b).ar:=λhx=>by
    rcases List.mem_append.1 (aS.mem_iff.2 hx)with hy|hy
    . exact .inr ⟨_,hb,by rw[fh];exact hy⟩
    . exact .inl hy
   rcases h.cv n qm hnN with hx|⟨b',bG,hx⟩
   . exact put (i_ _ hx)
   . by_cases qp:b'=bk key
     . exact put (iu _ (qp▸hx))
     . exact .inr ⟨b',bG,by rw[gR qp];exact hx⟩
end
def TT.clink(nd:Nat->Nat->Nat):TT->Nat->Nat
 | .nil,l=>l
 | .node _ _ _ .nil .nil,l=>l
 | .node n _ _ .nil o,_=>o.clink nd (nd n 3)
 | .node n _ _ z _,_=>z.clink nd (nd n 2)
def TT.setV(v:Int):TT->TT
 | .nil=> .nil
 | .node n k _ z o=> .node n k v z o
def TT.v8(k v:Int):TT->TT
 | .nil=> .nil
 | .node n _ _ z o=> .node n k v z o
section
variable{hs:Int->Nat}{nd:Nat->Nat->Nat}{NN:Nat}{L L':Nat->Int}
theorem TT.ij:∀{T:TT} {l:Nat},T.ar.Nodup->T.eX=true->T.clink nd l=l\/∃m,m∈T.ar/\m≠T.leaf.1/\(T.clink nd l=nd m 2\/T.clink nd l=nd m 3)
 | .nil,_,_,h=>by cases h
 | .node n k v .nil .nil,l,_,_=> .inl rfl
 | .node n k v .nil (.node n2 k2 v2 z2 o2),l,hn,_=>by
   simp only[TT.clink,TT.leaf];rw[TT.ar,rD]at hn;have hl:=(TT.iN (T:= .node n2 k2 v2 z2 o2) rfl).1;right;rcases TT.ij (T:= .node n2 k2 v2 z2 o2) (l:=nd n 3) (by simpa [TT.ar]using hn.2) rfl with h|⟨m,h1,h2,h3⟩
   . exact⟨n,by simp[TT.ar],λhe=>hn.1 (by rw[he];exact i_ _ hl), .inr h⟩
   . exact⟨m,by rw[TT.ar];exact pV _ (i_ _ h1),h2,h3⟩
 | .node n k v (.node n2 k2 v2 z2 o2) o,l,hn,_=>by
   simp only[TT.clink,TT.leaf];rw[TT.ar,rD,tW]at hn;have hl:=(TT.iN (T:= .node n2 k2 v2 z2 o2) rfl).1;right;rcases TT.ij (T:= .node n2 k2 v2 z2 o2) (l:=nd n 2) hn.2.1 rfl with h|⟨m,h1,h2,h3⟩
   . exact⟨n,by simp[TT.ar],λhe=>hn.1 (by rw[he];exact iu _ hl), .inl h⟩
   . exact⟨m,by rw[TT.ar];exact pV _ (iu _ h1),h2,h3⟩
theorem gU.cut(hN:Zan nd):∀{T:TT} {l:Nat},gU L nd NN T (bu L l)->T.ar.Nodup->T.eX=true->bu L' (T.clink nd l)=0->
 (∀n∈T.ar,n≠T.leaf.1->∀j,j<4->nd n j≠T.clink nd l->bu L' (nd n j)=bu L (nd n j))->(l≠T.clink nd l->bu L' l=bu L l)->(∀n∈T.ar,∀j,j<4->nd n j≠l)->
 gU L' nd NN T.cut (bu L' l)
 | .nil,_,_,_,h,_,_,_,_=>by cases h
 | .node n k v .nil .nil,l,_,_,_,hz,_,_,_=>hz
 | .node n k v .nil (.node n2 k2 v2 z2 o2),l,hM,hn,_,hz,hk,hl,WT=>by
   obtain⟨g0,g1,g2,g3,g4,g5,g6⟩:=hM;rw[TT.ar,rD]at hn;obtain⟨O,hO⟩:=aH (TT.node n2 k2 v2 z2 o2);have hsO:O.eX=true:=by rw[<-hO];rfl
   have e1:(TT.node n k v .nil (.node n2 k2 v2 z2 o2)).clink nd l=O.clink nd (nd n 3):=by rw[<-hO];rfl
   have e2:(TT.node n k v .nil (.node n2 k2 v2 z2 o2)).leaf=O.leaf:=by rw[<-hO];rfl
   have e3:(TT.node n k v .nil (.node n2 k2 v2 z2 o2)).cut= .node n k v .nil O.cut:=by rw[<-hO];rfl
   have e4:∀x,x∈(TT.node n k v .nil (.node n2 k2 v2 z2 o2)).ar↔x=n\/x∈O.ar:=λx=>by rw[<-hO];simp[TT.ar]
   rw[e1]at hz hk hl;rw[e2]at hk;rw[e3];rw[hO]at g6 hn;have WN:n∉O.ar:=λhx=>hn.1 (i_ _ hx)
   have Zb:O.ar.Nodup:=by simpa [TT.ar]using hn.2
   have hlO:=(TT.iN hsO).1;have je:=TT.ij (nd:=nd) (l:=nd n 3) Zb hsO;have aG:n≠O.leaf.1:=λhe=>WN (he▸hlO)
   have gq:∀j,j<3->nd n j≠O.clink nd (nd n 3):=λj hj he=>by
    rcases je with h|⟨m,h1,_,h2|h2⟩
    . have:=(hN.inj n n j 3 g1 g1 ae ae (he.trans h)).2;omega
    . exact WN ((hN.inj n m j 2 g1 (g6.num m h1).1 ae ae (he.trans h2)).1▸h1)
    . exact WN ((hN.inj n m j 3 g1 (g6.num m h1).1 ae ae (he.trans h2)).1▸h1)
   have kn:∀j,j<3->bu L' (nd n j)=bu L (nd n j):=λj hj=>hk n ((e4 n).2 (.inl rfl)) aG j ae (gq j hj)
   have iW:l≠O.clink nd (nd n 3):=λhe=>by
    rcases je with h|⟨m,h1,_,h2|h2⟩
    . exact WT n ((e4 n).2 (.inl rfl)) 3 ae (h.symm.trans he.symm)
    . exact WT m ((e4 m).2 (.inr h1)) 2 ae (h2.symm.trans he.symm)
    . exact WT m ((e4 m).2 (.inr h1)) 3 ae (h2.symm.trans he.symm)
   refine⟨(hl iW).trans g0,g1,g2,(kn 0 ae).trans g3,(kn 1 ae).trans g4,(kn 2 ae).trans g5,?_⟩;rw[<-hO]at g6 Zb hz hk WN |-;exact gU.cut hN g6 Zb rfl hz (λm hm Ej j hj hx=>hk m ((e4 m).2 (.inr (by rw[<-hO];exact hm))) (by rw[<-hO]at hlO;exact Ej) j hj hx) (λhx=>hk n ((e4 n).2 (.inl rfl)) (by rw[hO];exact aG) 3 ae hx) (λm hm j hj he=>WN ((hN.inj m n j 3 (g6.num m hm).1 g1 hj ae he).1▸hm))
 | .node n k v (.node n2 k2 v2 z2 o2) o,l,hM,hn,_,hz,hk,hl,WT=>by
   obtain⟨g0,g1,g2,g3,g4,g5,g6⟩:=hM;rw[TT.ar,rD,tW]at hn;obtain⟨Z,hZ⟩:=aH (TT.node n2 k2 v2 z2 o2);have hsO:Z.eX=true:=by rw[<-hZ];rfl
   have e1:(TT.node n k v (.node n2 k2 v2 z2 o2) o).clink nd l=Z.clink nd (nd n 2):=by rw[<-hZ];rfl
   have e2:(TT.node n k v (.node n2 k2 v2 z2 o2) o).leaf=Z.leaf:=by rw[<-hZ];rfl
   have e3:(TT.node n k v (.node n2 k2 v2 z2 o2) o).cut= .node n k v Z.cut o:=by rw[<-hZ];rfl
   have e4:∀x,x∈(TT.node n k v (.node n2 k2 v2 z2 o2) o).ar↔x=n\/x∈Z.ar\/x∈o.ar:=λx=>by rw[<-hZ,TT.ar];simp
   rw[e1]at hz hk hl;rw[e2]at hk;rw[e3];rw[hZ]at g5 hn;have hnZ:n∉Z.ar:=λhx=>hn.1 (iu _ hx)
   have js:n∉o.ar:=λhx=>hn.1 (i_ _ hx)
   have hlO:=(TT.iN hsO).1;have je:=TT.ij (nd:=nd) (l:=nd n 2) hn.2.1 hsO;have aG:n≠Z.leaf.1:=λhe=>hnZ (he▸hlO)
   have gq:∀j,j<4->j≠2->nd n j≠Z.clink nd (nd n 2):=λj hj MT he=>by
    rcases je with h|⟨m,h1,_,h2|h2⟩
    . exact MT (hN.inj n n j 2 g1 g1 hj ae (he.trans h)).2
    . exact hnZ ((hN.inj n m j 2 g1 (g5.num m h1).1 hj ae (he.trans h2)).1▸h1)
    . exact hnZ ((hN.inj n m j 3 g1 (g5.num m h1).1 hj ae (he.trans h2)).1▸h1)
   have hco:∀m,m∈o.ar->∀j,j<4->nd m j≠Z.clink nd (nd n 2):=λm hm j hj he=>by
    have fv:=(g6.num m hm).1;rcases je with h|⟨m',h1,_,h2|h2⟩
    . exact js ((hN.inj m n j 2 fv g1 hj ae (he.trans h)).1▸hm)
    . exact hn.2.2.2 m' h1 m hm (hN.inj m m' j 2 fv (g5.num m' h1).1 hj ae (he.trans h2)).1.symm
    . exact hn.2.2.2 m' h1 m hm (hN.inj m m' j 3 fv (g5.num m' h1).1 hj ae (he.trans h2)).1.symm
   have kn:∀j,j<4->j≠2->bu L' (nd n j)=bu L (nd n j):=λj hj MT=>hk n ((e4 n).2 (.inl rfl)) aG j hj (gq j hj MT)
   have iW:l≠Z.clink nd (nd n 2):=λhe=>by
    rcases je with h|⟨m,h1,_,h2|h2⟩
    . exact WT n ((e4 n).2 (.inl rfl)) 2 ae (h.symm.trans he.symm)
    . exact WT m ((e4 m).2 (.inr (.inl h1))) 2 ae (h2.symm.trans he.symm)
    . exact WT m ((e4 m).2 (.inr (.inl h1))) 3 ae (h2.symm.trans he.symm)
   refine⟨(hl iW).trans g0,g1,g2,(kn 0 ae ae).trans g3,(kn 1 ae ae).trans g4,?_,?_⟩
   . rw[<-hZ]at g5 hn hz hk hnZ |-
     exact gU.cut hN g5 hn.2.1 rfl hz (λm hm Ej j hj hx=>hk m ((e4 m).2 (.inr (.inl (by rw[<-hZ];exact hm)))) Ej j hj hx) (λhx=>hk n ((e4 n).2 (.inl rfl)) (by rw[hZ];exact aG) 2 ae hx) (λm hm j hj he=>hnZ ((hN.inj m n j 2 (g5.num m hm).1 g1 hj ae he).1▸hm))
   . rw[kn 3 ae ae]
     exact g6.keep (λm hm j hj=>hk m ((e4 m).2 (.inr (.inr hm))) (λhe=>hn.2.2.2 _ hlO m hm he.symm) j hj (hco m hm j hj))
end
theorem TT.Ij{hs:Int->Nat}{key:Int}:∀{T:TT} {d:Nat} {P:Int->Prop},T.Wf hs d P->P key->∃(d':Nat) (Q:Int->Prop),(T.aU hs key d).Wf hs d' Q/\Q key
 | .nil,d,P,h,hP=>⟨d,P,h,hP⟩
 | .node n k v z o,d,P,h,hP=>by
   simp only[TT.aU];by_cases hk:k=key
   . rw[aA hk];exact⟨d,P,h,hP⟩
   . rw[ax hk]
     cases hb:(hs key).testBit d with
     |true=>simp only[cR];exact TT.Ij h.2.2.2 ⟨hP,hb⟩
     |false=>simp only[eS,dF];exact TT.Ij h.2.2.1 ⟨hP,hb⟩
section
variable{W B NN:Nat}{hs:Int->Nat}{bk:Int->Nat}{L L':Nat->Int}{T:Nat->TT}{fl:List Nat}{q:List (Int×Int)}{key v val:Int}{n:Nat}{z o:TT}{lk:Nat}
theorem kQ.part(h:kQ W B NN hs bk L T fl q)(hk:KR key)(hb:bk key<B)(hS:(T (bk key)).aU hs key 0= .node n key v z o):
 bJ q key=some v/\(TT.node n key v z o).ar.Nodup/\(∀e∈z.aP++o.aP,e.1≠key/\e∈q)/\(∀m∈(TT.node n key v z o).ar,m∈(T (bk key)).ar)/\(∀m∈(T (bk key)).ar,1<=m/\m<=NN)/\∃(d':Nat) (Q:Int->Prop),(TT.node n key v z o).Wf hs d' Q:=by
 have hg:bJ q key=some v:=by
  rw[h.get hk hb];rcases TT.jT (hs:=hs) (key:=key) (T:=T (bk key)) (d:=0)with⟨a1,_⟩|⟨n',v',z',o',a1,a2⟩
  . rw[hS]at a1;cases a1
  . rw[hS]at a1;injection a1 with _ _ a1;rw[a1];exact a2
 obtain⟨d',Q,hw,_⟩:=TT.Ij (key:=key) (h.wf _ hb) ⟨hk,rfl⟩;rw[hS]at hw
 have oy:(TT.node n key v z o).ar.Nodup:=by
  have:=TT.pY (hs:=hs) (key:=key) (f:=λ_=> .nil) (T:=T (bk key)) (d:=0);rw[hS]at this;have h9:=this.nodup_iff.2 (by simpa [TT.ar]using h.n1 _ hb);exact(tW.1 h9).2.1
 refine⟨hg,oy,λe he=>⟨hw.2.1 e he,(h.me e).2 ⟨_,hb,?_⟩⟩,λm hm=>by rw[<-hS]at hm;exact TT.ez hm,λm hm=>(h.tr _ hb).num m hm,d',Q,hw⟩;have h9:e∈(TT.node n key v z o).aP:=by simp only[TT.aP,dr];exact .inr he
 rw[<-hS]at h9;exact TT.gy h9
theorem kQ.set(h:kQ W B NN hs bk L T fl q)(hk:KR key)(hb:bk key<B)(hS:(T (bk key)).aU hs key 0= .node n key v z o)
 (h1:bu L' (aQ W B n 1)=val) (h2:∀k,k≠aQ W B n 1->bu L' k=bu L k):
 kQ W B NN hs bk L' (C5 T (bk key) ((T (bk key)).eN hs key (TT.setV val) 0)) fl (il q key val):=by
 have hN:=u7 W B;have hM:=gU.sub (hs:=hs) (key:=key) (d:=0) (h.tr _ hb);obtain⟨lk,jt⟩:=aH ((T (bk key)).linkAt hs (aQ W B) key (eJ W (bk key)) 0);rw[hS,jt]at hM;obtain⟨g0,g1,g2,g3,g4,g5,g6⟩:=hM;obtain⟨hg,oy,hq,_,F2,_⟩:=h.part hk hb hS;have qm:∀m∈(T (bk key)).ar,1<=m:=λm hm=>(F2 m hm).1
 rw[TT.ar,rD]at oy;have ew:∀m j,1<=m->j<4->aQ W B m j=aQ W B n 1->m=n/\j=1:=λm j hm hj he=>hN.inj m n j 1 hm g1 hj ae he
 have Zc3:lk≠aQ W B n 1:=λhe=>by
  rcases TT.jX (hs:=hs) (nd:=aQ W B) (key:=key) (l:=eJ W (bk key)) (d:=0) (h.n1 _ hb)with h3|⟨m,h3,_,h4|h4⟩
  . rw[jt,he]at h3;unfold eJ aQ at h3;omega
  . rw[jt,he]at h4;have:=(hN.inj n m 1 2 g1 (qm m h3) ae ae h4).2;omega
  . rw[jt,he]at h4;have:=(hN.inj n m 1 3 g1 (qm m h3) ae ae h4).2;omega
 refine h.dH hk hb hS jt ?_ (λk _ _ hx=>h2 k (hx n (.inl (by simp[TT.ar])) 1 ae)) ?_ (λd' Q hw hQ=>⟨hw.1,hw.2.1,hw.2.2.1,hw.2.2.2⟩) (λe he=> ?_) (by simp[TT.setV,TT.ar]) (cU h.so) (λe=> ?_) ?_
 . refine⟨by rw[h2 _ Zc3];exact g0,g1,g2,?_,h1,?_,?_⟩
   . rw[h2 _ (λhe=>by have:=(ew n 0 g1 ae he).2;omega)];exact g3
   . rw[h2 _ (λhe=>by have:=(ew n 2 g1 ae he).2;omega)]
     exact g5.keep (λm hm j hj=>h2 _ (λhe=>oy.1 (iu _ ((ew m j (g5.num m hm).1 hj he).1▸hm))))
   . rw[h2 _ (λhe=>by have:=(ew n 3 g1 ae he).2;omega)]
     exact g6.keep (λm hm j hj=>h2 _ (λhe=>oy.1 (i_ _ ((ew m j (g6.num m hm).1 hj he).1▸hm))))
 . rw[h2 _ (λhe=>by unfold nV aQ at he;omega)]
   refine h.fr.keep (λm hm=>⟨h2 _ (λhe=> ?_),h2 _ (λhe=> ?_)⟩)
   . have:=(ew m 2 (h.fr.num m hm).1 ae he).2;omega
   . have:=(ew m 3 (h.fr.num m hm).1 ae he).2;omega
 . simp only[TT.setV,TT.aP,dr]at he
   rcases he with rfl|he
   . exact .inl rfl
   . exact .inr ⟨e,by simp only[TT.aP,dr];exact .inr he,rfl⟩
 . rw[uk]
   simp only[TT.setV,TT.aP,dr];constructor
   . rintro(rfl|⟨a1,a2⟩)
     . exact .inl (.inl rfl)
     . by_cases hz:e∈z.aP++o.aP
       . exact .inl (.inr hz)
       . exact .inr ⟨a1,λhx=>by
          rcases hx with hx|hx
          . rw[hx]at a2;exact a2 rfl
          . exact hz hx⟩
   . rintro((rfl|hz)|⟨a1,a2⟩)
     . exact .inl rfl
     . exact .inr ⟨(hq e hz).2,(hq e hz).1⟩
     . refine .inr ⟨a1,λhx=>a2 (.inl ?_)⟩
       have:=(dV (key:=key) (v:=e.2) h.so).2 (by rw[<-hx];exact a1);rw[hg]at this;injection this with this;rw[<-hx,this]
 . rw[nh h.so,hg];exact h.ct
end
section
variable{W B NN:Nat}{hs:Int->Nat}{bk:Int->Nat}{L L':Nat->Int}{T:Nat->TT}{fl:List Nat}{q:List (Int×Int)}{key v val:Int}{n:Nat}{z o:TT}{lk:Nat}
theorem DR(W B n j:Nat):nV W≠aQ W B n j:=λhe=>by unfold nV aQ at he;omega
theorem kQ.link(h:kQ W B NN hs bk L T fl q)(hb:bk key<B)(jt:(T (bk key)).linkAt hs (aQ W B) key (eJ W (bk key)) 0=lk):
 lk≠nV W/\∀m,m∈fl\/m∈((T (bk key)).aU hs key 0).ar->∀j,j<4->lk≠aQ W B m j:=by
 have hN:=u7 W B;rcases TT.jX (hs:=hs) (nd:=aQ W B) (key:=key) (l:=eJ W (bk key)) (d:=0) (h.n1 _ hb)with h3|⟨m',h3,h5,h4⟩
 . rw[jt]at h3
   refine⟨λhe=>by rw[h3]at he;unfold eJ nV at he;omega,λm hm j hj he=>by rw[h3]at he;unfold eJ aQ at he;omega⟩
 . rw[jt]at h4
   have hm':=((h.tr _ hb).num m' h3).1
   have YB:∃i,i<4/\lk=aQ W B m' i:=by
    rcases h4 with h4|h4
    . exact⟨2,by omega,h4⟩
    . exact⟨3,by omega,h4⟩
   obtain⟨i,hi,h4⟩:=YB;refine⟨λhe=>DR W B m' i (he.symm.trans h4),λm hm j hj he=> ?_⟩
   have fv:1<=m:=by
    rcases hm with hm|hm
    . exact(h.fr.num m hm).1
    . exact((h.tr _ hb).num m (TT.ez hm)).1
   have e1:=(hN.inj m' m i j hm' fv hi hj (h4.symm.trans he)).1;rcases hm with hm|hm
   . exact h.n4 _ m' hb h3 (e1▸hm)
   . exact h5 (e1▸hm)
theorem kQ.ins(h:kQ W B NN hs bk L T (n::fl) q)(hk:KR key)(hb:bk key<B)(hS:(T (bk key)).aU hs key 0= .nil)(jt:(T (bk key)).linkAt hs (aQ W B) key (eJ W (bk key)) 0=lk)
 (h1:bu L' lk=n) (h2:bu L' (nV W)=bu L (aQ W B n 2)) (h3:bu L' (aQ W B n 2)=0) (h4:bu L' (aQ W B n 0)=key) (h5:bu L' (aQ W B n 1)=val)
 (h6:∀k,k≠lk->k≠nV W->k≠aQ W B n 0->k≠aQ W B n 1->k≠aQ W B n 2->bu L' k=bu L k):
 kQ W B NN hs bk L' (C5 T (bk key) ((T (bk key)).eN hs key (λ_=> .node n key val .nil .nil) 0)) fl (il q key val):=by
 have hN:=u7 W B;obtain⟨l1,l2⟩:=h.link hb jt;obtain⟨f0,f1,f2,f3,f4⟩:=h.fr
 have hg:bJ q key=none:=by
  rw[h.get hk hb];rcases TT.jT (hs:=hs) (key:=key) (T:=T (bk key)) (d:=0)with⟨_,a2⟩|⟨_,_,_,_,a1,_⟩
  . exact a2
  . rw[hS]at a1;cases a1
 have MQ:=h.n3;rw[rD]at MQ
 have k3:bu L' (aQ W B n 3)=0:=by
  rw[h6 _ (cC (l2 n (.inl smQ) 3 ae)) (cC (DR W B n 3)) (λhe=>by have:=(hN.inj n n 3 0 f1 f1 ae ae he).2;omega) (λhe=>by have:=(hN.inj n n 3 1 f1 f1 ae ae he).2;omega) (λhe=>by have:=(hN.inj n n 3 2 f1 f1 ae ae he).2;omega)];exact f3
 refine h.dH hk hb hS jt ⟨h1,f1,f2,h4,h5,h3,k3⟩ (λk a1 a2 a3=>h6 k a1 a2 (a3 n (.inr (.inl smQ)) 0 ae) (a3 n (.inr (.inl smQ)) 1 ae) (a3 n (.inr (.inl smQ)) 2 ae)) ?_ (λd' Q hw hQ=>⟨hQ,λe he=>by simp[TT.aP]at he,trivial,trivial⟩) (λe he=> .inl (by simp[TT.aP]at he;rw[he])) (by simp[TT.ar]) (cU h.so) (λe=> ?_) ?_
 . rw[h2]
   refine f4.keep (λm hm=> ?_);have fv:=(f4.num m hm).1;have aG:m≠n:=λhe=>MQ.1 (he▸hm)
   have kk:∀j,j<4->bu L' (aQ W B m j)=bu L (aQ W B m j):=λj hj=>h6 _ (cC (l2 m (.inl (by simp[hm])) j hj)) (cC (DR W B m j)) (λhe=>aG (hN.inj m n j 0 fv f1 hj ae he).1) (λhe=>aG (hN.inj m n j 1 fv f1 hj ae he).1) (λhe=>aG (hN.inj m n j 2 fv f1 hj ae he).1)
   exact⟨kk 2 ae,kk 3 ae⟩
 . rw[uk]
   have js:∀e,e∈q->e.1≠key:=λe he hx=>by
    have:=(dV (key:=key) (v:=e.2) h.so).2 (by rw[<-hx];exact he);rw[hg]at this;cases this
   simp only[TT.aP,vh,gH,fH,not_false_iff,mF];constructor
   . rintro(a|⟨a,_⟩)
     . exact .inl a
     . exact .inr a
   . rintro(a|a)
     . exact .inl a
     . exact .inr ⟨a,js e a⟩
 . rw[nh h.so,hg]
   have:=h.ct;simp only[List.length_cons]at this;simp;omega
theorem kQ.ZdE(h:kQ W B NN hs bk L T fl q)(hk:KR key)(hb:bk key<B)(hS:(T (bk key)).aU hs key 0= .node n key v .nil .nil)(jt:(T (bk key)).linkAt hs (aQ W B) key (eJ W (bk key)) 0=lk)
 (h1:bu L' lk=0) (h2:bu L' (nV W)=n) (h3:bu L' (aQ W B n 2)=bu L (nV W))
 (h6:∀k,k≠lk->k≠nV W->k≠aQ W B n 2->bu L' k=bu L k):
 kQ W B NN hs bk L' (C5 T (bk key) ((T (bk key)).eN hs key (λ_=> .nil) 0)) (n::fl) (eK q key):=by
 have hN:=u7 W B;obtain⟨l1,l2⟩:=h.link hb jt;have hM:=gU.sub (hs:=hs) (key:=key) (d:=0) (h.tr _ hb);rw[hS,jt]at hM;obtain⟨g0,g1,g2,g3,g4,g5,g6⟩:=hM;obtain⟨hg,oy,hq,gV,F2,_⟩:=h.part hk hb hS;have FX:n∉fl:=h.n4 _ n hb (gV n (by simp[TT.ar]));rw[hS]at l2;refine h.dH hk hb hS jt h1 (λk a1 a2 a3=>h6 k a1 a2 (a3 n (.inl (by simp[TT.ar])) 2 ae)) ?_ (λd' Q hw hQ=>trivial) (λe he=>by simp[TT.aP]at he) (by simp[TT.ar]) (hJ h.so) (λe=> ?_) ?_
 . rw[h2]
   refine⟨rfl,g1,g2,?_,?_⟩
   . rw[h6 _ (cC (l2 n (.inr (by simp[TT.ar])) 3 ae)) (cC (DR W B n 3)) (λhe=>by have:=(hN.inj n n 3 2 g1 g1 ae ae he).2;omega)]
     exact g6
   . rw[h3]
     refine h.fr.keep (λm hm=> ?_);have fv:=(h.fr.num m hm).1;have aG:m≠n:=λhe=>FX (he▸hm)
     have kk:∀j,j<4->bu L' (aQ W B m j)=bu L (aQ W B m j):=λj hj=>h6 _ (cC (l2 m (.inl hm) j hj)) (cC (DR W B m j)) (λhe=>aG (hN.inj m n j 2 fv g1 hj ae he).1)
     exact⟨kk 2 ae,kk 3 ae⟩
 . rw[um]
   simp only[TT.aP,vh,gH,fH,false_or];constructor
   . rintro⟨a,b⟩
     exact⟨a,λhx=>b (by rw[hx])⟩
   . rintro⟨a,b⟩
     refine⟨a,λhx=>b ?_⟩;have:=(dV (key:=key) (v:=e.2) h.so).2 (by rw[<-hx];exact a);rw[hg]at this;injection this with this;rw[<-hx,this]
 . have:=pK (key:=key) h.so
   rw[hg]at this;have h9:=h.ct;simp only[Option.isSome_some,cR]at this;simp only[List.length_cons];omega
theorem gU.leaf{L:Nat->Int}{nd:Nat->Nat->Nat}{NN:Nat}:∀{T:TT} {x:Int},gU L nd NN T x->T.eX=true->bu L (nd T.leaf.1 0)=T.leaf.2.1/\bu L (nd T.leaf.1 1)=T.leaf.2.2/\bu L (nd T.leaf.1 2)=0/\bu L (nd T.leaf.1 3)=0
 | .nil,_,_,h=>by cases h
 | .node n k v .nil .nil,_,⟨_,_,_,h1,h2,h3,h4⟩,_=>⟨h1,h2,h3,h4⟩
 | .node n k v .nil (.node n2 k2 v2 z2 o2),_,⟨_,_,_,_,_,_,h4⟩,_=>by simp only[TT.leaf];exact gU.leaf (T:= .node n2 k2 v2 z2 o2) h4 rfl
 | .node n k v (.node n2 k2 v2 z2 o2) o,_,⟨_,_,_,_,_,h3,_⟩,_=>by simp only[TT.leaf];exact gU.leaf (T:= .node n2 k2 v2 z2 o2) h3 rfl
theorem kQ.ZdD{m:Nat}{km vm:Int}(h:kQ W B NN hs bk L T fl q)(hk:KR key)(hb:bk key<B)(hS:(T (bk key)).aU hs key 0= .node n key v z o)(hzo:z.eX=true\/o.eX=true)(uU:(TT.node n key v z o).leaf=(m,km,vm)){ck:Nat}(jD:(TT.node n key v z o).clink (aQ W B) lk=ck)
 (jt:(T (bk key)).linkAt hs (aQ W B) key (eJ W (bk key)) 0=lk)
 (h1:bu L' ck=0) (h2:bu L' (nV W)=m) (h3:bu L' (aQ W B m 2)=bu L (nV W)) (h4:bu L' (aQ W B n 0)=km) (h5:bu L' (aQ W B n 1)=vm)
 (h6:∀k,k≠ck->k≠nV W->k≠aQ W B m 2->k≠aQ W B n 0->k≠aQ W B n 1->bu L' k=bu L k):
 kQ W B NN hs bk L' (C5 T (bk key) ((T (bk key)).eN hs key (λt=>t.cut.v8 km vm) 0)) (m::fl) (eK q key):=by
 have hN:=u7 W B;obtain⟨l1,l2⟩:=h.link hb jt;have hM:=gU.sub (hs:=hs) (key:=key) (d:=0) (h.tr _ hb);rw[hS,jt]at hM;obtain⟨g0,g1,g2,g3,g4,g5,g6⟩:=hM;obtain⟨hg,oy,hq,gV,F2,_⟩:=h.part hk hb hS;rw[hS]at l2;have kF:=TT.iN (T:= .node n key v z o) rfl;have U5:=TT.zV (T:= .node n key v z o) rfl;rw[uU]at kF U5;have hmf:m∉fl:=h.n4 _ m hb (gV m kF.1);have fv:1<=m/\m<=NN:=F2 m (gV m kF.1);rw[TT.ar,rD,tW]at oy;obtain⟨d1,d2,d3,d4⟩:=oy
 have YB:∃z' o':TT,(TT.node n key v z o).cut= .node n key v z' o'/\m≠n/\(∃x j,x∈(TT.node n key v z o).ar/\x≠m/\(j=2\/j=3)/\ck=aQ W B x j)/\gU L' (aQ W B) NN z' (bu L' (aQ W B n 2))/\gU L' (aQ W B) NN o' (bu L' (aQ W B n 3))/\
  (∀e,e∈(km,vm)::(z'.aP++o'.aP)↔e∈z.aP++o.aP)/\∀(d':Nat) (Q:Int->Prop),(TT.node n key v z o).Wf hs d' Q->(TT.node n km vm z' o').Wf hs d' Q:=by
  cases hz:z with
  |node n2 k2 v2 z2 o2=>
   have lR:z.eX=true:=by rw[hz];rfl
   have e1:(TT.node n key v z o).clink (aQ W B) lk=z.clink (aQ W B) (aQ W B n 2):=by rw[hz];rfl
   have e2:(TT.node n key v z o).leaf=z.leaf:=by rw[hz];rfl
   have e3:(TT.node n key v z o).cut= .node n key v z.cut o:=by rw[hz];rfl
   rw[e1]at jD;rw[e2]at uU;rw[<-hz];have WS:=TT.iN lR;rw[uU]at WS;have UM:m≠n:=λhe=>d1 (iu _ (he▸WS.1))
   have je:=TT.ij (nd:=aQ W B) (l:=aQ W B n 2) d2 lR;rw[jD,uU]at je
   have ZB:∃x j,(x=n\/x∈z.ar)/\x≠m/\(x=n->j=2)/\(j=2\/j=3)/\ck=aQ W B x j:=by
    rcases je with hx|⟨x,a1,a2,a3|a3⟩
    . exact⟨n,2, .inl rfl,cC UM,λ_=>rfl, .inl rfl,hx⟩
    . exact⟨x,2, .inr a1,a2,λhe=>absurd (iu _ (he▸a1)) d1, .inl rfl,a3⟩
    . exact⟨x,3, .inr a1,a2,λhe=>absurd (iu _ (he▸a1)) d1, .inr rfl,a3⟩
   obtain⟨x0,j0,c1,c2,c3,c4,c5⟩:=ZB
   have ux:1<=x0:=by
    rcases c1 with rfl|c1
    . exact g1
    . exact(g5.num x0 c1).1
   have MU:j0<4:=by omega
   have kk:∀x j,1<=x->j<4->(x=n->2<=j)->(x=m->j≠2)->aQ W B x j≠ck->bu L' (aQ W B x j)=bu L (aQ W B x j):=λx j hx hj a1 a2 a3=>
    h6 _ a3 (cC (DR W B x j)) (λhe=>by obtain⟨b1,b2⟩:=hN.inj x m j 2 hx fv.1 hj ae he;exact a2 b1 b2) (λhe=>by obtain⟨b1,b2⟩:=hN.inj x n j 0 hx g1 hj ae he;have:=a1 b1;omega) (λhe=>by obtain⟨b1,b2⟩:=hN.inj x n j 1 hx g1 hj ae he;have:=a1 b1;omega)
   have Zct:aQ W B n 3≠ck:=λhe=>by
    obtain⟨b1,b2⟩:=hN.inj n x0 3 j0 g1 ux ae MU (he.trans c5);have:=c3 b1.symm;omega
   refine⟨z.cut,o,e3,UM,⟨x0,j0,?_,c2,c4,c5⟩,?_,?_,λe=> ?_,λd' Q hw=> ?_⟩
   . rcases c1 with c1|c1
     . rw[c1,TT.ar];simp
     . rw[TT.ar];exact pV _ (iu _ c1)
   . refine gU.cut hN g5 d2 lR (by rw[jD];exact h1) (λx hx WG j hj aG=> ?_) (λaG=> ?_) (λx hx j hj he=> ?_)
     . rw[uU]at WG;rw[jD]at aG
       exact kk x j (g5.num x hx).1 hj (λhe=>absurd (iu _ (he▸hx)) d1) (λhe=>absurd he WG) aG
     . rw[jD]at aG
       exact kk n 2 g1 ae (λ_=>a_ _) (λhe=>absurd he.symm UM) aG
     . exact d1 (iu _ ((hN.inj x n j 2 (g5.num x hx).1 g1 hj ae he).1▸hx))
   . rw[kk n 3 g1 ae (λ_=>by omega) (λhe=>absurd he.symm UM) Zct]
     refine g6.keep (λx hx j hj=>kk x j (g6.num x hx).1 hj (λhe=>absurd (i_ _ (he▸hx)) d1) (λhe=>(d4 m WS.1 x hx he.symm).elim) (λhe=> ?_));obtain⟨b1,_⟩:=hN.inj x x0 j j0 (g6.num x hx).1 ux hj MU (he.trans c5);rcases c1 with c1|c1
     . exact d1 (i_ _ (by rw[<-c1,<-b1];exact hx))
     . exact d4 x0 c1 x hx b1.symm
   . have hp:=TT.j_ lR
     rw[uU]at hp;have:=hp.mem_iff (a:=e);simp only[dr,gG]at this |-;rw[<-this];constructor
     . rintro(a|a|a)
       . exact .inl (.inl a)
       . exact .inl (.inr a)
       . exact .inr a
     . rintro((a|a)|a)
       . exact .inl a
       . exact .inr (.inl a)
       . exact .inr (.inr a)
   . obtain⟨w1,w2,w3,w4⟩:=hw
     have hp:=TT.j_ lR;rw[uU]at hp;have hu:=(hp.pairwise_iff (R:=λa b:Int×Int=>a.1≠b.1) (λhx=>cC hx)).2 w3.uniq;rw[yY]at hu;have hkm:=w3.all _ WS.2;refine⟨hkm.1,λe he hx=> ?_,w3.cut,w4⟩;rcases List.mem_append.1 he with he|he
     . exact hu.1 e he hx.symm
     . have a1:=(w4.all e he).2
       have a2:=hkm.2;rw[hx]at a1;dsimp only at a2;rw[a1]at a2;cases a2
  |nil=>
   have kE:o.eX=true:=by
    rcases hzo with hx|hx
    . rw[hz]at hx;cases hx
    . exact hx
   have e1:(TT.node n key v z o).clink (aQ W B) lk=o.clink (aQ W B) (aQ W B n 3):=by
    rw[hz];cases o with
    |nil=>cases kE
    |node=>rfl
   have e2:(TT.node n key v z o).leaf=o.leaf:=by
    rw[hz];cases o with
    |nil=>cases kE
    |node=>rfl
   have e3:(TT.node n key v z o).cut= .node n key v z o.cut:=by
    rw[hz];cases o with
    |nil=>cases kE
    |node=>rfl
   rw[e1]at jD;rw[e2]at uU;rw[<-hz];have WS:=TT.iN kE;rw[uU]at WS;have UM:m≠n:=λhe=>d1 (i_ _ (he▸WS.1))
   have je:=TT.ij (nd:=aQ W B) (l:=aQ W B n 3) d3 kE;rw[jD,uU]at je
   have ZB:∃x j,(x=n\/x∈o.ar)/\x≠m/\(x=n->j=3)/\(j=2\/j=3)/\ck=aQ W B x j:=by
    rcases je with hx|⟨x,a1,a2,a3|a3⟩
    . exact⟨n,3, .inl rfl,cC UM,λ_=>rfl, .inr rfl,hx⟩
    . exact⟨x,2, .inr a1,a2,λhe=>absurd (i_ _ (he▸a1)) d1, .inl rfl,a3⟩
    . exact⟨x,3, .inr a1,a2,λhe=>absurd (i_ _ (he▸a1)) d1, .inr rfl,a3⟩
   obtain⟨x0,j0,c1,c2,c3,c4,c5⟩:=ZB
   have ux:1<=x0:=by
    rcases c1 with rfl|c1
    . exact g1
    . exact(g6.num x0 c1).1
   have MU:j0<4:=by omega
   have kk:∀x j,1<=x->j<4->(x=n->2<=j)->(x=m->j≠2)->aQ W B x j≠ck->bu L' (aQ W B x j)=bu L (aQ W B x j):=λx j hx hj a1 a2 a3=>
    h6 _ a3 (cC (DR W B x j)) (λhe=>by obtain⟨b1,b2⟩:=hN.inj x m j 2 hx fv.1 hj ae he;exact a2 b1 b2) (λhe=>by obtain⟨b1,b2⟩:=hN.inj x n j 0 hx g1 hj ae he;have:=a1 b1;omega) (λhe=>by obtain⟨b1,b2⟩:=hN.inj x n j 1 hx g1 hj ae he;have:=a1 b1;omega)
   have Zcu:aQ W B n 2≠ck:=λhe=>by
    obtain⟨b1,b2⟩:=hN.inj n x0 2 j0 g1 ux ae MU (he.trans c5);have:=c3 b1.symm;omega
   refine⟨z,o.cut,e3,UM,⟨x0,j0,?_,c2,c4,c5⟩,?_,?_,λe=> ?_,λd' Q hw=> ?_⟩
   . rcases c1 with c1|c1
     . rw[c1,TT.ar];simp
     . rw[TT.ar];exact pV _ (i_ _ c1)
   . rw[kk n 2 g1 ae (λ_=>by omega) (λhe=>absurd he.symm UM) Zcu]
     rw[hz]at g5 |-;exact g5
   . refine gU.cut hN g6 d3 kE (by rw[jD];exact h1) (λx hx WG j hj aG=> ?_) (λaG=> ?_) (λx hx j hj he=> ?_)
     . rw[uU]at WG;rw[jD]at aG
       exact kk x j (g6.num x hx).1 hj (λhe=>absurd (i_ _ (he▸hx)) d1) (λhe=>absurd he WG) aG
     . rw[jD]at aG
       exact kk n 3 g1 ae (λ_=>by omega) (λhe=>absurd he.symm UM) aG
     . exact d1 (i_ _ ((hN.inj x n j 3 (g6.num x hx).1 g1 hj ae he).1▸hx))
   . have hp:=TT.j_ kE
     rw[uU]at hp;have:=hp.mem_iff (a:=e);rw[hz];simp only[TT.aP,List.nil_append];exact this
   . obtain⟨w1,w2,w3,w4⟩:=hw
     have hp:=TT.j_ kE;rw[uU]at hp;have hu:=(hp.pairwise_iff (R:=λa b:Int×Int=>a.1≠b.1) (λhx=>cC hx)).2 w4.uniq;rw[yY]at hu;have hkm:=w4.all _ WS.2;refine⟨hkm.1,λe he hx=> ?_,w3,w4.cut⟩;rw[hz]at he;simp only[TT.aP,List.nil_append]at he;exact hu.1 e he hx.symm
 obtain⟨z',o',k1,k2,⟨x0,j0,k3,k4,k5,k6⟩,k7,k8,k9,YC⟩:=YB;have hfS:(TT.node n key v z o).cut.v8 km vm= .node n km vm z' o':=by rw[k1];rfl
 have ux:=F2 x0 (gV x0 k3);have Zc4:bu L' lk=bu L lk:=h6 _ (λhe=>l2 x0 (.inr k3) j0 ae (he.trans k6)) l1 (l2 m (.inr kF.1) 2 ae) (l2 n (.inr (by simp[TT.ar])) 0 ae) (l2 n (.inr (by simp[TT.ar])) 1 ae);refine h.dH hk hb hS jt ?_ (λk a1 a2 a3=>h6 k ?_ a2 (a3 m (.inl kF.1) 2 ae) (a3 n (.inl (by simp[TT.ar])) 0 ae) (a3 n (.inl (by simp[TT.ar])) 1 ae)) ?_ (λd' Q hw hQ=> ?_) (λe he=> ?_) ?_ (hJ h.so) (λe=> ?_) ?_
 . show gU L' (aQ W B) NN ((TT.node n key v z o).cut.v8 km vm) (bu L' lk)
   rw[hfS];exact⟨Zc4.trans g0,g1,g2,h4,h5,k7,k8⟩
 . rw[k6];exact a3 x0 (.inl k3) j0 ae
 . rw[h2]
   refine⟨rfl,fv.1,fv.2,?_,?_⟩
   . have hl3:=(gU.leaf (show gU L (aQ W B) NN (.node n key v z o) n from⟨rfl,g1,g2,g3,g4,g5,g6⟩) rfl).2.2.2
     rw[uU]at hl3;rw[h6 _ (λhe=>k4 (hN.inj m x0 3 j0 fv.1 ux.1 ae ae (he.trans k6)).1.symm) (cC (DR W B m 3)) (λhe=>by have:=(hN.inj m m 3 2 fv.1 fv.1 ae ae he).2;omega) (λhe=>k2 (hN.inj m n 3 0 fv.1 g1 ae ae he).1) (λhe=>k2 (hN.inj m n 3 1 fv.1 g1 ae ae he).1)];exact hl3
   . rw[h3]
     refine h.fr.keep (λx hx=> ?_);have lC:=(h.fr.num x hx).1;have kk:∀j,j<4->bu L' (aQ W B x j)=bu L (aQ W B x j):=λj hj=>h6 _ (λhe=>h.n4 _ x0 hb (gV x0 k3) ((hN.inj x x0 j j0 lC ux.1 hj ae (he.trans k6)).1▸hx)) (cC (DR W B x j)) (λhe=>hmf ((hN.inj x m j 2 lC fv.1 hj ae he).1▸hx)) (λhe=>h.n4 _ n hb (gV n (by simp[TT.ar])) ((hN.inj x n j 0 lC g1 hj ae he).1▸hx)) (λhe=>h.n4 _ n hb (gV n (by simp[TT.ar])) ((hN.inj x n j 1 lC g1 hj ae he).1▸hx))
     exact⟨kk 2 ae,kk 3 ae⟩
 . show((TT.node n key v z o).cut.v8 km vm).Wf hs d' Q
   rw[hfS];exact YC d' Q hw
 . have he:e∈((TT.node n key v z o).cut.v8 km vm).aP:=he
   rw[hfS,TT.aP,k9]at he;exact .inr ⟨e,by rw[TT.aP];exact pV _ he,rfl⟩
 . show(((TT.node n key v z o).cut.v8 km vm).ar++(m::fl)).Perm _
   have e9:((TT.node n key v z o).cut.v8 km vm).ar=(TT.node n key v z o).cut.ar:=by rw[k1];rfl
   rw[e9];exact KE.trans (by rw[<-List.cons_append];exact U5.append_right fl)
 . show _↔e∈((TT.node n key v z o).cut.v8 km vm).aP\/_
   rw[hfS,TT.aP,k9,um];constructor
   . rintro⟨a,b⟩
     by_cases hx:e∈z.aP++o.aP
     . exact .inl hx
     . refine .inr ⟨a,λhy=> ?_⟩
       rw[TT.aP,dr]at hy;rcases hy with hy|hy
       . exact b (by rw[hy])
       . exact hx hy
   . rintro(a|⟨a,b⟩)
     . exact⟨(hq e a).2,(hq e a).1⟩
     . refine⟨a,λhx=>b ?_⟩
       have:=(dV (key:=key) (v:=e.2) h.so).2 (by rw[<-hx];exact a);rw[hg]at this;injection this with this;rw[TT.aP,dr];left;rw[<-hx,this]
 . have:=pK (key:=key) h.so
   rw[hg]at this;have h9:=h.ct;simp only[Option.isSome_some,cR]at this;simp only[List.length_cons];omega
end
section
variable{W P:Nat}{L:Nat->Int}{f c f0:Nat}{q:List Int}{v:Int}{e0 e1 e2:bO}
def Mq(W P:Nat):Nat->Prop:=λk=>W<=k/\k<W+8+P
end
end Go.Proofs.YtjkpjakodomnmaaGreatDoor
