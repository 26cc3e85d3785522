/- Keys, fill, awake (merged). -/
import Derived.Test.YtjkpjakodomnmaaGreatDoorKtau
set_option linter.unusedVariables false
set_option linter.unusedSimpArgs false
set_option maxRecDepth 100000
set_option maxHeartbeats 16000000
namespace Go.Proofs.YtjkpjakodomnmaaGreatDoor
open Go.RowKit Go.Proofs.Tryz
abbrev sq(q:List (Int×Int)):Prop:=q.Pairwise (λa b=>a.1<b.1)
section
variable{q:List (Int×Int)}{key key' v:Int}{NN:Nat}{c:TC}
theorem EZ{q':List (Int×Int)}(h:sq q)(h':sq q')(hk:∀v,(key,v)∈q↔(key,v)∈q'):bJ q key=bJ q' key:=by
 cases h1:bJ q key with
 |some v=>exact((dV h').2 ((hk v).1 ((dV h).1 h1))).symm
 |none=>
  cases h2:bJ q' key with
  |none=>rfl
  |some v=>
   have:=(dV h).2 ((hk v).2 ((dV h').1 h2));rw[h1]at this;cases this
theorem yw(h:sq q):bJ (il q key v) key=some v:=(dV (cU h)).2 (uk.2 (.inl rfl))
theorem qL(h:sq q)(hx:key'≠key):bJ (il q key v) key'=bJ q key':=
 EZ (cU h) h (λu=>by
  rw[uk];constructor
  . rintro(h1|h1)
    . injection h1 with h1;exact absurd h1 hx
    . exact h1.1
  . exact λh1=> .inr ⟨h1,hx⟩)
theorem O0(h:sq q):bJ (eK q key) key=none:=by
 cases h1:bJ (eK q key) key with
 |none=>rfl
 |some v=>exact absurd rfl (um.1 ((dV (hJ h)).1 h1)).2
theorem Ma(h:sq q)(hx:key'≠key):bJ (eK q key) key'=bJ q key':=
 EZ (hJ h) h (λu=>by
  rw[um];exact⟨λh1=>h1.1,λh1=>⟨h1,hx⟩⟩)
theorem yz(h:sq q):sq (cI NN q c).1:=by
 unfold cI eu;cases bJ q c.key with
 |none=>
  dsimp only;split
  . split
    . exact h
    . exact cU h
  . exact h
 |some v=>
  dsimp only;split
  . exact h
  . split
    . exact cU h
    . split
      . exact hJ h
      . split
        . exact h
        . exact cU h
theorem Ii(h:sq q)(hl:q.length<=NN):(cI NN q c).1.length<=NN:=by
 have h1:=nh (key:=c.key) (v:=c.val) h;have h2:=pK (key:=c.key) h;unfold cI eu;cases hg:bJ q c.key with
 |none=>
  rw[hg]at h1;simp at h1;dsimp only;split
  . split
    . exact hl
    . dsimp only;omega
  . exact hl
 |some v=>
  rw[hg]at h1;simp at h1;dsimp only;split
  . exact hl
  . split
    . dsimp only;omega
    . split
      . dsimp only;omega
      . split
        . exact hl
        . dsimp only;omega
theorem E2(h:sq q):(cI NN q c).1.length<=q.length+1:=by
 have h1:=nh (key:=c.key) (v:=c.val) h;have h2:=pK (key:=c.key) h;have h3:(il q c.key c.val).length<=q.length+1:=by rw[h1];split<;>omega
 unfold cI eu;cases hg:bJ q c.key with
 |none=>
  dsimp only;split
  . split
    . dsimp only;omega
    . exact h3
  . dsimp only;omega
 |some v=>
  dsimp only;split
  . dsimp only;omega
  . split
    . exact h3
    . split
      . dsimp only;omega
      . split
        . dsimp only;omega
        . exact h3
theorem BN(h:sq q)(hx:key≠c.key):bJ (cI NN q c).1 key=bJ q key:=by
 unfold cI eu;cases bJ q c.key with
 |none=>
  dsimp only;split
  . split
    . rfl
    . exact qL h hx
  . rfl
 |some v=>
  dsimp only;split
  . rfl
  . split
    . exact qL h hx
    . split
      . exact Ma h hx
      . split
        . rfl
        . exact qL h hx
end
theorem fe.Zcl{K:TK}{q0:List (Int×Int)}{cs:List (TC×Nat)}{ms:List TM}{ord:List Nat}(h:fe K q0 cs ms ord)(t:Nat):ord.filter (λi=>(ms.getD i tI).th==t)=(List.range ms.length).filter (λi=>(ms.getD i tI).th==t):=by
 have hp:=h.P9;obtain⟨σ,Tm,L,T,fl,N,lf,now,g1,g2,_,g4,_⟩:=h;refine PZ (le:=λa b=>a<b) (λa b _ _ h1 h2=>by omega) ?_ (List.pairwise_lt_range.filter _) (hp.filter _)
 have WJ:ord.Pairwise (λa b=>(ms.getD a tI).th=(ms.getD b tI).th->a<b):=by
  rw[A8];intro p p' h1 h2 Ei bQ;have e1:ord[p]?=some ord[p]:=dG h1;have l1:=g1.mem _ (fq h1);have l2:=g1.mem _ (fq h2)
  have aG:ord[p]≠ord[p']:=λhe=>by
   have:=(Ci g1.nd (i:=p) (j:=p') (h₀:=h1) (h₁:=h2)).1 he;omega
  rcases Nat.lt_or_gt_of_ne aG with aM|WW
  . exact aM
  . exfalso
    have hk:ms[ord[p']]?=some (ms[ord[p']]'l2):=dG l2;have hi:ms[ord[p]]?=some (ms[ord[p]]'l1):=dG l1;rw[dU hi,dU hk]at bQ;have ho:=g2.ord _ _ _ _ WW hk hi bQ.symm;have:=g1.rt p _ _ _ _ e1 hi hk ho.1 ho.2;obtain⟨r,hr⟩:=Cn this;have tq:r<p:=by have:=(ki.1 hr).1;simp at this;omega
    rw[Fl,aA tq]at hr;obtain⟨r1,r2⟩:=ki.1 hr;have:=(Ci g1.nd (i:=r) (j:=p') (h₀:=r1) (h₁:=h2)).1 r2;omega
 refine List.Pairwise.imp_of_mem (λ{a b} ha hb Br=> ?_) (WJ.filter _);have ha':=(xe.1 ha).2;have bG:=(xe.1 hb).2;simp only[yQ]at ha' bG;exact Br (by rw[ha',bG])
theorem I6(ms:List TM)(t:Nat):((List.range ms.length).filter (λi=>(ms.getD i tI).th==t)).map (λi=>(ms.getD i tI).c)=oh ms t:=by
 have:ms=(List.range ms.length).map (λi=>ms.getD i tI):=by
  apply Cg
  . simp
  . intro i h1 h2;simp[eY,h1]
 unfold oh;conv=>rhs;rw[this]
 rw[List.filter_map,List.map_map];rfl
def sT(ms:List TM)(ord:List Nat):List (TC×Nat):=ord.map λi=>((ms.getD i tI).c,(ms.getD i tI).th)
def Gj(NN:Nat)(q:List (Int×Int))(l:List (TC×Nat)):List (Int×Int):=l.foldl (λq x=>(cI NN q x.1).1) q
theorem EV(NN:Nat)(ms:List TM)(q:List (Int×Int))(ord:List Nat):dY NN ms q ord=Gj NN q (sT ms ord):=by
 unfold dY Gj sT;rw[List.foldl_map]
theorem fe.lfo{K:TK}{q0:List (Int×Int)}{cs:List (TC×Nat)}{ms:List TM}{ord:List Nat}(h:fe K q0 cs ms ord){t:Nat}(ht:t<3):eL (sT ms ord) t=eL cs t:=by
 have h1:=h.Zcl t;obtain⟨σ,Tm,L,T,fl,N,lf,now,g1,g2,g3,g4,_⟩:=h;have h2:=g2.seq t ht;rw[g3 t ht,vh]at h2;rw[<-h2,<-I6,<-h1];unfold eL sT;rw[List.filter_map,List.map_map];rfl
structure KyS(NN:Nat)(k o:Int)(a b:Nat)(q:List (Int×Int)):Prop where
 so:sq q
 gk:bJ q k=match a with|0=>none|1=>some 1|_=>some 2
 go:bJ q o=match b with|1=>some 5|_=>none
 gx:∀y,y≠k->y≠o->bJ q y=none
 ln:q.length<=a+b
def I0(k:Int):List TC:=[⟨1,k,1,0⟩,⟨3,k,2,1⟩,⟨0,k,0,0⟩]
def IZ(o:Int):List TC:=[⟨1,o,5,0⟩,⟨2,o,0,0⟩,⟨0,o,0,0⟩]
def Dw(k o:Int)(c:TC):Int×Int:=
 if c.key=k/\c.kind=3 then(1,0)else if c.key=k/\c.kind=0 then(2,0)else if c.key=o/\c.kind=2 then(5,0)else if c.key=o/\c.kind=0 then(0,5)else(0,0)
section
variable{NN a b:Nat}{k o:Int}{q:List (Int×Int)}
theorem KyS.ZaQ(h:KyS NN k o a b q)(uV:k≠o)(hN:6<NN)(ha:a<3)(hb:b<=3){c:TC}(hc:(I0 k)[a]?=some c):(cI NN q c).2=Dw k o c/\KyS NN k o (a+1) b (cI NN q c).1:=by
 have hl:q.length<NN:=by have:=h.ln;omega
 have hk:=h.gk;have ho:=h.go
 have key:c.key=k:=by
  rcases(by omega:a=0\/a=1\/a=2)with rfl|rfl|rfl<;>(simp[I0]at hc;rw[<-hc])
 have hx:∀x,x≠k->bJ (cI NN q c).1 x=bJ q x:=λx hx=>BN h.so (by rw[key];exact hx)
 have hS:bJ (cI NN q c).1 k=(match a+1 with|0=>none|1=>some 1|_=>some 2)/\(cI NN q c).2=Dw k o c:=by
  rcases(by omega:a=0\/a=1\/a=2)with rfl|rfl|rfl
  . simp[I0]at hc
    subst hc;have hk:bJ q k=none:=hk;simp[cI,eu,hk,Dw,uV,E_.2 hl];exact yw h.so
  . simp[I0]at hc
    subst hc;have hk:bJ q k=some 1:=hk;simp[cI,eu,hk,Dw,uV];exact yw h.so
  . simp[I0]at hc
    subst hc;have hk:bJ q k=some 2:=hk;simp[cI,eu,hk,Dw,uV]
 refine⟨hS.2,yz h.so,hS.1,by rw[hx o (cC uV)];exact ho,λx h1 h2=>by rw[hx x h1];exact h.gx x h1 h2,?_⟩;have:=E2 (NN:=NN) (c:=c) h.so;have:=h.ln;omega
theorem KyS.ZaP(h:KyS NN k o a b q)(uV:k≠o)(hN:6<NN)(ha:a<=3)(hb:b<3){c:TC}(hc:(IZ o)[b]?=some c):(cI NN q c).2=Dw k o c/\KyS NN k o a (b+1) (cI NN q c).1:=by
 have hl:q.length<NN:=by have:=h.ln;omega
 have hk:=h.gk;have ho:=h.go
 have key:c.key=o:=by
  rcases(by omega:b=0\/b=1\/b=2)with rfl|rfl|rfl<;>(simp[IZ]at hc;rw[<-hc])
 have hx:∀x,x≠o->bJ (cI NN q c).1 x=bJ q x:=λx hx=>BN h.so (by rw[key];exact hx)
 have hS:bJ (cI NN q c).1 o=(match b+1 with|1=>some 5|_=>none)/\(cI NN q c).2=Dw k o c:=by
  rcases(by omega:b=0\/b=1\/b=2)with rfl|rfl|rfl
  . simp[IZ]at hc
    subst hc;have ho:bJ q o=none:=ho;simp[cI,eu,ho,Dw,cC uV,E_.2 hl];exact yw h.so
  . simp[IZ]at hc
    subst hc;have ho:bJ q o=some 5:=ho;simp[cI,eu,ho,Dw,cC uV];exact O0 h.so
  . simp[IZ]at hc
    subst hc;have ho:bJ q o=none:=ho;simp[cI,eu,ho,Dw,cC uV]
 refine⟨hS.2,yz h.so,by rw[hx k uV];exact hk,hS.1,λx h1 h2=>by rw[hx x h2];exact h.gx x h1 h2,?_⟩;have:=E2 (NN:=NN) (c:=c) h.so;have:=h.ln;omega
theorem Uq(uV:k≠o)(hN:6<NN):∀(l:List (TC×Nat)) (a b:Nat) (q:List (Int×Int)),KyS NN k o a b q->a<=3->b<=3->eL l 0=(I0 k).drop a->eL l 1=(IZ o).drop b->(∀x∈l,x.2=0\/x.2=1)->
 (∀p x,l[p]?=some x->(cI NN (Gj NN q (l.take p)) x.1).2=Dw k o x.1)/\KyS NN k o 3 3 (Gj NN q l):=by
 intro l;induction l with
 |nil=>
  intro a b q h ha hb h0 h1 _;have e0:=bP List.length h0;have e1:=bP List.length h1;simp[eL,I0,IZ]at e0 e1;obtain rfl:a=3:=by omega
  obtain rfl:b=3:=by omega
  exact⟨λp x hx=>by simp at hx,h⟩
 |cons y l ih=>
  intro a b q h ha hb h0 h1 bQ;obtain⟨c,t⟩:=y
  have uy:∃a' b',(cI NN q c).2=Dw k o c/\KyS NN k o a' b' (cI NN q c).1/\a'<=3/\b'<=3/\eL l 0=(I0 k).drop a'/\eL l 1=(IZ o).drop b':=by
   rcases bQ (c,t) smQ with ht|ht
   . obtain rfl:t=0:=ht
     have f0:eL ((c,0)::l) 0=c::eL l 0:=rfl;have f1:eL ((c,0)::l) 1=eL l 1:=rfl;rw[f0]at h0;rw[f1]at h1
     have Le:a<3:=by
      have:=bP List.length h0;simp[I0]at this;omega
     have hc:(I0 k)[a]?=some c:=by
      have:=bP (λx=>x[0]?) h0;simpa [Fk]using this.symm
     obtain⟨s1,s2⟩:=h.ZaQ uV hN Le hb hc;refine⟨a+1,b,s1,s2,Le,hb,?_,h1⟩;have:=bP List.tail h0;simpa using this
   . obtain rfl:t=1:=ht
     have f0:eL ((c,1)::l) 1=c::eL l 1:=rfl;have f1:eL ((c,1)::l) 0=eL l 0:=rfl;rw[f0]at h1;rw[f1]at h0
     have Le:b<3:=by
      have:=bP List.length h1;simp[IZ]at this;omega
     have hc:(IZ o)[b]?=some c:=by
      have:=bP (λx=>x[0]?) h1;simpa [Fk]using this.symm
     obtain⟨s1,s2⟩:=h.ZaP uV hN ha Le hc;refine⟨a,b+1,s1,s2,ha,Le,h0,?_⟩;have:=bP List.tail h1;simpa using this
  obtain⟨a',b',s1,s2,s3,s4,s5,s6⟩:=uy;obtain⟨i1,i2⟩:=ih a' b' _ s2 s3 s4 s5 s6 (λx hx=>bQ x (by simp[hx]));refine⟨λp x hx=> ?_,i2⟩;cases p with
  |zero=>simp at hx;subst hx;exact s1
  |succ p=>exact i1 p x (by simpa using hx)
theorem KyS.fin(h:KyS NN k o 3 3 q)(uV:k≠o):q=[(k,2)]:=by
 have hk:bJ q k=some 2:=h.gk;have ho:bJ q o=none:=h.go
 have hm:∀e,e∈q↔e=(k,2):=λe=>by
  obtain⟨x,v⟩:=e;rw[<-dV h.so];by_cases h1:x=k
  . subst h1
    rw[hk];simp[wm]
  . have hn:bJ q x=none:=by
     by_cases h2:x=o
     . rw[h2];exact ho
     . exact h.gx x h1 h2
    rw[hn];simp[h1]
 have oy:q.Nodup:=h.so.imp (λaM he=>by rw[he]at aM;omega)
 have hp:q.Perm [(k,2)]:=by
  rw[P4 oy smQ];intro e;rw[hm];simp
 exact List.perm_singleton.1 hp
end
theorem fe.keys{K:TK}{cs:List (TC×Nat)}{ms:List TM}{ord:List Nat}{k o:Int}(h:fe K [] cs ms ord)(uV:k≠o)(hN:6<K.NN)(h0:eL cs 0=I0 k)(h1:eL cs 1=IZ o)(h2:eL cs 2=[]):
 ms.length=6/\(∀m∈ms,m.ph= .fin (Dw k o m.c).1 (Dw k o m.c).2/\(m.c∈I0 k\/m.c∈IZ o))/\dY K.NN ms [] ord=[(k,2)]:=by
 have f0:=h.lfo (t:=0) ae;have f1:=h.lfo (t:=1) ae;have f2:=h.lfo (t:=2) ae;rw[h0]at f0;rw[h1]at f1;rw[h2]at f2;have FU:=h.P9;obtain⟨σ,Tm,L,T,fl,N,lf,now,g1,g2,g3,g4,_⟩:=h
 have bQ:∀i,i<ms.length->(ms.getD i tI).th=0\/(ms.getD i tI).th=1:=λi hi=>by
  have hg:ms[i]?=some ms[i]:=dG hi;have hl:=(g2.a8 i _ hg).1;rw[dU hg];rcases(by omega:ms[i].th=0\/ms[i].th=1\/ms[i].th=2)with e|e|e
  . exact .inl e
  . exact .inr e
  . exfalso
    have hm:i∈ord:=FU.mem_iff.2 (by rw[B6];exact hi)
    have:(ms[i].c)∈eL (sT ms ord) 2:=by
     unfold eL sT;refine iJ.2 ⟨(ms[i].c,ms[i].th),xe.2 ⟨iJ.2 ⟨i,hm,by rw[dU hg]⟩,by simp[e]⟩,rfl⟩
    rw[f2]at this;cases this
 have hx:∀x∈sT ms ord,x.2=0\/x.2=1:=λx hx=>by
  obtain⟨i,hi,rfl⟩:=iJ.1 hx;exact bQ i (g1.mem i hi)
 obtain⟨w1,w2⟩:=Uq (NN:=K.NN) uV hN (sT ms ord) 0 0 [] ⟨List.Pairwise.nil,rfl,rfl,λx _ _=>rfl,by simp⟩ ae ae f0 f1 hx;refine⟨?_,λm hm=> ?_,?_⟩
 . have e1:ord.length=ms.length:=by have:=FU.length_eq;simpa using this
   have e2:∀l:List (TC×Nat),(∀x∈l,x.2=0\/x.2=1)->(eL l 0).length+(eL l 1).length=l.length:=by
    intro l;induction l with
    |nil=>intro _;rfl
    |cons y l ih=>
     intro hl;have:=ih (λx hx=>hl x (by simp[hx]));unfold eL at this |-;simp only[sN,vk]at this |-;rcases hl y smQ with e|e<;>simp[e]<;>omega
   have e3:=e2 _ hx;rw[f0,f1]at e3;have e4:(sT ms ord).length=ord.length:=by simp[sT]
   have e5:(I0 k).length+(IZ o).length=6:=rfl;omega
 . obtain⟨i,hi⟩:=ze.1 hm
   have fU:=(ki.1 hi).1;have wK:i∈ord:=FU.mem_iff.2 (by rw[B6];exact fU);obtain⟨p,hp⟩:=Cn wK;have hf:=g1.fin g4 hp hi;have hw:=w1 p (m.c,m.th) (by unfold sT;rw[AX,hp];show some ((ms.getD i tI).c,(ms.getD i tI).th)=_;rw[dU hi])
   have e:Gj K.NN [] ((sT ms ord).take p)=dY K.NN ms [] (ord.take p):=by
    rw[EV];unfold sT;rw[List.map_take]
   rw[e]at hw;rw[hw]at hf;refine⟨hf,?_⟩
   have nQ:∀t,(m.th=t)->m.c∈eL (sT ms ord) t:=λt ht=>by
    unfold eL sT;refine iJ.2 ⟨(m.c,m.th),xe.2 ⟨iJ.2 ⟨i,wK,by rw[dU hi]⟩,by simp[ht]⟩,rfl⟩
   have ht:=bQ i fU;rw[dU hi]at ht;rcases ht with e|e
   . left;rw[<-f0];exact nQ 0 e
   . right;rw[<-f1];exact nQ 1 e
 . rw[EV];exact w2.fin uV
def aY(n:Nat):List (Int×Int):=(List.range n).map λ(i:Nat)=>((i:Int),(i:Int)%3)
theorem iM(n:Nat):(aY n).length=n:=by simp[aY]
theorem gX(n:Nat):aY (n+1)=aY n++[((n:Int),(n:Int)%3)]:=by simp[aY,xf]
theorem fT{n:Nat}{e:Int×Int}(h:e∈aY n):0<=e.1/\e.1<n:=by
 obtain⟨i,hi,rfl⟩:=iJ.1 h;have:i<n:=by simpa using hi
 dsimp only;omega
theorem qx(n:Nat):sq (aY n):=by
 induction n with
 |zero=>exact List.Pairwise.nil
 |succ n ih=>
  rw[gX];unfold sq;rw[Fo];refine⟨ih,by simp,λa ha b hb=> ?_⟩;have:=fT ha;rw[gH.1 hb];dsimp only;omega
theorem vR(n:Nat):bJ (aY n) (n:Int)=none:=by
 cases h:bJ (aY n) (n:Int)with
 |none=>rfl
 |some v=>
  have:=fT ((dV (qx n)).1 h);dsimp only at this;omega
theorem vQ(n:Nat):il (aY n) (n:Int) ((n:Int)%3)=aY (n+1):=by
 rw[gX];unfold il
 have h1:(aY n).filter (λe=>decide (e.1<(n:Int)))=aY n:=by
  rw[yZ];intro e he;have:=fT he;simp;omega
 have h2:(aY n).filter (λe=>decide ((n:Int)<e.1))=[]:=by
  rw[Cr];intro e he;have:=fT he;simp;omega
 rw[h1,h2]
theorem zO{NN n:Nat}(h:n<NN):cI NN (aY n) ⟨1,(n:Int),(n:Int)%3,0⟩=(aY (n+1),0,0):=by
 unfold cI eu;dsimp only;rw[vR];simp[iM,E_.2 h,vQ]
def rJ(start step:Int)(i:Nat):Int:=(start+(i:Int)*step)%1099511627776
theorem wC{s:Int}(hs:s%2=1):∀(k:Nat) (x z:Int),x*s=(2:Int)^k*z->∃y,x=(2:Int)^k*y
 |0,x,_,_=>⟨x,by rw[Int.pow_zero,Int.one_mul]⟩
 |k+1,x,z,h=>by
  have h2:x%2=0:=by
   have h3:(x*s)%2=0:=by rw[h,Int.pow_succ,Ff ((2:Int)^k) 2,Kw];exact Int.mul_emod_right 2 _
   rw[Int.mul_emod,hs]at h3;rcases Int.emod_two_eq x with e|e
   . exact e
   . rw[e]at h3;simp at h3
  obtain⟨y,rfl⟩:∃y,x=2*y:=⟨x/2,by omega⟩
  obtain⟨u,hu⟩:=wC hs k y z (by
   have h5:2*(y*s)=2*((2:Int)^k*z):=by rw[<-Kw,h,Int.pow_succ,Ff ((2:Int)^k) 2,Kw]
   omega)
  exact⟨u,by rw[hu,Int.pow_succ,Ff ((2:Int)^k) 2,Kw]⟩
theorem Wk:(2:Int)^40=1099511627776:=by decide
theorem Rl{start step:Int}(hs:step%2=1){i j:Nat}(hi:i<1000)(hj:j<1000)(h:rJ start step i=rJ start step j):i=j:=by
 unfold rJ at h
 have h1:(((i:Int)-j)*step)%1099511627776=0:=by
  have:((start+(i:Int)*step)-(start+(j:Int)*step))%1099511627776=0:=Int.emod_eq_emod_iff_emod_sub_eq_zero.1 h;have e:(start+(i:Int)*step)-(start+(j:Int)*step)=((i:Int)-j)*step:=by rw[Int.sub_mul];omega
  rwa[e]at this
 obtain⟨z,hz⟩:=Int.dvd_of_emod_eq_zero h1;rw[<-Wk]at hz;obtain⟨y,hy⟩:=wC hs 40 _ z hz;rw[Wk]at hy;omega
theorem TS{NN:Nat}{q:List (Int×Int)}{key v:Int}(hg:bJ q key=none)(hl:q.length<NN):cI NN q ⟨1,key,v,0⟩=(il q key v,0,0):=by
 unfold cI eu;dsimp only;rw[hg];simp[E_.2 hl]
theorem O2{NN:Nat}{q:List (Int×Int)}{key v:Int}(hg:bJ q key=none)(hl:NN<=q.length):cI NN q ⟨1,key,v,0⟩=(q,0,4):=by
 unfold cI eu;dsimp only;rw[hg];simp[hl]
structure We(start step:Int)(j:Nat)(q:List (Int×Int)):Prop where
 so:sq q
 ln:q.length=j
 ks:∀i:Nat,j<=i->i<1000->bJ q (rJ start step i)=none
theorem We.start{start step:Int}:We start step 0 []:=⟨List.Pairwise.nil,rfl,λi _ _=>rfl⟩
theorem We.next{start step:Int}{j NN:Nat}{q:List (Int×Int)}(h:We start step j q)(hs:step%2=1)(hj:j<NN)(hN:NN<1000)(v:Int):(cI NN q ⟨1,rJ start step j,v,0⟩).2=(0,0)/\We start step (j+1) (cI NN q ⟨1,rJ start step j,v,0⟩).1:=by
 have hg:=h.ks j (a_ _) ae;have e:cI NN q ⟨1,rJ start step j,v,0⟩=(il q (rJ start step j) v,0,0):=TS hg (by rw[h.ln];exact hj);rw[e];refine⟨rfl,cU h.so,?_,λi h1 h2=> ?_⟩
 . show(il q (rJ start step j) v).length=_
   rw[nh h.so,hg,h.ln];rfl
 . rw[qL h.so (λhx=>by have:=Rl hs h2 ae hx;omega)]
   exact h.ks i ae h2
theorem We.full{start step:Int}{NN:Nat}{q:List (Int×Int)}(h:We start step NN q)(hN:NN<1000)(v:Int):(cI NN q ⟨1,rJ start step NN,v,0⟩)=(q,0,4):=
 O2 (h.ks NN (a_ _) hN) (by rw[h.ln];exact a_ _)
theorem sX{α:Type}:∀{l:List α},l.length=3->∃a b c,l=[a,b,c]
 |[a,b,c],_=>⟨a,b,c,rfl⟩
theorem mP{K:TK}{ms:List TM}{ord:List Nat}(h:fe K [] [(⟨1,7,1,0⟩,0),(⟨1,7,2,0⟩,0),(⟨3,7,3,1⟩,0)] ms ord)(hN:2<K.NN):∃a b c,ms=[a,b,c]/\dY K.NN ms [] ord=[(7,2)]/\b.ph= .fin 1 0/\c.ph= .fin 2 6:=by
 obtain⟨h1,h2⟩:=h.O_ (t:=0) ae (λc hc=>by
  simp only[dr,fH,gF]at hc;rcases hc with rfl|rfl|rfl<;>rfl)
 obtain⟨σ,Tm,L,T,fl,N,lf,now,g1,_,_,g4,_⟩:=h;have hl:ms.length=3:=by have:=bP List.length h1;simpa using this
 obtain⟨a,b,c,rfl⟩:=sX hl;simp only[oV,wu,tV,mF]at h1;obtain⟨a1,b1,c1⟩:=h1;have ho:ord=[0,1,2]:=h2;subst ho;have hn:¬K.NN<=0:=by omega
 have e1:dY K.NN [a,b,c] [] [0]=[(7,1)]:=by
  show(cI K.NN [] a.c).1=_
  rw[a1];simp[cI,eu,bJ,il,hn]
 have e2:dY K.NN [a,b,c] [] [0,1]=[(7,2)]:=by
  show(cI K.NN (dY K.NN [a,b,c] [] [0]) b.c).1=_
  rw[e1,b1];simp[cI,eu,bJ,il]
 have e3:dY K.NN [a,b,c] [] [0,1,2]=[(7,2)]:=by
  show(cI K.NN (dY K.NN [a,b,c] [] [0,1]) c.c).1=_
  rw[e2,c1];simp[cI,eu,bJ]
 refine⟨a,b,c,rfl,e3,?_,?_⟩
 . have hf:=g1.fin g4 (p:=1) (i:=1) (m:=b) rfl rfl
   rw[show [0,1,2].take 1=[0]from rfl,e1,b1]at hf;simpa [cI,eu,bJ]using hf
 . have hf:=g1.fin g4 (p:=2) (i:=2) (m:=c) rfl rfl
   rw[show [0,1,2].take 2=[0,1]from rfl,e2,c1]at hf;simpa [cI,eu,bJ]using hf
def CS3:List aW:=[⟨1,0,7,1,0⟩,⟨1,0,7,2,0⟩,⟨3,0,7,3,1⟩]
def NR:Array Value:= #[.int .i64 1, .int .i64 0, .int .u64 7, .int .u64 1, .int .u64 0, .int .i64 1, .int .i64 0, .int .u64 7, .int .u64 2, .int .u64 0, .int .i64 3, .int .i64 0, .int .u64 7, .int .u64 3, .int .u64 1]
theorem Yz{κ:Nat->Nat}{w:World}{g:Nat}(h:CB w g 33 NR)(hk:κ g=1):Hm κ w (some ⟨g,0,none⟩) 3 3 CS3:=by
 refine⟨rfl,a_ _,λ_=>⟨g,0,rfl,hk,h.lt,λk hk=> ?_⟩⟩;have wL:k=0\/k=1\/k=2:=by omega
 rcases wL with rfl|rfl|rfl
 . exact⟨h.cell 0,h.cell 1,h.cell 2,h.cell 3,h.cell 4⟩
 . exact⟨h.cell 5,h.cell 6,h.cell 7,h.cell 8,h.cell 9⟩
 . exact⟨h.cell 10,h.cell 11,h.cell 12,h.cell 13,h.cell 14⟩
def AwP(q:Nat)(w:World)(e:Ending)(w':World):Prop:=
 ∃gA oA cm g2 g3,e= .returned (.tuple #[.slice (some ⟨gA,oA,none⟩) 3 cm, .bool true])/\w'.cell? ⟨gA,oA+1,none⟩=some (.pointer (some ⟨g2,0,none⟩))/\w'.cell? ⟨gA,oA+2,none⟩=some (.pointer (some ⟨g3,0,none⟩))/\gA<w'.heap.size/\w'.cell? ⟨g2,8,none⟩=some (.int .u64 1)/\w'.cell? ⟨g3,8,none⟩=some (.int .u64 2)/\w'.cell? ⟨g3,9,none⟩=some (.int .i64 6)/\g2<w'.heap.size/\g3<w'.heap.size/\
  (∀W,Below w'.heap.size w' W->Calls prog 14 #[.pointer (some ⟨q,0,none⟩)] W (nN [(7,2)] W))/\Below w.heap.size w w'
theorem Af{w w1:World}{p d q n lines NN N:Nat}{t:Nat->Nat}{σ:PwS}{xs:List Int}{L:Nat->Int}{Tr:Nat->TT}{fl:List Nat}(hq:w.heap.size<=q)(ZI:o_ (mC w q) p d q n lines NN t w1 [] N σ xs L Tr fl)(hN:N<=600)(hb:Below w.heap.size w w1):
 Calls prog 12 #[.pointer (some ⟨q,0,none⟩), .slice (some ⟨w1.heap.size,0,none⟩) 3 3, .slice none 0 0, .bool true] (w1.alloc (.cells NR 33)) (AwP q w):=by
 have vI:=hb.size;have dy:Below w1.heap.size w1 (w1.alloc (.cells NR 33)):=ai (bZ _ _) _;have hR:=ZI.ch dy;have hP:=ZI.qu.hP;have hL:=Yz (κ:=iY (mC w q) w1 (w1.alloc (.cells NR 33)) 1) (CB.new w1 33 NR) (gD (a_ _) smQ);refine(uD hR _ 3 3 CS3 ae hL (λc hc=> ?_) none 0 0 [] rfl ae Rd.nil (λb hb=>by simp[ah]at hb) (λz hz=>by simp at hz) (by show N+6778*3<1000000;omega)).mono ?_
 . simp only[CS3,dr,fH,gF]at hc
   rcases hc with rfl|rfl|rfl<;>exact⟨⟨by decide,by decide⟩,⟨by decide,by decide⟩,⟨by decide,by decide⟩,⟨by decide,by decide⟩,⟨by decide,by decide⟩⟩
 . rintro e w3 ⟨Am,cm,ms,ord,dL,N',σ',dz,L',wY,eG,rfl,Q9,hM,hO,hk,hC,hN'⟩
   obtain⟨a,b,c,rfl,SH,QG,oo⟩:=mP (K:=aF NN) hO (by show 2<NN;omega);have ZN:(aF NN).NN=NN:=rfl;rw[ZN]at SH;rw[SH]at Q9;have hV:=Q9.Ef;obtain⟨gs,oz,hS,hg,_,hm⟩:=hM;obtain⟨gA,oA,hA,eh,wN⟩:=hS.at_ (j:=1) (by simp[hg]);obtain⟨gA',oA',fL,_,xo⟩:=hS.at_ (j:=2) (by simp[hg]);rw[hA]at fL;simp only[sP,Addr.mk.injEq]at fL;obtain⟨rfl,rfl,_⟩:=fL;obtain⟨fv,_⟩:=hm 1 b rfl;obtain⟨oM,_⟩:=hm 2 c rfl
   have hx:∀i (hi:i<3),(gs.map xF)[i]'(by simp[hg];omega)= .pointer (some ⟨gs.getD i 0,0,none⟩):=λi hi=>by
    rw[vo,eY,dG (by rw[hg];simpa using hi)];rfl
   rw[hx 1 ae]at wN;rw[hx 2 ae]at xo;have Ld:w3.cell? ⟨gs.getD 1 0,8,none⟩=some (.int .u64 b.ph.got):=fv.cell 8;have hc8:w3.cell? ⟨gs.getD 2 0,8,none⟩=some (.int .u64 c.ph.got):=oM.cell 8;have Q2:w3.cell? ⟨gs.getD 2 0,9,none⟩=some (.int .i64 c.ph.er):=oM.cell 9;rw[QG]at Ld;rw[oo]at hc8 Q2;subst hA;refine⟨gA,oA,cm,gs.getD 1 0,gs.getD 2 0,rfl,wN,xo,eh,Ld,hc8,Q2,fv.lt,oM.lt,λW hW=>CN (hV.bl hW),?_⟩;refine bM (hb.trans (dy.mono vI)) hC (λb hb=> ?_);by_cases aM:b<w1.heap.size
   . rw[bc aM]at hb
     exact Kn hq hb
   . omega
theorem qO(w:World)(k v:Int):gP (w.alloc (.cells #[.int .u64 k, .int .u64 v] 45)) (some ⟨w.heap.size,0,none⟩) [(k,v)]:=by
 refine .inr ⟨_,0,rfl,by simp,λi e hi=> ?_⟩
 have h0:i=0:=by
  by_cases h:i=0
  . exact h
  . rw[oY (by simp;omega)]at hi;cases hi
 subst h0;simp at hi;subst hi;exact⟨(CB.new w 45 #[.int .u64 k, .int .u64 v]).cell 0,(CB.new w 45 #[.int .u64 k, .int .u64 v]).cell 1⟩
theorem lD(w:World)(hT:Tab w):Calls prog 11 #[] w λe w'=>e= .returned (.bool true)/\Below w.heap.size w w':=by
 have BH:Hid (Calls prog 10 #[.int .i64 0] w (Kc 0 w)):=j8 w hT 0 ae;clear hT;have HAR:=ag (λ(w1:World) (p d q n lines NN N:Nat) (t:Nat->Nat) (σ:PwS) (xs:List Int) (L:Nat->Int) (Tr:Nat->TT) (fl:List Nat)=>Af (w:=w) (w1:=w1) (p:=p) (d:=d) (q:=q) (n:=n) (lines:=lines) (NN:=NN) (N:=N) (t:=t) (σ:=σ) (xs:=xs) (L:=L) (Tr:=Tr) (fl:=fl));unfold NR at HAR;go_enter func11,ntmps11
 go_wp2_with (first
  |(go_at_call 10;(with_reducible refine BH.out.mono ?_);rintro e w1 ⟨d,p,q,n,lines,NN,t,σ,N,xs,L,Tr,fl,rfl,hl,oL,nP,hR,hN,eD⟩;have Av:=ag (HAR.out _ _ _ _ _ _ _ _ _ _ _ _ _ _ oL hR hN eD);clear hl oL nP hR hN eD)
  |(go_at_call 12;(with_reducible refine Av.out.mono ?_);rintro e w3 ⟨gA,oA,cm,g2,g3,rfl,z1,z2,z3,z4,z5,z6,z7,z8,aS,xO⟩;have iV:=ag aS;have Hu:=ag xO;clear aS xO)
  |(go_at_call 14;(with_reducible refine(iV.out _ aC).mono ?_);rintro e w4 ⟨A4,c4,rfl,nI,_,kH⟩;have HR4:=ag nI;have mA:=ag kH;obtain⟨x,rfl⟩:=aE kH;clear nI kH)
  |(go_at_call 13;have G5:=kT (w:=x.w.alloc (.cells #[.int .u64 7, .int .u64 2] 45)) A4 (some ⟨x.w.heap.size,0,none⟩) 1 c4 1 1 [(7,2)] [(7,2)] rfl rfl ⟨by omega,by omega⟩ (HR4.out.below (ai (bZ _ _) _)) (qO _ _ _);rw[kx rfl]at G5;(with_reducible refine G5.mono ?_);rintro e w5 ⟨rfl,AH⟩;clear G5;have lJ:=ag AH;clear AH))
 exact bH (v:= .bool true) (by simp[results,results11,go_sem]) rfl ⟨rfl,Hu.out.trans ((mA.out.trans (((ai (bZ _ _) _:Below x.w.heap.size x.w _).trans (lJ.out.mono smQ)).mono mA.out.size)).mono Hu.out.size)⟩
def uL(k:IntKind)(w:World)(a:Option Addr)(len cap:Nat)(zs:List Int):Prop:=
 (a=none/\len=0/\cap=0/\zs=[])\/
 ∃x,a=some x/\len<=cap/\cap<=maxLen/\zs.length=cap/\(∀i,i<zs.length->w.cell? (x.add i)=some (.int k (zs.getD i 0)))/\∀n∈zs,(Lit.int k n).wf=true
theorem uu{k:IntKind}{w:World}{a:Option Addr}{len cap:Nat}{zs:List Int}(h:uL k w a len cap zs):
 ∃xs:List Int,xs.length=len/\len<=cap/\cap<=9223372036854775807/\Rd k w a xs/\∀n∈xs,(Lit.int k n).wf=true:=by
 rcases h with⟨rfl,rfl,rfl,rfl⟩|⟨x,rfl,hl,hm,hz,hc,hw⟩
 . exact⟨[],rfl,a_ _,by omega, .inl rfl,by simp⟩
 . refine⟨zs.take len,by simp;omega,hl,by unfold maxLen at hm;omega,?_,λn hn=>hw n (za hn)⟩
   by_cases h0:zs.length=0
   . left
     have:zs=[]:=E9 h0;simp[this]
   . have h1:=hc 0 ae
     have hx:x.add 0=x:=by simp[Addr.add]
     rw[hx]at h1;have aM:=sR w x h1;obtain⟨b,off,sp⟩:=x
     have K6:sp=none:=by
      cases sp with
      |none=>rfl
      |some s=>
       unfold World.cell? at h1;split at h1<;>simp at h1
     subst K6;refine .inr ⟨b,off,rfl,aM,λi hi=> ?_⟩;have Jl:i<zs.length:=by simp at hi;omega
     have h2:=hc i Jl;have h3:(⟨b,off,none⟩:Addr).add i=⟨b,off+i,none⟩:=by unfold Addr.add;split<;>simp_all
     rw[h3]at h2;rw[h2];simp[Jl]
theorem wf_u64{a:Int}(h:(Lit.int .u64 a).wf=true):0<=a/\a<18446744073709551616:=by
 simp[Lit.wf,IntKind.min,IntKind.max,IntKind.signed,IntKind.bits]at h;omega
theorem wf_i64{a:Int}(h:(Lit.int .i64 a).wf=true): -9223372036854775808<=a/\a<9223372036854775808:=by
 simp[Lit.wf,IntKind.min,IntKind.max,IntKind.signed,IntKind.bits]at h;omega
end Go.Proofs.YtjkpjakodomnmaaGreatDoor
