/- The base, part 4 (merged). -/
import Derived.Test.YtjkpjakodomnmaaGreatDoorKtac
set_option linter.unusedVariables false
set_option linter.unusedSimpArgs false
set_option maxRecDepth 100000
set_option maxHeartbeats 16000000
namespace Go.Proofs.YtjkpjakodomnmaaGreatDoor
open Go.RowKit
structure bO where
 off:Int
 old:Int
 new:Int
 ex:Bool
def bO.sat(e:bO)(raw:Int):Bool:=if e.ex then raw==e.old else raw%1099511627776==e.old
def bO.after(e:bO)(raw:Int):Int:=e.new+((raw/1099511627776+1)%4194304)*1099511627776
structure aX where
 k:Nat
 th:Nat
 es:List bO
 order:List Nat
 seen:List Int
 loaded:Nat
 aa:Nat
 prog:List Ins
 done:Bool
 changed:Bool
 ended:Bool
 err:Int
 tgt:Option Nat
 sf:Nat
 next:Nat
structure PwS where
 dev:aq
 busy:List Bool
 cur:Option Nat
 ops:Nat->Option aX
def PwS.aB(σ:PwS)(a:Nat)(o:aX):PwS:={σ with ops:=λb=>if b=a then some o else σ.ops b}
def uG(sum:List Int->Int)(es:List bO)(seen:List Int):List Int:=(es.zip seen).flatMap λp=>[if p.1.ex then p.1.off+1 else p.1.off,p.1.old,p.1.after p.2]
def oD(es:List bO)(seen:List Int):List (Int×Int):=(es.zip seen).map λp=>(p.1.off,p.1.after p.2)
def lL(at0:Int)(ws:List Int):List (Int×Int):=ws.zipIdx.map λp=>(at0+64+8*(p.2:Int),p.1)
def Ts:Int:=1836515329
def pM(sum:List Int->Int)(ws:List Int):Int:=3+(ws.length/3:Nat)*256+1836515328+sum ws*4294967296
section
variable(sum:List Int->Int)(at0:Nat->Int)
def aX.bS(o:aX)(s:Nat):List Ins:=
 if s=1 then bN (lL (at0 o.k) (uG sum o.es o.seen))
 else if s=2 then bN [(at0 o.k,pM sum (uG sum o.es o.seen))]
 else if s=3 then bN (oD o.es o.seen)
 else bN [(at0 o.k,Ts)]
def PwS.fin(σ:PwS)(c:Nat)(o:aX)(ch:Bool):PwS:={σ.aB c {o with done:=true,changed:=ch}with cur:=none}
def PwS.enter(σ:PwS)(c:Nat)(o:aX)(s:Nat):PwS:=
 if s<=4 then σ.aB c {o with aa:=s,prog:=o.bS sum at0 s}else σ.fin c {o with aa:=s} true
def PwS.load(σ:PwS)(c:Nat)(o:aX)(i:Nat):PwS:=
 let q:=o.order.getD o.loaded 0
 let off:=(o.es.getD q ⟨0,0,0,false⟩).off
 let raw:=σ.dev.load off
 let nS:PwS:={σ with dev:=σ.dev.on i (σ.dev.cQ off)}
 if(nS.dev.a8 i).err≠0 then nS
 else if(o.es.getD q ⟨0,0,0,false⟩).sat raw then
  let o1:={o with seen:=o.seen.set q raw,loaded:=o.loaded+1}
  if o1.loaded=o.order.length then(nS.aB c o1).enter sum at0 c o1 1 else nS.aB c o1
 else nS.fin c o false
def PwS.ry(σ:PwS)(a:Nat)(o:aX)(c:Nat)(oc:aX):PwS:=
 if oc.aa=0 then σ.load sum at0 c oc o.th
 else
  let o1:=if o.tgt=some c/\o.sf=oc.aa then o else{o with tgt:=some c,sf:=oc.aa,next:=0}
  let nS:PwS:={σ.aB a o1 with dev:=σ.dev.cW o.th (oc.prog.getD o1.next (0,0,0))}
  if(nS.dev.a8 o.th).err≠0 then nS
  else
   let o2:={o1 with next:=o1.next+1}
   let Ed:=nS.aB a o2
   if o2.next=oc.prog.length then Ed.enter sum at0 c (if c=a then o2 else oc) (oc.aa+1)else Ed
def PwS.fB(σ:PwS)(a:Nat)(o:aX)(e:Int):PwS:=
 let nS:={σ.aB a {o with ended:=true,err:=e}with busy:=σ.busy.set o.k false}
 if !o.done&&decide (σ.cur=some a)&&decide (o.aa<2)then{nS with cur:=none}else nS
def PwS.step(σ:PwS)(a:Nat):PwS×Bool:=
 match σ.ops a with
 |none=>(σ,true)
 |some o=>
  if o.ended then(σ,true)
  else if(σ.dev.a8 o.th).err≠0 then(σ.fB a o (σ.dev.a8 o.th).err,true)
  else if o.done then(σ.fB a o 0,true)
  else
   let mQ:PwS:=if σ.cur.isSome then σ else{σ with cur:=some a}
   let c:=mQ.cur.getD a
   match mQ.ops c with
   |none=>(σ,true)
   |some oc=>
    let nS:=mQ.ry sum at0 a o c oc
    match nS.ops a with
    |none=>(nS,true)
    |some o1=>
     if(nS.dev.a8 o.th).err≠0 then(nS.fB a o1 (nS.dev.a8 o.th).err,true)
     else if o1.done then(nS.fB a o1 0,true)
     else(nS,false)
end
def kW(xs:List Int)(k:Nat):Int:=xs.getD k 0
def swL(xs:List Int)(i j:Nat):List Int:=(xs.set i (kW xs j)).set j (kW xs i)
theorem Jv{xs:List Int}{k:Nat}(h:k<xs.length):kW xs k=xs[k]:=by simp[kW,h]
section
variable{S:aq}{n N:Nat}{xs:List Int}
theorem On.cnt(h:On S n xs N)(i:Nat):S.lG true=true/\S.cnt i true={S with exec:=IntKind.u64.wrap (S.exec+1)}:=vU h.off h.armed
theorem On.flush(h:On S n xs N)(i k:Nat)(hk:k<8*n)(hN:N<1000000):On (S.flush i (8*(k:Int))) n xs (N+1):=by
 have hG:=h.good.flush i (8*(k:Int)) ae ae;have nQ:S.Sz (8*(k:Int))=true:=by unfold aq.Sz;simp[h.nl];omega
 obtain⟨c1,c2⟩:=h.cnt i
 have hE:S.flush i (8*(k:Int))=({S with exec:=IntKind.u64.wrap (S.exec+1)}:aq).note i ((8*(k:Int))/64).toNat:=by
  unfold aq.flush;rw[nQ,c1,aA rfl,c2]
 rw[hE]at hG |-;refine⟨hG,h.nl,h.cur,h.off,h.armed,λj=> ?_⟩;by_cases hj:j=i
 . subst hj;simp[aq.note,h.err]
 . simp[aq.note,hj,h.err]
theorem On.fence(h:On S n xs N)(i:Nat)(hi:i<8)(hN:N<1000000):On (S.fence i) n xs (N+1):=by
 have hG:=(h.good.fence hi ae).mono (lM N);obtain⟨c1,c2⟩:=h.cnt i
 have hE:S.fence i=((({S with exec:=IntKind.u64.wrap (S.exec+1)}:aq).upto (({S with exec:=IntKind.u64.wrap (S.exec+1)}:aq).due i))).fN i:=by
  unfold aq.fence;rw[c1,aA rfl,c2]
 rw[hE]at hG |-;refine⟨hG,?_,h.cur,h.off,h.armed,λj=> ?_⟩
 . show(aq.upto _ _).bA.length=n
   rw[(cd _).2];exact h.nl
 . by_cases hj:j=i
   . subst hj;simp[aq.fN,aq.upto,h.err]
   . simp[aq.fN,hj,aq.upto,h.err]
def Hy(n:Nat)(p:Ins):Prop:=nH p=true/\∃k:Nat,k<8*n/\p.2.1=8*(k:Int)
def FM(xs:List Int)(p:Ins):List Int:=if p.1=1 then xs.set (p.2.1/8).toNat p.2.2 else xs
theorem On.ins(h:On S n xs N)(i:Nat)(hi:i<8)(hN:N<1000000){p:Ins}(hp:Hy n p):On (S.cW i p) n (FM xs p) (N+1):=by
 obtain⟨op,of,v⟩:=p;obtain⟨h1,k,hk,QL⟩:=hp;dsimp only at QL;subst QL;unfold aq.cW FM;dsimp only;split
 . rw[show(8*(k:Int)/8).toNat=k by omega];exact h.store i k hk v
 . split
   . exact h.flush i k hk hN
   . exact h.fence i hi hN
end
section
variable{ws:List (Int×Int)}{n:Nat}
theorem qd:(bD ws).length=ws.length+(kj (starts ws)).length+1:=by simp[bD,cT,eC];omega
theorem Hy.num{p:Ins}(h:Hy n p)(hn:n<=1000000):(0<=p.2.1/\p.2.1<18446744073709551616)/\1<=p.1/\p.1<=3:=by
 obtain⟨h1,k,hk,he⟩:=h;simp only[nH,kz,decide_eq_true_iff]at h1;exact⟨by omega,h1⟩
end
section
variable{ws:List (Int×Int)}{n:Nat}
theorem Mb(hw:∀p∈ws,∃k:Nat,k<8*n/\p.1=8*(k:Int))(h0:0<n):∀q∈bN ws,Hy n q:=by
 intro q hq;unfold bN at hq;rw[gG,gG]at hq;rcases hq with(hq|hq)|hq
 . simp only[cT,iJ]at hq
   obtain⟨p,hp,rfl⟩:=hq;obtain⟨k,hk,he⟩:=hw p hp;exact⟨by simp[nH],k,hk,he⟩
 . simp only[eC,iJ]at hq
   obtain⟨l,hl,rfl⟩:=hq;rw[qb,FB]at hl;simp only[starts,iJ]at hl;obtain⟨p,hp,rfl⟩:=hl;obtain⟨k,hk,he⟩:=hw p hp;refine⟨by simp[nH],k/8*8,by omega,?_⟩;show cG p.1=_
   rw[he];unfold cG;omega
 . simp only[gH]at hq
   subst hq;exact⟨by simp[nH],0,by omega,by simp⟩
end
def E0:bO:=⟨0,0,0,false⟩
structure St(n:Nat)(M:Nat->Prop)(e:bO):Prop where
 wd:∃k:Nat,M k/\k<8*n/\e.off=8*(k:Int)
 old:0<=e.old/\e.old<4611686018427387904
 new:0<=e.new/\e.new<1099511627776
structure eU(cnt n:Nat)(M:Nat->Prop)(o:aX):Prop where
 th:o.th<8
 k:o.k<cnt
 l1:1<=o.es.length
 l6:o.es.length<=6
 vS:∀e∈o.es,St n M e
 nd:∀i j,i<o.es.length->j<o.es.length->(o.es.getD i E0).off=(o.es.getD j E0).off->i=j
 perm:o.order.Perm (List.range o.es.length)
 sl:o.seen.length=o.es.length
 sr:∀q,0<=kW o.seen q/\kW o.seen q<4611686018427387904
def ee(es:List bO)(q:Nat):Nat:=((es.getD q E0).off/8).toNat
def nu(L:Nat->Int)(es:List bO):Bool:=(List.range es.length).all λq=>(es.getD q E0).sat (L (ee es q))
def appL(L:Nat->Int)(es:List bO):Nat->Int:=λk=>match(List.range es.length).find? (λq=>ee es q==k)with
 |some q=>(es.getD q E0).after (L k)
 |none=>L k
theorem bO.qF(e:bO)(raw:Int)(h:0<=e.new/\e.new<1099511627776):0<=e.after raw/\e.after raw<4611686018427387904:=by
 unfold bO.after;omega
section
variable{n cnt N:Nat}{M:Nat->Prop}{o:aX}{L:Nat->Int}
theorem eU.at_(h:eU cnt n M o){q:Nat}(hq:q<o.es.length):St n M (o.es.getD q E0):=by
 rw[eY,dG hq];exact h.vS _ (fq hq)
theorem eU.wd(h:eU cnt n M o){q:Nat}(hq:q<o.es.length):M (ee o.es q)/\ee o.es q<8*n/\(o.es.getD q E0).off=8*(ee o.es q:Int):=by
 obtain⟨k,h1,h2,h3⟩:=(h.at_ hq).wd;have e:ee o.es q=k:=by unfold ee;rw[h3];omega
 rw[e];exact⟨h1,h2,h3⟩
theorem eU.inj(h:eU cnt n M o){i j:Nat}(hi:i<o.es.length)(hj:j<o.es.length)(he:ee o.es i=ee o.es j):i=j:=
 h.nd i j hi hj (by rw[(h.wd hi).2.2,(h.wd hj).2.2,he])
theorem Lx(h:eU cnt n M o){q:Nat}(hq:q<o.es.length):appL L o.es (ee o.es q)=(o.es.getD q E0).after (L (ee o.es q)):=by
 unfold appL;cases hf:(List.range o.es.length).find? (λq'=>ee o.es q'==ee o.es q)with
 |none=>
  rw[yW]at hf;exact absurd (hf q (by simpa using hq)) smQ
 |some q'=>
  have h1:=Fh hf;have h2:=Mn hf;have:q'=q:=h.inj (by simpa using h2) hq (by simpa using h1);rw[this]
theorem xY{es:List bO}{k:Nat}(h:∀q,q<es.length->ee es q≠k):appL L es k=L k:=by
 unfold appL;cases hf:(List.range es.length).find? (λq'=>ee es q'==k)with
 |none=>rfl
 |some q'=>
  have h1:=Fh hf;have h2:=Mn hf;exact absurd (by simpa using h1) (h q' (by simpa using h2))
theorem eU.qQ(h:eU cnt n M o){j:Nat}(hj:j<o.order.length):o.order.getD j 0<o.es.length:=by
 have:o.order.getD j 0∈o.order:=by
  rw[eY,dG hj];exact fq hj
 have:=h.perm.mem_iff.1 this;simpa using this
theorem eU.vv(h:eU cnt n M o):o.order.length=o.es.length:=by rw[h.perm.length_eq];simp
theorem eU.Mv(h:eU cnt n M o){q:Nat}(hq:q<o.es.length):∃j,j<o.order.length/\o.order.getD j 0=q:=by
 have:q∈o.order:=h.perm.mem_iff.2 (by simpa using hq);obtain⟨j,hj,he⟩:=y_ this;exact⟨j,hj,by rw[eY,dG hj];exact he⟩
theorem eU.Mu(h:eU cnt n M o){i j:Nat}(hi:i<o.order.length)(hj:j<o.order.length)(he:o.order.getD i 0=o.order.getD j 0):i=j:=by
 have oy:o.order.Nodup:=h.perm.nodup_iff.2 Py;simp only[eY,dG hi,dG hj,Option.getD_some]at he;exact(Ci oy).1 he
end
def kh(n cnt:Nat)(M:Nat->Prop)(at0:Nat->Int):Prop:=(∀k,M k->k<8*n)/\∀k,k<cnt->∃b:Nat,at0 k=8*(b:Int)/\∀j,j<32->b+j<8*n/\¬M (b+j)
def aX.Ly(o:aX)(L:Nat->Int):Prop:=∀q,q<o.es.length->kW o.seen q=L (ee o.es q)/\(o.es.getD q E0).sat (L (ee o.es q))=true
section
variable(sum:List Int->Int)(at0:Nat->Int)
def sx(M:Nat->Prop)(o:aX)(xs:List Int)(L:Nat->Int):Prop:=
 (o.aa=0/\o.loaded<o.order.length/\(∀j,j<o.loaded->kW o.seen (o.order.getD j 0)=L (ee o.es (o.order.getD j 0))/\(o.es.getD (o.order.getD j 0) E0).sat (L (ee o.es (o.order.getD j 0)))=true)/\∀k,M k->xs[k]?=some (L k))\/
 ((o.aa=1\/o.aa=2)/\o.Ly L/\o.prog=o.bS sum at0 o.aa/\∀k,M k->xs[k]?=some (L k))\/
 (o.aa=3/\o.Ly L/\o.prog=o.bS sum at0 3/\(∀k,M k->(∀q,q<o.es.length->ee o.es q≠k)->xs[k]?=some (L k))/\∀q,q<o.es.length->xs[ee o.es q]?=some (L (ee o.es q))\/xs[ee o.es q]?=some ((o.es.getD q E0).after (kW o.seen q)))\/
 (o.aa=4/\o.prog=o.bS sum at0 4/\∀k,M k->xs[k]?=some (L k))
structure Inv(n cnt:Nat)(M:Nat->Prop)(N:Nat)(σ:PwS)(xs:List Int)(L:Nat->Int):Prop where
 on:On σ.dev n xs N
 hL:∀k,M k->0<=L k/\L k<4611686018427387904
 ok:∀a o,σ.ops a=some o->eU cnt n M o
 idle:σ.cur=none->∀k,M k->xs[k]?=some (L k)
 run:∀c,σ.cur=some c->∃oc,σ.ops c=some oc/\oc.done=false/\oc.ended=false/\sx sum at0 M oc xs L
 fresh:∀a o,σ.ops a=some o->σ.cur≠some a->o.done=false->o.aa=0/\o.loaded=0/\o.ended=false
 pos:∀a o c oc,σ.ops a=some o->σ.cur=some c->σ.ops c=some oc->o.tgt=some c->o.sf=oc.aa->1<=oc.aa->o.next<oc.prog.length/\(oc.aa=3->∀q,q<o.next->q<oc.es.length->xs[ee oc.es q]?=some ((oc.es.getD q E0).after (kW oc.seen q)))
 sf:∀a o c,σ.ops a=some o->o.tgt=some c->∃oc,σ.ops c=some oc/\o.sf<=oc.aa
 fin:∀a o,σ.ops a=some o->o.ended=true->o.done=true
def aX.res(o:aX):Option Bool:=if o.done then some o.changed else if 4<=o.aa then some true else none
def aX.key(o:aX):List bO×Nat×Nat×Option Bool:=(o.es,o.th,o.k,o.res)
def LJ(a:Nat)(σ σ':PwS)(L L':Nat->Int):Prop:=
 (L'=L/\∀b,(σ'.ops b).map aX.key=(σ.ops b).map aX.key)\/
 ∃c oc oc',σ.ops c=some oc/\σ'.ops c=some oc'/\oc.res=none/\oc'.res=some (nu L oc.es)/\L'=(if nu L oc.es then appL L oc.es else L)/\oc'.es=oc.es/\oc'.th=oc.th/\oc'.k=oc.k/\(σ.cur=some c\/c=a)/\oc.ended=false/\∀b,b≠c->(σ'.ops b).map aX.key=(σ.ops b).map aX.key
def aX.pos(o:aX)(c s j:Nat):aX:={o with tgt:=some c,sf:=s,next:=j}
def aX.mS(o:aX)(c s:Nat):Nat:=if o.tgt=some c/\o.sf=s then o.next else 0
theorem aX.pos_at(o:aX)(c s:Nat):(if o.tgt=some c/\o.sf=s then o else{o with tgt:=some c,sf:=s,next:=0})=o.pos c s (o.mS c s):=by
 unfold aX.mS;split
 . rename_i h
   obtain⟨h1,h2⟩:=h;cases o;simp only at h1 h2;subst h1 h2;rfl
 . rfl
section
variable{sum:List Int->Int}{at0:Nat->Int}{n cnt N:Nat}{M:Nat->Prop}{σ:PwS}{xs:List Int}{L:Nat->Int}{a c:Nat}{o oc:aX}
theorem Inv.claim(h:Inv sum at0 n cnt M N σ xs L)(hc:σ.cur=none)(ha:σ.ops a=some o)(hd:o.done=false):Inv sum at0 n cnt M N {σ with cur:=some a} xs L:=by
 obtain⟨f1,f2,f3⟩:=h.fresh a o ha (by rw[hc];simp) hd;have bF:=h.ok a o ha;have hl:=bF.vv;have:=bF.l1;refine⟨h.on,h.hL,h.ok,λhe=>by simp at he,λc gh=> ?_,λb ob hb aG Hc=>h.fresh b ob hb (by rw[hc];simp) Hc,λb ob c oc hb gh bT ht hi h1=> ?_,h.sf,h.fin⟩
 . have:a=c:=by simpa using gh
   subst this;exact⟨o,ha,hd,f3, .inl ⟨f1,by omega,λj hj=>by omega,h.idle hc⟩⟩
 . have:a=c:=by simpa using gh
   subst this;rw[show oc=o by rw[show σ.ops a=some oc from bT]at ha;injection ha]at h1;omega
theorem Inv.fB(h:Inv sum at0 n cnt M N σ xs L)(ha:σ.ops a=some o)(hd:o.done=true)(bs:List Bool):Inv sum at0 n cnt M N {σ.aB a {o with ended:=true,err:=0}with busy:=bs} xs L:=by
 have fA:σ.cur≠some a:=λhc=>by
  obtain⟨oc,h1,h2,_⟩:=h.run a hc;rw[ha]at h1;injection h1 with h1;rw[h1]at hd;rw[hd]at h2;cases h2
 have key:∀b ob,(if b=a then some {o with ended:=true,err:=0}else σ.ops b)=some ob->∃kM,σ.ops b=some kM/\(ob=kM\/(b=a/\ob={o with ended:=true,err:=0}/\kM=o)):=by
  intro b ob hb;split at hb
  . rename_i jg
    injection hb with hb;exact⟨o,by rw[jg];exact ha, .inr ⟨jg,hb.symm,rfl⟩⟩
  . exact⟨ob,hb, .inl rfl⟩
 refine⟨h.on,h.hL,λb ob hb=> ?_,h.idle,λc hc=> ?_,λb ob hb aG Hc=> ?_,λb ob c oc hb hc bT ht hi h1=> ?_,λb ob c hb ht=> ?_,λb ob hb he=> ?_⟩
 . obtain⟨kM,h1,h2|⟨_,h2,h3⟩⟩:=key b ob hb
   . rw[h2];exact h.ok b kM h1
   . have:=h.ok b kM h1
     rw[h3]at this;rw[h2];exact⟨this.th,this.k,this.l1,this.l6,this.vS,this.nd,this.perm,this.sl,this.sr⟩
 . obtain⟨oc,h1,h2⟩:=h.run c hc
   refine⟨oc,?_,h2⟩;show(if c=a then _ else σ.ops c)=some oc
   rw[ax (λhe=>fA (by rw[<-he];exact hc))];exact h1
 . obtain⟨kM,h1,h2|⟨_,h2,h3⟩⟩:=key b ob hb
   . rw[h2]at Hc |-;exact h.fresh b kM h1 aG Hc
   . rw[h2]at Hc
     exact absurd Hc (by show¬o.done=false;rw[hd];simp)
 . obtain⟨oc0,g1,g2|⟨g0,_,_⟩⟩:=key c oc bT
   . rw[g2]at hi h1 |-
     obtain⟨kM,h2,h3|⟨_,h3,h4⟩⟩:=key b ob hb
     . rw[h3]at ht hi |-;exact h.pos b kM c oc0 h2 hc g1 ht hi h1
     . rw[h3]at ht hi |-
       rw[h4]at h2;exact h.pos b o c oc0 h2 hc g1 ht hi h1
   . exact absurd (by rw[<-g0];exact hc) fA
 . obtain⟨kM,h2,h3⟩:=key b ob hb
   have YO:kM.tgt=some c/\kM.sf=ob.sf:=by
    rcases h3 with h3|⟨_,h3,h4⟩
    . rw[h3]at ht |-;exact⟨ht,rfl⟩
    . rw[h3]at ht |-;rw[h4];exact⟨ht,rfl⟩
   obtain⟨oc,g1,g2⟩:=h.sf b kM c h2 YO.1;rw[YO.2]at g2;by_cases ZE:c=a
   . refine⟨{o with ended:=true,err:=0},aA ZE,?_⟩
     rw[ZE,ha]at g1;injection g1 with g1;rw[<-g1]at g2;exact g2
   . exact⟨oc,(ax ZE).trans g1,g2⟩
 . obtain⟨kM,h2,h3|⟨_,h3,h4⟩⟩:=key b ob hb
   . rw[h3]at he |-;exact h.fin b kM h2 he
   . rw[h3];exact hd
end
end
section
variable{sum:List Int->Int}{at0:Nat->Int}{n cnt N N':Nat}{M:Nat->Prop}{σ:PwS}{xs dz:List Int}{L L':Nat->Int}{a c:Nat}{o oc oc':aX}{D':aq}
theorem Inv.Pb(h:Inv sum at0 n cnt M N σ xs L)(hc:σ.cur=some c)(bT:σ.ops c=some oc)(ok':eU cnt n M oc')(t1:oc'.tgt=oc.tgt)(t2:oc'.sf=oc.sf)(t3:oc'.next=oc.next)
 (bh:oc.aa<oc'.aa\/oc'.aa=0) (Zeq:oc.aa<=oc'.aa) (he:oc'.ended=false) (dP:On D' n dz N') (hL':∀k,M k->0<=L' k/\L' k<4611686018427387904) (Rw:Option Nat)
 (cS:(Rw=some c/\oc'.done=false/\sx sum at0 M oc' dz L')\/(Rw=none/\oc'.done=true/\∀k,M k->dz[k]?=some (L' k))):
 Inv sum at0 n cnt M N' {σ.aB c oc' with dev:=D',cur:=Rw} dz L':=by
 have key:∀b ob,(if b=c then some oc' else σ.ops b)=some ob->∃kM,σ.ops b=some kM/\((b≠c/\ob=kM)\/(b=c/\ob=oc'/\kM=oc)):=by
  intro b ob hb;split at hb
  . rename_i jg
    injection hb with hb;exact⟨oc,by rw[jg];exact bT, .inr ⟨jg,hb.symm,rfl⟩⟩
  . rename_i jg
    exact⟨ob,hb, .inl ⟨jg,rfl⟩⟩
 have sg:(if c=c then some oc' else σ.ops c)=some oc':=aA rfl;refine⟨dP,hL',λb ob hb=> ?_,λh0=> ?_,λd hd=> ?_,λb ob hb aG Hc=> ?_,λb ob d od hb hd xL ht hi h1=> ?_,λb ob d hb ht=> ?_,λb ob hb U0=> ?_⟩
 . obtain⟨kM,h1,⟨_,h2⟩|⟨_,h2,_⟩⟩:=key b ob hb
   . rw[h2];exact h.ok b kM h1
   . rw[h2];exact ok'
 . rcases cS with⟨h1,_⟩|⟨_,_,h3⟩
   . rw[show Rw=none from h0]at h1;cases h1
   . exact h3
 . rcases cS with⟨h1,h2,h3⟩|⟨h1,_⟩
   . have:d=c:=by rw[h1]at hd;injection hd with hd;exact hd.symm
     subst this;exact⟨oc',sg,h2,he,h3⟩
   . rw[h1]at hd;cases hd
 . obtain⟨kM,h1,⟨h0,h2⟩|⟨h0,h2,_⟩⟩:=key b ob hb
   . rw[h2]at Hc |-;exact h.fresh b kM h1 (by rw[hc];exact λhh=>h0 (by injection hh with hh;exact hh.symm)) Hc
   . rcases cS with⟨h1,_⟩|⟨_,h3,_⟩
     . exact absurd (show Rw=some b by rw[h1,h0]) aG
     . rw[h2,h3]at Hc;cases Hc
 . rcases cS with⟨h1,_⟩|⟨h1,_⟩
   . have Hb:d=c:=by rw[h1]at hd;injection hd with hd;exact hd.symm
     subst Hb
     have Y0:od=oc':=by
      have UI:(if d=d then some oc' else σ.ops d)=some od:=xL;rw[sg]at UI;injection UI with UI;exact UI.symm
     subst Y0;obtain⟨kM,g1,g2⟩:=key b ob hb
     have g3:kM.tgt=some d/\kM.sf=ob.sf:=by
      rcases g2 with⟨_,g2⟩|⟨_,g2,g3⟩
      . rw[g2]at ht |-;exact⟨ht,rfl⟩
      . rw[g2]at ht |-;rw[g3,<-t1,<-t2];exact⟨ht,rfl⟩
     obtain⟨IK,g4,g5⟩:=h.sf b kM d g1 g3.1;rw[bT]at g4;injection g4 with g4;rw[<-g4,g3.2,hi]at g5;omega
   . rw[h1]at hd;cases hd
 . obtain⟨kM,g1,g2⟩:=key b ob hb
   have g3:kM.tgt=some d/\kM.sf=ob.sf:=by
    rcases g2 with⟨_,g2⟩|⟨_,g2,g3⟩
    . rw[g2]at ht |-;exact⟨ht,rfl⟩
    . rw[g2]at ht |-;rw[g3,<-t1,<-t2];exact⟨ht,rfl⟩
   obtain⟨od,g4,g5⟩:=h.sf b kM d g1 g3.1;rw[g3.2]at g5;by_cases Hb:d=c
   . subst Hb
     rw[bT]at g4;injection g4 with g4;exact⟨oc',sg,by rw[<-g4]at g5;omega⟩
   . exact⟨od,(ax Hb).trans g4,g5⟩
 . obtain⟨kM,h1,⟨_,h2⟩|⟨_,h2,_⟩⟩:=key b ob hb
   . rw[h2]at U0 |-;exact h.fin b kM h1 U0
   . rw[h2,he]at U0;cases U0
theorem Inv.Zco(h:Inv sum at0 n cnt M N σ xs L)(hc:σ.cur=some c)(bT:σ.ops c=some oc)(dP:On D' n dz N')(cS:sx sum at0 M oc dz L)
 (hp:oc.aa=3->∀q,q<oc.es.length->xs[ee oc.es q]?=some ((oc.es.getD q E0).after (kW oc.seen q))->dz[ee oc.es q]?=some ((oc.es.getD q E0).after (kW oc.seen q))):
 Inv sum at0 n cnt M N' {σ with dev:=D'} dz L:=by
 refine⟨dP,h.hL,h.ok,λh0=>(by rw[show σ.cur=none from h0]at hc;cases hc),λd hd=> ?_,h.fresh,λb ob d od hb hd xL ht hi h1=> ?_,h.sf,h.fin⟩
 . have Hb:d=c:=by rw[show σ.cur=some d from hd]at hc;injection hc
   subst Hb;obtain⟨IK,g1,g2,g3,g4⟩:=h.run d hc;rw[bT]at g1;injection g1 with g1;subst g1;exact⟨oc,bT,g2,g3,cS⟩
 . have Hb:d=c:=by rw[show σ.cur=some d from hd]at hc;injection hc
   subst Hb;have Y0:od=oc:=by rw[show σ.ops d=some od from xL]at bT;injection bT
   subst Y0;obtain⟨g1,g2⟩:=h.pos b ob d od hb hd xL ht hi h1;exact⟨g1,λh3 q hq gg=>hp h3 q gg (g2 h3 q hq gg)⟩
theorem Inv.Pc(h:Inv sum at0 n cnt M N σ xs L)(bT:σ.ops c=some oc)(ha:σ.ops a=some o){s j:Nat}(hs:s<=oc.aa)
 (hj:σ.cur=some c->s=oc.aa->j<oc.prog.length/\(oc.aa=3->∀q,q<j->q<oc.es.length->xs[ee oc.es q]?=some ((oc.es.getD q E0).after (kW oc.seen q)))):
 Inv sum at0 n cnt M N (σ.aB a (o.pos c s j)) xs L:=by
 have key:∀b ob,(if b=a then some (o.pos c s j)else σ.ops b)=some ob->∃kM,σ.ops b=some kM/\((b≠a/\ob=kM)\/(b=a/\ob=o.pos c s j/\kM=o)):=by
  intro b ob hb;split at hb
  . rename_i jg
    injection hb with hb;exact⟨o,by rw[jg];exact ha, .inr ⟨jg,hb.symm,rfl⟩⟩
  . rename_i jg
    exact⟨ob,hb, .inl ⟨jg,rfl⟩⟩
 have back:∀d od,σ.ops d=some od->∃od',(if d=a then some (o.pos c s j)else σ.ops d)=some od'/\od'.aa=od.aa:=by
  intro d od hd;by_cases hda:d=a
  . subst hda
    rw[ha]at hd;injection hd with hd;subst hd;exact⟨_,aA rfl,rfl⟩
  . exact⟨od,(ax hda).trans hd,rfl⟩
 refine⟨h.on,h.hL,λb ob hb=> ?_,h.idle,λd hd=> ?_,λb ob hb aG Hc=> ?_,λb ob d od hb hd xL ht hi h1=> ?_,λb ob d hb ht=> ?_,λb ob hb U0=> ?_⟩
 . obtain⟨kM,h1,⟨_,h2⟩|⟨_,h2,h3⟩⟩:=key b ob hb
   . rw[h2];exact h.ok b kM h1
   . have:=h.ok b kM h1
     rw[h3]at this;rw[h2];exact⟨this.th,this.k,this.l1,this.l6,this.vS,this.nd,this.perm,this.sl,this.sr⟩
 . obtain⟨od,g1,g2,g3,g4⟩:=h.run d hd
   by_cases hda:d=a
   . subst hda
     rw[ha]at g1;injection g1 with g1;subst g1;exact⟨_,aA rfl,g2,g3,g4⟩
   . exact⟨od,(ax hda).trans g1,g2,g3,g4⟩
 . obtain⟨kM,h1,⟨_,h2⟩|⟨h0,h2,h3⟩⟩:=key b ob hb
   . rw[h2]at Hc |-;exact h.fresh b kM h1 aG Hc
   . rw[h3]at h1
     rw[h2]at Hc |-;exact h.fresh b o h1 aG Hc
 . obtain⟨od0,e1,e2⟩:=key d od xL
   have est:od.aa=od0.aa/\od.prog=od0.prog/\od.es=od0.es/\od.seen=od0.seen:=by
    rcases e2 with⟨_,e2⟩|⟨_,e2,e3⟩
    . rw[e2];exact⟨rfl,rfl,rfl,rfl⟩
    . rw[e2,e3];exact⟨rfl,rfl,rfl,rfl⟩
   rw[est.1]at hi h1;rw[est.1,est.2.1,est.2.2.1,est.2.2.2];obtain⟨kM,g1,⟨_,g2⟩|⟨_,g2,g3⟩⟩:=key b ob hb
   . rw[g2]at ht hi |-;exact h.pos b kM d od0 g1 hd e1 ht hi h1
   . rw[g2]at ht hi |-
     have Hb:c=d:=by injection (show some c=some d from ht)
     subst Hb;have eoc:od0=oc:=by rw[e1]at bT;injection bT
     subst eoc;exact hj hd hi
 . obtain⟨kM,g1,⟨_,g2⟩|⟨_,g2,g3⟩⟩:=key b ob hb
   . rw[g2]at ht |-
     obtain⟨od,e1,e2⟩:=h.sf b kM d g1 ht;obtain⟨od',e3,e4⟩:=back d od e1;exact⟨od',e3,by omega⟩
   . rw[g2]at ht |-
     have Hb:c=d:=by injection (show some c=some d from ht)
     subst Hb;obtain⟨od',e3,e4⟩:=back c oc bT;exact⟨od',e3,by show s<=_;omega⟩
 . obtain⟨kM,h1,⟨_,h2⟩|⟨_,h2,h3⟩⟩:=key b ob hb
   . rw[h2]at U0 |-;exact h.fin b kM h1 U0
   . rw[h3]at h1
     rw[h2]at U0 |-;exact h.fin b o h1 U0
end
theorem jZ(sum:List Int->Int)(es:List bO)(seen:List Int)(h:seen.length=es.length):(uG sum es seen).length=3*es.length:=by
 unfold uG;induction es generalizing seen with
 |nil=>rfl
 |cons e es ih=>
  cases seen with
  |nil=>simp at h
  |cons v seen=>
   rw[List.zip_cons_cons,yM,dO,ih seen (by simpa using h)];simp;omega
theorem jY(b:Int)(ws:List Int):(lL b ws).length=ws.length:=by simp[lL]
theorem zj(b:Int)(ws:List Int)(p:Int×Int)(h:p∈lL b ws):∃i:Nat,i<ws.length/\p.1=b+64+8*(i:Int):=by
 unfold lL at h;rw[iJ]at h;obtain⟨⟨v,i⟩,h1,rfl⟩:=h;have:=List.mem_zipIdx h1;exact⟨i,by omega,rfl⟩
theorem ib(es:List bO)(seen:List Int)(h:seen.length=es.length):(oD es seen).length=es.length:=by simp[oD,h]
theorem Gv(es:List bO)(seen:List Int)(h:seen.length=es.length){q:Nat}(hq:q<es.length):(oD es seen).getD q (0,0)=((es.getD q E0).off,(es.getD q E0).after (kW seen q)):=by
 have wJ:q<seen.length:=by omega
 unfold oD;rw[eY,AX,dG (by simp[h,hq])];simp[kW,hq,wJ]
theorem FC(es:List bO)(seen:List Int)(h:seen.length=es.length)(p:Int×Int)(hp:p∈oD es seen):∃q,q<es.length/\p.1=(es.getD q E0).off:=by
 obtain⟨q,hq,he⟩:=y_ hp;rw[ib es seen h]at hq;have:=Gv es seen h hq;refine⟨q,hq,?_⟩;rw[eY,dG (by rw[ib es seen h];exact hq),Option.getD_some,he]at this;rw[this]
section
variable{sum:List Int->Int}{at0:Nat->Int}{n cnt N N':Nat}{M:Nat->Prop}{σ:PwS}{xs dz:List Int}{L L':Nat->Int}{a c:Nat}{o oc oc':aX}{D':aq}
theorem zg(hR:kh n cnt M at0)(h:eU cnt n M o){s:Nat}(h1:1<=s)(h4:s<=4):∃ws,o.bS sum at0 s=bN ws/\(∀p∈ws,∃k:Nat,k<8*n/\p.1=8*(k:Int))/\
 (s≠3->∀p∈ws,∀k:Nat,p.1=8*(k:Int)->¬M k)/\(s=3->ws=oD o.es o.seen)/\1<=ws.length/\ws.length<=18:=by
 obtain⟨b,hb,hbj⟩:=hR.2 o.k h.k;have jB:=h.l1;have UO:=h.l6;by_cases e1:s=1
 . refine⟨_,by unfold aX.bS;rw[aA e1],λp hp=> ?_,λ_ p hp k hk=> ?_,λhh=>by omega,?_,?_⟩
   . obtain⟨i,hi,he⟩:=zj _ _ p hp
     rw[jZ sum _ _ h.sl]at hi;exact⟨b+(8+i),(hbj (8+i) ae).1,by rw[he,hb];omega⟩
   . obtain⟨i,hi,he⟩:=zj _ _ p hp
     rw[jZ sum _ _ h.sl]at hi;rw[show k=b+(8+i) by omega];exact(hbj (8+i) ae).2
   . rw[jY,jZ sum _ _ h.sl];omega
   . rw[jY,jZ sum _ _ h.sl];omega
 . by_cases e2:s=2
   . refine⟨_,by unfold aX.bS;rw[ax e1,aA e2],λp hp=> ?_,λ_ p hp k hk=> ?_,λhh=>by omega,by simp,by simp⟩
     . rw[gH]at hp
       exact⟨b+0,(hbj 0 ae).1,by rw[hp];exact hb⟩
     . rw[gH]at hp
       rw[hp]at hk;rw[show k=b+0 by have:at0 o.k=8*(k:Int):=hk;omega];exact(hbj 0 ae).2
   . by_cases e3:s=3
     . refine⟨_,by unfold aX.bS;rw[ax e1,ax e2,aA e3],λp hp=> ?_,λhh=>absurd e3 hh,λ_=>rfl,?_,?_⟩
       . obtain⟨q,hq,he⟩:=FC _ _ h.sl p hp
         exact⟨_,(h.wd hq).2.1,by rw[he];exact(h.wd hq).2.2⟩
       . rw[ib _ _ h.sl];omega
       . rw[ib _ _ h.sl];omega
     . refine⟨_,by unfold aX.bS;rw[ax e1,ax e2,ax e3],λp hp=> ?_,λ_ p hp k hk=> ?_,λhh=>by omega,by simp,by simp⟩
       . rw[gH]at hp
         exact⟨b+0,(hbj 0 ae).1,by rw[hp];exact hb⟩
       . rw[gH]at hp
         rw[hp]at hk;rw[show k=b+0 by have:at0 o.k=8*(k:Int):=hk;omega];exact(hbj 0 ae).2
end
section
variable{sum:List Int->Int}{at0:Nat->Int}{n cnt N N':Nat}{M:Nat->Prop}{σ:PwS}{xs dz:List Int}{L L':Nat->Int}{a c:Nat}{o oc oc':aX}{D':aq}
theorem sx.info(h:sx sum at0 M oc xs L)(h1:oc.aa≠0):1<=oc.aa/\oc.aa<=4/\oc.prog=oc.bS sum at0 oc.aa:=by
 rcases h with⟨h,_⟩|⟨h,_,h2,_⟩|⟨h,_,h2,_⟩|⟨h,h2,_⟩
 . exact absurd h h1
 . exact⟨by omega,by omega,h2⟩
 . exact⟨by omega,by omega,by rw[h];exact h2⟩
 . exact⟨by omega,by omega,by rw[h];exact h2⟩
theorem PwS.ext'{σ τ:PwS}(h1:σ.dev=τ.dev)(h2:σ.busy=τ.busy)(h3:σ.cur=τ.cur)(h4:∀b,σ.ops b=τ.ops b):σ=τ:=by
 cases σ;cases τ;simp only at h1 h2 h3 h4;rw[h1,h2,h3,funext h4]
structure Xw(M:Nat->Prop)(oc:aX)(j:Nat)(xs dz:List Int):Prop where
 out:∀k,M k->oc.aa≠3->dz[k]?=xs[k]?
 other:∀k,M k->(∀q,q<oc.es.length->ee oc.es q≠k)->dz[k]?=xs[k]?
 aft:oc.aa=3->∀q,q<oc.es.length->xs[ee oc.es q]?=some ((oc.es.getD q E0).after (kW oc.seen q))->dz[ee oc.es q]?=some ((oc.es.getD q E0).after (kW oc.seen q))
 or_:oc.aa=3->∀q,q<oc.es.length->∀v,xs[ee oc.es q]?=some v->dz[ee oc.es q]?=some v\/dz[ee oc.es q]?=some ((oc.es.getD q E0).after (kW oc.seen q))
 now:oc.aa=3->j<oc.es.length->dz[ee oc.es j]?=some ((oc.es.getD j E0).after (kW oc.seen j))
theorem K4(hR:kh n cnt M at0)(bF:eU cnt n M oc)(hx:xs.length=8*n)(h1:1<=oc.aa)(h4:oc.aa<=4)(hp:oc.prog=oc.bS sum at0 oc.aa){j:Nat}(hj:j<oc.prog.length):
 Hy n (oc.prog.getD j (0,0,0))/\Xw M oc j xs (FM xs (oc.prog.getD j (0,0,0)))/\(oc.aa=3->j+1=oc.prog.length->oc.es.length<=j)/\oc.prog.length<=37:=by
 obtain⟨ws,hw,hv,hu,h3,jB,ZeK⟩:=zg (sum:=sum) hR bF h1 h4;rw[hp,hw]at hj |-;have hl:=lA (ws:=ws);have Hd:=Aa (oU (starts ws));have oK:(oU (starts ws)).length=ws.length:=by rw[pN];simp[starts]
 have F2:0<n:=by
  cases ws with
  |nil=>simp at jB
  |cons p ws=>obtain⟨k,hk,_⟩:=hv p smQ;omega
 have He:oc.aa=3->ws.length=oc.es.length:=λe=>by rw[h3 e,ib _ _ bF.sl]
 have vJ:(bN ws).getD j (0,0,0)∈bN ws:=by
  rw[eY,dG hj];exact fq hj
 refine⟨Mb hv F2 _ vJ,?_,λe hh=> ?_,by omega⟩
 . by_cases hjw:j<ws.length
   . have hg:=Im hjw
     rw[hg]
     have YJ:ws.getD j (0,0)∈ws:=by
      rw[eY,dG hjw];exact fq hjw
     obtain⟨p,hpe⟩:=aH (ws.getD j (0,0));rw[hpe]at YJ |-;obtain⟨kp,hkp,QQ⟩:=hv p YJ
     have tj:FM xs (1,p.1,p.2)=xs.set kp p.2:=by
      unfold FM;rw[aA rfl];show xs.set (p.1/8).toNat p.2=_;rw[QQ];congr 1;omega
     rw[tj];have aG:∀k,kp≠k->(xs.set kp p.2)[k]?=xs[k]?:=λk hk=>rE hk
     have heq:(xs.set kp p.2)[kp]?=some p.2:=by rw[nX ae]
     have h3p:oc.aa=3->kp=ee oc.es j/\p.2=(oc.es.getD j E0).after (kW oc.seen j)/\j<oc.es.length:=λe=>by
      have oZ:j<oc.es.length:=by rw[<-He e];exact hjw
      rw[h3 e,Gv _ _ bF.sl oZ]at hpe;refine⟨?_,by rw[<-hpe],oZ⟩;unfold ee;rw[<-hpe]at QQ;have:(oc.es.getD j E0).off=8*(kp:Int):=QQ;omega
     refine⟨λk hk he=>aG k (λhh=>hu he p YJ kp QQ (by rw[hh];exact hk)),λk hk ho=> ?_,λe q hq hv'=> ?_,λe q hq v hv'=> ?_,λe oZ=> ?_⟩
     . by_cases e:oc.aa=3
       . exact aG k (λhh=>ho j (h3p e).2.2 (by rw[<-(h3p e).1];exact hh))
       . exact aG k (λhh=>hu e p YJ kp QQ (by rw[hh];exact hk))
     . obtain⟨g1,g2,g3⟩:=h3p e
       by_cases Ja:q=j
       . subst Ja;rw[<-g1,heq,g2]
       . rw[aG _ (λhh=>Ja (bF.inj hq g3 (by rw[<-hh,g1])))];exact hv'
     . obtain⟨g1,g2,g3⟩:=h3p e
       by_cases Ja:q=j
       . subst Ja;right;rw[<-g1,heq,g2]
       . left;rw[aG _ (λhh=>Ja (bF.inj hq g3 (by rw[<-hh,g1])))];exact hv'
     . obtain⟨g1,g2,g3⟩:=h3p e
       rw[<-g1,heq,g2]
   . have hs:FM xs ((bN ws).getD j (0,0,0))=xs:=by
      unfold FM;rw[ax (Io ae)]
     rw[hs];exact⟨λ_ _ _=>rfl,λ_ _ _=>rfl,λ_ _ _ h=>h,λ_ _ _ v h=> .inl h,λe oZ=>absurd (He e) ae⟩
 . have:=He e
   have:1<=(kj (oU (starts ws))).length:=by
    cases ws with
    |nil=>simp at jB
    |cons p ws=>
     have:cG p.1∈kj (oU (starts (p::ws))):=by rw[qb,FB];simp[starts]
     exact List.length_pos_of_mem this
   omega
theorem Inv.mS(h:Inv sum at0 n cnt M N σ xs L)(ha:σ.ops a=some o)(hc:σ.cur=some c)(bT:σ.ops c=some oc)(h1:1<=oc.aa)(hl:0<oc.prog.length):
 o.mS c oc.aa<oc.prog.length/\(oc.aa=3->∀q,q<o.mS c oc.aa->q<oc.es.length->xs[ee oc.es q]?=some ((oc.es.getD q E0).after (kW oc.seen q))):=by
 unfold aX.mS;split
 . rename_i hh
   exact h.pos a o c oc ha hc bT hh.1 hh.2 h1
 . exact⟨hl,λ_ q hq=>by omega⟩
theorem sx.ins(h:sx sum at0 M oc xs L)(h1:oc.aa≠0){j:Nat}(hI:Xw M oc j xs dz)(bF:eU cnt n M oc):sx sum at0 M oc dz L:=by
 rcases h with⟨h,_⟩|⟨h,h2,h3,h4⟩|⟨h,h2,h3,h4,h5⟩|⟨h,h2,h3⟩
 . exact absurd h h1
 . exact .inr (.inl ⟨h,h2,h3,λk hk=>(hI.out k hk ae).trans (h4 k hk)⟩)
 . refine .inr (.inr (.inl ⟨h,h2,h3,λk hk ho=>(hI.other k hk ho).trans (h4 k hk ho),λq hq=> ?_⟩))
   rcases h5 q hq with h6|h6
   . exact hI.or_ h q hq _ h6
   . exact .inr (hI.aft h q hq h6)
 . exact .inr (.inr (.inr ⟨h,h2,λk hk=>(hI.out k hk ae).trans (h3 k hk)⟩))
theorem JQ(σ:PwS)(a:Nat)(o:aX)(c:Nat)(oc:aX)(hs:oc.aa≠0)(cM:((σ.dev.cW o.th (oc.prog.getD (o.mS c oc.aa) (0,0,0))).a8 o.th).err=0):
 σ.ry sum at0 a o c oc=if o.mS c oc.aa+1=oc.prog.length then(({σ with dev:=σ.dev.cW o.th (oc.prog.getD (o.mS c oc.aa) (0,0,0))}:PwS).aB a (o.pos c oc.aa (o.mS c oc.aa+1))).enter sum at0 c (if c=a then o.pos c oc.aa (o.mS c oc.aa+1)else oc) (oc.aa+1)
  else({σ with dev:=σ.dev.cW o.th (oc.prog.getD (o.mS c oc.aa) (0,0,0))}:PwS).aB a (o.pos c oc.aa (o.mS c oc.aa+1)):=by
 unfold PwS.ry;rw[ax hs,aX.pos_at];obtain⟨j,hj⟩:=aH (o.mS c oc.aa);rw[hj]at cM |-;have e1:(o.pos c oc.aa j).next=j:=rfl;simp only[e1];rw[ax (by show¬((σ.dev.cW o.th (oc.prog.getD j (0,0,0))).a8 o.th).err≠0;rw[cM];simp)]
 have e2:({σ.aB a (o.pos c oc.aa j)with dev:=σ.dev.cW o.th (oc.prog.getD j (0,0,0))}:PwS).aB a {o.pos c oc.aa j with next:=j+1}=({σ with dev:=σ.dev.cW o.th (oc.prog.getD j (0,0,0))}:PwS).aB a (o.pos c oc.aa (j+1)):=by
  refine PwS.ext' rfl rfl rfl (λb=> ?_);show(if b=a then _ else if b=a then _ else σ.ops b)=if b=a then _ else σ.ops b
  split
  . rfl
  . rfl
 rw[e2];rfl
theorem xH(o:aX)(c s j:Nat):(o.pos c s j).key=o.key:=rfl
theorem jq(σ:PwS)(ha:σ.ops a=some o)(h:oc'.key=o.key)(b:Nat):((σ.aB a oc').ops b).map aX.key=(σ.ops b).map aX.key:=by
 show(if b=a then some oc' else σ.ops b).map aX.key=_
 split
 . rename_i hb;rw[hb,ha];simp[h]
 . rfl
theorem stored(bF:eU cnt n M oc)(h:sx sum at0 M oc xs L)(h3:oc.aa=3)(aS:∀q,q<oc.es.length->xs[ee oc.es q]?=some ((oc.es.getD q E0).after (kW oc.seen q))):nu L oc.es=true/\∀k,M k->xs[k]?=some (appL L oc.es k):=by
 rcases h with⟨h,_⟩|⟨h,_⟩|⟨h,h2,_,h4,_⟩|⟨h,_⟩
 . omega
 . omega
 . refine⟨by unfold nu;rw[ir];intro q hq;exact(h2 q (by simpa using hq)).2,λk hk=> ?_⟩
   by_cases hq:∃q,q<oc.es.length/\ee oc.es q=k
   . obtain⟨q,hq,rfl⟩:=hq
     rw[aS q hq,Lx bF hq,(h2 q hq).1]
   . rw[xY (λq wJ he=>hq ⟨q,wJ,he⟩)]
     exact h4 k hk (λq wJ he=>hq ⟨q,wJ,he⟩)
 . omega
theorem JM(bF:eU cnt n M oc)(hL:∀k,M k->0<=L k/\L k<4611686018427387904):∀k,M k->0<=appL L oc.es k/\appL L oc.es k<4611686018427387904:=by
 intro k hk;by_cases hq:∃q,q<oc.es.length/\ee oc.es q=k
 . obtain⟨q,hq,rfl⟩:=hq
   rw[Lx bF hq];exact bO.qF _ _ (bF.at_ hq).new
 . rw[xY (λq wJ he=>hq ⟨q,wJ,he⟩)];exact hL k hk
theorem Inv.ZdG(h:Inv sum at0 n cnt M N σ xs L)(hR:kh n cnt M at0)(hN:N<1000000)(ha:σ.ops a=some o)(hc:σ.cur=some c)(bT:σ.ops c=some oc)(hs:oc.aa≠0):
 ∃dz L',Inv sum at0 n cnt M (N+1) (σ.ry sum at0 a o c oc) dz L'/\LJ a σ (σ.ry sum at0 a o c oc) L L':=by
 obtain⟨IK,g1,g2,g3,g4⟩:=h.run c hc;rw[bT]at g1;injection g1 with g1;subst g1;obtain⟨h1,h4,hp⟩:=g4.info hs;have bF:=h.ok c oc bT;obtain⟨ws,hw,_⟩:=zg (sum:=sum) hR bF h1 h4;have vK:0<oc.prog.length:=by rw[hp,hw,lA];omega
 obtain⟨hj,Zq⟩:=h.mS ha hc bT h1 vK;have bQ:=(h.ok a o ha).th;obtain⟨j,UT⟩:=aH (o.mS c oc.aa);obtain⟨hv,hI,iQ,_⟩:=K4 (sum:=sum) (xs:=xs) hR bF h.on.length h1 h4 hp (j:=j) (by rw[<-UT];exact hj);have dP:=h.on.ins o.th bQ hN hv;have zI:=g4.ins hs hI bF;have hD:=h.Zco hc bT dP zI hI.aft;rw[JQ σ a o c oc hs (by rw[UT];exact dP.err _)];rw[UT]at hj Zq |-;obtain⟨dz,SB⟩:=aH (FM xs (oc.prog.getD j (0,0,0)));obtain⟨D',M_⟩:=aH (σ.dev.cW o.th (oc.prog.getD j (0,0,0)));rw[SB]at hI dP zI hD;rw[M_]at dP hD |-
 have MO:oc.aa=3->∀q,q<j+1->q<oc.es.length->dz[ee oc.es q]?=some ((oc.es.getD q E0).after (kW oc.seen q)):=λe q hq gg=>by
  by_cases Ja:q=j
  . subst Ja;exact hI.now e gg
  . exact hI.aft e q gg (Zq e q ae gg)
 by_cases oZ:j+1=oc.prog.length
 . rw[aA oZ]
   unfold PwS.enter;by_cases zN:oc.aa+1<=4
   . rw[aA zN]
     have mk:∀L',(∀k,M k->0<=L' k/\L' k<4611686018427387904)->sx sum at0 M {oc with aa:=oc.aa+1,prog:=oc.bS sum at0 (oc.aa+1)} dz L'->
      Inv sum at0 n cnt M (N+1) ((({σ with dev:=D'}:PwS).aB a (o.pos c oc.aa (j+1))).aB c {(if c=a then o.pos c oc.aa (j+1)else oc)with aa:=oc.aa+1,prog:=(if c=a then o.pos c oc.aa (j+1)else oc).bS sum at0 (oc.aa+1)}) dz L':=by
      intro L' hL' Zdx;have hC:=hD.Pb (oc':={oc with aa:=oc.aa+1,prog:=oc.bS sum at0 (oc.aa+1)}) hc bT ⟨bF.th,bF.k,bF.l1,bF.l6,bF.vS,bF.nd,bF.perm,bF.sl,bF.sr⟩ rfl rfl rfl (.inl (Nat.lt_succ_self _)) (lM _) g3 dP hL' (some c) (.inl ⟨rfl,g2,Zdx⟩);by_cases fA:c=a
      . subst fA
        rw[ha]at bT;injection bT with bT;subst bT;have hA:=hC.Pc (c:=c) (a:=c) (oc:={o with aa:=o.aa+1,prog:=o.bS sum at0 (o.aa+1)}) (o:={o with aa:=o.aa+1,prog:=o.bS sum at0 (o.aa+1)}) (s:=o.aa) (j:=j+1) (aA rfl) (aA rfl) (lM _) (λ_ he=>absurd he (by show¬o.aa=o.aa+1;omega))
        have e:(((({σ with dev:=D'}:PwS).aB c (o.pos c o.aa (j+1))).aB c {(if c=c then o.pos c o.aa (j+1)else o)with aa:=o.aa+1,prog:=(if c=c then o.pos c o.aa (j+1)else o).bS sum at0 (o.aa+1)}))=({({σ with dev:=D'}:PwS).aB c {o with aa:=o.aa+1,prog:=o.bS sum at0 (o.aa+1)}with dev:=D',cur:=some c}:PwS).aB c (aX.pos {o with aa:=o.aa+1,prog:=o.bS sum at0 (o.aa+1)} c o.aa (j+1)):=by
         refine PwS.ext' rfl rfl hc (λb=> ?_);show(if b=c then _ else if b=c then _ else σ.ops b)=if b=c then _ else if b=c then _ else σ.ops b
         rw[aA rfl];split<;>rfl
        rw[e];exact hA
      . have hA:=hC.Pc (c:=c) (a:=a) (oc:={oc with aa:=oc.aa+1,prog:=oc.bS sum at0 (oc.aa+1)}) (o:=o) (s:=oc.aa) (j:=j+1) (aA rfl) ((ax (λhe=>fA he.symm)).trans ha) (lM _) (λ_ he=>absurd he (by show¬oc.aa=oc.aa+1;omega))
        have e:(((({σ with dev:=D'}:PwS).aB a (o.pos c oc.aa (j+1))).aB c {(if c=a then o.pos c oc.aa (j+1)else oc)with aa:=oc.aa+1,prog:=(if c=a then o.pos c oc.aa (j+1)else oc).bS sum at0 (oc.aa+1)}))=({({σ with dev:=D'}:PwS).aB c {oc with aa:=oc.aa+1,prog:=oc.bS sum at0 (oc.aa+1)}with dev:=D',cur:=some c}:PwS).aB a (o.pos c oc.aa (j+1)):=by
         refine PwS.ext' rfl rfl hc (λb=> ?_);show(if b=c then _ else if b=a then _ else σ.ops b)=if b=a then _ else if b=c then _ else σ.ops b
         rw[ax fA];by_cases hb:b=c
         . subst hb;rw[aA rfl,ax fA,aA rfl]
         . rw[ax hb,ax hb]
        rw[e];exact hA
     have zG:∀v,({(if c=a then o.pos c oc.aa (j+1)else oc)with aa:=oc.aa+1,prog:=(if c=a then o.pos c oc.aa (j+1)else oc).bS sum at0 (oc.aa+1)}:aX).key=(oc.es,oc.th,oc.k,v)↔({oc with aa:=oc.aa+1,prog:=oc.bS sum at0 (oc.aa+1)}:aX).key=(oc.es,oc.th,oc.k,v):=by
      intro v;by_cases fA:c=a
      . subst fA
        rw[ha]at bT;injection bT with bT;subst bT;rw[aA rfl];exact Iff.rfl
      . rw[ax fA]
     by_cases h3:oc.aa=3
     . obtain⟨s1,s2⟩:=stored bF zI h3 (λq hq=>MO h3 q (by have:=iQ h3 oZ;omega) hq)
       have hr:({oc with aa:=oc.aa+1,prog:=oc.bS sum at0 (oc.aa+1)}:aX).key=(oc.es,oc.th,oc.k,some true):=by
        show(oc.es,oc.th,oc.k,_)=_
        unfold aX.res;rw[ax (by show¬oc.done=true;rw[g2];simp),aA (by show 4<=oc.aa+1;omega)]
       have fC:=(zG _).2 hr;refine⟨dz,appL L oc.es,mk _ (JM bF h.hL) (.inr (.inr (.inr ⟨by show oc.aa+1=4;omega,by rw[show oc.aa+1=4 by omega];rfl,s2⟩))), .inr ⟨c,oc,_,bT,aA rfl,?_,?_,?_,?_,?_,?_, .inl hc,g3,λb hb=> ?_⟩⟩
       . unfold aX.res;rw[ax (by rw[g2];simp),ax ae]
       . rw[s1];exact bP (λx=>x.2.2.2) fC
       . rw[s1];rfl
       . exact bP (λx=>x.1) fC
       . exact bP (λx=>x.2.1) fC
       . exact bP (λx=>x.2.2.1) fC
       . show(if b=c then _ else((({σ with dev:=D'}:PwS).aB a (o.pos c oc.aa (j+1))).ops b)).map aX.key=_
         rw[ax hb];exact jq ({σ with dev:=D'}:PwS) ha (xH _ _ _ _) b
     . have hr:({oc with aa:=oc.aa+1,prog:=oc.bS sum at0 (oc.aa+1)}:aX).key=(oc.es,oc.th,oc.k,none):=by
        show(oc.es,oc.th,oc.k,_)=_
        unfold aX.res;rw[ax (by show¬oc.done=true;rw[g2];simp),ax (by show¬4<=oc.aa+1;omega)]
       have NU:oc.key=(oc.es,oc.th,oc.k,none):=by
        show(oc.es,oc.th,oc.k,_)=_
        unfold aX.res;rw[ax (by rw[g2];simp),ax ae]
       have fC:=(zG _).2 hr;refine⟨dz,L,mk _ h.hL ?_, .inl ⟨rfl,λb=> ?_⟩⟩
       . rcases zI with⟨e,_⟩|⟨e,f2,f3,f4⟩|⟨e,_⟩|⟨e,_⟩
         . exact absurd e hs
         . by_cases e1:oc.aa=1
           . exact .inr (.inl ⟨.inr (by show oc.aa+1=2;omega),f2,rfl,f4⟩)
           . refine .inr (.inr (.inl ⟨by show oc.aa+1=3;omega,f2,by rw[show oc.aa+1=3 by omega];rfl,λk hk _=>f4 k hk,λq hq=> .inl (f4 _ (bF.wd hq).1)⟩))
         . exact absurd e h3
         . omega
       . show(if b=c then some _ else((({σ with dev:=D'}:PwS).aB a (o.pos c oc.aa (j+1))).ops b)).map aX.key=_
         by_cases hb:b=c
         . subst hb
           rw[aA rfl,bT,Option.map_some,Option.map_some,fC,NU]
         . rw[ax hb]
           exact jq ({σ with dev:=D'}:PwS) ha (xH _ _ _ _) b
   . rw[ax zN]
     have h44:oc.aa=4:=by omega
     unfold PwS.fin
     have hM:∀k,M k->dz[k]?=some (L k):=by
      rcases zI with⟨e,_⟩|⟨e,_⟩|⟨e,_⟩|⟨e,_,f⟩
      . omega
      . omega
      . omega
      . exact f
     have hC:=hD.Pb (oc':={oc with aa:=oc.aa+1,done:=true,changed:=true}) hc bT ⟨bF.th,bF.k,bF.l1,bF.l6,bF.vS,bF.nd,bF.perm,bF.sl,bF.sr⟩ rfl rfl rfl (.inl (Nat.lt_succ_self _)) (lM _) g3 dP h.hL none (.inr ⟨rfl,rfl,hM⟩)
     have NU:oc.key=(oc.es,oc.th,oc.k,some true):=by
      show(oc.es,oc.th,oc.k,_)=_
      unfold aX.res;rw[ax (by rw[g2];simp),aA ae]
     by_cases fA:c=a
     . subst fA
       rw[ha]at bT;injection bT with bT;subst bT;have hA:=hC.Pc (c:=c) (a:=c) (oc:={o with aa:=o.aa+1,done:=true,changed:=true}) (o:={o with aa:=o.aa+1,done:=true,changed:=true}) (s:=o.aa) (j:=j+1) (aA rfl) (aA rfl) (lM _) (λhh=>by cases hh);refine⟨dz,L,?_, .inl ⟨rfl,λb=> ?_⟩⟩
       . have e:({(({σ with dev:=D'}:PwS).aB c (o.pos c o.aa (j+1))).aB c {{(if c=c then o.pos c o.aa (j+1)else o)with aa:=o.aa+1}with done:=true,changed:=true}with cur:=none}:PwS)=({({σ with dev:=D'}:PwS).aB c {o with aa:=o.aa+1,done:=true,changed:=true}with dev:=D',cur:=none}:PwS).aB c (aX.pos {o with aa:=o.aa+1,done:=true,changed:=true} c o.aa (j+1)):=by
          refine PwS.ext' rfl rfl rfl (λb=> ?_);show(if b=c then _ else if b=c then _ else σ.ops b)=if b=c then _ else if b=c then _ else σ.ops b
          rw[aA rfl];split<;>rfl
         rw[e];exact hA
       . show(if b=c then some _ else if b=c then _ else σ.ops b).map aX.key=_
         by_cases hb:b=c
         . subst hb
           rw[aA rfl,aA rfl,ha,Option.map_some,Option.map_some,NU];rfl
         . rw[ax hb,ax hb]
     . have hA:=hC.Pc (c:=c) (a:=a) (oc:={oc with aa:=oc.aa+1,done:=true,changed:=true}) (o:=o) (s:=oc.aa) (j:=j+1) (aA rfl) ((ax (λhe=>fA he.symm)).trans ha) (lM _) (λhh=>by cases hh)
       refine⟨dz,L,?_, .inl ⟨rfl,λb=> ?_⟩⟩
       . have e:({(({σ with dev:=D'}:PwS).aB a (o.pos c oc.aa (j+1))).aB c {{(if c=a then o.pos c oc.aa (j+1)else oc)with aa:=oc.aa+1}with done:=true,changed:=true}with cur:=none}:PwS)=({({σ with dev:=D'}:PwS).aB c {oc with aa:=oc.aa+1,done:=true,changed:=true}with dev:=D',cur:=none}:PwS).aB a (o.pos c oc.aa (j+1)):=by
          refine PwS.ext' rfl rfl rfl (λb=> ?_);show(if b=c then _ else if b=a then _ else σ.ops b)=if b=a then _ else if b=c then _ else σ.ops b
          rw[ax fA];by_cases hb:b=c
          . subst hb;rw[aA rfl,ax fA,aA rfl]
          . rw[ax hb,ax hb]
         rw[e];exact hA
       . show(if b=c then some _ else if b=a then _ else σ.ops b).map aX.key=_
         by_cases hb:b=c
         . subst hb
           rw[aA rfl,ax fA,bT,Option.map_some,Option.map_some,NU];rfl
         . rw[ax hb]
           exact jq ({σ with dev:=D'}:PwS) ha (xH _ _ _ _) b
 . rw[ax oZ]
   refine⟨dz,L,hD.Pc bT ha (a_ _) (λ_ _=>⟨by omega,MO⟩), .inl ⟨rfl,λb=>jq ({σ with dev:=D'}:PwS) ha (xH _ _ _ _) b⟩⟩
end
section
variable{sum:List Int->Int}{at0:Nat->Int}{n cnt N N':Nat}{M:Nat->Prop}{σ σ' Ed:PwS}{xs dz:List Int}{L L':Nat->Int}{a c:Nat}{o oc oc':aX}{D D':aq}
theorem Inv.mono(h:Inv sum at0 n cnt M N σ xs L)(hN:N<=N'):Inv sum at0 n cnt M N' σ xs L:=⟨h.on.mono hN,h.hL,h.ok,h.idle,h.run,h.fresh,h.pos,h.sf,h.fin⟩
theorem On.Dt(h:On D n xs N){k:Nat}(hk:k<8*n){v:Int}(hv:xs[k]?=some v)(i:Nat):D.on i (D.cQ (8*(k:Int)))=D/\D.load (8*(k:Int))=v:=by
 have hw:D.cQ (8*(k:Int))=true:=by unfold aq.cQ;rw[h.nl];simp;omega
 refine⟨by unfold aq.on;rw[h.off,hw];simp,?_⟩;unfold aq.load;rw[hw,show D.Dn true=true by simp[aq.Dn,h.off],aA rfl,h.cur,show(8*(k:Int)/8).toNat=k by omega,hv];rfl
theorem Ds(h:On σ.dev n xs N){q k i:Nat}(hq:oc.order.getD oc.loaded 0=q)(hk:(oc.es.getD q E0).off=8*(k:Int))(zF:k<8*n){v:Int}(hv:xs[k]?=some v):
 σ.load sum at0 c oc i=if(oc.es.getD q E0).sat v then(if oc.loaded+1=oc.order.length then(σ.aB c {oc with seen:=oc.seen.set q v,loaded:=oc.loaded+1}).enter sum at0 c {oc with seen:=oc.seen.set q v,loaded:=oc.loaded+1} 1 else σ.aB c {oc with seen:=oc.seen.set q v,loaded:=oc.loaded+1})else σ.fin c oc false:=by
 obtain⟨e1,e2⟩:=h.Dt zF hv i;unfold PwS.load;simp only[hq];rw[show(oc.es.getD q ⟨0,0,0,false⟩)=oc.es.getD q E0 from rfl,hk,e1,e2];have e3:({σ with dev:=σ.dev}:PwS)=σ:=rfl;rw[e3,ax (by rw[h.err];simp)]
theorem Lk{ys:List Int}{q:Nat}(hq:q<ys.length)(v:Int)(p:Nat):kW (ys.set q v) p=if p=q then v else kW ys p:=by
 unfold kW;by_cases hp:p=q
 . subst hp;simp[hq]
 . simp[De,hp,show¬q=p from λh=>hp h.symm]
theorem Inv.Zbe(h:Inv sum at0 n cnt M N σ xs L)(hc:σ.cur=some c)(bT:σ.ops c=some oc)(hs:oc.aa=0)(i:Nat):
 Inv sum at0 n cnt M N (σ.load sum at0 c oc i) xs L/\LJ a σ (σ.load sum at0 c oc i) L L:=by
 obtain⟨IK,g1,g2,g3,g4⟩:=h.run c hc;rw[bT]at g1;injection g1 with g1;subst g1;have bF:=h.ok c oc bT;have NU:oc.res=none:=by unfold aX.res;rw[ax (by rw[g2];simp),ax ae]
 rcases g4 with⟨_,hl,AE,hM⟩|⟨e,_⟩|⟨e,_⟩|⟨e,_⟩;rotate_left
 . omega
 . omega
 . omega
 obtain⟨q,hq⟩:=aH (oc.order.getD oc.loaded 0);have gg:q<oc.es.length:=by rw[<-hq];exact bF.qQ hl
 obtain⟨w1,w2,w3⟩:=bF.wd gg;have hv:=hM _ w1;rw[Ds h.on hq w3 w2 hv];have SH:q<oc.seen.length:=by rw[bF.sl];exact gg
 have MW:=Lk SH (L (ee oc.es q));cases rF:(oc.es.getD q E0).sat (L (ee oc.es q))with
 |false=>
  rw[ax smQ];unfold PwS.fin;have hC:=h.Pb (oc':={oc with done:=true,changed:=false}) hc bT ⟨bF.th,bF.k,bF.l1,bF.l6,bF.vS,bF.nd,bF.perm,bF.sl,bF.sr⟩ rfl rfl rfl (.inr hs) (a_ _) g3 h.on h.hL none (.inr ⟨rfl,rfl,hM⟩)
  have hf:nu L oc.es=false:=by
   unfold nu;rw[List.all_eq_false];exact⟨q,by simpa using gg,by rw[rF];simp⟩
  refine⟨hC, .inr ⟨c,oc,{oc with done:=true,changed:=false},bT,aA rfl,NU,by rw[hf];rfl,by rw[hf];rfl,rfl,rfl,rfl, .inl hc,g3,λb hb=> ?_⟩⟩;show(if b=c then _ else σ.ops b).map aX.key=_
  rw[ax hb]
 |true=>
  rw[aA rfl]
  have YZ:eU cnt n M {oc with seen:=oc.seen.set q (L (ee oc.es q)),loaded:=oc.loaded+1}:=by
   refine⟨bF.th,bF.k,bF.l1,bF.l6,bF.vS,bF.nd,bF.perm,by show(oc.seen.set _ _).length=_;rw[lO];exact bF.sl,λp=> ?_⟩;show 0<=kW (oc.seen.set _ _) p/\kW (oc.seen.set _ _) p<_
   rw[MW];split
   . exact h.hL _ w1
   . exact bF.sr p
  have WH:∀j,j<oc.loaded+1->kW (oc.seen.set q (L (ee oc.es q))) (oc.order.getD j 0)=L (ee oc.es (oc.order.getD j 0))/\(oc.es.getD (oc.order.getD j 0) E0).sat (L (ee oc.es (oc.order.getD j 0)))=true:=by
   intro j hj;by_cases oZ:j=oc.loaded
   . subst oZ
     rw[hq,MW,aA rfl];exact⟨rfl,rF⟩
   . have aG:oc.order.getD j 0≠q:=λhe=>oZ (bF.Mu ae hl (by rw[he,hq]))
     rw[MW,ax aG];exact AE j ae
  by_cases iQ:oc.loaded+1=oc.order.length
  . rw[aA iQ]
    unfold PwS.enter;rw[aA ae]
    have hC:=h.Pb (oc':={oc with seen:=oc.seen.set q (L (ee oc.es q)),loaded:=oc.loaded+1,aa:=1,prog:=({oc with seen:=oc.seen.set q (L (ee oc.es q)),loaded:=oc.loaded+1}:aX).bS sum at0 1}) hc bT ⟨bF.th,bF.k,bF.l1,bF.l6,bF.vS,bF.nd,bF.perm,YZ.sl,YZ.sr⟩ rfl rfl rfl (.inl (by show oc.aa<1;omega)) (by show oc.aa<=1;omega) g3 h.on h.hL (some c)
     (.inl ⟨rfl,g2, .inr (.inl ⟨.inl rfl,λp hp=>by
       obtain⟨j,hj,he⟩:=bF.Mv (q:=p) hp;have:=WH j ae;rw[he]at this;exact this,rfl,hM⟩)⟩)
    have e:(σ.aB c {oc with seen:=oc.seen.set q (L (ee oc.es q)),loaded:=oc.loaded+1}).aB c {{oc with seen:=oc.seen.set q (L (ee oc.es q)),loaded:=oc.loaded+1}with aa:=1,prog:=({oc with seen:=oc.seen.set q (L (ee oc.es q)),loaded:=oc.loaded+1}:aX).bS sum at0 1}={σ.aB c {oc with seen:=oc.seen.set q (L (ee oc.es q)),loaded:=oc.loaded+1,aa:=1,prog:=({oc with seen:=oc.seen.set q (L (ee oc.es q)),loaded:=oc.loaded+1}:aX).bS sum at0 1}with dev:=σ.dev,cur:=some c}:=by
     refine PwS.ext' rfl rfl hc (λb=> ?_);show(if b=c then _ else if b=c then _ else σ.ops b)=if b=c then _ else σ.ops b
     split<;>rfl
    rw[e];refine⟨hC, .inl ⟨rfl,λb=> ?_⟩⟩;refine jq σ bT ?_ b;show(oc.es,oc.th,oc.k,aX.res _)=(oc.es,oc.th,oc.k,oc.res)
    rw[NU];unfold aX.res;rw[ax (by show¬oc.done=true;rw[g2];simp),ax (by show¬4<=1;omega)]
  . rw[ax iQ]
    have hC:=h.Pb (oc':={oc with seen:=oc.seen.set q (L (ee oc.es q)),loaded:=oc.loaded+1}) hc bT YZ rfl rfl rfl (.inr hs) (a_ _) g3 h.on h.hL (some c)
     (.inl ⟨rfl,g2, .inl ⟨hs,by show oc.loaded+1<oc.order.length;omega,WH,hM⟩⟩)
    have e:σ.aB c {oc with seen:=oc.seen.set q (L (ee oc.es q)),loaded:=oc.loaded+1}={σ.aB c {oc with seen:=oc.seen.set q (L (ee oc.es q)),loaded:=oc.loaded+1}with dev:=σ.dev,cur:=some c}:=PwS.ext' rfl rfl hc (λb=>rfl);rw[e];exact⟨hC, .inl ⟨rfl,λb=>jq (oc':={oc with seen:=oc.seen.set q (L (ee oc.es q)),loaded:=oc.loaded+1}) σ bT rfl b⟩⟩
theorem Inv.ry(h:Inv sum at0 n cnt M N σ xs L)(hR:kh n cnt M at0)(hN:N<1000000)(ha:σ.ops a=some o)(hc:σ.cur=some c)(bT:σ.ops c=some oc):
 ∃dz L',Inv sum at0 n cnt M (N+1) (σ.ry sum at0 a o c oc) dz L'/\LJ a σ (σ.ry sum at0 a o c oc) L L':=by
 by_cases hs:oc.aa=0
 . obtain⟨h1,h2⟩:=h.Zbe (a:=a) hc bT hs o.th
   have e:σ.ry sum at0 a o c oc=σ.load sum at0 c oc o.th:=by unfold PwS.ry;rw[aA hs]
   rw[e];exact⟨xs,L,h1.mono (lM _),h2⟩
 . exact h.ZdG hR hN ha hc bT hs
def aX.fl(o:aX):Bool×Int×Nat:=(o.ended,o.err,o.k)
def bW(σ σ':PwS):Prop:=σ'.busy=σ.busy/\∀b,(σ'.ops b).map aX.fl=(σ.ops b).map aX.fl
theorem bW.refl(σ:PwS):bW σ σ:=⟨rfl,λ_=>rfl⟩
theorem bW.trans(h:bW σ σ')(h2:bW σ' Ed):bW σ Ed:=⟨h2.1.trans h.1,λb=>(h2.2 b).trans (h.2 b)⟩
theorem bW.dev(D:aq):bW σ {σ with dev:=D}:=⟨rfl,λ_=>rfl⟩
theorem bW.cur(c:Option Nat):bW σ {σ with cur:=c}:=⟨rfl,λ_=>rfl⟩
theorem bW.set(ha:(σ.ops a).map aX.fl=some o.fl):bW σ (σ.aB a o):=by
 refine⟨rfl,λb=> ?_⟩;show(if b=a then some o else σ.ops b).map aX.fl=_
 split
 . rename_i hb;rw[hb,ha];rfl
 . rfl
theorem bW.at_(h:bW σ σ')(ha:(σ.ops a).map aX.fl=some o.fl):(σ'.ops a).map aX.fl=some o.fl:=(h.2 a).trans ha
theorem Rm(bT:(σ.ops c).map aX.fl=some oc.fl)(ch:Bool):bW σ (σ.fin c oc ch):=(bW.set (o:={oc with done:=true,changed:=ch}) bT).trans (bW.cur none)
theorem Gn(bT:(σ.ops c).map aX.fl=some oc.fl)(s:Nat):bW σ (σ.enter sum at0 c oc s):=by
 unfold PwS.enter;split
 . exact bW.set bT
 . exact Rm (oc:={oc with aa:=s}) bT true
theorem JP(ha:σ.ops a=some o)(bT:σ.ops c=some oc):bW σ (σ.ry sum at0 a o c oc):=by
 have rG:(σ.ops c).map aX.fl=some oc.fl:=by rw[bT];rfl
 have ha':(σ.ops a).map aX.fl=some o.fl:=by rw[ha];rfl
 unfold PwS.ry;split
 . unfold PwS.load
   dsimp only;split
   . exact bW.dev _
   . split
     . split
       . have h1:bW σ ({σ with dev:=σ.dev.on o.th (σ.dev.cQ (oc.es.getD (oc.order.getD oc.loaded 0) ⟨0,0,0,false⟩).off)}:PwS):=bW.dev _
         have h2:=h1.trans (bW.set (o:={oc with seen:=oc.seen.set (oc.order.getD oc.loaded 0) (σ.dev.load (oc.es.getD (oc.order.getD oc.loaded 0) ⟨0,0,0,false⟩).off),loaded:=oc.loaded+1}) (h1.at_ (o:=oc) rG));exact h2.trans (Gn (oc:={oc with seen:=oc.seen.set (oc.order.getD oc.loaded 0) (σ.dev.load (oc.es.getD (oc.order.getD oc.loaded 0) ⟨0,0,0,false⟩).off),loaded:=oc.loaded+1}) (h2.at_ (o:=oc) rG) _)
       . exact(bW.dev _).trans (bW.set rG)
     . exact(bW.dev _).trans (Rm (σ:={σ with dev:=_}) rG _)
 . rw[aX.pos_at]
   dsimp only;have h1:bW σ (σ.aB a (o.pos c oc.aa (o.mS c oc.aa))):=bW.set ha';have h2:=h1.trans (bW.dev (σ.dev.cW o.th (oc.prog.getD (o.pos c oc.aa (o.mS c oc.aa)).next (0,0,0))));split
   . exact h2
   . have h3:=h2.trans (bW.set (a:=a) (o:={o.pos c oc.aa (o.mS c oc.aa)with next:=(o.pos c oc.aa (o.mS c oc.aa)).next+1}) (h2.at_ (o:=o) ha'))
     split
     . refine h3.trans (Gn ?_ _)
       split
       . rename_i fA
         subst fA;exact h3.at_ (o:=o) ha'
       . exact h3.at_ (o:=oc) rG
     . exact h3
theorem LJ.keys(h:LJ a σ σ' L L')(hk:∀b,(Ed.ops b).map aX.key=(σ'.ops b).map aX.key):LJ a σ Ed L L':=by
 rcases h with⟨h1,h2⟩|⟨c,oc,oc',h1,h2,h3,h4,h5,h6,h7,h8,h9,Vj,h11⟩
 . exact .inl ⟨h1,λb=>(hk b).trans (h2 b)⟩
 . have:=hk c
   rw[h2,Option.map_some]at this;cases hc:Ed.ops c with
   |none=>rw[hc]at this;cases this
   |some Qf=>
    rw[hc,Option.map_some]at this;injection this with this;have e1:Qf.es=oc'.es:=bP (λx=>x.1) this;have e2:Qf.th=oc'.th:=bP (λx=>x.2.1) this;have e3:Qf.k=oc'.k:=bP (λx=>x.2.2.1) this;have e4:Qf.res=oc'.res:=bP (λx=>x.2.2.2) this;exact .inr ⟨c,oc,Qf,h1,hc,h3,e4.trans h4,h5,e1.trans h6,e2.trans h7,e3.trans h8,h9,Vj,λb hb=>(hk b).trans (h11 b hb)⟩
theorem LJ.sm(h:LJ a σ σ' L L'){b:Nat}{ob:aX}(hb:σ.ops b=some ob):∃Qg,σ'.ops b=some Qg/\Qg.es=ob.es/\Qg.th=ob.th/\Qg.k=ob.k:=by
 have key:(σ'.ops b).map aX.key=(σ.ops b).map aX.key->∃Qg,σ'.ops b=some Qg/\Qg.es=ob.es/\Qg.th=ob.th/\Qg.k=ob.k:=by
  intro he;rw[hb,Option.map_some]at he;cases bG:σ'.ops b with
  |none=>rw[bG]at he;cases he
  |some Qg=>
   rw[bG,Option.map_some]at he;injection he with he;exact⟨Qg,rfl,bP (λx=>x.1) he,bP (λx=>x.2.1) he,bP (λx=>x.2.2.1) he⟩
 rcases h with⟨h1,h2⟩|⟨c,oc,oc',h1,h2,h3,h4,h5,h6,h7,h8,h9,Vj,h11⟩
 . exact key (h2 b)
 . by_cases l9:b=c
   . subst l9
     rw[h1]at hb;injection hb with hb;subst hb;exact⟨oc',h2,h6,h7,h8⟩
   . exact key (h11 b l9)
structure vX(sum:List Int->Int)(at0:Nat->Int)(n cnt:Nat)(M:Nat->Prop)(N:Nat)(a:Nat)(o:aX)(σ:PwS)(L:Nat->Int)(σ':PwS)(b:Bool)(dz:List Int)(L':Nat->Int):Prop where
 eq:σ.step sum at0 a=(σ',b)
 inv:Inv sum at0 n cnt M N σ' dz L'
 Z5:LJ a σ σ' L L'
 self:∃o',σ'.ops a=some o'/\o'.ended=b/\o'.th=o.th/\o'.k=o.k/\o'.es=o.es/\(b=true->o.ended=false->o'.err=0)/\(b=false->o'.err=o.err)/\(o.ended=true->o'=o)
 other:∀d,d≠a->(σ'.ops d).map aX.fl=(σ.ops d).map aX.fl
 busy:σ'.busy=if b&& !o.ended then σ.busy.set o.k false else σ.busy
theorem Inv.step(h:Inv sum at0 n cnt M N σ xs L)(hR:kh n cnt M at0)(hN:N<1000000)(ha:σ.ops a=some o):∃σ' b dz L',vX sum at0 n cnt M (N+1) a o σ L σ' b dz L':=by
 have cM:∀i,(σ.dev.a8 i).err=0:=h.on.err;cases he:o.ended with
 |true=>
  refine⟨σ,true,xs,L,?_,h.mono (lM _), .inl ⟨rfl,λ_=>rfl⟩,⟨o,ha,he,rfl,rfl,rfl,λ_ hh=>(by rw[he]at hh;cases hh),λhh=>(by cases hh),λ_=>rfl⟩,λ_ _=>rfl,by rw[he];rfl⟩;unfold PwS.step;rw[ha];simp[he]
 |false=>
  have W8:∀{τ:PwS} {o1:aX} {ys:List Int} {L1:Nat->Int},Inv sum at0 n cnt M (N+1) τ ys L1->τ.ops a=some o1->o1.done=true->o1.th=o.th->o1.k=o.k->o1.es=o.es->LJ a σ τ L L1->bW σ τ->
   vX sum at0 n cnt M (N+1) a o σ L (τ.fB a o1 0) true ys L1\/σ.step sum at0 a≠(τ.fB a o1 0,true):=by
   intro τ o1 ys L1 hI h1 hd e1 e2 e3 hE hF;by_cases bh:σ.step sum at0 a=(τ.fB a o1 0,true)
   . left
     have ef:τ.fB a o1 0={τ.aB a {o1 with ended:=true,err:=0}with busy:=τ.busy.set o1.k false}:=by
      unfold PwS.fB;rw[ax (by simp[hd])]
     refine⟨bh,by rw[ef];exact hI.fB h1 hd _,?_,?_,λd U3=> ?_,?_⟩
     . rw[ef]
       exact hE.keys (λb=>jq τ h1 (by show(o1.es,o1.th,o1.k,aX.res _)=(o1.es,o1.th,o1.k,o1.res);simp[aX.res,hd]) b)
     . rw[ef]
       exact⟨{o1 with ended:=true,err:=0},aA rfl,rfl,e1,e2,e3,λ_ _=>rfl,λhh=>(by cases hh),λhh=>(by rw[he]at hh;cases hh)⟩
     . rw[ef]
       show(if d=a then _ else τ.ops d).map aX.fl=_
       rw[ax U3];exact hF.2 d
     . rw[ef]
       show τ.busy.set o1.k false=_
       rw[he,hF.1,e2];rfl
   . exact .inr bh
  cases hd:o.done with
  |true=>
   have bh:σ.step sum at0 a=(σ.fB a o 0,true):=by
    unfold PwS.step;rw[ha];simp[he,hd,cM]
   rcases W8 (h.mono (Nat.le_succ _)) ha hd rfl rfl rfl (.inl ⟨rfl,λ_=>rfl⟩) (bW.refl σ)with h1|h1
   . exact⟨_,_,_,_,h1⟩
   . exact absurd bh h1
  |false=>
   obtain⟨mQ,c,QB,Jq,Gf,tx,ZF,gh,ZbK⟩:∃mQ c,mQ=(if σ.cur.isSome then σ else{σ with cur:=some a})/\mQ.cur=some c/\Inv sum at0 n cnt M N mQ xs L/\mQ.ops=σ.ops/\mQ.busy=σ.busy/\(σ.cur=some c\/c=a)/\mQ.dev=σ.dev:=by
    cases cS:σ.cur with
    |none=>exact⟨{σ with cur:=some a},a,rfl,rfl,h.claim cS ha hd,rfl,rfl, .inr rfl,rfl⟩
    |some c=>exact⟨σ,c,rfl,cS,h,rfl,rfl, .inl rfl,rfl⟩
   obtain⟨oc,g1,g2,g3,g4⟩:=Gf.run c Jq;have N1:mQ.ops a=some o:=by rw[tx];exact ha
   obtain⟨ys,L1,xQ,Rc⟩:=Gf.ry hR hN N1 Jq g1
   have Er:bW σ (mQ.ry sum at0 a o c oc):=by
    have h1:=JP (sum:=sum) (at0:=at0) N1 g1;exact⟨h1.1.trans ZF,λb=>(h1.2 b).trans (by rw[tx])⟩
   have hE:LJ a σ (mQ.ry sum at0 a o c oc) L L1:=by
    rcases Rc with⟨q1,q2⟩|⟨c',ug,oc',q1,q2,q3,q4,q5,q6,q7,q8,q9,q10,q11⟩
    . exact .inl ⟨q1,λb=>(q2 b).trans (by rw[tx])⟩
    . refine .inr ⟨c',ug,oc',by rw[<-tx];exact q1,q2,q3,q4,q5,q6,q7,q8,?_,q10,λb hb=>(q11 b hb).trans (by rw[tx])⟩
      rcases q9 with q9|q9
      . rw[Jq]at q9
        injection q9 with q9;rw[<-q9];exact gh
      . exact .inr q9
   obtain⟨o1,k1,k2,k3,k4⟩:=hE.sm ha;obtain⟨τ,DB⟩:=aH (mQ.ry sum at0 a o c oc);rw[DB]at xQ hE Er k1
   have bh:σ.step sum at0 a=if o1.done then(τ.fB a o1 0,true)else(τ,false):=by
    unfold PwS.step;rw[ha];simp only[he,eS,dF,hd,cM,ne_eq,KK];rw[<-QB,Jq,Option.getD_some,g1];simp only[DB,k1];rw[ax (by rw[xQ.on.err];simp)]
   cases kP:o1.done with
   |true=>
    rw[kP]at bh;rcases W8 xQ k1 kP k3 k4 k2 hE Er with h1|h1
    . exact⟨_,_,_,_,h1⟩
    . exact absurd bh h1
   |false=>
    rw[kP]at bh
    have Bn:o1.fl=o.fl:=by
     have:=Er.2 a;rw[k1,ha]at this;injection this
    refine⟨τ,false,ys,L1,bh,xQ,hE,⟨o1,k1,(bP (λx=>x.1) Bn).trans he,k3,k4,k2,λhh=>(by cases hh),λ_=>congrArg (λx=>x.2.1) Bn,λhh=>(by rw[he]at hh;cases hh)⟩,λd _=>Er.2 d,by rw[Er.1];rfl⟩
end
def aX.rem(o:aX)(c:Nat)(oc:aX):Nat:=if oc.aa=0 then 160+(6-oc.loaded)else 40*(4-oc.aa)+(38-o.mS c oc.aa)
def kI(σ:PwS):Option (Nat×aX):=σ.cur.bind λc=>(σ.ops c).map λoc=>(c,oc)
theorem sF{f g:Nat->Nat}{m:Nat}:∀(al:List Nat),(∀b∈al,f b<=g b+m)->(al.map f).sum<=(al.map g).sum+m*al.length
 |[],_=>by simp
 |x::al,h=>by
  have h1:=h x smQ;have h2:=sF al (λb hb=>h b (by simp[hb]));simp only[oV,List.sum_cons,List.length_cons];rw[Nat.mul_succ];omega
theorem E3:∀(al:List Nat),(al.map λ_=>(0:Nat)).sum=0
 |[]=>rfl
 |x::al=>by simpa using E3 al
theorem yA{f g:Nat->Nat}{a m K:Nat}:∀(al:List Nat),al.Nodup->a∈al->(∀b∈al,b≠a->f b<=g b+m)->f a+K<=g a->(al.map f).sum+K<=(al.map g).sum+m*(al.length-1)
 |[],_,h,_,_=>by simp at h
 |x::al,hn,ha,h,hK=>by
  rw[rD]at hn;simp only[oV,List.sum_cons,List.length_cons,PK];by_cases hx:x=a
  . subst hx
    have h2:=sF (f:=f) (g:=g) (m:=m) al (λb hb=>h b (by simp[hb]) (λhe=>hn.1 (by rw[<-he];exact hb)));omega
  . have ha':a∈al:=by
     rcases List.mem_cons.1 ha with h1|h1
     . exact absurd h1.symm hx
     . exact h1
    have h1:=h x smQ hx;have h2:=yA al hn.2 ha' (λb hb=>h b (by simp[hb])) hK;have hl:0<al.length:=List.length_pos_of_mem ha';obtain⟨l,hl'⟩:∃l,al.length=l+1:=⟨al.length-1,by omega⟩;rw[hl']at h2 |-;rw[Nat.mul_succ];simp only[PK]at h2;omega
section
variable{sum:List Int->Int}{at0:Nat->Int}{n cnt N N':Nat}{M:Nat->Prop}{σ σ' Ed:PwS}{xs dz:List Int}{L L':Nat->Int}{a b c:Nat}{o o' oc oc':aX}{al:List Nat}
theorem xS(hc:σ.cur=some c)(bT:σ.ops c=some oc):kI σ=some (c,oc):=by unfold kI;rw[hc];show(σ.ops c).map _=_;rw[bT];rfl
theorem rr(hc:σ.cur=none):kI σ=none:=by unfold kI;rw[hc];rfl
theorem Dd(h:oc.aa≠0->o.mS c oc.aa<=37):0<o.rem c oc:=by
 unfold aX.rem;split
 . omega
 . rename_i hs;have:=h hs;omega
theorem Inv.I3(h:Inv sum at0 n cnt M N σ xs L)(hR:kh n cnt M at0)(hc:σ.cur=some c)(bT:σ.ops c=some oc)(ha:σ.ops a=some o)(hs:oc.aa≠0):o.mS c oc.aa<oc.prog.length/\oc.prog.length<=37:=by
 obtain⟨IK,g1,g2,g3,g4⟩:=h.run c hc;rw[bT]at g1;injection g1 with g1;subst g1;obtain⟨h1,h4,hp⟩:=g4.info hs;have bF:=h.ok c oc bT;obtain⟨ws,hw,_⟩:=zg (sum:=sum) hR bF h1 h4;have vK:0<oc.prog.length:=by rw[hp,hw,lA];omega
 have h5:=(K4 (sum:=sum) (xs:=xs) hR bF h.on.length h1 h4 hp (j:=0) vK).2.2.2;exact⟨(h.mS ha hc bT h1 vK).1,h5⟩
theorem Ut(o:aX)(c s j:Nat):(o.pos c s j).mS c s=j:=by unfold aX.mS;rw[aA ⟨rfl,rfl⟩];rfl
end
end Go.Proofs.YtjkpjakodomnmaaGreatDoor
