/- The base, part 7 (merged). -/
import Derived.Test.YtjkpjakodomnmaaGreatDoorKtaf
set_option linter.unusedVariables false
set_option linter.unusedSimpArgs false
set_option maxRecDepth 100000
set_option maxHeartbeats 16000000
namespace Go.Proofs.YtjkpjakodomnmaaGreatDoor
open Go.RowKit
inductive pz
 |start
 |rd (d:TD) (r:eP)
 |dH (d:TD) (a:Nat)
 |fin (v e:Int)
structure TM where
 c:TC
 th:Nat
 ph:pz
 bg:Nat
 en:Nat
def tI:TM:=⟨⟨0,0,0,0⟩,0, .start,0,0⟩
def pz.fresh:pz->Bool
 | .start=>true
 |_=>false
def pz.over:pz->Bool
 | .fin _ _=>true
 |_=>false
def TM.out(σ:PwS)(m:TM):Option (Int×Int):=match m.ph with
 | .start=>none
 | .rd d r=>if d.aa=13/\r.place≠0/\r.raw=d.raw then some (d.res,d.err)else none
 | .dH d a=>cH σ d.res a
 | .fin v e=>some (v,e)
def cI(NN:Nat)(q:List (Int×Int))(c:TC):List (Int×Int)×Int×Int:=eu NN q c.kind c.key c.val c.old
def dY(NN:Nat)(ms:List TM)(q0:List (Int×Int))(ord:List Nat):List (Int×Int):=ord.foldl (λq i=>(cI NN q (ms.getD i tI).c).1) q0
theorem Kh(NN:Nat)(ms:List TM)(q0:List (Int×Int))(a b:List Nat):dY NN ms q0 (a++b)=dY NN ms (dY NN ms q0 a) b:=by simp[dY]
theorem pJ(NN:Nat)(ms:List TM)(q0:List (Int×Int))(ord:List Nat)(i:Nat):dY NN ms q0 (ord++[i])=(cI NN (dY NN ms q0 ord) (ms.getD i tI).c).1:=by simp[dY]
theorem EU{NN:Nat}{ms oI:List TM}{q0:List (Int×Int)}(h:∀i,(oI.getD i tI).c=(ms.getD i tI).c)(ord:List Nat):dY NN oI q0 ord=dY NN ms q0 ord:=by
 unfold dY;congr 1;funext q i
 rw[h i]
theorem dU{ms:List TM}{i:Nat}{m:TM}(h:ms[i]?=some m):ms.getD i tI=m:=by rw[eY,h];rfl
theorem BJ{ms:List TM}{i:Nat}{m m':TM}(hi:ms[i]?=some m)(h1:m'.c=m.c):∀j,((ms.set i m').getD j tI).c=(ms.getD j tI).c:=by
 intro j;by_cases eb:i=j
 . subst eb
   rw[dU (nX (ki.1 hi).1),dU hi];exact h1
 . rw[eY,rE eb,<-eY]
def lI(K:TK)(c:TC)(L:Nat->Int)(raw:Int):Prop:=raw/1099511627776<L (K.rt c)/1099511627776
structure my(K:TK)(c:TC)(d:TD):Prop where
 wd:∃k:Nat,k=tWd K c d/\(k=K.fr\/(∃b,b<K.B/\k=eJ K.W b)\/∃n j,1<=n/\n<=K.NN/\j<4/\k=K.nd n j)
 raw:0<=d.raw/\d.raw<4611686018427387904
 st:1<=d.aa/\d.aa<=13
 node:d.node<=K.NN
 last:d.last<=K.NN
 free:d.free<=K.NN
 zero:d.aN<=K.NN
 next:d.cN<=K.NN
 link:d.aa=1\/d.link=K.rt c\/∃n j,1<=n/\n<=K.NN/\(j=2\/j=3)/\d.link=K.nd n j
 oJ:d.aa=5\/d.aa=6\/d.aa=7\/d.aa=8\/(d.aa=9/\c.kind=2)->(d.aD=K.rt c\/∃n j,1<=n/\n<=K.NN/\(j=2\/j=3)/\d.aD=K.nd n j)/\1<=d.last/\1<=d.node
 n1:d.aa=2\/d.aa=4\/d.aa=3->1<=d.node
 f1:10<=d.aa/\d.aa<=12->1<=d.free/\c.kind=1
 k9:d.aa=9->c.kind=1\/c.kind=2
 k5:5<=d.aa/\d.aa<=8->c.kind=2
 fQ:KR d.value/\KR d.dB/\KR d.cF/\KR d.fy/\KR d.bI
 dp:d.depth<=64/\(d.aa=3->d.depth<64)
def cx(K:TK)(c:TC)(es:List bO):Prop:=∀e∈es,(0<=e.old/\e.old<4611686018427387904)/\(0<=e.new/\e.new<1099511627776)/\∃k:Nat,e.off=8*(k:Int)/\(k=K.rt c\/k=K.fr\/∃n j,1<=n/\n<=K.NN/\j<4/\k=K.nd n j)
theorem cx.es{K:TK}{c:TC}{es:List bO}(h:cx K c es):Ss es:=λe he=>⟨(h e he).2.1,(h e he).2.2.elim λk hk=>⟨k,hk.1⟩⟩
def pz.facts(K:TK)(L:Nat->Int)(T:Nat->TT)(σ:PwS)(c:TC)(F:Prop):pz->Prop
 | .start=>True
 | .rd d r=>my K c d/\r.off=8*((tWd K c d:Nat):Int)/\r.th<8/\r.err=0/\(r.ended=false->r.place<=2)/\(r.ended=true->r.place≠0)/\
    (r.place≠0->(0<=r.raw/\r.raw<4611686018427387904)/\(d.aa=1\/d.aa=3\/d.aa=5\/d.aa=6\/d.aa=9\/d.aa=10\/d.aa=13->r.raw%1099511627776<=K.NN))/\
    (d.aa≠1->lI K c L d.raw\/(L (K.rt c)=d.raw/\TSy K c (T (K.bk c.key)) d/\(r.place≠0->TGo K c (T (K.bk c.key)) d (r.raw%1099511627776))/\(d.aa=13/\d.err=4->F)/\(d.aa=9/\c.kind=1/\r.place≠0/\r.raw%1099511627776=0->F)))/\
    (d.aa=1\/d.aa=13->r.place≠0->lI K c L r.raw\/L (K.rt c)=r.raw)
 | .dH d a=>∃o,σ.ops a=some o/\cx K c o.es/\dupE o.es=false/\(c.kind=1->d.node=0->1<=d.free)/\(∃x,dD K c d x∈o.es)/\my K c {d with aa:=1}/\(lI K c L d.raw\/(L (K.rt c)=d.raw/\TCh K c (T (K.bk c.key)) d o.es d.res))
 | .fin _ _=>True
def qG(K:TK)(q0:List (Int×Int))(ms:List TM)(ord:List Nat)(m:TM):Prop:=
 ∃p,p<=ord.length/\K.NN<=(dY K.NN ms q0 (ord.take p)).length/\bJ (dY K.NN ms q0 (ord.take p)) m.c.key=none/\∀(k:Nat) (mk:TM),ms[k]?=some mk->mk.ph.over=true->mk.en<m.bg->k∈ord.take p
structure ZdJ(K:TK)(q0:List (Int×Int))(ms:List TM)(ord:List Nat)(L:Nat->Int)(T:Nat->TT)(σ:PwS)(i:Nat)(m:TM):Prop where
 io:i∈ord↔m.out σ≠none
 res:∀p,ord[p]?=some i->m.out σ=some (cI K.NN (dY K.NN ms q0 (ord.take p)) m.c).2
 ph:m.ph.facts K L T σ m.c (qG K q0 ms ord m)
 vl:KR m.c.key/\K.bk m.c.key<K.B/\KR m.c.val/\KR m.c.old/\m.c.kind<=3
structure eZ(K:TK)(q0:List (Int×Int))(σ:PwS)(ms:List TM)(Tm:Nat)(L:Nat->Int)(T:Nat->TT)(fl:List Nat)(ord:List Nat)(N:Nat):Prop where
 ab:kQ K.W K.B K.NN K.hs K.bk L T fl (dY K.NN ms q0 ord)
 cn:∀b,b<K.B->L (eJ K.W b)/1099511627776<=(N:Int)
 nd:ord.Nodup
 mem:∀i∈ord,i<ms.length
 ok:∀(i:Nat) (m:TM),ms[i]?=some m->ZdJ K q0 ms ord L T σ i m
 inj:∀(i j:Nat) (mi mj:TM) (di dj:TD) (a:Nat),ms[i]?=some mi->ms[j]?=some mj->mi.ph= .dH di a->mj.ph= .dH dj a->i=j
 cur:∀c,σ.cur=some c->∃(i:Nat) (m:TM) (d:TD),ms[i]?=some m/\m.ph= .dH d c
 tm:∀(i:Nat) (m:TM),ms[i]?=some m->(m.ph.fresh=false->m.bg<Tm)/\(m.ph.over=true->m.en<Tm)
 rt:∀(p i k:Nat) (mi mk:TM),ord[p]?=some i->ms[i]?=some mi->ms[k]?=some mk->mk.ph.over=true->mk.en<mi.bg->k∈ord.take p
def rO(K:TK)(L:Nat->Int)(T:Nat->TT)(L':Nat->Int)(T':Nat->TT):Prop:=∀b,b<K.B->(L' (eJ K.W b)=L (eJ K.W b)/\T' b=T b)\/L (eJ K.W b)/1099511627776<L' (eJ K.W b)/1099511627776
section
variable{K:TK}{L L':Nat->Int}{T T':Nat->TT}{σ σ':PwS}{c:TC}{F F':Prop}{ph:pz}{q0:List (Int×Int)}{ms:List TM}{ord:List Nat}{m m':TM}{i:Nat}
theorem rO.refl:rO K L T L T:=λ_ _=> .inl ⟨rfl,rfl⟩
theorem pz.facts.mono(h:ph.facts K L T σ c F)(hb:K.bk c.key<K.B)(he:rO K L T L' T')(hσ:∀d a o,ph= .dH d a->σ.ops a=some o->∃o',σ'.ops a=some o'/\o'.es=o.es)(hF:F->F'):ph.facts K L' T' σ' c F':=by
 have hx:∀raw,lI K c L raw->lI K c L' raw:=λraw hs=>by
  unfold lI at hs |-;rcases he _ hb with⟨e,_⟩|e
  . rw[show L' (K.rt c)=L (K.rt c)from e];exact hs
  . exact Int.lt_trans hs e
 have hy:∀raw,L (K.rt c)=raw->lI K c L' raw\/(L' (K.rt c)=raw/\T' (K.bk c.key)=T (K.bk c.key)):=λraw hr=>by
  rcases he _ hb with⟨e,e2⟩|e
  . exact .inr ⟨(show L' (K.rt c)=L (K.rt c)from e).trans hr,e2⟩
  . left;unfold lI;rw[<-hr];exact e
 cases ph with
 |start=>trivial
 |fin v e=>trivial
 |rd d r=>
  obtain⟨h1,h2,h3,h4,h5,h6,h7,h8,h9⟩:=h;refine⟨h1,h2,h3,h4,h5,h6,h7,λhs=> ?_,λhs hp=> ?_⟩
  . rcases h8 hs with h|⟨g1,g2,g3,g4,g5⟩
    . exact .inl (hx _ h)
    . rcases hy _ g1 with e|⟨e1,e2⟩
      . exact .inl e
      . rw[e2];exact .inr ⟨e1,g2,g3,λhh=>hF (g4 hh),λhh=>hF (g5 hh)⟩
  . rcases h9 hs hp with h|h
    . exact .inl (hx _ h)
    . rcases hy _ h with e|⟨e1,_⟩
      . exact .inl e
      . exact .inr e1
 |dH d a=>
  obtain⟨o,g1,g2,g3,g4,g5,g9,g6⟩:=h;obtain⟨o',e1,e2⟩:=hσ d a o rfl g1;refine⟨o',e1,by rw[e2];exact g2,by rw[e2];exact g3,g4,by rw[e2];exact g5,g9,?_⟩;rw[e2];rcases g6 with h|⟨g7,g8⟩
  . exact .inl (hx _ h)
  . rcases hy _ g7 with e|⟨e1,e3⟩
    . exact .inl e
    . rw[e3];exact .inr ⟨e1,g8⟩
theorem yr(h:m.ph.fresh=true):m.out σ=none:=by
 unfold TM.out;cases hp:m.ph<;>rw[hp]at h<;>first|rfl|cases h
theorem uZ(h:m.ph.over=true):m.out σ≠none:=by
 unfold TM.out;cases hp:m.ph with
 |fin v e=>simp
 |start=>rw[hp]at h;cases h
 |rd d r=>rw[hp]at h;cases h
 |dH d a=>rw[hp]at h;cases h
theorem aJ{ms:List TM}{i j:Nat}{m m' mj:TM}(hi:ms[i]?=some m)(hj:(ms.set i m')[j]?=some mj):(j=i/\mj=m')\/(j≠i/\ms[j]?=some mj):=by
 by_cases h:j=i
 . subst h
   rw[nX (ki.1 hi).1]at hj;injection hj with hj;exact .inl ⟨rfl,hj.symm⟩
 . rw[rE (cC h)]at hj
   exact .inr ⟨h,hj⟩
end
def gK(p i:Nat)(l:List Nat):List Nat:=l.take p++i::l.drop p
section
variable{p i j x:Nat}{l:List Nat}
theorem CD(h:p<=l.length):(gK p i l).length=l.length+1:=by
 unfold gK;rw[dO,List.length_cons,gf,yU];omega
theorem Cw:x∈gK p i l↔x=i\/x∈l:=by
 unfold gK;rw[gG,dr];conv=>rhs;rw[<-KP p l,gG]
 constructor
 . rintro(h|h|h)
   . exact .inr (.inl h)
   . exact .inl h
   . exact .inr (.inr h)
 . rintro(h|h|h)
   . exact .inr (.inl h)
   . exact .inl h
   . exact .inr (.inr h)
theorem qg(h:l.Nodup)(hi:i∉l):(gK p i l).Nodup:=by
 have hp:(gK p i l).Perm (i::l):=by
  unfold gK;refine(KE).trans ?_;rw[KP]
 exact hp.nodup_iff.2 (rD.2 ⟨hi,h⟩)
theorem td(hj:j<=p)(hp:p<=l.length):(gK p i l).take j=l.take j:=by
 unfold gK;rw[KT (by rw[gf];omega),Ca,vn hj]
theorem mI(hj:p<=j)(hp:p<=l.length):(gK p i l).take (j+1)=l.take p++i::(l.take j).drop p:=by
 unfold gK;rw[List.take_append,gf,vn hp,Ca,Nat.min_eq_right ae,show j+1-p=(j-p)+1 by omega,List.take_succ_cons,Fg]
theorem ME(h:(gK p i l)[j]?=some x)(hp:p<=l.length):(j<p/\l[j]?=some x)\/(j=p/\x=i)\/(∃k,j=k+1/\p<=k/\l[k]?=some x):=by
 unfold gK at h;by_cases h1:j<p
 . rw[nY (by rw[gf];omega),List.getElem?_take_of_lt h1]at h
   exact .inl ⟨h1,h⟩
 . rw[nZ (by rw[gf];omega),gf,vn hp]at h
   by_cases h2:j=p
   . rw[h2,wA]at h
     exact .inr (.inl ⟨h2,by simpa using h.symm⟩)
   . obtain⟨k,hk⟩:∃k,j=k+1:=⟨j-1,by omega⟩
     rw[show j-p=(k-p)+1 by omega,List.getElem?_cons_succ,Fk,show p+(k-p)=k by omega]at h;exact .inr (.inr ⟨k,hk,by omega,h⟩)
theorem p_(hp:p<=l.length)(rk:p<=j)(h:x∈l.take j):x∈(gK p i l).take (j+1):=by
 rw[mI rk hp,gG,dr];rw[<-KP p (l.take j),Ca,vn rk,gG]at h;rcases h with h|h
 . exact .inl h
 . exact .inr (.inr h)
theorem vE:gK l.length i l=l++[i]:=by unfold gK;simp
end
section
variable{K:TK}{L L':Nat->Int}{T T':Nat->TT}{fl eG:List Nat}{σ σ':PwS}{q0:List (Int×Int)}{ms oI:List TM}{ord aZ:List Nat}{m m':TM}{i p Tm N N':Nat}
theorem eZ.later(h:eZ K q0 σ ms Tm L T fl ord N){Tm' N':Nat}(hT:Tm<=Tm')(hN:N<=N'):eZ K q0 σ ms Tm' L T fl ord N':=
 ⟨h.ab,λb hb=>by have:=h.cn b hb;omega,h.nd,h.mem,h.ok,h.inj,h.cur,λi m hi=>⟨λhx=>cD ((h.tm i m hi).1 hx) hT,λhx=>cD ((h.tm i m hi).2 hx) hT⟩,h.rt⟩
structure rN(K:TK)(q0:List (Int×Int))(ms:List TM)(ord:List Nat)(i:Nat)(c:TC)(p:Nat)(aZ:List Nat):Prop where
 le:p<=ord.length
 eq:aZ=gK p i ord
 no:i∉ord
 id:(cI K.NN (dY K.NN ms q0 (ord.take p)) c).1=dY K.NN ms q0 (ord.take p)\/p=ord.length
theorem rN.st(h:rN K q0 ms ord i (ms.getD i tI).c p aZ){j:Nat}(hj:j<=ord.length)(rk:p<j):dY K.NN ms q0 (aZ.take (j+1))=dY K.NN ms q0 (ord.take j):=by
 rw[h.eq,mI ae h.le]
 have hid:(cI K.NN (dY K.NN ms q0 (ord.take p)) (ms.getD i tI).c).1=dY K.NN ms q0 (ord.take p):=by
  rcases h.id with e|e
  . exact e
  . omega
 rw[show ord.take p++i::(ord.take j).drop p=(ord.take p++[i])++(ord.take j).drop p by simp,Kh,pJ,hid,<-Kh];congr 1;conv=>rhs;rw[<-KP p (ord.take j),Ca,vn ae]
theorem rN.len(h:rN K q0 ms ord i m.c p aZ):aZ.length=ord.length+1:=by rw[h.eq];exact CD h.le
theorem qG.keep(h:qG K q0 ms ord m'){mi Ys m2:TM}(hi:ms[i]?=some mi)(hc:Ys.c=mi.c)(ho:aZ=ord\/∃p,rN K q0 ms ord i mi.c p aZ)(h1:m2.c=m'.c)(h2:m2.bg=m'.bg)(ht:m'.bg<Tm)
 (bU:mi.ph.over=true->Ys.ph.over=true/\Ys.en=mi.en) (tH:mi.ph.over=false->Ys.ph.over=true->Ys.en+1=Tm):qG K q0 (ms.set i Ys) aZ m2:=by
 obtain⟨p0,a,b,c,d⟩:=h;have bh:=λo=>EU (NN:=K.NN) (q0:=q0) (BJ hi hc) o
 have old:∀(k:Nat) (mk:TM),(ms.set i Ys)[k]?=some mk->mk.ph.over=true->mk.en<m2.bg->k∈ord.take p0:=λk mk hk hx he=>by
  rcases aJ hi hk with⟨rfl,rfl⟩|⟨aG,hk⟩
  . cases YY:mi.ph.over with
    |true=>obtain⟨_,e2⟩:=bU YY;exact d _ mi hi YY ae
    |false=>have:=tH YY hx;omega
  . exact d k mk hk hx ae
 rcases ho with rfl|⟨p,hI⟩
 . exact⟨p0,a,by rw[bh];exact b,by rw[bh,h1];exact c,old⟩
 . by_cases hp:p0<=p
   . have e:aZ.take p0=ord.take p0:=by rw[hI.eq];exact td hp hI.le
     exact⟨p0,by have:=hI.len;omega,by rw[bh,e];exact b,by rw[bh,e,h1];exact c,by rw[e];exact old⟩
   . have hg:ms.getD i tI=mi:=dU hi
     have e:dY K.NN ms q0 (aZ.take (p0+1))=dY K.NN ms q0 (ord.take p0):=rN.st (by rw[hg];exact hI) a ae;refine⟨p0+1,by have:=hI.len;omega,by rw[bh,e];exact b,by rw[bh,e,h1];exact c,λk mk hk hx he=> ?_⟩;rw[hI.eq];exact p_ hI.le ae (old k mk hk hx he)
theorem eZ.AQ(h:eZ K q0 σ ms Tm L T fl ord N)(hi:ms[i]?=some m)(h1:m'.c=m.c)(UZ:rO K L T L' T')(U5:∀b,b<K.B->L' (eJ K.W b)/1099511627776<=(N':Int))
 (ho:(aZ=ord/\m'.out σ'=m.out σ/\kQ K.W K.B K.NN K.hs K.bk L' T' eG (dY K.NN ms q0 ord))\/
   (∃p,rN K q0 ms ord i m.c p aZ/\m.ph.fresh=false/\m'.ph.fresh=false/\m'.ph.over=false/\m'.out σ'=some (cI K.NN (dY K.NN ms q0 (ord.take p)) m.c).2/\kQ K.W K.B K.NN K.hs K.bk L' T' eG (dY K.NN ms q0 aZ)/\∀(k:Nat) (mk:TM),ms[k]?=some mk->mk.ph.over=true->mk.en<m.bg->k∈ord.take p))
 (oo:m'.ph.facts K L' T' σ' m'.c (m.ph.fresh=false/\qG K q0 ms ord m))
 (mK:∀(j:Nat) (mj:TM) (d:TD) (a:Nat),j≠i->ms[j]?=some mj->mj.ph= .dH d a->cH σ' d.res a=cH σ d.res a/\∀o,σ.ops a=some o->∃o',σ'.ops a=some o'/\o'.es=o.es)
 (cS:∀c,σ'.cur=some c->∃(j:Nat) (mj:TM) (d:TD),(ms.set i m')[j]?=some mj/\mj.ph= .dH d c)
 (lT:∀(d:TD) (a:Nat),m'.ph= .dH d a->∀(j:Nat) (mj:TM) (dj:TD),j≠i->ms[j]?=some mj->mj.ph= .dH dj a->False)
 (SG:(m'.ph.fresh=false->m'.bg<Tm)/\(m'.ph.over=true->m'.en<Tm)) (Hf:m.ph.fresh=false->m'.bg=m.bg) (bU:m.ph.over=true->m'.ph.over=true/\m'.en=m.en) (tH:m.ph.over=false->m'.ph.over=true->m'.en+1=Tm):
 eZ K q0 σ' (ms.set i m') Tm L' T' eG aZ N':=by
 have fU:=(ki.1 hi).1;have bh:=λo=>EU (NN:=K.NN) (q0:=q0) (BJ hi h1) o
 have sg:=h.ok i m hi;have hgi:ms.getD i tI=m:=dU hi
 have QI:aZ=ord\/∃p,rN K q0 ms ord i m.c p aZ:=by
  rcases ho with⟨e,_⟩|⟨p,e,_⟩
  . exact .inl e
  . exact .inr ⟨p,e⟩
 have vJ:∀j,j≠i->(j∈aZ↔j∈ord):=λj hj=>by
  rcases QI with e|⟨p,e⟩
  . rw[e]
  . rw[e.eq,Cw];simp[hj]
 have SR:∀x j,aZ[x]?=some j->(∃y,ord[y]?=some j/\dY K.NN ms q0 (aZ.take x)=dY K.NN ms q0 (ord.take y)/\∀k,k∈ord.take y->k∈aZ.take x)\/(∃p,rN K q0 ms ord i m.c p aZ/\j=i/\x=p/\aZ.take x=ord.take p):=by
  intro x j hx;rcases QI with e|⟨p,e⟩
  . rw[e]at hx |-;exact .inl ⟨x,hx,rfl,λ_ hk=>hk⟩
  . have G2:=hx
    rw[e.eq]at G2;rcases ME G2 e.le with⟨a1,a2⟩|⟨a1,a2⟩|⟨y,a1,a2,a3⟩
    . have e2:aZ.take x=ord.take x:=by rw[e.eq];exact td ae e.le
      exact .inl ⟨x,a2,by rw[e2],λk hk=>by rw[e2];exact hk⟩
    . exact .inr ⟨p,e,a2,a1,by rw[e.eq,a1];exact td (a_ _) e.le⟩
    . subst a1
      have hyl:=(ki.1 a3).1;refine .inl ⟨y,a3,?_,λk hk=>by rw[e.eq];exact p_ e.le a2 hk⟩;by_cases hpy:p=y
      . subst hpy
        have hid:(cI K.NN (dY K.NN ms q0 (ord.take p)) m.c).1=dY K.NN ms q0 (ord.take p):=by
         rcases e.id with e1|e1
         . exact e1
         . omega
        rw[e.eq,mI (a_ _) e.le,List.drop_eq_nil_of_le (by rw[gf];omega),pJ,hgi,hid]
      . exact rN.st (by rw[hgi];exact e) ae ae
 refine⟨?_,U5,?_,λj hj=> ?_,λj mj hj=> ?_,λi1 j1 mi mj di dj a g1 g2 g3 g4=> ?_,cS,λj mj hj=> ?_,λx i1 k mi mk g1 g2 g3 g4 g5=> ?_⟩
 . rw[bh]
   rcases ho with⟨e,_,e2⟩|⟨p,_,_,_,_,_,e2,_⟩
   . rw[e];exact e2
   . exact e2
 . rcases QI with e|⟨p,e⟩
   . rw[e];exact h.nd
   . rw[e.eq];exact qg h.nd e.no
 . rw[lO]
   by_cases eb:j=i
   . rw[eb];exact fU
   . exact h.mem j ((vJ j eb).1 hj)
 . rcases aJ hi hj with⟨rfl,rfl⟩|⟨aG,hj⟩
   . refine⟨?_,λx hx=> ?_,oo.mono (by rw[h1];exact sg.vl.2.1) rO.refl (λd a o _ ho=>⟨o,ho,rfl⟩) (λhF=>hF.2.keep hi h1 QI h1 (Hf hF.1) ((h.tm j m hi).1 hF.1) bU tH),by rw[h1];exact sg.vl⟩
     . rcases ho with⟨e,e1,_⟩|⟨p,e,_,_,_,e1,_⟩
       . rw[e,e1];exact sg.io
       . rw[e.eq,e1,Cw];simp
     . rw[bh,h1]
       rcases SR x j hx with⟨y,a1,a2,_⟩|⟨p,a0,_,_,a2⟩
       . rw[a2]
         rcases ho with⟨_,e1,_⟩|⟨p,e,_⟩
         . rw[e1];exact sg.res y a1
         . exact absurd (AZ a1) e.no
       . rw[a2]
         rcases ho with⟨e,_,_⟩|⟨p',e,_,_,_,e1,_⟩
         . have:=a0.len;rw[e]at this;omega
         . have:p=p':=by
            have h3:aZ[p']?=some j:=by rw[e.eq];unfold gK;rw[nZ (by rw[gf];omega),gf,vn e.le];simp
            have h4:aZ[p]?=some j:=by rw[a0.eq];unfold gK;rw[nZ (by rw[gf];omega),gf,vn a0.le];simp
            have oy:aZ.Nodup:=by rw[e.eq];exact qg h.nd e.no
            have l4:=(ki.1 h4).1;exact(List.getElem?_inj l4 oy).1 (h4.trans h3.symm)
           rw[this];exact e1
   . have bF:=h.ok j mj hj
     have heq:mj.out σ'=mj.out σ:=by
      unfold TM.out;cases hp:mj.ph with
      |dH d a=>exact(mK j mj d a aG hj hp).1
      |_=>rfl
     refine⟨by rw[heq,vJ j aG];exact bF.io,λx hx=> ?_,?_,bF.vl⟩
     . rw[heq,bh]
       rcases SR x j hx with⟨y,a1,a2,_⟩|⟨_,_,a1,_⟩
       . rw[a2];exact bF.res y a1
       . exact absurd a1 aG
     . by_cases gW:mj.ph.fresh=true
       . cases hp:mj.ph with
         |start=>trivial
         |fin v e=>trivial
         |rd d r=>rw[hp]at gW;cases gW
         |dH d a=>rw[hp]at gW;cases gW
       . exact bF.ph.mono bF.vl.2.1 UZ (λd a o hp ho=>(mK j mj d a aG hj hp).2 o ho) (λhF=>hF.keep hi h1 QI rfl rfl ((h.tm j mj hj).1 (by simpa using gW)) bU tH)
 . rcases aJ hi g1 with⟨rfl,rfl⟩|⟨aG,g1'⟩
   . rcases aJ hi g2 with⟨rfl,rfl⟩|⟨QM,g2'⟩
     . rfl
     . exact(lT _ _ g3 j1 mj _ QM g2' g4).elim
   . rcases aJ hi g2 with⟨rfl,rfl⟩|⟨QM,g2'⟩
     . exact(lT _ _ g4 i1 mi _ aG g1' g3).elim
     . exact h.inj i1 j1 mi mj _ _ _ g1' g2' g3 g4
 . rcases aJ hi hj with⟨rfl,rfl⟩|⟨aG,hj⟩
   . exact SG
   . exact h.tm j mj hj
 . rcases SR x i1 g1 with⟨y,a1,_,a2⟩|⟨p,a0,rfl,_,a2⟩
   . refine a2 _ ?_
     have nf:∀mx,ms[i1]?=some mx->mx.ph.fresh=false:=λmx hx=>by
      cases gW:mx.ph.fresh with
      |false=>rfl
      |true=>exact absurd (yr (σ:=σ) gW) ((h.ok i1 mx hx).io.1 (AZ a1))
     obtain⟨Yr,b1,b2,b3⟩:∃Yr,ms[i1]?=some Yr/\mi.bg=Yr.bg/\Yr.ph.fresh=false:=by
      rcases aJ hi g2 with⟨rfl,rfl⟩|⟨aG,hj⟩
      . exact⟨m,hi,Hf (nf m hi),nf m hi⟩
      . exact⟨mi,hj,rfl,nf mi hj⟩
     have aM:=(h.tm i1 Yr b1).1 b3;rcases aJ hi g3 with⟨rfl,rfl⟩|⟨aG,g3⟩
     . cases DH:m.ph.over with
       |true=>
        obtain⟨o1,o2⟩:=bU DH;exact h.rt y i1 k Yr m a1 b1 hi DH ae
       |false=>
        have:=tH DH g4;omega
     . exact h.rt y i1 k Yr mk a1 b1 g3 g4 ae
   . rw[a2]
     rcases ho with⟨e,_⟩|⟨p',e,ef,_,e1,_,_,e3⟩
     . have:=a0.len;rw[e]at this;omega
     . have Ei:p=p':=by
        have h3:aZ[p']?=some i1:=by rw[e.eq];unfold gK;rw[nZ (by rw[gf];omega),gf,vn e.le];simp
        have h4:aZ[p]?=some i1:=by rw[a0.eq];unfold gK;rw[nZ (by rw[gf];omega),gf,vn a0.le];simp
        have oy:aZ.Nodup:=by rw[e.eq];exact qg h.nd e.no
        have l4:=(ki.1 h4).1;exact(List.getElem?_inj l4 oy).1 (h4.trans h3.symm)
       rw[Ei]
       have hbi:mi.bg=m.bg:=by
        rcases aJ hi g2 with⟨_,rfl⟩|⟨aG,_⟩
        . exact Hf ef
        . exact absurd rfl aG
       rcases aJ hi g3 with⟨rfl,rfl⟩|⟨aG,g3⟩
       . rw[e1]at g4;cases g4
       . exact e3 k mk g3 g4 ae
end
def TK.P(K:TK):Nat:=K.B+4*K.NN
section
variable{K:TK}{L L':Nat->Int}{T T':Nat->TT}{fl eG:List Nat}{σ σ':PwS}{q0:List (Int×Int)}{ms oI:List TM}{ord aZ:List Nat}{m m':TM}{c:TC}{d:TD}{r:eP}{i p n cnt Tm N N' a:Nat}{sum:List Int->Int}{at0:Nat->Int}{xs dz:List Int}
theorem cZ{ms:List TM}{i:Nat}{m:TM}(hi:ms[i]?=some m):ms.set i m=ms:=by
 apply yV
 intro j;by_cases eb:i=j
 . subst eb
   rw[nX (ki.1 hi).1,hi]
 . rw[rE eb]
theorem eZ.move(h:eZ K q0 σ ms Tm L T fl ord N)(hi:ms[i]?=some m)(h1:m'.c=m.c)(Bi:m'.out σ'=m.out σ)(oo:m'.ph.facts K L T σ' m'.c (m.ph.fresh=false/\qG K q0 ms ord m))
 (tx:∀x o,σ.ops x=some o->σ'.ops x=some o) (cS:σ'.cur=σ.cur) (hc:∀(d:TD) (a:Nat),m.ph= .dH d a->σ.cur≠some a)
 (kO:∀(d:TD) (a:Nat),m'.ph= .dH d a->σ.ops a=none)
 (SG:(m'.ph.fresh=false->m'.bg<Tm)/\(m'.ph.over=true->m'.en<Tm)) (Hf:m.ph.fresh=false->m'.bg=m.bg) (bU:m.ph.over=false) (tH:m'.ph.over=true->m'.en+1=Tm):
 eZ K q0 σ' (ms.set i m') Tm L T fl ord N:=by
 refine h.AQ hi h1 rO.refl h.cn (.inl ⟨rfl,Bi,h.ab⟩) oo (λj mj d a aG hj hp=> ?_) (λc gh=> ?_) (λd a hp j mj dj aG hj rk=> ?_) SG Hf (λhx=>by rw[bU]at hx;cases hx) (λ_ hx=>tH hx)
 . have hf:=(h.ok j mj hj).ph
   rw[hp]at hf;obtain⟨o,g1,_⟩:=hf;refine⟨by unfold cH;rw[g1,tx a o g1],λo' ho'=>⟨o',tx a o' ho',rfl⟩⟩
 . rw[cS]at gh
   obtain⟨j,mj,d,g1,g2⟩:=h.cur c gh;by_cases eb:j=i
   . subst eb
     rw[hi]at g1;injection g1 with g1;subst g1;exact absurd gh (hc d c g2)
   . exact⟨j,mj,d,by rw[rE (cC eb)];exact g1,g2⟩
 . have hf:=(h.ok j mj hj).ph
   rw[rk]at hf;obtain⟨o,g1,_⟩:=hf;rw[kO d a hp]at g1;cases g1
theorem my.wk(h:my K c d):Mq K.W K.P (tWd K c d):=by
 obtain⟨k,e,h⟩:=h.wd;subst e;unfold Mq TK.P;rcases h with h|⟨b,hb,h⟩|⟨n,j,h1,h2,h3,h⟩
 . rw[h];unfold TK.fr nV;omega
 . rw[h];unfold eJ;omega
 . rw[h];unfold TK.nd aQ;omega
theorem my.lk{q:List (Int×Int)}(h:my K c d)(Br:kQ K.W K.B K.NN K.hs K.bk L T fl q)(hb:K.bk c.key<K.B)(hs:d.aa=1\/d.aa=3\/d.aa=5\/d.aa=6\/d.aa=9\/d.aa=10\/d.aa=13):L (tWd K c d)%1099511627776<=K.NN:=by
 have mJ:bu L (K.rt c)<=K.NN:=Br.rgr hb;have hl:=h.last;have iW:=h.oJ;rcases hs with hs|hs|hs|hs|hs|hs|hs<;>unfold tWd<;>simp only[hs]
 . exact mJ
 . rcases h.link.resolve_left ae with e|⟨n,j,h1,h2,h3,e⟩
   . rw[e];exact mJ
   . rw[e];exact Br.rg h1 h2 h3
 . exact Br.rg (iW (.inl hs)).2.1 hl (.inl rfl)
 . exact Br.rg (iW (.inr (.inl hs))).2.1 hl (.inr rfl)
 . exact Br.rgf
 . exact Br.rg (h.f1 ae).1 h.free (.inl rfl)
 . exact mJ
theorem rN.ZaR(h:rN K q0 ms ord i (ms.getD i tI).c p aZ)(hid:(cI K.NN (dY K.NN ms q0 (ord.take p)) (ms.getD i tI).c).1=dY K.NN ms q0 (ord.take p)):dY K.NN ms q0 aZ=dY K.NN ms q0 ord:=by
 by_cases hp:p=ord.length
 . rw[h.eq,hp,vE,pJ]
   rw[hp,sO]at hid;exact hid
 . have hle:=h.le
   have:=h.st (j:=ord.length) (a_ _) ae;rw[sO,fR (by rw[h.eq,CD h.le];omega)]at this;exact this
theorem eZ.Qv(h:eZ K q0 σ ms Tm L T fl ord N):∀(k:Nat) (mk:TM),ms[k]?=some mk->mk.ph.over=true->k∈ord:=λk mk hk hx=>(h.ok k mk hk).io.2 (uZ hx)
theorem eZ.tree(h:eZ K q0 σ ms Tm L T fl ord N)(hb:K.bk c.key<K.B):gU L (aQ K.W K.B) K.NN (T (K.bk c.key)) (bu L (K.rt c)):=h.ab.tr _ hb
theorem eZ.told(h:eZ K q0 σ ms Tm L T fl ord N)(hi:ms[i]?=some m)(hsy:TSy K m.c (T (K.bk m.c.key)) d)(hs:d.aa=13)(he:d.err≠4)(Y9:i∉ord):rN K q0 ms ord i m.c ord.length (ord++[i])/\cI K.NN (dY K.NN ms q0 ord) m.c=(dY K.NN ms q0 ord,d.res,d.err):=by
 obtain⟨v1,v2,v3,v4,v5⟩:=(h.ok i m hi).vl;have hg:=h.ab.get v1 v2
 have Xe:cI K.NN (dY K.NN ms q0 ord) m.c=(dY K.NN ms q0 ord,d.res,d.err):=by
  simp only[TSy,hs]at hsy;unfold cI eu;rw[hg];rcases hsy with⟨a1,a2,a3⟩|⟨a1,a2,a3,a4⟩|⟨a1,a2,a3,a4⟩|⟨a1,_⟩
  . rw[a3];simp[a1,a2]
  . rw[a4];simp[a1,a2,a3]
  . rw[a3];simp[a1,a2,a4]
  . exact absurd a1 he
 exact⟨⟨a_ _,vE.symm,Y9, .inr rfl⟩,Xe⟩
theorem eZ.read(h:eZ K q0 σ ms Tm L T fl ord N)(hI:Inv sum at0 n cnt (Mq K.W K.P) N σ xs L)(hN:N<1000000)(hn:K.W+8+K.P<=8*n)(hi:ms[i]?=some m)(hp:m.ph= .rd d r)(he:r.ended=false):
 ∃aZ,Inv sum at0 n cnt (Mq K.W K.P) (N+1) (σ.aI r).1 xs L/\(σ.aI r).1.ops=σ.ops/\(σ.aI r).1.cur=σ.cur/\(σ.aI r).1.busy=σ.busy/\(σ.aI r).2.place=r.place+1/\(σ.aI r).2.th=r.th/\
  (σ.aI r).2.raw=(if r.place=0 then L (tWd K m.c d)else r.raw)/\eZ K q0 (σ.aI r).1 (ms.set i {m with ph:= .rd d (σ.aI r).2}) Tm L T fl aZ N:=by
 have bF:=h.ok i m hi;have hf:=bF.ph;obtain⟨v1,v2,v3,v4,v5⟩:=bF.vl;rw[hp]at hf;obtain⟨f1,f2,f3,f4,f5,f6,f7,f8,f9⟩:=hf;have hk:=f1.wk;have hR:=hI.aI hN hk (by have:=hk.2;omega) f2 f3 he f4 (f5 he);obtain⟨q1,q2,q3⟩:=hR.ops;obtain⟨q4,q5,q6⟩:=hR.th;have q7:=hR.raw;obtain⟨q8,q9⟩:=hR.place;have q10:=hR.ended;have hinv:=hR.inv;obtain⟨τ,DB⟩:=aH ((σ.aI r).1);obtain⟨r',DG⟩:=aH ((σ.aI r).2);rw[DB]at q1 q2 q3 hinv |-;rw[DG]at q4 q5 q6 q7 q8 q9 q10 |-;have gW:m.ph.fresh=false:=by rw[hp];rfl
 have bU:m.ph.over=false:=by rw[hp];rfl
 have SG:=h.tm i m hi;have js:∀(d:TD) (a:Nat),m.ph≠ .dH d a:=λd a hx=>by rw[hp]at hx;cases hx
 have QZ:(pz.rd d r').facts K L T τ m.c (m.ph.fresh=false/\qG K q0 ms ord m):=by
  refine⟨f1,q5.trans f2,by rw[q4];exact f3,q6,λhx=> ?_,λ_=>by omega,λ_=> ?_,λhs=> ?_,λhs _=> ?_⟩
  . rcases q10 with q|q
    . rw[hx]at q;cases q
    . exact q
  . rw[q7]
    by_cases po:r.place=0
    . rw[aA po];exact⟨hI.hL _ hk,λhs=>f1.lk h.ab v2 hs⟩
    . rw[ax po];exact f7 po
  . rcases f8 hs with hx|⟨g1,g2,g3,g4,g5⟩
    . exact .inl hx
    . refine .inr ⟨g1,g2,λ_=> ?_,λhx=>⟨gW,g4 hx⟩,λ⟨e1,e2,_,e3⟩=> ?_⟩
      . rw[q7]
        by_cases po:r.place=0
        . rw[aA po];exact g2.got (h.tree v2)
        . rw[ax po];exact g3 po
      . rw[q7]at e3
        by_cases po:r.place=0
        . rw[aA po]at e3
          refine⟨gW,ord.length,a_ _,?_,?_,λk mk hk hx _=> ?_⟩
          . rw[sO]
            have ew:tWd K m.c d=K.fr:=by unfold tWd;simp only[e1]
            rw[ew]at e3;have Bn:=h.ab.fr;rw[show bu L (nV K.W)=0 from e3]at Bn;cases MY:fl with
            |nil=>have:=h.ab.ct;rw[MY]at this;simp at this;omega
            |cons x l=>rw[MY]at Bn;have h0:=Bn.1;have h1:=Bn.2.1;omega
          . rw[sO,h.ab.get v1 v2]
            simp only[TSy,e1]at g2;rcases g2 with⟨_,_,a3,_⟩|⟨a1,_⟩|⟨a1,_⟩
            . rcases TT.jT (hs:=K.hs) (key:=m.c.key) (T:=T (K.bk m.c.key)) (d:=0)with⟨_,b⟩|⟨_,_,_,_,b,_⟩
              . exact b
              . rw[a3]at b;cases b
            . omega
            . omega
          . rw[sO];exact h.Qv k mk hk hx
        . rw[ax po]at e3
          exact⟨gW,g5 ⟨e1,e2,po,e3⟩⟩
  . rw[q7]
    by_cases po:r.place=0
    . rw[aA po]
      right;have ew:tWd K m.c d=K.rt m.c:=by unfold tWd;rcases hs with hs|hs<;>simp only[hs]
      rw[ew]
    . rw[ax po];exact f9 hs po
 have same:(TM.out τ {m with ph:= .rd d r'})=m.out σ->eZ K q0 τ (ms.set i {m with ph:= .rd d r'}) Tm L T fl ord N:=λhx=>
  h.move (m':={m with ph:= .rd d r'}) hi rfl hx QZ (λx o hxo=>by rw[q1];exact hxo) q2 (λd a hx=>absurd hx (js d a)) (λd a hx=>(by cases hx)) ⟨λ_=>SG.1 gW,λhx=>(by cases hx)⟩ (λ_=>rfl) bU (λhx=>(by cases hx))
 have app:∀{p:Nat} {aZ:List Nat},rN K q0 ms ord i m.c p aZ->(cI K.NN (dY K.NN ms q0 (ord.take p)) m.c).1=dY K.NN ms q0 (ord.take p)->TM.out τ {m with ph:= .rd d r'}=some (cI K.NN (dY K.NN ms q0 (ord.take p)) m.c).2->(∀(k:Nat) (mk:TM),ms[k]?=some mk->mk.ph.over=true->mk.en<m.bg->k∈ord.take p)->eZ K q0 τ (ms.set i {m with ph:= .rd d r'}) Tm L T fl aZ N:=λ{p aZ} ZbD hid Bi AF=>by
  have bh:dY K.NN ms q0 aZ=dY K.NN ms q0 ord:=by
   have hg:ms.getD i tI=m:=dU hi;exact rN.ZaR (by rw[hg];exact ZbD) (by rw[hg];exact hid)
  refine h.AQ (m':={m with ph:= .rd d r'}) hi rfl rO.refl h.cn (.inr ⟨p,ZbD,gW,rfl,rfl,Bi,by rw[bh];exact h.ab,AF⟩) QZ (λj mj d a aG hj rk=>⟨by unfold cH;rw[q1],λo' ho'=>⟨o',by rw[q1];exact ho',rfl⟩⟩) (λcc gh=> ?_) (λd a hx=>(by cases hx)) ⟨λ_=>SG.1 gW,λhx=>(by cases hx)⟩ (λ_=>rfl) (λhx=>by rw[bU]at hx;cases hx) (λ_ hx=>(by cases hx));rw[q2]at gh;obtain⟨j,mj,dj,g1,g2⟩:=h.cur cc gh
  have eb:i≠j:=λhx=>by
   subst hx;rw[hi]at g1;injection g1 with g1;subst g1;exact js _ _ g2
  exact⟨j,mj,dj,by rw[rE eb];exact g1,g2⟩
 have I_:∃aZ,eZ K q0 τ (ms.set i {m with ph:= .rd d r'}) Tm L T fl aZ N:=by
  have Bj:m.out σ=if d.aa=13/\r.place≠0/\r.raw=d.raw then some (d.res,d.err)else none:=by unfold TM.out;rw[hp]
  have pq:TM.out τ {m with ph:= .rd d r'}=if d.aa=13/\r'.place≠0/\r'.raw=d.raw then some (d.res,d.err)else none:=rfl
  by_cases po:r.place=0
  . rw[aA po]at q7
    rw[ax (λhx=>hx.2.1 po)]at Bj;have Y9:i∉ord:=λhx=>(bF.io.1 hx) Bj
    by_cases hs:d.aa=13
    . have ew:tWd K m.c d=K.rt m.c:=by unfold tWd;simp only[hs]
      rw[ew]at q7;by_cases b8:L (K.rt m.c)=d.raw
      . rw[aA ⟨hs,by omega,q7.trans b8⟩]at pq
        rcases f8 ae with hx|⟨g1,g2,_,g4,_⟩
        . exfalso;unfold lI at hx;rw[b8]at hx;exact Int.lt_irrefl _ hx
        . by_cases h4:d.err=4
          . obtain⟨p,b1,b2,b3,b4⟩:=g4 ⟨hs,h4⟩
            have iy:m.c.kind=1/\d.res=0:=by
             simp only[TSy,hs]at g2;rcases g2 with⟨a1,_⟩|⟨a1,_⟩|⟨a1,_⟩|⟨_,a2,a3,_⟩
             . omega
             . omega
             . omega
             . exact⟨a3,a2⟩
            have Xe:cI K.NN (dY K.NN ms q0 (ord.take p)) m.c=(dY K.NN ms q0 (ord.take p),0,4):=by
             unfold cI eu;rw[b3];simp only[iy.1,cR];rw[aA b2]
            exact⟨_,app ⟨b1,rfl,Y9, .inl (by rw[Xe])⟩ (by rw[Xe]) (by rw[pq,Xe,iy.2,h4]) b4⟩
          . obtain⟨t1,t2⟩:=h.told hi g2 hs h4 Y9
            exact⟨_,app t1 (by rw[sO,t2]) (by rw[sO,t2,pq]) (λk mk hk hx _=>by rw[sO];exact h.Qv k mk hk hx)⟩
      . exact⟨ord,same (by rw[Bj,pq,ax (λhx=>b8 (q7.symm.trans hx.2.2))])⟩
    . exact⟨ord,same (by rw[Bj,pq,ax (λhx=>hs hx.1)])⟩
  . rw[ax po]at q7
    refine⟨ord,same ?_⟩;rw[Bj,pq,q7];by_cases hx:d.aa=13/\r.raw=d.raw
    . rw[aA ⟨hx.1,by omega,hx.2⟩,aA ⟨hx.1,po,hx.2⟩]
    . rw[ax (λhy=>hx ⟨hy.1,hy.2.2⟩),ax (λhy=>hx ⟨hy.1,hy.2.2⟩)]
 obtain⟨aZ,hL⟩:=I_;exact⟨aZ,hinv,q1,q2,q3,q8.symm,q4,q7,hL⟩
end
section
variable{K:TK}{L L':Nat->Int}{T T':Nat->TT}{fl eG:List Nat}{σ σ':PwS}{q0:List (Int×Int)}{ms oI:List TM}{ord aZ:List Nat}{m m':TM}{c:TC}{d:TD}{r:eP}{i p n cnt Tm N N' a k:Nat}{sum:List Int->Int}{at0:Nat->Int}{xs dz:List Int}{o:aX}{b:Bool}{es:List bO}{e:bO}{v:Int}
theorem Zai(hd:dupE es=false)(ho:Ss es)(he:e∈es)(hk:e.off=8*(k:Int)):appL L es k=e.after (L k):=by
 obtain⟨q,hq,rfl⟩:=y_ he;have hg:es.getD q E0=es[q]:=by rw[eY,dG hq];rfl
 unfold appL;have hw:ee es q=k:=by unfold ee;rw[hg,hk];omega
 cases hf:(List.range es.length).find? (λq'=>ee es q'==k)with
 |none=>
  rw[yW]at hf;exact absurd (hf q (by simpa using hq)) (by simp[hw])
 |some q'=>
  have h1:=Fh hf;have h2:=Mn hf;have wJ:q'<es.length:=by simpa using h2
  have hw':ee es q'=k:=by simpa using h1
  have W7:es.getD q' E0=es[q']:=by rw[eY,dG wJ];rfl
  obtain⟨k',jC⟩:=(ho es[q'] (fq wJ)).2
  have:q'=q:=oB hd q' q wJ hq (by
   rw[hg,W7,hk,jC];unfold ee at hw';rw[W7,jC]at hw';omega)
  subst this;dsimp only;rw[hg]
theorem cx.ext(he:cx K c es)(hd:dupE es=false)(hb:K.bk c.key<K.B){x:Int}(hr:dD K c d x∈es)(hT:∀b,b≠K.bk c.key->T' b=T b)(hc:∀b,b<K.B->L (eJ K.W b)/1099511627776<=(N:Int))(hL:0<=L (K.rt c))(hN:N<1000000):
 rO K L T (appL L es) T'/\∀b,b<K.B->appL L es (eJ K.W b)/1099511627776<=((N+1:Nat):Int):=by
 have hx:=(he _ hr).2.1;have h1:appL L es (K.rt c)=(dD K c d x).after (L (K.rt c)):=Zai hd he.es hr rfl;have h2:=hc _ hb;have hq0:0<=L (K.rt c)/1099511627776:=by omega
 have h3:appL L es (K.rt c)/1099511627776=L (K.rt c)/1099511627776+1:=by
  rw[h1];unfold bO.after;rw[show(L (K.rt c)/1099511627776+1)%4194304=L (K.rt c)/1099511627776+1 from PF ae (by have:L (K.rt c)/1099511627776<=(N:Int):=h2;omega)];show(x+(L (K.rt c)/1099511627776+1)*1099511627776)/1099511627776=_
  have lC:(dD K c d x).new=x:=rfl;rw[lC]at hx;omega
 have h4:∀b,b<K.B->b≠K.bk c.key->appL L es (eJ K.W b)=L (eJ K.W b):=λb hbB aG=>by
  refine Ag he.es (λe Zv=> ?_);obtain⟨_,_,k,g1,g2⟩:=he e Zv;rw[g1];rcases g2 with rfl|rfl|⟨n,j,_,_,_,rfl⟩
  . unfold TK.rt eJ;omega
  . unfold TK.fr nV eJ;omega
  . unfold TK.nd aQ eJ;omega
 refine⟨λb hbB=> ?_,λb hbB=> ?_⟩
 . by_cases aG:b=K.bk c.key
   . right;subst aG;show L (K.rt c)/1099511627776<appL L es (K.rt c)/1099511627776;rw[h3];omega
   . exact .inl ⟨h4 b hbB aG,hT b aG⟩
 . by_cases aG:b=K.bk c.key
   . subst aG;show appL L es (K.rt c)/1099511627776<=_;rw[h3];have:L (K.rt c)/1099511627776<=(N:Int):=h2;omega
   . rw[h4 b hbB aG];have:=hc b hbB;omega
theorem eZ.oper(h:eZ K q0 σ ms Tm L T fl ord N)(hI:Inv sum at0 n cnt (Mq K.W K.P) N σ xs L)(hN:N<1000000)(S:vX sum at0 n cnt (Mq K.W K.P) (N+1) a o σ L σ' b dz L')(hi:ms[i]?=some m)(hp:m.ph= .dH d a):
 ∃T' eG aZ,eZ K q0 σ' ms Tm L' T' eG aZ (N+1)/\rO K L T L' T':=by
 have cS:=yD (sum:=sum) (at0:=at0) (σ:=σ) (a:=a);rw[S.eq]at cS;dsimp only at cS
 have zI:∀c,σ'.cur=some c->∃(j:Nat) (mj:TM) (d:TD),ms[j]?=some mj/\mj.ph= .dH d c:=by
  intro c' gh;rcases cS with e|e|e
  . rw[e]at gh;exact h.cur c' gh
  . rw[e]at gh;cases gh
  . rw[e]at gh
    injection gh with gh;subst gh;exact⟨i,m,d,hi,hp⟩
 have same:∀(x:Nat) (ox:aX),σ.ops x=some ox->(σ'.ops x).map aX.key=(σ.ops x).map aX.key->∃AD,σ'.ops x=some AD/\AD.es=ox.es/\AD.res=ox.res:=by
  intro x ox hx Jg;rw[hx,Option.map_some]at Jg;cases G2:σ'.ops x with
  |none=>rw[G2]at Jg;cases Jg
  |some AD=>
   rw[G2,Option.map_some]at Jg;injection Jg with Jg;exact⟨AD,rfl,bP (λx=>x.1) Jg,bP (λx=>x.2.2.2) Jg⟩
 have keep:∀(j:Nat) (mj:TM) (dj:TD) (aj:Nat),ms[j]?=some mj->mj.ph= .dH dj aj->(σ'.ops aj).map aX.key=(σ.ops aj).map aX.key->cH σ' dj.res aj=cH σ dj.res aj/\∀o,σ.ops aj=some o->∃o',σ'.ops aj=some o'/\o'.es=o.es:=by
  intro j mj dj aj hj rk hk;have hf:=(h.ok j mj hj).ph;rw[rk]at hf;obtain⟨oj,g1,_⟩:=hf;obtain⟨oj',g2,g3,g4⟩:=same aj oj g1 hk;refine⟨by unfold cH;rw[g1,g2];simp[g4],λo ho=> ?_⟩;rw[g1]at ho;injection ho with ho;subst ho;exact⟨oj',g2,g3⟩
 have one:∀(j:Nat) (mj:TM) (dj:TD) (cc:Nat) (aZ:List Nat) (T':Nat->TT) (eG:List Nat),ms[j]?=some mj->mj.ph= .dH dj cc->rO K L T L' T'->(∀b,b<K.B->L' (eJ K.W b)/1099511627776<=((N+1:Nat):Int))->
  ((aZ=ord/\mj.out σ'=mj.out σ/\kQ K.W K.B K.NN K.hs K.bk L' T' eG (dY K.NN ms q0 ord))\/(aZ=ord++[j]/\j∉ord/\mj.out σ'=some (cI K.NN (dY K.NN ms q0 ord) mj.c).2/\kQ K.W K.B K.NN K.hs K.bk L' T' eG (cI K.NN (dY K.NN ms q0 ord) mj.c).1))->
  (∃o',σ'.ops cc=some o'/\∀o,σ.ops cc=some o->o'.es=o.es)->(∀x,x≠cc->(σ'.ops x).map aX.key=(σ.ops x).map aX.key)->eZ K q0 σ' ms Tm L' T' eG aZ (N+1):=by
  intro j mj dj cc aZ T' eG hj rk UZ U5 ho En mK;have bU:mj.ph.over=false:=by rw[rk];rfl
  have gW:mj.ph.fresh=false:=by rw[rk];rfl
  have SG:=h.tm j mj hj;have bF:=h.ok j mj hj;have hg:ms.getD j tI=mj:=dU hj
  have oo:mj.ph.facts K L' T' σ' mj.c (mj.ph.fresh=false/\qG K q0 ms ord mj):=by
   refine bF.ph.mono bF.vl.2.1 UZ (λd2 a2 o2 h2 h3=> ?_) (λhF=>⟨gW,hF⟩);rw[rk]at h2;injection h2 with h2 h4;subst h4;obtain⟨o',g3,g4⟩:=En;exact⟨o',g3,g4 o2 h3⟩
  have ho':(aZ=ord/\mj.out σ'=mj.out σ/\kQ K.W K.B K.NN K.hs K.bk L' T' eG (dY K.NN ms q0 ord))\/
   (∃p,rN K q0 ms ord j mj.c p aZ/\mj.ph.fresh=false/\mj.ph.fresh=false/\mj.ph.over=false/\mj.out σ'=some (cI K.NN (dY K.NN ms q0 (ord.take p)) mj.c).2/\kQ K.W K.B K.NN K.hs K.bk L' T' eG (dY K.NN ms q0 aZ)/\∀(k:Nat) (mk:TM),ms[k]?=some mk->mk.ph.over=true->mk.en<mj.bg->k∈ord.take p):=by
   rcases ho with h1|⟨h1,h2,h3,h4⟩
   . exact .inl h1
   . refine .inr ⟨ord.length,⟨a_ _,by rw[vE];exact h1,h2, .inr rfl⟩,gW,gW,bU,by rw[sO];exact h3,by rw[h1,pJ,hg];exact h4,λk mk hk hx _=>by rw[sO];exact h.Qv k mk hk hx⟩
  have:=h.AQ (σ':=σ') (L':=L') (m':=mj) hj rfl UZ U5 ho' oo (λj2 mj2 d2 a2 aG MT hp2=>keep j2 mj2 d2 a2 MT hp2 (mK a2 (λhe=>aG (by rw[he]at hp2;exact(h.inj j2 j mj2 mj _ _ _ MT hj hp2 rk))))) (λc' gh=>by rw[cZ hj];exact zI c' gh) (λd2 a2 hp2 j2 mj2 dj2 aG MT ZcO=>aG (h.inj j2 j mj2 mj _ _ _ MT hj ZcO hp2)) SG (λ_=>rfl) (λ_=>⟨by assumption,rfl⟩) (λhx hy=>by rw[bU]at hy;cases hy);rwa[cZ hj]at this
 have ZbM:∀b,b<K.B->L (eJ K.W b)/1099511627776<=((N+1:Nat):Int):=λb hb=>by have:=h.cn b hb;omega
 rcases S.Z5 with⟨e1,e2⟩|⟨cc,oc,oc',e1,e2,e3,e4,e5,e6,e7,e8,e9,e10,e11⟩
 . refine⟨T,fl,ord,one i m d a ord T fl hi hp (by rw[e1];exact rO.refl) (by rw[e1];exact ZbM) (.inl ⟨rfl,?_,by rw[e1];exact h.ab⟩) ?_ (λx _=>e2 x),by rw[e1];exact rO.refl⟩
   . unfold TM.out;rw[hp];exact(keep i m d a hi hp (e2 a)).1
   . have hf:=(h.ok i m hi).ph
     rw[hp]at hf;obtain⟨oj,g1,_⟩:=hf;obtain⟨o',g2,g3,_⟩:=same a oj g1 (e2 a);exact⟨o',g2,λo ho=>by rw[g1]at ho;injection ho with ho;rw[<-ho];exact g3⟩
 . obtain⟨j,mj,dj,g1,g2⟩:∃(j:Nat) (mj:TM) (d:TD),ms[j]?=some mj/\mj.ph= .dH d cc:=by
    rcases e9 with e9|e9
    . exact h.cur cc e9
    . rw[e9];exact⟨i,m,d,hi,hp⟩
   have bF:=h.ok j mj g1;obtain⟨v1,v2,v3,v4,v5⟩:=bF.vl;have hf:=bF.ph;rw[g2]at hf;obtain⟨oj,f1,f2,f3,f4,⟨x,f5⟩,_,f6⟩:=hf;rw[e1]at f1;injection f1 with f1;subst f1;have wK:mj.out σ=none:=by unfold TM.out;rw[g2];show cH σ dj.res cc=none;unfold cH;rw[e1];simp[e3]
   have Y9:j∉ord:=λhx=>(bF.io.1 hx) wK
   have UL:mj.out σ'=if nu L oc.es=true then some (dj.res,0)else none:=by unfold TM.out;rw[g2];show cH σ' dj.res cc=_;unfold cH;rw[e2];simp[e4]
   have ZbH:∃o',σ'.ops cc=some o'/\∀o,σ.ops cc=some o->o'.es=o.es:=⟨oc',e2,λo ho=>by rw[e1]at ho;injection ho with ho;rw[<-ho];exact e6⟩;by_cases rF:nu L oc.es=true
   . rw[aA rF]at UL e5
     have Zbk:L (K.rt mj.c)=dj.raw:=by
      have:=u9 rF f5 (k:=K.rt mj.c) rfl;unfold bO.sat dD at this;simpa using this
     rcases f6 with f6|⟨_,f6⟩
     . exfalso;unfold lI at f6;rw[Zbk]at f6;exact Int.lt_irrefl _ f6
     . obtain⟨T',eG,t1,t2,t3⟩:=h.ab.effect v1 v2 f6 f3 f2.es rF f4
       have hk:Mq K.W K.P (K.rt mj.c):=by unfold Mq TK.P TK.rt eJ;omega
       obtain⟨x1,x2⟩:=f2.ext f3 v2 f5 t3 h.cn (hI.hL _ hk).1 hN;rw[<-e5]at x1 x2 t1;exact⟨T',eG,ord++[j],one j mj dj cc _ T' eG g1 g2 x1 x2 (.inr ⟨rfl,Y9,by rw[UL];unfold cI;rw[t2],t1⟩) ZbH (λx hx=>e11 x hx),x1⟩
   . rw[ax rF]at UL e5
     exact⟨T,fl,ord,one j mj dj cc _ T fl g1 g2 (by rw[e5];exact rO.refl) (by rw[e5];exact ZbM) (.inl ⟨rfl,by rw[wK,UL],by rw[e5];exact h.ab⟩) ZbH (λx hx=>e11 x hx),by rw[e5];exact rO.refl⟩
end
def oR(K:TK)(c:TC)(k:Nat):Prop:=k=K.rt c\/k=K.fr\/∃n j,1<=n/\n<=K.NN/\j<4/\k=K.nd n j
def uW(K:TK)(c:TC)(d:TD)(raw:Int):TO->Prop
 | .read d' k=>k=tWd K c d'/\my K c d'
 | .dH d' es v=>d'.res=v/\cx K c es/\dupE es=false/\(c.kind=1->d'.node=0->1<=d'.free)/\(∃x,dD K c d' x∈es)/\my K c {d' with aa:=1}/\1<=es.length/\es.length<=6
 | .done v e=>d.aa=13/\raw=d.raw/\v=d.res/\e=d.err
section
variable{K:TK}{c:TC}{d d':TD}{raw:Int}
structure CK(K:TK)(c:TC):Prop where
 key:KR c.key
 bk:K.bk c.key<K.B
 val:KR c.val
 kd:c.kind<=3
 NN:K.NN<1000000
theorem my.jd(h:CK K c)(h1:oR K c (tWd K c d')):∃k:Nat,k=tWd K c d'/\(k=K.fr\/(∃b,b<K.B/\k=eJ K.W b)\/∃n j,1<=n/\n<=K.NN/\j<4/\k=K.nd n j):=by
 refine⟨_,rfl,?_⟩;rcases h1 with e|e|e
 . exact .inr (.inl ⟨_,h.bk,e⟩)
 . exact .inl e
 . exact .inr (.inr e)
theorem oR.node{n j:Nat}(h1:1<=n)(h2:n<=K.NN)(h3:j<4):oR K c (K.nd n j):= .inr (.inr ⟨n,j,h1,h2,h3,rfl⟩)
theorem oR.link{k:Nat}(h:k=K.rt c\/∃n j,1<=n/\n<=K.NN/\(j=2\/j=3)/\k=K.nd n j):oR K c k:=by
 rcases h with e|⟨n,j,h1,h2,h3,e⟩
 . exact .inl e
 . exact .inr (.inr ⟨n,j,h1,h2,by omega,e⟩)
theorem ZaZ{a b:Prop}(h:¬a:=by simp):a->b:=λhx=>absurd hx h
structure BA(K:TK)(c:TC)(d:TD):Prop where
 raw:0<=d.raw/\d.raw<4611686018427387904
 node:d.node<=K.NN
 last:d.last<=K.NN
 free:d.free<=K.NN
 zero:d.aN<=K.NN
 next:d.cN<=K.NN
 link:d.link=K.rt c\/∃n j,1<=n/\n<=K.NN/\(j=2\/j=3)/\d.link=K.nd n j
 fQ:KR d.value/\KR d.dB/\KR d.cF/\KR d.fy/\KR d.bI
 dp:d.depth<=64
theorem my.b(h:my K c d)(hs:d.aa≠1):BA K c d:=⟨h.raw,h.node,h.last,h.free,h.zero,h.next,h.link.resolve_left hs,h.fQ,h.dp.1⟩
theorem uW.again'{d0:TD}(h:CK K c)(hR:BA K c d):uW K c d0 raw (jl K c d):=
 ⟨rfl,⟨my.jd h (.inl rfl),hR.raw,by simp,hR.node,hR.last,hR.free,hR.zero,hR.next, .inr hR.link,ZaZ,ZaZ,ZaZ,ZaZ,ZaZ,hR.fQ,⟨hR.dp,ZaZ⟩⟩⟩
theorem uW.Lt{d0:TD}(h:CK K c)(hR:BA K c d)(v e:Int):uW K c d0 raw (lV K c d v e):=
 ⟨rfl,⟨my.jd h (.inl rfl),hR.raw,by simp,hR.node,hR.last,hR.free,hR.zero,hR.next, .inr hR.link,ZaZ,ZaZ,ZaZ,ZaZ,ZaZ,hR.fQ,⟨hR.dp,ZaZ⟩⟩⟩
theorem uW.visit{d0:TD}(h:CK K c)(hR:BA K c d){n:Nat}(hn:n<=K.NN):uW K c d0 raw (fE K c d n):=by
 unfold fE;rw[ax ae];by_cases h0:n≠0
 . rw[aA h0]
   exact⟨rfl,⟨my.jd h (oR.node (n:=n) (j:=0) ae hn ae),hR.raw,by simp,hn,hR.last,hR.free,hR.zero,hR.next, .inr hR.link,ZaZ,λ_=>by show 1<=n;omega,ZaZ,ZaZ,ZaZ,hR.fQ,⟨hR.dp,ZaZ⟩⟩⟩
 . rw[ax h0]
   by_cases hk:c.kind=1
   . rw[aA hk]
     exact⟨rfl,⟨my.jd h (.inr (.inl rfl)),hR.raw,by simp,hn,hR.last,hR.free,hR.zero,hR.next, .inr hR.link,by intro hx;exfalso;simp at hx;omega,ZaZ,ZaZ,λ_=> .inl hk,ZaZ,hR.fQ,⟨hR.dp,ZaZ⟩⟩⟩
   . rw[ax hk]
     exact uW.Lt (d:={d with node:=n}) h ⟨hR.raw,hn,hR.last,hR.free,hR.zero,hR.next,hR.link,hR.fQ,hR.dp⟩ 0 5
theorem uW.enter{d0:TD}(h:CK K c)(hR:my K c d)(h1:0<=raw/\raw<4611686018427387904)(h2:raw%1099511627776<=K.NN):uW K c d0 raw (dQ K c d raw):=by
 unfold dQ;exact uW.visit (d:={d with raw:=raw,link:=K.rt c,depth:=0,err:=0}) h ⟨h1,hR.node,hR.last,hR.free,hR.zero,hR.next, .inl rfl,hR.fQ,im _⟩ (show(raw%1099511627776).toNat<=K.NN by omega)
theorem uW.comm{d0:TD}(h:CK K c)(hR:BA K c d){v:Int}{es:List bO}(h1:cx K c es)(h2:c.kind=1->d.node=0->1<=d.free)(h3:∃x,dD K c d x∈es)(h4:1<=es.length/\es.length<=6):uW K c d0 raw (fF K c d v es):=by
 unfold fF;cases hd:dupE es with
 |true=>exact uW.again' h hR
 |false=>exact⟨rfl,h1,hd,h2,h3,⟨my.jd h (.inl rfl),hR.raw,by simp,hR.node,hR.last,hR.free,hR.zero,hR.next, .inr hR.link,ZaZ,ZaZ,ZaZ,ZaZ,ZaZ,hR.fQ,⟨hR.dp,ZaZ⟩⟩,h4⟩
theorem cx.cons{e:bO}{es:List bO}(h1:(0<=e.old/\e.old<4611686018427387904)/\(0<=e.new/\e.new<1099511627776)/\∃k:Nat,e.off=8*(k:Int)/\oR K c k)(h2:cx K c es):cx K c (e::es):=λx hx=>by
 rcases List.mem_cons.1 hx with rfl|hx
 . exact h1
 . exact h2 x hx
theorem cx.nil:cx K c []:=λe he=>by simp at he
theorem cx.app{es fs:List bO}(h1:cx K c es)(h2:cx K c fs):cx K c (es++fs):=λx hx=>by
 rcases List.mem_append.1 hx with hx|hx
 . exact h1 x hx
 . exact h2 x hx
theorem mO{k:Nat}{o n:Int}(hk:oR K c k)(ho:0<=o/\o<1099511627776)(hn:0<=n/\n<1099511627776):(0<=(jF k o n).old/\(jF k o n).old<4611686018427387904)/\(0<=(jF k o n).new/\(jF k o n).new<1099511627776)/\∃j:Nat,(jF k o n).off=8*(j:Int)/\oR K c j:=
 ⟨⟨ho.1,by show o<_;omega⟩,hn,k,rfl,hk⟩
theorem Nl{x:Int}(hR:0<=d.raw/\d.raw<4611686018427387904)(hx:0<=x/\x<1099511627776):(0<=(dD K c d x).old/\(dD K c d x).old<4611686018427387904)/\(0<=(dD K c d x).new/\(dD K c d x).new<1099511627776)/\∃j:Nat,(dD K c d x).off=8*(j:Int)/\oR K c j:=
 ⟨hR,hx,K.rt c,rfl, .inl rfl⟩
theorem qY(h:CK K c)(hR:BA K c d){x:Int}(hx:0<=x/\x<=K.NN):cx K c (bC K c d x)/\(∃y,dD K c d y∈bC K c d x)/\1<=(bC K c d x).length/\(bC K c d x).length<=2:=by
 have hN:=h.NN;have hn:=hR.node;unfold bC;by_cases hl:d.link=K.rt c
 . rw[aA hl]
   exact⟨cx.cons (Nl hR.raw ae) cx.nil,⟨_,gH.2 rfl⟩,by simp,by simp⟩
 . rw[ax hl]
   exact⟨cx.cons (Nl hR.raw ae) (cx.cons (mO (oR.link hR.link) ae ae) cx.nil),⟨_,yX⟩,by simp,by simp⟩
theorem pX(h:CK K c){n:Nat}(hn:n<=K.NN):0<=((n:Nat):Int)/\((n:Nat):Int)<1099511627776:=by have:=h.NN;omega
theorem uW.load(h:CK K c)(hR:my K c d)(h1:0<=raw/\raw<4611686018427387904)(h2:d.aa=1\/d.aa=3\/d.aa=5\/d.aa=6\/d.aa=9\/d.aa=10\/d.aa=13->raw%1099511627776<=K.NN):uW K c d raw (tLoad K c d raw):=by
 have hN:=h.NN;have hv:KR (raw%1099511627776):=by unfold KR;omega
 obtain⟨w1,w2,w3,w4,w5⟩:=hR.fQ;have bh:=hR.st;rcases(by omega:d.aa=1\/d.aa=2\/d.aa=3\/d.aa=4\/d.aa=5\/d.aa=6\/d.aa=7\/d.aa=8\/d.aa=9\/d.aa=10\/d.aa=11\/d.aa=12\/d.aa=13)with hs|hs|hs|hs|hs|hs|hs|hs|hs|hs|hs|hs|hs<;>simp only[tLoad,hs]<;>(try have hl:=hR.link.resolve_left ae)
 . exact uW.enter h hR h1 (h2 ae)
 . have hn:=hR.n1 ae
   split
   . exact⟨rfl,⟨my.jd h (oR.node hn hR.node ae),hR.raw,by simp,hR.node,hR.last,hR.free,hR.zero,hR.next, .inr hl,ZaZ,λ_=>hn,ZaZ,ZaZ,ZaZ,hR.fQ,⟨hR.dp.1,ZaZ⟩⟩⟩
   . split
     . exact uW.again' h (hR.b ae)
     . have hl:∃j,(j=2\/j=3)/\(if(K.hs c.key).testBit d.depth=true then 3 else 2)=j:=by split<;>exact⟨_,by omega,rfl⟩
       obtain⟨j,hj,e⟩:=hl;rw[e];exact⟨rfl,⟨my.jd h (oR.node hn hR.node ae),hR.raw,by simp,hR.node,hR.last,hR.free,hR.zero,hR.next, .inr (.inr ⟨_,_,hn,hR.node,hj,rfl⟩),ZaZ,λ_=>hn,ZaZ,ZaZ,ZaZ,hR.fQ,⟨hR.dp.1,λ_=>by show d.depth<64;omega⟩⟩⟩
 . exact uW.visit (d:={d with depth:=d.depth+1}) h ⟨hR.raw,hR.node,hR.last,hR.free,hR.zero,hR.next,hl,hR.fQ,by have:=hR.dp.2 hs;show d.depth+1<=64;omega⟩ (by have:=h2 ae;omega)
 . have hn:=hR.n1 ae
   have dy:BA K c {d with value:=raw%1099511627776}:=⟨hR.raw,hR.node,hR.last,hR.free,hR.zero,hR.next,hl,⟨hv,w2,w3,w4,w5⟩,hR.dp.1⟩;split
   . exact uW.Lt h dy _ _
   . split
     . rename_i hk
       exact⟨rfl,⟨my.jd h (oR.node hn hR.node ae),hR.raw,by simp,hR.node,hR.node,hR.free,hR.zero,hR.next, .inr hl,λ_=>⟨hl,hn,hn⟩,ZaZ,ZaZ,ZaZ,λ_=>hk,⟨hv,w2,w3,w4,w5⟩,⟨im _,ZaZ⟩⟩⟩
     . split
       . exact uW.Lt h dy _ _
       . refine uW.comm (d:={d with aa:=4,value:=raw%1099511627776}) (es:=g_ K c {d with aa:=4,value:=raw%1099511627776}) h ⟨dy.raw,dy.node,dy.last,dy.free,dy.zero,dy.next,dy.link,dy.fQ,dy.dp⟩ ?_ (λ_ hx=>by have:d.node=0:=hx;omega) ⟨_,yX⟩ (by show 1<=2/\2<=6;omega)
         exact cx.cons (Nl hR.raw (by have:=hR.raw;show 0<=d.raw%1099511627776/\_;omega)) (cx.cons (mO (oR.node hn hR.node ae) hv h.val) cx.nil)
 . obtain⟨l1,l2,l3⟩:=hR.oJ (.inl hs)
   have hz:(raw%1099511627776).toNat<=K.NN:=by have:=h2 ae;omega
   exact⟨rfl,⟨my.jd h (oR.node l2 hR.last ae),hR.raw,by simp,hR.node,hR.last,hR.free,hz,hR.next, .inr hl,λ_=>⟨l1,l2,l3⟩,ZaZ,ZaZ,ZaZ,λ_=>hR.k5 ae,hR.fQ,⟨hR.dp.1,ZaZ⟩⟩⟩
 . obtain⟨l1,l2,l3⟩:=hR.oJ (.inr (.inl hs))
   have hk:=hR.k5 ae;have hz:(raw%1099511627776).toNat<=K.NN:=by have:=h2 ae;omega
   unfold ni
   have hle:(if d.aN=0 then(raw%1099511627776).toNat else d.aN)<=K.NN:=by
    split
    . exact hz
    . exact hR.zero
   have jt:∃j,(j=2\/j=3)/\(if d.aN=0 then K.nd d.last 3 else K.nd d.last 2)=K.nd d.last j:=by split<;>exact⟨_,by omega,rfl⟩
   obtain⟨j,hj,e⟩:=jt;dsimp only;rw[e];generalize (if d.aN=0 then(raw%1099511627776).toNat else d.aN)=n at hle |-;rw[ax ae];split
   . split
     . exact⟨rfl,⟨my.jd h (.inr (.inl rfl)),hR.raw,by simp,hR.node,hR.last,hR.free,hR.zero,hR.next, .inr hl,λ_=>⟨l1,l2,l3⟩,ZaZ,ZaZ,λ_=> .inr hk,ZaZ,hR.fQ,⟨hR.dp.1,ZaZ⟩⟩⟩
     . exact⟨rfl,⟨my.jd h (oR.node l2 hR.last ae),hR.raw,by simp,hR.node,hR.last,hR.free,hR.zero,hR.next, .inr hl,λ_=>⟨l1,l2,l3⟩,ZaZ,ZaZ,ZaZ,λ_=>hk,hR.fQ,⟨hR.dp.1,ZaZ⟩⟩⟩
   . rename_i F2
     split
     . exact uW.again' h (hR.b ae)
     . refine⟨rfl,⟨my.jd h (oR.node (n:=n) (j:=2) ae hle ae),hR.raw,by simp,hR.node,hle,hR.free,hR.zero,hR.next, .inr hl,λ_=>⟨.inr ⟨_,_,l2,hR.last,hj,rfl⟩,?_,l3⟩,ZaZ,ZaZ,ZaZ,λ_=>hk,hR.fQ,⟨by show d.depth+1<=64;omega,ZaZ⟩⟩⟩
       show 1<=n
       omega
 . obtain⟨l1,l2,l3⟩:=hR.oJ ae
   exact⟨rfl,⟨my.jd h (oR.node l2 hR.last ae),hR.raw,by simp,hR.node,hR.last,hR.free,hR.zero,hR.next, .inr hl,λ_=>⟨l1,l2,l3⟩,ZaZ,ZaZ,ZaZ,λ_=>hR.k5 ae,⟨w1,hv,w3,w4,w5⟩,⟨hR.dp.1,ZaZ⟩⟩⟩
 . obtain⟨l1,l2,l3⟩:=hR.oJ ae
   exact⟨rfl,⟨my.jd h (.inr (.inl rfl)),hR.raw,by simp,hR.node,hR.last,hR.free,hR.zero,hR.next, .inr hl,λ_=>⟨l1,l2,l3⟩,ZaZ,ZaZ,λ_=> .inr (hR.k5 ae),ZaZ,⟨w1,w2,hv,w4,w5⟩,⟨hR.dp.1,ZaZ⟩⟩⟩
 . have hz:(raw%1099511627776).toNat<=K.NN:=by have:=h2 ae;omega
   have xO:BA K c {d with aa:=9,free:=(raw%1099511627776).toNat}:=⟨hR.raw,hR.node,hR.last,hz,hR.zero,hR.next,hl,hR.fQ,hR.dp.1⟩;have dy:BA K c {d with free:=(raw%1099511627776).toNat}:=⟨hR.raw,hR.node,hR.last,hz,hR.zero,hR.next,hl,hR.fQ,hR.dp.1⟩;rw[ax ae];split
   . rename_i hk
     obtain⟨l1,l2,l3⟩:=hR.oJ ae
     have tl:cx K c [jF K.fr ((raw%1099511627776).toNat:Nat) d.last,jF (K.nd d.last 2) 0 ((raw%1099511627776).toNat:Nat)]:=by
      have:=hR.last;exact cx.cons (mO (.inr (.inl rfl)) ae ae) (cx.cons (mO (oR.node l2 hR.last ae) ae ae) cx.nil)
     obtain⟨a1,⟨y,a2⟩,a3,a4⟩:=qY (d:={d with aa:=9,free:=(raw%1099511627776).toNat}) h xO (x:=0) ae;refine uW.comm (d:={d with aa:=9,free:=(raw%1099511627776).toNat}) h xO ?_ (λhx=>by omega) ?_ ?_
     . unfold cB
       refine cx.app ?_ tl;split
       . exact a1
       . have:=hR.last
         have hk:=h.key;exact cx.cons (Nl hR.raw (by have:=hR.raw;show 0<=d.raw%1099511627776/\_;omega)) (cx.cons (mO (oR.link l1) (pX h hR.last) ae) (cx.cons (mO (oR.node l3 hR.node ae) hk w2) (cx.cons (mO (oR.node l3 hR.node ae) w1 w3) cx.nil)))
     . unfold cB
       split
       . exact⟨y,iu _ a2⟩
       . exact⟨_,iu _ yX⟩
     . unfold cB
       rw[dO];split
       . simp only[List.length_cons,List.length_nil];omega
       . simp
   . rename_i hk
     split
     . exact uW.Lt h dy _ _
     . have iy:c.kind=1:=by have:=hR.k9 hs;omega
       exact⟨rfl,⟨my.jd h (oR.node (n:=(raw%1099511627776).toNat) (j:=2) ae hz ae),hR.raw,by simp,hR.node,hR.last,hz,hR.zero,hR.next, .inr hl,ZaZ,ZaZ,λ_=>⟨by show 1<=(raw%1099511627776).toNat;omega,iy⟩,ZaZ,ZaZ,hR.fQ,⟨hR.dp.1,ZaZ⟩⟩⟩
 . obtain⟨f1,f2⟩:=hR.f1 ae
   have hz:(raw%1099511627776).toNat<=K.NN:=by have:=h2 ae;omega
   exact⟨rfl,⟨my.jd h (oR.node f1 hR.free ae),hR.raw,by simp,hR.node,hR.last,hR.free,hR.zero,hz, .inr hl,ZaZ,ZaZ,λ_=>⟨f1,f2⟩,ZaZ,ZaZ,hR.fQ,⟨hR.dp.1,ZaZ⟩⟩⟩
 . obtain⟨f1,f2⟩:=hR.f1 ae
   exact⟨rfl,⟨my.jd h (oR.node f1 hR.free ae),hR.raw,by simp,hR.node,hR.last,hR.free,hR.zero,hR.next, .inr hl,ZaZ,ZaZ,λ_=>⟨f1,f2⟩,ZaZ,ZaZ,⟨w1,w2,w3,hv,w5⟩,⟨hR.dp.1,ZaZ⟩⟩⟩
 . obtain⟨f1,f2⟩:=hR.f1 ae
   have xO:BA K c {d with aa:=12,bI:=raw%1099511627776}:=⟨hR.raw,hR.node,hR.last,hR.free,hR.zero,hR.next,hl,⟨w1,w2,w3,w4,hv⟩,hR.dp.1⟩;have dy:BA K c {d with bI:=raw%1099511627776}:=⟨hR.raw,hR.node,hR.last,hR.free,hR.zero,hR.next,hl,⟨w1,w2,w3,w4,hv⟩,hR.dp.1⟩;have gW:=hR.free;have fx:=hR.next;obtain⟨a1,⟨y,a2⟩,a3,a4⟩:=qY (d:={d with aa:=12,bI:=raw%1099511627776}) h xO (x:=d.free) ae;refine uW.comm (d:={d with aa:=12,bI:=raw%1099511627776}) h xO ?_ (λ_ _=>f1) ⟨y,iu _ a2⟩ ?_
   . unfold dg
     exact cx.app a1 (cx.cons (mO (.inr (.inl rfl)) (pX h hR.free) (pX h hR.next)) (cx.cons (mO (oR.node f1 hR.free ae) (pX h hR.next) ae) (cx.cons (mO (oR.node f1 hR.free ae) w4 h.key) (cx.cons (mO (oR.node f1 hR.free ae) hv h.val) cx.nil))))
   . unfold dg
     rw[dO];simp only[List.length_cons,List.length_nil];omega
 . split
   . rename_i he
     exact⟨hs,he,rfl,rfl⟩
   . exact uW.enter h hR h1 (h2 ae)
end
def iI(σ:PwS)(th:Nat)(d:TD)(es:List bO)(bl:Nat×(List bO->List Nat)):PwS×pz:=
 ({σ.aB bl.1 (sV (firstFree σ.busy) th es (bl.2 es))with busy:=σ.busy.set (firstFree σ.busy) true}, .dH d bl.1)
def fY(σ:PwS)(th:Nat)(bl:Nat×(List bO->List Nat)):TO->PwS×pz
 | .read d k=>(σ, .rd d (eV th k))
 | .dH d es _=>iI σ th d es bl
 | .done v e=>(σ, .fin v e)
def mR(K:TK)(σ:PwS)(m:TM)(d:TD)(r:eP)(bl:Nat×(List bO->List Nat)):PwS×pz:=
 if(σ.aI r).2.ended then fY (σ.aI r).1 m.th bl (tLoad K m.c d (σ.aI r).2.raw)else((σ.aI r).1, .rd d (σ.aI r).2)
section
variable(sum:List Int->Int)(at0:Nat->Int)
def aV(K:TK)(σ:PwS)(m:TM)(bl:Nat×(List bO->List Nat)):PwS×pz:=match m.ph with
 | .start=>mR K σ m ke (eV m.th (K.rt m.c)) bl
 | .rd d r=>mR K σ m d r bl
 | .dH d a=>if(σ.step sum at0 a).2 then((σ.step sum at0 a).1,if D3 (σ.step sum at0 a).1 a then .fin d.res 0 else .rd {d with aa:=1} (eV m.th (K.rt m.c)))else((σ.step sum at0 a).1,m.ph)
 | .fin v e=>(σ,m.ph)
end
def TM.next(m:TM)(Tm:Nat)(ph:pz):TM:={m with ph:=ph,bg:=if m.ph.fresh then Tm else m.bg,en:=if ph.over then Tm else m.en}
def BlT(σ:PwS)(bl:Nat×(List bO->List Nat)):Prop:=σ.ops bl.1=none/\(∀es,(bl.2 es).Perm (List.range es.length))/\firstFree σ.busy<8
def GA(c:TC)(d:TD)(raw:Int):TO->Prop
 | .read d' _=>d'.aa=1\/(d'.raw=(if d.aa=1\/d.aa=13 then raw else d.raw)/\(d'.aa=13/\d'.err=4->d.aa=9/\c.kind=1/\raw%1099511627776=0))
 | .dH d' _ _=>d'.raw=d.raw/\2<=d.aa/\d.aa<=12
 | .done _ _=>True
section
variable{K:TK}{L L':Nat->Int}{T T':Nat->TT}{fl eG:List Nat}{σ σ':PwS}{q0:List (Int×Int)}{ms oI:List TM}{ord aZ:List Nat}{m m':TM}{c:TC}{d d0:TD}{r:eP}{i p n cnt Tm N N' a k:Nat}{sum:List Int->Int}{at0:Nat->Int}{xs dz:List Int}{o:aX}{b:Bool}{raw:Int}{bl:Nat×(List bO->List Nat)}
theorem GA.visit{n:Nat}(h:d.raw=(if d0.aa=1\/d0.aa=13 then raw else d0.raw)):GA c d0 raw (fE K c d n):=by
 unfold fE;split
 . trivial
 . split
   . exact .inr ⟨h,λhx=>absurd hx.1 smQ⟩
   . split
     . exact .inr ⟨h,λhx=>absurd hx.1 smQ⟩
     . exact .inr ⟨h,λhx=>absurd hx.2 smQ⟩
theorem GA.enter(h:d0.aa=1\/d0.aa=13):GA c d0 raw (dQ K c d raw):=by
 unfold dQ;exact GA.visit (by rw[aA h])
theorem GA.comm{v:Int}{es:List bO}(h:d.raw=d0.raw)(h1:2<=d0.aa/\d0.aa<=12):GA c d0 raw (fF K c d v es):=by
 unfold fF;split
 . exact .inl rfl
 . exact⟨h,h1⟩
theorem GA.load(hR:my K c d):GA c d raw (tLoad K c d raw):=by
 have h:=hR.st
 have G1:2<=d.aa/\d.aa<=12->∀(d':TD) (k:Nat),d'.raw=d.raw->(d'.aa=13->d'.err≠4)->GA c d raw (.read d' k):=λhm d' k h1 h2=>
  .inr ⟨by rw[ax ae];exact h1,λhx=>absurd hx.2 (h2 hx.1)⟩
 rcases(by omega:d.aa=1\/d.aa=2\/d.aa=3\/d.aa=4\/d.aa=5\/d.aa=6\/d.aa=7\/d.aa=8\/d.aa=9\/d.aa=10\/d.aa=11\/d.aa=12\/d.aa=13)with hs|hs|hs|hs|hs|hs|hs|hs|hs|hs|hs|hs|hs
 . have e:tLoad K c d raw=dQ K c d raw:=by unfold tLoad;simp only[hs]
   rw[e];exact GA.enter (.inl hs)
 . have e:tLoad K c d raw=if raw%1099511627776=c.key then .read {d with aa:=4} (K.nd d.node 1)else if 64<=d.depth then jl K c d else
    .read {d with aa:=3,link:=K.nd d.node (if(K.hs c.key).testBit d.depth then 3 else 2)} (K.nd d.node (if(K.hs c.key).testBit d.depth then 3 else 2)):=by unfold tLoad;simp only[hs]
   rw[e];by_cases h1:raw%1099511627776=c.key
   . rw[aA h1];exact G1 ae _ _ rfl (λhx=>absurd hx smQ)
   . rw[ax h1]
     by_cases h2:64<=d.depth
     . rw[aA h2];exact .inl rfl
     . rw[ax h2];exact G1 ae _ _ rfl (λhx=>absurd hx smQ)
 . have e:tLoad K c d raw=fE K c {d with depth:=d.depth+1} (raw%1099511627776).toNat:=by unfold tLoad;simp only[hs]
   rw[e];exact GA.visit (by rw[ax ae])
 . unfold tLoad
   simp only[hs];split
   . exact G1 ae _ _ rfl (λ_=>by simp)
   . split
     . exact G1 ae _ _ rfl (λhx=>absurd hx smQ)
     . split
       . exact G1 ae _ _ rfl (λ_=>by simp)
       . exact GA.comm rfl ae
 . unfold tLoad
   simp only[hs];exact G1 ae _ _ rfl (λhx=>absurd hx smQ)
 . have e:tLoad K c d raw=ni K c d (raw%1099511627776).toNat:=by unfold tLoad;simp only[hs]
   rw[e];unfold ni;dsimp only;generalize (if d.aN=0 then(raw%1099511627776).toNat else d.aN)=n;by_cases h0:K.NN<n
   . rw[aA h0];trivial
   . rw[ax h0]
     by_cases h1:n=0
     . rw[aA h1]
       by_cases h2:d.last=d.node
       . rw[aA h2];exact G1 ae _ _ rfl (λhx=>absurd hx smQ)
       . rw[ax h2];exact G1 ae _ _ rfl (λhx=>absurd hx smQ)
     . rw[ax h1]
       by_cases h2:64<=d.depth
       . rw[aA h2];exact .inl rfl
       . rw[ax h2];exact G1 ae _ _ rfl (λhx=>absurd hx smQ)
 . unfold tLoad
   simp only[hs];exact G1 ae _ _ rfl (λhx=>absurd hx smQ)
 . unfold tLoad
   simp only[hs];exact G1 ae _ _ rfl (λhx=>absurd hx smQ)
 . unfold tLoad
   simp only[hs];split
   . trivial
   . split
     . exact GA.comm rfl ae
     . split
       . rename_i h1 h2 h3
         refine .inr ⟨by rw[ax ae],λhx=>⟨hs,?_,?_⟩⟩
         . have:=hR.k9 hs;omega
         . omega
       . exact G1 ae _ _ rfl (λhx=>absurd hx smQ)
 . unfold tLoad
   simp only[hs];exact G1 ae _ _ rfl (λhx=>absurd hx smQ)
 . unfold tLoad
   simp only[hs];exact G1 ae _ _ rfl (λhx=>absurd hx smQ)
 . unfold tLoad
   simp only[hs];exact GA.comm rfl ae
 . unfold tLoad
   simp only[hs];split
   . trivial
   . exact GA.enter (.inr hs)
theorem yn{th k en:Nat}:TM.out σ {m with ph:= .rd d (eV th k),en:=en}=none:=by simp[TM.out,eV]
theorem kY{F:Prop}{th:Nat}(bQ:th<8)(hR:my K c d)(h:d.aa≠1->lI K c L d.raw\/(L (K.rt c)=d.raw/\TSy K c (T (K.bk c.key)) d/\(d.aa=13/\d.err=4->F))):(pz.rd d (eV th (tWd K c d))).facts K L T σ c F:=
 ⟨hR,rfl,bQ,rfl,λ_=>by show 0<=2;omega,λh=>(by cases h),λh=>absurd rfl h,λhs=>(h hs).elim .inl (λ⟨a,b,e⟩=> .inr ⟨a,b,λhx=>absurd rfl hx,e,λhx=>absurd rfl hx.2.2.1⟩),λ_ h=>absurd rfl h⟩
theorem eZ.yq(h:eZ K q0 σ (ms.set i m') (Tm+1) L T fl ord N)(fU:i<ms.length){ph:pz}{en:Nat}(Bi:({m' with ph:=ph,en:=en}:TM).out σ'=m'.out σ)(oo:ph.facts K L T σ' m'.c (qG K q0 (ms.set i m') ord m'))
 (tx:∀x o,σ.ops x=some o->σ'.ops x=some o) (cS:σ'.cur=σ.cur) (hc:∀(d:TD) (a:Nat),m'.ph= .dH d a->σ.cur≠some a)
 (kO:∀(d:TD) (a:Nat),ph= .dH d a->σ.ops a=none) (gW:m'.ph.fresh=false) (bU:m'.ph.over=false) (tH:ph.over=true->en=Tm):
 eZ K q0 σ' (ms.set i {m' with ph:=ph,en:=en}) (Tm+1) L T fl ord N:=by
 have hi:(ms.set i m')[i]?=some m':=nX fU;have SG:=h.tm i m' hi;have eO:=(h.ok i m' hi).vl.2.1;have ZcP:ph.facts K L T σ' m'.c (m'.ph.fresh=false/\qG K q0 (ms.set i m') ord m'):=pz.facts.mono oo eO rO.refl (λd a o _ ho=>⟨o,ho,rfl⟩) (λhF=>⟨gW,hF⟩);have:=h.move (σ':=σ') (m':={m' with ph:=ph,en:=en}) hi rfl Bi ZcP tx cS hc kO ⟨λ_=>SG.1 gW,λhx=>by have:=tH hx;show en<Tm+1;omega⟩ (λ_=>rfl) bU (λhx=>by have:=tH hx;show en+1=Tm+1;omega);rwa[yS]at this
theorem eZ.ck(h:eZ K q0 σ ms Tm L T fl ord N)(hi:ms[i]?=some m)(iX:K.NN<1000000):CK K m.c:=by
 obtain⟨v1,v2,v3,v4,v5⟩:=(h.ok i m hi).vl;exact⟨v1,v2,v3,v5,iX⟩
theorem eZ.know(h:eZ K q0 σ ms Tm L T fl ord N)(hi:ms[i]?=some m)(hp:m.ph= .rd d r)(he:r.ended=true):
 match tLoad K m.c d r.raw with
 | .read d' k=>d'.aa≠1->lI K m.c L d'.raw\/(L (K.rt m.c)=d'.raw/\TSy K m.c (T (K.bk m.c.key)) d'/\(d'.aa=13/\d'.err=4->qG K q0 ms ord m))
 | .dH d' es v=>lI K m.c L d'.raw\/(L (K.rt m.c)=d'.raw/\TCh K m.c (T (K.bk m.c.key)) d' es v)
 | .done _ _=>True:=by
 have hf:=(h.ok i m hi).ph;obtain⟨v1,v2,v3,v4,v5⟩:=(h.ok i m hi).vl;rw[hp]at hf;obtain⟨f1,f2,f3,f4,f5,f6,f7,f8,f9⟩:=hf;have lS:=f6 he;obtain⟨g1,g2⟩:=f7 lS;have f8':=f8;have hM:=h.tree v2 (c:=m.c);have zD:∀x∈(T (K.bk m.c.key)).ar,1<=x:=λx hx=>(hM.num x hx).1
 have fx:=GA.load (raw:=r.raw) f1;have bh:=f1.st;by_cases tH:d.aa=1\/(d.aa=13/\r.raw≠d.raw)
 . have e:tLoad K m.c d r.raw=dQ K m.c d r.raw:=by
    rcases tH with hs|⟨hs,aG⟩
    . unfold tLoad;simp only[hs]
    . unfold tLoad;simp only[hs];rw[ax aG]
   rw[e]at fx |-;have QE:d.aa=1\/d.aa=13:=by omega
   have bF:∀(hx:L (K.rt m.c)=r.raw),Aj K m.c (T (K.bk m.c.key)) (dQ K m.c d r.raw):=λhx=>by
    refine Aj.enter ?_ (g2 ae) zD;have:=hM.root;rw[<-this];unfold bu;rw[hx]
   have h9:=f9 QE lS;revert fx bF
   cases lQ:dQ K m.c d r.raw with
   |read d' k=>
    intro fx bF vI;rcases fx with hx|⟨lC,uw⟩
    . exact absurd hx vI
    . rw[aA QE]at lC
      rw[lC];rcases h9 with h9|h9
      . exact .inl h9
      . exact .inr ⟨h9,(bF h9).2,λhx=>by have:=(uw hx).1;omega⟩
   |dH d' es v=>intro fx _;obtain⟨_,a,b⟩:=fx;omega
   |done v e=>intro _ _;trivial
 . by_cases h13:d.aa=13
   . have e:tLoad K m.c d r.raw= .done d.res d.err:=by
      unfold tLoad;simp only[h13];rw[aA (KH.1 (λhx=>tH (.inr ⟨h13,hx⟩)))]
     rw[e];trivial
   . have bF:∀(hx:L (K.rt m.c)=d.raw) (hg:TGo K m.c (T (K.bk m.c.key)) d (r.raw%1099511627776)),Aj K m.c (T (K.bk m.c.key)) (tLoad K m.c d r.raw):=λhx hg=>
      TGo.next hg (h.ab.wf _ v2) v1 (h.ab.n1 _ v2) zD (λhs=>g2 ae) f1.zero v5 (λhs=>by have:=(f1.f1 ae).2;omega) ae ae
     revert fx bF
     cases lQ:tLoad K m.c d r.raw with
     |read d' k=>
      intro fx bF vI;rcases fx with hx|⟨lC,uw⟩
      . exact absurd hx vI
      . rw[ax ae]at lC
        rw[lC];rcases f8 ae with h8|⟨h8,_,h9,_,Vj⟩
        . exact .inl h8
        . exact .inr ⟨h8,(bF h8 (h9 lS)).2,λhx=>by obtain⟨a1,a2,a3⟩:=uw hx;exact Vj ⟨a1,a2,lS,a3⟩⟩
     |dH d' es v=>
      intro fx bF;obtain⟨lC,_,_⟩:=fx;show lI K m.c L d'.raw\/(L (K.rt m.c)=d'.raw/\_)
      rw[lC];rcases f8 ae with h8|⟨h8,_,h9,_,_⟩
      . exact .inl h8
      . exact .inr ⟨h8,(bF h8 (h9 lS)).1⟩
     |done v e=>intro _ _;trivial
theorem eZ.load(h:eZ K q0 σ (ms.set i m') (Tm+1) L T fl ord N)(hI:Inv sum at0 n 8 (Mq K.W K.P) N σ xs L)(fU:i<ms.length)(hn:K.W+8+K.P<=8*n)(iX:K.NN<1000000)(bQ:m'.th<8)(hp:m'.ph= .rd d r)(he:r.ended=true)(xN:BlT σ bl):
 Inv sum at0 n 8 (Mq K.W K.P) N (fY σ m'.th bl (tLoad K m'.c d r.raw)).1 xs L/\
 eZ K q0 (fY σ m'.th bl (tLoad K m'.c d r.raw)).1 (ms.set i {m' with ph:=(fY σ m'.th bl (tLoad K m'.c d r.raw)).2,en:=if(fY σ m'.th bl (tLoad K m'.c d r.raw)).2.over then Tm else m'.en}) (Tm+1) L T fl ord N:=by
 have hi:(ms.set i m')[i]?=some m':=nX fU;have bF:=h.ok i m' hi;have jD:=h.ck hi iX;have zF:=h.know hi hp he;have hf:=bF.ph;rw[hp]at hf;obtain⟨f1,f2,f3,f4,f5,f6,f7,f8,f9⟩:=hf;have lS:=f6 he;obtain⟨g1,g2⟩:=f7 lS;have xK:=uW.load jD f1 g1 g2;have gW:m'.ph.fresh=false:=by rw[hp];rfl
 have bU:m'.ph.over=false:=by rw[hp];rfl
 have js:∀(d:TD) (a:Nat),m'.ph= .dH d a->σ.cur≠some a:=λd a hx=>by rw[hp]at hx;cases hx
 have wK:m'.out σ=if d.aa=13/\r.place≠0/\r.raw=d.raw then some (d.res,d.err)else none:=by unfold TM.out;rw[hp]
 have qk:(∀v e,tLoad K m'.c d r.raw≠ .done v e)->m'.out σ=none:=λhx=>by
  rw[wK,ax];rintro⟨a1,_,a3⟩;refine hx d.res d.err ?_;unfold tLoad;simp only[a1];rw[aA a3]
 revert zF xK qk
 cases lQ:tLoad K m'.c d r.raw with
 |read d' k=>
  intro zF xK qk;obtain⟨rfl,e2⟩:=xK;refine⟨hI,?_⟩;show eZ K q0 σ (ms.set i {m' with ph:= .rd d' (eV m'.th (tWd K m'.c d')),en:=m'.en}) (Tm+1) L T fl ord N
  refine h.yq fU ?_ (kY bQ e2 zF) (λ_ _ hx=>hx) rfl js (λd a hx=>(by cases hx)) gW bU (λhx=>(by cases hx));rw[qk (λv e hx=>by cases hx)];exact yn
 |done v e=>
  intro zF xK _;obtain⟨a1,a2,a3,a4⟩:=xK;refine⟨hI,?_⟩;refine h.yq (ph:= .fin v e) fU ?_ trivial (λ_ _ hx=>hx) rfl js (λd a hx=>(by cases hx)) gW bU (λ_=>rfl);rw[wK,aA (show d.aa=13/\r.place≠0/\r.raw=d.raw from⟨a1,lS,a2⟩),a3,a4];rfl
 |dH d' es v=>
  intro zF xK qk;obtain⟨r1,r2,r3,r4,⟨x,r5⟩,r8,r6,r7⟩:=xK;obtain⟨b1,b2,b3⟩:=xN
  have hoo:eU 8 n (Mq K.W K.P) (sV (firstFree σ.busy) m'.th es (bl.2 es)):=
   Fy bQ b3 r6 r7 (λe he=>by
    obtain⟨c1,c2,k,c3,c4⟩:=r2 e he
    have hk:Mq K.W K.P k:=by
     have hb:=jD.bk;unfold Mq TK.P;rcases c4 with rfl|rfl|⟨n',j,h1,h2,h3,rfl⟩
     . unfold TK.rt eJ;omega
     . unfold TK.fr nV;omega
     . unfold TK.nd aQ;omega
    exact⟨⟨k,hk,by have:=hk.2;omega,c3⟩,c1,c2⟩) (oB r3) (b2 es)
  have hIb:Inv sum at0 n 8 (Mq K.W K.P) N (iI σ m'.th d' es bl).1 xs L:=hI.Xo b1 hoo rfl rfl rfl rfl rfl;have kO:(iI σ m'.th d' es bl).1.ops bl.1=some (sV (firstFree σ.busy) m'.th es (bl.2 es)):=aA rfl;refine⟨hIb,?_⟩;show eZ K q0 (iI σ m'.th d' es bl).1 (ms.set i {m' with ph:= .dH d' bl.1,en:=m'.en}) (Tm+1) L T fl ord N
  refine h.yq (σ':=(iI σ m'.th d' es bl).1) fU ?_ ?_ (λx o hx=> ?_) rfl js (λd a hx=> ?_) gW bU (λhx=>(by cases hx))
  . rw[qk (λv e hx=>by cases hx)]
    show cH _ d'.res bl.1=none
    unfold cH;rw[kO];rfl
  . refine⟨_,kO,r2,r3,r4,⟨x,r5⟩,r8,?_⟩
    show _\/(_/\TCh K m'.c (T (K.bk m'.c.key)) d' es d'.res)
    rw[r1];exact zF
  . have aG:x≠bl.1:=λhe=>by rw[he,b1]at hx;cases hx
    exact(ax aG).trans hx
  . injection hx with _ ha
    rw[<-ha];exact b1
theorem eZ.Ng(h:eZ K q0 σ (ms.set i m') (Tm+1) L T fl ord N)(hI:Inv sum at0 n 8 (Mq K.W K.P) N σ xs L)(hN:N<1000000)(fU:i<ms.length)(hn:K.W+8+K.P<=8*n)(iX:K.NN<1000000)(bQ:m'.th<8)(hp:m'.ph= .rd d r)(he:r.ended=false)(xN:BlT σ bl):
 ∃aZ,Inv sum at0 n 8 (Mq K.W K.P) (N+1) (mR K σ m' d r bl).1 xs L/\eZ K q0 (mR K σ m' d r bl).1 (ms.set i {m' with ph:=(mR K σ m' d r bl).2,en:=if(mR K σ m' d r bl).2.over then Tm else m'.en}) (Tm+1) L T fl aZ (N+1):=by
 have hi:(ms.set i m')[i]?=some m':=nX fU;obtain⟨aZ,h1,h2,h3,h4,h5,h6,h7,h8⟩:=h.read hI hN hn hi hp he;rw[yS]at h8;have h8:=h8.later (a_ _) (lM N);refine⟨aZ,?_⟩;unfold mR;cases Zv:(σ.aI r).2.ended with
 |false=>
  simp only[eS,dF];exact⟨h1,h8⟩
 |true=>
  simp only[cR];have dy:BlT (σ.aI r).1 bl:=⟨by rw[h2];exact xN.1,xN.2.1,by rw[h4];exact xN.2.2⟩;exact h8.load (m':={m' with ph:= .rd d (σ.aI r).2}) h1 fU hn iX bQ rfl Zv dy
theorem JR(h:CK K c):my K c ke:=
 ⟨my.jd h (.inl rfl),by decide,by decide,im _,im _,im _,im _,im _, .inl rfl,by simp[ke],by simp[ke],by simp[ke],by simp[ke],by simp[ke],by unfold KR;decide,by simp[ke]⟩
theorem my.again(h:my K c {d with aa:=1}){th:Nat}{F:Prop}(bQ:th<8):(pz.rd {d with aa:=1} (eV th (K.rt c))).facts K L T σ c F:=
 kY (d:={d with aa:=1}) bQ h (λhx=>absurd rfl hx)
end
end Go.Proofs.YtjkpjakodomnmaaGreatDoor
