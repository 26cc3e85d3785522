/- The base, part 6 (merged). -/
import Derived.Test.YtjkpjakodomnmaaGreatDoorKtae
set_option linter.unusedVariables false
set_option linter.unusedSimpArgs false
set_option maxRecDepth 100000
set_option maxHeartbeats 16000000
namespace Go.Proofs.YtjkpjakodomnmaaGreatDoor
open Go.RowKit
section
variable{sum:List Int->Int}{at0:Nat->Int}{n cnt N:Nat}{M:Nat->Prop}{L:Nat->Int}{σ σ':PwS}{a c:Nat}{o oc:aX}{xs:List Int}{D:aq}{bs:List Bool}
theorem Inv.init(dP:On D n xs N)(hL:∀k,M k->0<=L k/\L k<4611686018427387904)(hx:∀k,M k->xs[k]?=some (L k)):Inv sum at0 n cnt M N {dev:=D,busy:=bs,cur:=none,ops:=λ_=>none} xs L:=
 ⟨dP,hL,λa o h=>(by cases h),λ_=>hx,λc h=>(by cases h),λa o h=>(by cases h),λa o c oc h=>(by cases h),λa o c h=>(by cases h),λa o h=>(by cases h)⟩
theorem Inv.Xo(h:Inv sum at0 n cnt M N σ xs L)(ha:σ.ops a=none)(bF:eU cnt n M o)(h0:o.aa=0)(h1:o.loaded=0)(h2:o.ended=false)(h3:o.done=false)(h4:o.tgt=none):Inv sum at0 n cnt M N {σ.aB a o with busy:=bs} xs L:=by
 have key:∀b ob,({σ.aB a o with busy:=bs}:PwS).ops b=some ob->(b=a/\ob=o)\/(b≠a/\σ.ops b=some ob):=by
  intro b ob hb;have dy:(if b=a then some o else σ.ops b)=some ob:=hb;by_cases jg:b=a
  . rw[aA jg]at dy;injection dy with dy;exact .inl ⟨jg,dy.symm⟩
  . rw[ax jg]at dy;exact .inr ⟨jg,dy⟩
 have old:∀b ob,σ.ops b=some ob->b≠a/\({σ.aB a o with busy:=bs}:PwS).ops b=some ob:=by
  intro b ob hb;have aG:b≠a:=λhe=>by rw[he,ha]at hb;cases hb
  exact⟨aG,(ax aG:(if b=a then some o else σ.ops b)=σ.ops b).trans hb⟩
 refine⟨h.on,h.hL,λb ob hb=> ?_,h.idle,λc hc=> ?_,λb ob hb gi hd=> ?_,λb ob c oc hb hc bT ht hi hs=> ?_,λb ob c hb ht=> ?_,λb ob hb he=> ?_⟩
 . rcases key b ob hb with⟨_,rfl⟩|⟨_,hb⟩
   . exact bF
   . exact h.ok b ob hb
 . obtain⟨oc,g1,g2⟩:=h.run c hc
   exact⟨oc,(old c oc g1).2,g2⟩
 . rcases key b ob hb with⟨_,rfl⟩|⟨_,hb⟩
   . exact⟨h0,h1,h2⟩
   . exact h.fresh b ob hb gi hd
 . obtain⟨oc',g1,_⟩:=h.run c hc
   have e:=(old c oc' g1).2;rw[bT]at e;injection e with e;subst e;rcases key b ob hb with⟨_,rfl⟩|⟨_,hb⟩
   . rw[h4]at ht;cases ht
   . exact h.pos b ob c oc hb hc g1 ht hi hs
 . rcases key b ob hb with⟨_,rfl⟩|⟨_,hb⟩
   . rw[h4]at ht;cases ht
   . obtain⟨oc,g1,g2⟩:=h.sf b ob c hb ht
     exact⟨oc,(old c oc g1).2,g2⟩
 . rcases key b ob hb with⟨_,rfl⟩|⟨_,hb⟩
   . rw[h2]at he;cases he
   . exact h.fin b ob hb he
theorem Fy{k th:Nat}{es:List bO}{order:List Nat}(bQ:th<8)(hk:k<cnt)(h1:1<=es.length)(h6:es.length<=6)(he:∀e∈es,St n M e)(oy:∀i j,i<es.length->j<es.length->(es.getD i E0).off=(es.getD j E0).off->i=j)(hp:order.Perm (List.range es.length)):
 eU cnt n M ⟨k,th,es,order,List.replicate es.length 0,0,0,[],false,false,false,0,none,0,0⟩:=by
 refine⟨bQ,hk,h1,h6,he,oy,hp,by simp,λq=> ?_⟩;show 0<=kW (List.replicate es.length 0) q/\_
 have:kW (List.replicate es.length (0:Int)) q=0:=by unfold kW;simp[eY,IA];split<;>rfl
 rw[this];omega
theorem CO(s:Nat):(σ.enter sum at0 c oc s).cur=σ.cur\/(σ.enter sum at0 c oc s).cur=none:=by
 unfold PwS.enter;split
 . exact .inl rfl
 . exact .inr rfl
theorem VG:(σ.ry sum at0 a o c oc).cur=σ.cur\/(σ.ry sum at0 a o c oc).cur=none:=by
 unfold PwS.ry;split
 . unfold PwS.load
   dsimp only;split
   . exact .inl rfl
   . split
     . split
       . exact CO _
       . exact .inl rfl
     . exact .inr rfl
 . rw[aX.pos_at]
   dsimp only;split
   . exact .inl rfl
   . split
     . exact CO _
     . exact .inl rfl
theorem uF(e:Int):(σ.fB a o e).cur=σ.cur\/(σ.fB a o e).cur=none:=by
 unfold PwS.fB;dsimp only;split
 . exact .inr rfl
 . exact .inl rfl
theorem yD:(σ.step sum at0 a).1.cur=σ.cur\/(σ.step sum at0 a).1.cur=none\/(σ.step sum at0 a).1.cur=some a:=by
 have two:∀{τ τ':PwS},(τ.cur=σ.cur\/τ.cur=none\/τ.cur=some a)->(τ'.cur=τ.cur\/τ'.cur=none)->(τ'.cur=σ.cur\/τ'.cur=none\/τ'.cur=some a):=by
  intro τ τ' h1 h2;rcases h2 with h2|h2
  . rw[h2];exact h1
  . exact .inr (.inl h2)
 unfold PwS.step;cases ho:σ.ops a with
 |none=>exact .inl rfl
 |some o=>
  dsimp only;split
  . exact .inl rfl
  . split
    . exact two (.inl rfl) (uF _)
    . split
      . exact two (.inl rfl) (uF _)
      . have h0:(if σ.cur.isSome then σ else{σ with cur:=some a}:PwS).cur=σ.cur\/(if σ.cur.isSome then σ else{σ with cur:=some a}:PwS).cur=none\/(if σ.cur.isSome then σ else{σ with cur:=some a}:PwS).cur=some a:=by
         split
         . exact .inl rfl
         . exact .inr (.inr rfl)
        generalize (if σ.cur.isSome then σ else{σ with cur:=some a}:PwS)=mQ at h0 |-;cases bT:mQ.ops (mQ.cur.getD a)with
        |none=>exact .inl rfl
        |some oc=>
         dsimp only;have h1:=two (τ':=mQ.ry sum at0 a o (mQ.cur.getD a) oc) h0 VG;generalize mQ.ry sum at0 a o (mQ.cur.getD a) oc=τ at h1 |-;cases Bj:τ.ops a with
         |none=>exact h1
         |some o1=>
          dsimp only;split
          . exact two h1 (uF _)
          . split
            . exact two h1 (uF _)
            . exact h1
theorem LJ.back{L L':Nat->Int}(h:LJ a σ σ' L L'){x:Nat}{AD:aX}(hx:σ'.ops x=some AD):∃ox,σ.ops x=some ox/\AD.es=ox.es/\AD.k=ox.k:=by
 have key:(σ'.ops x).map aX.key=(σ.ops x).map aX.key->∃ox,σ.ops x=some ox/\AD.es=ox.es/\AD.k=ox.k:=by
  intro he;rw[hx,Option.map_some]at he;cases hb:σ.ops x with
  |none=>rw[hb]at he;cases he
  |some ox=>
   rw[hb,Option.map_some]at he;injection he with he;exact⟨ox,rfl,bP (λx=>x.1) he,bP (λx=>x.2.2.1) he⟩
 rcases h with⟨h1,h2⟩|⟨c,oc,oc',h1,h2,h3,h4,h5,h6,h7,h8,h9,Vj,h11⟩
 . exact key (h2 x)
 . by_cases hxc:x=c
   . subst hxc
     rw[h2]at hx;injection hx with hx;subst hx;exact⟨oc,h1,h6,h8⟩
   . exact key (h11 x hxc)
end
def cH(σ:PwS)(v:Int)(a:Nat):Option (Int×Int):=if(σ.ops a).bind aX.res=some true then some (v,0)else none
def eV(th:Nat)(k:Nat):eP:=⟨th,8*(k:Int),0,0,false,0⟩
def firstFree:List Bool->Nat
 |[]=>0
 |b::bs=>if b then firstFree bs+1 else 0
def sV(k th:Nat)(es:List bO)(order:List Nat):aX:=⟨k,th,es,order,List.replicate es.length 0,0,0,[],false,false,false,0,none,0,0⟩
def D3(σ:PwS)(a:Nat):Bool:=match σ.ops a with
 |some o=>o.changed
 |none=>false
structure TD where
 aa:Nat
 raw:Int
 node:Nat
 link:Nat
 depth:Nat
 value:Int
 last:Nat
 aD:Nat
 aN:Nat
 dB:Int
 cF:Int
 free:Nat
 cN:Nat
 fy:Int
 bI:Int
 res:Int
 err:Int
def ke:TD:=⟨1,0,0,0,0,0,0,0,0,0,0,0,0,0,0,0,0⟩
structure TC where
 kind:Nat
 key:Int
 val:Int
 old:Int
inductive TO
 |read (d:TD) (k:Nat)
 |dH (d:TD) (es:List bO) (v:Int)
 |done (v e:Int)
structure TK where
 W:Nat
 B:Nat
 NN:Nat
 hs:Int->Nat
 bk:Int->Nat
section
variable(K:TK)(c:TC)
def TK.nd(n j:Nat):Nat:=aQ K.W K.B n j
def TK.rt(c:TC):Nat:=eJ K.W (K.bk c.key)
def TK.fr:Nat:=nV K.W
def jF(k:Nat)(old new:Int):bO:=⟨8*(k:Int),old,new,false⟩
def dD(d:TD)(v:Int):bO:=⟨8*((K.rt c:Nat):Int),d.raw,v,true⟩
def bC(d:TD)(n:Int):List bO:=if d.link=K.rt c then [dD K c d n]else [dD K c d (d.raw%1099511627776),jF d.link d.node n]
def g_(d:TD):List bO:=[dD K c d (d.raw%1099511627776),jF (K.nd d.node 1) d.value c.val]
def dg(d:TD):List bO:=bC K c d d.free++[jF K.fr d.free d.cN,jF (K.nd d.free 2) d.cN 0,jF (K.nd d.free 0) d.fy c.key,jF (K.nd d.free 1) d.bI c.val]
def cB(d:TD):List bO:=(if d.last=d.node then bC K c d 0 else [dD K c d (d.raw%1099511627776),jF d.aD d.last 0,jF (K.nd d.node 0) c.key d.dB,jF (K.nd d.node 1) d.value d.cF])++[jF K.fr d.free d.last,jF (K.nd d.last 2) 0 d.free]
def dupE:List bO->Bool
 |[]=>false
 |e::es=>es.any (λx=>x.off==e.off)||dupE es
def jl(d:TD):TO:= .read {d with aa:=1} (K.rt c)
def lV(d:TD)(v e:Int):TO:= .read {d with aa:=13,res:=v,err:=e} (K.rt c)
def fF(d:TD)(v:Int)(es:List bO):TO:=if dupE es then jl K c d else .dH {d with res:=v} es v
def fE(d:TD)(n:Nat):TO:=
 if K.NN<n then .done 0 2 else if n≠0 then .read {d with aa:=2,node:=n} (K.nd n 0)
 else if c.kind=1 then .read {d with aa:=9,node:=n} K.fr else lV K c {d with node:=n} 0 5
def dQ(d:TD)(raw:Int):TO:=fE K c {d with raw:=raw,link:=K.rt c,depth:=0,err:=0} (raw%1099511627776).toNat
def ni(d:TD)(one:Nat):TO:=
 let n:=if d.aN=0 then one else d.aN
 let l:=if d.aN=0 then K.nd d.last 3 else K.nd d.last 2
 if K.NN<n then .done 0 2 else if n=0 then(if d.last=d.node then .read {d with aa:=9} K.fr else .read {d with aa:=7} (K.nd d.last 0))
 else if 64<=d.depth then jl K c d else .read {d with aa:=5,depth:=d.depth+1,last:=n,aD:=l} (K.nd n 2)
def tLoad(d:TD)(raw:Int):TO:=
 let v:=raw%1099511627776
 let n:=v.toNat
 match d.aa with
 |1=>dQ K c d raw
 |2=>if v=c.key then .read {d with aa:=4} (K.nd d.node 1)else if 64<=d.depth then jl K c d else
   .read {d with aa:=3,link:=K.nd d.node (if(K.hs c.key).testBit d.depth then 3 else 2)} (K.nd d.node (if(K.hs c.key).testBit d.depth then 3 else 2))
 |3=>fE K c {d with depth:=d.depth+1} n
 |4=>if c.kind=0 then lV K c {d with value:=v} v 0 else if c.kind=2 then .read {d with aa:=5,value:=v,last:=d.node,aD:=d.link,depth:=0} (K.nd d.node 2)
   else if c.kind=3/\v≠c.old then lV K c {d with value:=v} v 6 else fF K c {d with value:=v} v (g_ K c {d with value:=v})
 |5=> .read {d with aa:=6,aN:=n} (K.nd d.last 3)
 |6=>ni K c d n
 |7=> .read {d with aa:=8,dB:=v} (K.nd d.last 1)
 |8=> .read {d with aa:=9,cF:=v} K.fr
 |9=>if K.NN<n then .done 0 2 else if c.kind=2 then fF K c {d with free:=n} d.value (cB K c {d with free:=n})else if n=0 then lV K c {d with free:=n} 0 4 else .read {d with aa:=10,free:=n} (K.nd n 2)
 |10=> .read {d with aa:=11,cN:=n} (K.nd d.free 0)
 |11=> .read {d with aa:=12,fy:=v} (K.nd d.free 1)
 |12=>fF K c {d with bI:=v} 0 (dg K c {d with bI:=v})
 |_=>if raw=d.raw then .done d.res d.err else dQ K c d raw
end
def tWd(K:TK)(c:TC)(d:TD):Nat:=match d.aa with
 |2=>K.nd d.node 0
 |3=>d.link
 |4=>K.nd d.node 1
 |5=>K.nd d.last 2
 |6=>K.nd d.last 3
 |7=>K.nd d.last 0
 |8=>K.nd d.last 1
 |9=>K.fr
 |10=>K.nd d.free 2
 |11=>K.nd d.free 0
 |12=>K.nd d.free 1
 |_=>K.rt c
structure Et(K:TK)(S:TT)(l:Nat)(S':TT)(l':Nat):Prop where
 mem:∀(L:Nat->Int) NN,gU L (aQ K.W K.B) NN S (bu L l)->gU L (aQ K.W K.B) NN S' (bu L l')
 leaf:S'.leaf=S.leaf
 link:S'.clink (aQ K.W K.B) l'=S.clink (aQ K.W K.B) l
 sm:S'.eX=true
 pr:(S'=S/\l'=l)\/∀y:Nat,S.root=y->y∉S'.ar
 nd:S.ar.Nodup->S'.ar.Nodup
 ar:∀x∈S'.ar,x∈S.ar
def Xp(K:TK)(S:TT)(s:Nat):Prop:=∃(d':Nat) (Q:Int->Prop),S.Wf K.hs d' Q/\s<=d'/\(∀x,Q x->KR x)/\∀x y,Q x->Q y->∀j,j<d'->(K.hs x).testBit j=(K.hs y).testBit j
def TSy(K:TK)(c:TC)(t:TT)(d:TD):Prop:=
 match d.aa with
 |2=>∃k v z o,t.desc K.hs (aQ K.W K.B) c.key (K.rt c) 0 d.depth=some (.node d.node k v z o,d.link)
 |3=>∃S,t.desc K.hs (aQ K.W K.B) c.key (K.rt c) 0 (d.depth+1)=some (S,d.link)
 |4=>∃v z o,t.aU K.hs c.key 0= .node d.node c.key v z o/\t.linkAt K.hs (aQ K.W K.B) c.key (K.rt c) 0=d.link
 |5=>c.kind=2/\∃z o S',t.aU K.hs c.key 0= .node d.node c.key d.value z o/\t.linkAt K.hs (aQ K.W K.B) c.key (K.rt c) 0=d.link/\Et K (.node d.node c.key d.value z o) d.link S' d.aD/\S'.root=d.last/\Xp K S' d.depth
 |6=>c.kind=2/\∃z o k v z' o',t.aU K.hs c.key 0= .node d.node c.key d.value z o/\t.linkAt K.hs (aQ K.W K.B) c.key (K.rt c) 0=d.link/\Et K (.node d.node c.key d.value z o) d.link (.node d.last k v z' o') d.aD/\z'.root=d.aN/\Xp K (.node d.last k v z' o') d.depth
 |7=>c.kind=2/\d.last≠d.node/\∃z o k v,t.aU K.hs c.key 0= .node d.node c.key d.value z o/\t.linkAt K.hs (aQ K.W K.B) c.key (K.rt c) 0=d.link/\Et K (.node d.node c.key d.value z o) d.link (.node d.last k v .nil .nil) d.aD
 |8=>c.kind=2/\d.last≠d.node/\∃z o v,t.aU K.hs c.key 0= .node d.node c.key d.value z o/\t.linkAt K.hs (aQ K.W K.B) c.key (K.rt c) 0=d.link/\Et K (.node d.node c.key d.value z o) d.link (.node d.last d.dB v .nil .nil) d.aD
 |13=>(d.err=0/\c.kind=0/\t.look K.hs c.key 0=some d.res)\/(d.err=5/\d.res=0/\c.kind≠1/\t.look K.hs c.key 0=none)\/(d.err=6/\c.kind=3/\t.look K.hs c.key 0=some d.res/\d.res≠c.old)\/(d.err=4/\d.res=0/\c.kind=1/\t.look K.hs c.key 0=none)
 |1=>True
 |_=>(c.kind=1/\d.node=0/\t.aU K.hs c.key 0= .nil/\t.linkAt K.hs (aQ K.W K.B) c.key (K.rt c) 0=d.link)\/
   (c.kind=2/\d.last=d.node/\t.aU K.hs c.key 0= .node d.node c.key d.value .nil .nil/\t.linkAt K.hs (aQ K.W K.B) c.key (K.rt c) 0=d.link)\/
   (c.kind=2/\d.last≠d.node/\∃z o,t.aU K.hs c.key 0= .node d.node c.key d.value z o/\t.linkAt K.hs (aQ K.W K.B) c.key (K.rt c) 0=d.link/\Et K (.node d.node c.key d.value z o) d.link (.node d.last d.dB d.cF .nil .nil) d.aD)
def TGo(K:TK)(c:TC)(t:TT)(d:TD)(x:Int):Prop:=
 match d.aa with
 |2=>∃v z o,t.desc K.hs (aQ K.W K.B) c.key (K.rt c) 0 d.depth=some (.node d.node x v z o,d.link)
 |3=>∃S,t.desc K.hs (aQ K.W K.B) c.key (K.rt c) 0 (d.depth+1)=some (S,d.link)/\S.root=x
 |4=>∃z o,t.aU K.hs c.key 0= .node d.node c.key x z o/\t.linkAt K.hs (aQ K.W K.B) c.key (K.rt c) 0=d.link
 |5=>c.kind=2/\∃z o k v z' o',t.aU K.hs c.key 0= .node d.node c.key d.value z o/\t.linkAt K.hs (aQ K.W K.B) c.key (K.rt c) 0=d.link/\Et K (.node d.node c.key d.value z o) d.link (.node d.last k v z' o') d.aD/\z'.root=x/\Xp K (.node d.last k v z' o') d.depth
 |6=>c.kind=2/\∃z o k v z' o',t.aU K.hs c.key 0= .node d.node c.key d.value z o/\t.linkAt K.hs (aQ K.W K.B) c.key (K.rt c) 0=d.link/\Et K (.node d.node c.key d.value z o) d.link (.node d.last k v z' o') d.aD/\z'.root=d.aN/\o'.root=x/\Xp K (.node d.last k v z' o') d.depth
 |7=>c.kind=2/\d.last≠d.node/\∃z o v,t.aU K.hs c.key 0= .node d.node c.key d.value z o/\t.linkAt K.hs (aQ K.W K.B) c.key (K.rt c) 0=d.link/\Et K (.node d.node c.key d.value z o) d.link (.node d.last x v .nil .nil) d.aD
 |8=>c.kind=2/\d.last≠d.node/\∃z o,t.aU K.hs c.key 0= .node d.node c.key d.value z o/\t.linkAt K.hs (aQ K.W K.B) c.key (K.rt c) 0=d.link/\Et K (.node d.node c.key d.value z o) d.link (.node d.last d.dB x .nil .nil) d.aD
 |_=>TSy K c t d
section
variable{K:TK}{c:TC}{L:Nat->Int}{t:TT}{d:TD}
theorem gU.desc{hs:Int->Nat}{nd:Nat->Nat->Nat}{NN:Nat}{key:Int}:∀{T:TT} {l d s:Nat} {S:TT} {l':Nat},T.desc hs nd key l d s=some (S,l')->gU L nd NN T (bu L l)->gU L nd NN S (bu L l')
 |T,l,d,0,S,l',h,hM=>by
  rw[show T.desc hs nd key l d 0=some (T,l) by cases T<;>rfl]at h
  injection h with h;injection h with h1 h2;rw[<-h1,<-h2];exact hM
 | .nil,_,_,s+1,S,l',h,_=>by cases h
 | .node n k v z o,l,d,s+1,S,l',h,⟨_,_,_,_,_,h5,h6⟩=>by
   simp only[TT.desc]at h;by_cases hk:k=key
   . rw[aA hk]at h;cases h
   . rw[ax hk]at h
     cases hb:(hs key).testBit d with
     |true=>rw[hb,aA rfl]at h;exact gU.desc h h6
     |false=>rw[hb,ax smQ]at h;exact gU.desc h h5
theorem TSy.got{NN:Nat}(h:TSy K c t d)(hM:gU L (aQ K.W K.B) NN t (bu L (K.rt c))):TGo K c t d (bu L (tWd K c d)):=by
 have gV:=gU.sub (hs:=K.hs) (key:=c.key) (d:=0) hM;unfold TSy at h;unfold TGo tWd;split at h
 . rename_i hs;simp only[hs]
   obtain⟨k,v,z,o,h⟩:=h;obtain⟨_,_,_,e,_⟩:=gU.desc h hM;exact⟨v,z,o,by rw[show bu L (K.nd d.node 0)=k from e];exact h⟩
 . rename_i hs;simp only[hs]
   obtain⟨S,h⟩:=h;exact⟨S,h,(gU.desc h hM).root.symm⟩
 . rename_i hs;simp only[hs]
   obtain⟨v,z,o,h1,h2⟩:=h;rw[h1,h2]at gV;exact⟨z,o,by rw[show bu L (K.nd d.node 1)=v from gV.2.2.2.2.1];exact h1,h2⟩
 . rename_i hs;simp only[hs]
   obtain⟨h0,z,o,S',h1,h2,h3,h4,h5⟩:=h;rw[h1,h2]at gV;have hm:=h3.mem L NN gV;have G5:=h3.sm;cases S' with
   |nil=>cases G5
   |node m k v z' o'=>
    have e:m=d.last:=by have:((m:Nat):Int)=d.last:=h4;omega
    subst e;exact⟨h0,z,o,k,v,z',o',h1,h2,h3,hm.2.2.2.2.2.1.root.symm,h5⟩
 . rename_i hs;simp only[hs]
   obtain⟨h0,z,o,k,v,z',o',h1,h2,h3,h4,h5⟩:=h;rw[h1,h2]at gV;have hm:=h3.mem L NN gV;exact⟨h0,z,o,k,v,z',o',h1,h2,h3,h4,hm.2.2.2.2.2.2.root.symm,h5⟩
 . rename_i hs;simp only[hs]
   obtain⟨h0,h9,z,o,k,v,h1,h2,h3⟩:=h;rw[h1,h2]at gV;have hm:=h3.mem L NN gV;exact⟨h0,h9,z,o,v,h1,h2,by rw[show bu L (K.nd d.last 0)=k from hm.2.2.2.1];exact h3⟩
 . rename_i hs;simp only[hs]
   obtain⟨h0,h9,z,o,v,h1,h2,h3⟩:=h;rw[h1,h2]at gV;have hm:=h3.mem L NN gV;exact⟨h0,h9,z,o,h1,h2,by rw[show bu L (K.nd d.last 1)=v from hm.2.2.2.2.1];exact h3⟩
 . rename_i hs;rw[hs];unfold TSy;rw[hs];exact h
 . rename_i hs;rw[hs];unfold TSy;rw[hs];trivial
 . rename_i n2 n3 n4 n5 n6 n7 n8 n13 n1
   split<;>first|(rename_i hx;exact absurd hx asQ)|skip
   unfold TSy;split<;>first|(rename_i hx;exact absurd hx asQ)|exact h
end
def TCh(K:TK)(c:TC)(t:TT)(d:TD)(es:List bO)(v:Int):Prop:=
 (es=g_ K c d/\v=d.value/\(c.kind=1\/(c.kind=3/\d.value=c.old))/\∃z o,t.aU K.hs c.key 0= .node d.node c.key d.value z o/\t.linkAt K.hs (aQ K.W K.B) c.key (K.rt c) 0=d.link)\/
 (es=dg K c d/\v=0/\c.kind=1/\d.node=0/\t.aU K.hs c.key 0= .nil/\t.linkAt K.hs (aQ K.W K.B) c.key (K.rt c) 0=d.link)\/
 (es=cB K c d/\v=d.value/\c.kind=2/\d.last=d.node/\t.aU K.hs c.key 0= .node d.node c.key d.value .nil .nil/\t.linkAt K.hs (aQ K.W K.B) c.key (K.rt c) 0=d.link)\/
 (es=cB K c d/\v=d.value/\c.kind=2/\d.last≠d.node/\∃z o,t.aU K.hs c.key 0= .node d.node c.key d.value z o/\t.linkAt K.hs (aQ K.W K.B) c.key (K.rt c) 0=d.link/\Et K (.node d.node c.key d.value z o) d.link (.node d.last d.dB d.cF .nil .nil) d.aD)
def Aj(K:TK)(c:TC)(t:TT):TO->Prop
 | .read d k=>k=tWd K c d/\TSy K c t d
 | .dH d es v=>TCh K c t d es v/\dupE es=false
 | .done _ _=>False
section
variable{K:TK}{c:TC}{t:TT}{d:TD}{raw:Int}
theorem Aj.again:Aj K c t (jl K c d):=⟨rfl,by unfold TSy;trivial⟩
theorem Aj.comm{v:Int}{es:List bO}(h:TCh K c t {d with res:=v} es v):Aj K c t (fF K c d v es):=by
 unfold fF;cases hd:dupE es with
 |true=>exact Aj.again
 |false=>exact⟨h,hd⟩
theorem Aj.visit{S:TT}(h:t.desc K.hs (aQ K.W K.B) c.key (K.rt c) 0 d.depth=some (S,d.link)){n:Nat}(hn:S.root=n)(hN:n<=K.NN)(Bh:∀m∈S.ar,1<=m):Aj K c t (fE K c d n):=by
 obtain⟨l1,l2,l3⟩:=TT.rq h;unfold fE;rw[ax ae];cases S with
 |nil=>
  have h0:n=0:=by have:(0:Int)=n:=hn;omega
  subst h0;simp only[ne_eq,not_true,dF];by_cases hk:c.kind=1
  . rw[aA hk]
    exact⟨rfl, .inl ⟨hk,rfl,l2,l3⟩⟩
  . rw[ax hk]
    exact⟨rfl, .inr (.inl ⟨rfl,rfl,hk,l1⟩)⟩
 |node m k v z o=>
  have hm:m=n:=by have:((m:Nat):Int)=n:=hn;omega
  have h1:=Bh m (by simp[TT.ar]);subst hm;rw[aA ae];exact⟨rfl,k,v,z,o,h⟩
theorem Aj.enter(h:t.root=raw%1099511627776)(hN:raw%1099511627776<=K.NN)(Bh:∀m∈t.ar,1<=m):Aj K c t (dQ K c d raw):=by
 unfold dQ;have h0:0<=raw%1099511627776:=by omega
 refine Aj.visit (S:=t) (by cases t<;>rfl) (by rw[h];omega) ae Bh
theorem TT.vT{hs:Int->Nat}{nd:Nat->Nat->Nat}{key:Int}:∀{T:TT} {l d s:Nat} {S:TT} {l':Nat},T.desc hs nd key l d s=some (S,l')->∀n∈S.ar,n∈T.ar
 |T,l,d,0,S,l',h,n,hn=>by
  rw[show T.desc hs nd key l d 0=some (T,l) by cases T<;>rfl]at h
  injection h with h;injection h with h1 h2;rw[h1];exact hn
 | .nil,_,_,s+1,S,l',h,_,_=>by cases h
 | .node m k v z o,l,d,s+1,S,l',h,n,hn=>by
   simp only[TT.desc]at h;by_cases hk:k=key
   . rw[aA hk]at h;cases h
   . rw[ax hk]at h
     cases hb:(hs key).testBit d with
     |true=>rw[hb,aA rfl]at h;have:=TT.vT h n hn;simp[TT.ar,this]
     |false=>rw[hb,ax smQ]at h;have:=TT.vT h n hn;simp[TT.ar,this]
theorem TT.Ik{K:TK}{key:Int}:∀{T:TT} {d:Nat} {P:Int->Prop},T.Wf K.hs d P->P key->(∀x,P x->KR x)->(∀x y,P x->P y->∀j,j<d->(K.hs x).testBit j=(K.hs y).testBit j)->Xp K (T.aU K.hs key d) 0
 | .nil,d,P,h,hP,hr,ha=>⟨d,P,h,im _,hr,ha⟩
 | .node n k v z o,d,P,h,hP,hr,ha=>by
   simp only[TT.aU];by_cases hk:k=key
   . rw[aA hk];exact⟨d,P,h,im _,hr,ha⟩
   . rw[ax hk]
     have step:∀b:Bool,∀x y,(P x/\(K.hs x).testBit d=b)->(P y/\(K.hs y).testBit d=b)->∀j,j<d+1->(K.hs x).testBit j=(K.hs y).testBit j:=λb x y hx hy j hj=>by
      by_cases Zp:j=d
      . rw[Zp,hx.2,hy.2]
      . exact ha x y hx.1 hy.1 j ae
     cases hb:(K.hs key).testBit d with
     |true=>simp only[cR];exact TT.Ik h.2.2.2 ⟨hP,hb⟩ (λx hx=>hr x hx.1) (step true)
     |false=>simp only[eS,dF];exact TT.Ik h.2.2.1 ⟨hP,hb⟩ (λx hx=>hr x hx.1) (step false)
theorem Et.refl(S:TT)(l:Nat)(h:S.eX=true):Et K S l S l:=⟨λ_ _ h=>h,rfl,rfl,h, .inl ⟨rfl,rfl⟩,λh=>h,λ_ h=>h⟩
theorem Et.eq{S S':TT}{l l':Nat}(h:Et K S l S' l')(hr:S'.root=S.root):S'=S/\l'=l:=by
 rcases h.pr with h1|h1
 . exact h1
 . exfalso
   have hs:=h.sm;cases S' with
   |nil=>cases hs
   |node m k v z o=>exact h1 m hr.symm (by simp[TT.ar])
theorem Et.down{S:TT}{l l' n:Nat}{k v:Int}{z o S2:TT}{l2:Nat}(h:Et K S l (.node n k v z o) l')(oy:S.ar.Nodup)
 (h2:(z.eX=true/\S2=z/\l2=aQ K.W K.B n 2)\/(z= .nil/\o.eX=true/\S2=o/\l2=aQ K.W K.B n 3)):Et K S l S2 l2:=by
 have DD:S2.eX=true:=by
  rcases h2 with⟨a,rfl,_⟩|⟨_,a,rfl,_⟩<;>exact a
 have uU:S2.leaf=(TT.node n k v z o).leaf/\S2.clink (aQ K.W K.B) l2=(TT.node n k v z o).clink (aQ K.W K.B) l':=by
  rcases h2 with⟨a,rfl,rfl⟩|⟨rfl,a,rfl,rfl⟩
  . cases S2 with
    |nil=>cases a
    |node=>exact⟨rfl,rfl⟩
  . cases S2 with
    |nil=>cases a
    |node=>exact⟨rfl,rfl⟩
 have G8:=h.nd oy;rw[TT.ar,rD,tW]at G8
 have nQ:∀x∈S2.ar,x∈z.ar\/x∈o.ar:=λx hx=>by
  rcases h2 with⟨_,rfl,_⟩|⟨_,_,rfl,_⟩
  . exact .inl hx
  . exact .inr hx
 refine⟨λL NN hM=> ?_,uU.1.trans h.leaf,uU.2.trans h.link,DD, .inr (λy hy hx=> ?_),λ_=> ?_,λx hx=>h.ar x ?_⟩
 . have:=h.mem L NN hM
   rcases h2 with⟨_,rfl,rfl⟩|⟨_,_,rfl,rfl⟩
   . exact this.2.2.2.2.2.1
   . exact this.2.2.2.2.2.2
 . have G2:=nQ y hx
   rcases h.pr with⟨e,_⟩|h1
   . rw[<-e]at hy
     have:n=y:=by have:((n:Nat):Int)=y:=hy;omega
     subst this;exact G8.1 (gG.2 G2)
   . exact h1 y hy (by rw[TT.ar];exact pV _ (gG.2 G2))
 . rcases h2 with⟨_,rfl,_⟩|⟨_,_,rfl,_⟩
   . exact G8.2.1
   . exact G8.2.2.1
 . rw[TT.ar];exact pV _ (gG.2 (nQ x hx))
end
section
variable{K:TK}{c:TC}{t:TT}{d:TD}{raw:Int}
theorem TT.BO{hs:Int->Nat}{key:Int}{T:TT}(h:T.ar.Nodup):(T.aU hs key 0).ar.Nodup:=by
 have:=TT.pY (hs:=hs) (key:=key) (f:=λ_=> .nil) (T:=T) (d:=0);have h9:=this.nodup_iff.2 (by simpa [TT.ar]using h);exact(tW.1 h9).2.1
theorem TGo.next(h:TGo K c t d (raw%1099511627776))(QD:t.Wf K.hs 0 (λk=>KR k/\K.bk k=K.bk c.key))(zG:KR c.key)(oy:t.ar.Nodup)(zD:∀n∈t.ar,1<=n)(hv:d.aa=3\/d.aa=6\/d.aa=9->raw%1099511627776<=K.NN)(hz:d.aN<=K.NN)(jb:c.kind<=3)(ZbC:10<=d.aa->c.kind≠2)(h2:2<=d.aa)(Vi:d.aa<=12):
 Aj K c t (tLoad K c d raw):=by
 have ux:0<=raw%1099511627776:=by omega
 obtain⟨x,hx⟩:=aH (raw%1099511627776);rw[hx]at h hv ux;rcases(by omega:d.aa=2\/d.aa=3\/d.aa=4\/d.aa=5\/d.aa=6\/d.aa=7\/d.aa=8\/d.aa=9\/d.aa=10\/d.aa=11\/d.aa=12)with hs|hs|hs|hs|hs|hs|hs|hs|hs|hs|hs
 . simp only[TGo,hs]at h
   simp only[tLoad,hs,hx];obtain⟨v,z,o,h⟩:=h;obtain⟨l1,l2,l3⟩:=TT.rq h;by_cases hk:x=c.key
   . rw[aA hk]
     refine⟨rfl,v,z,o,?_,?_⟩
     . rw[l2,TT.aU,aA hk,hk]
     . rw[l3,TT.linkAt,aA hk]
   . rw[ax hk]
     by_cases wT:64<=d.depth
     . rw[aA wT];exact Aj.again
     . rw[ax wT]
       refine⟨rfl,?_⟩;have kP:=TT.zU (r:=1) h;simp only[TT.desc]at kP;rw[ax hk,cY]at kP;cases hb:(K.hs c.key).testBit d.depth with
       |true=>
        rw[hb,aA rfl]at kP;exact⟨o,kP.trans (by cases o<;>rfl)⟩
       |false=>
        rw[hb,ax smQ]at kP;exact⟨z,kP.trans (by cases z<;>rfl)⟩
 . simp only[TGo,hs]at h
   simp only[tLoad,hs,hx];obtain⟨S,h,hr⟩:=h;have:=hv (.inl hs);exact Aj.visit (d:={d with depth:=d.depth+1}) h (by rw[hr];omega) ae (λn hn=>zD n (TT.vT h n hn))
 . simp only[TGo,hs]at h
   simp only[tLoad,hs,hx];obtain⟨z,o,h,hl⟩:=h
   have K_:t.look K.hs c.key 0=some x:=by
    rcases TT.jT (hs:=K.hs) (key:=c.key) (T:=t) (d:=0)with⟨a,_⟩|⟨n',v',z',o',a,b⟩
    . rw[h]at a;cases a
    . rw[h]at a;injection a with _ _ a;rw[a];exact b
   by_cases h0:c.kind=0
   . rw[aA h0];exact⟨rfl, .inl ⟨rfl,h0,K_⟩⟩
   . rw[ax h0]
     by_cases h1:c.kind=2
     . rw[aA h1]
       have hdp:=TT.Ik (K:=K) (key:=c.key) QD ⟨zG,rfl⟩ (λy hy=>hy.1) (λ_ _ _ _ j hj=>by omega);rw[h]at hdp;exact⟨rfl,h1,z,o, .node d.node c.key x z o,h,hl,Et.refl _ _ rfl,rfl,hdp⟩
     . rw[ax h1]
       by_cases h3:c.kind=3/\x≠c.old
       . rw[aA h3];exact⟨rfl, .inr (.inr (.inl ⟨rfl,h3.1,K_,h3.2⟩))⟩
       . rw[ax h3]
         refine Aj.comm (.inl ⟨rfl,rfl,?_,z,o,h,hl⟩);by_cases h4:c.kind=1
         . exact .inl h4
         . exact .inr ⟨by omega,KH.1 (λhx=>h3 ⟨by omega,hx⟩)⟩
 . simp only[TGo,hs]at h
   simp only[tLoad,hs,hx];obtain⟨h0,z,o,k,v,z',o',h1,h3,h4,h5,h6⟩:=h;exact⟨rfl,h0,z,o,k,v,z',o',h1,h3,h4,by rw[h5];show x=((x.toNat:Nat):Int);omega,h6⟩
 . simp only[TGo,hs]at h
   simp only[tLoad,hs,hx];obtain⟨h0,z,o,k,v,z',o',h1,h3,h4,h5,h5',h6⟩:=h;have hxN:=hv (.inr (.inl hs));have hS:=TT.BO (hs:=K.hs) (key:=c.key) oy;rw[h1]at hS;have hSn:∀y∈(TT.node d.node c.key d.value z o).ar,1<=y:=λy hy=>zD y (by rw[<-h1]at hy;exact TT.ez hy)
   have hS':∀y∈(TT.node d.last k v z' o').ar,y∈(TT.node d.node c.key d.value z o).ar:=h4.ar;have CH:=h4.nd hS
   have ig:(z'.eX=true/\(0:Int)<d.aN)\/(z'= .nil/\d.aN=0):=by
    cases z' with
    |nil=>right;refine⟨rfl,?_⟩;have:(0:Int)=d.aN:=h5;omega
    |node m k2 v2 z2 o2=>
     left;have h7:((m:Nat):Int)=d.aN:=h5;have h8:=hSn m (hS' m (by simp[TT.ar]));exact⟨rfl,by omega⟩
   have Q1:∀(S2:TT) (l2:Nat) (n:Nat),((z'.eX=true/\S2=z'/\l2=aQ K.W K.B d.last 2)\/(z'= .nil/\o'.eX=true/\S2=o'/\l2=aQ K.W K.B d.last 3))->S2.root=n->Aj K c t (.read {d with aa:=5,depth:=d.depth+1,last:=n,aD:=l2} (K.nd n 2)):=λS2 l2 n h7 hr=>by
    obtain⟨d',Q,w,w2,w3,w4⟩:=h6;refine⟨rfl,h0,z,o,S2,h1,h3,h4.down hS h7,hr,?_⟩
    have step:∀b:Bool,∀x y,(Q x/\(K.hs x).testBit d'=b)->(Q y/\(K.hs y).testBit d'=b)->∀j,j<d'+1->(K.hs x).testBit j=(K.hs y).testBit j:=λb x y hx hy j hj=>by
     by_cases Zp:j=d'
     . rw[Zp,hx.2,hy.2]
     . exact w4 x y hx.1 hy.1 j ae
    rcases h7 with⟨_,rfl,_⟩|⟨_,_,rfl,_⟩
    . exact⟨d'+1,_,w.2.2.1,by show d.depth+1<=d'+1;omega,λx hx=>w3 x hx.1,step false⟩
    . exact⟨d'+1,_,w.2.2.2,by show d.depth+1<=d'+1;omega,λx hx=>w3 x hx.1,step true⟩
   unfold ni;rcases ig with⟨hz1,hz2⟩|⟨hz1,hz2⟩
   . rw[ax (show¬d.aN=0 by omega),ax (show¬d.aN=0 by omega)]
     dsimp only;rw[ax ae,ax ae];by_cases wT:64<=d.depth
     . rw[aA wT];exact Aj.again
     . rw[ax wT];exact Q1 z' _ _ (.inl ⟨hz1,rfl,rfl⟩) h5
   . rw[aA hz2,aA hz2]
     dsimp only;rw[ax ae];cases ho:o' with
     |nil=>
      have hx9:x=0:=by rw[ho]at h5';exact h5'.symm
      rw[aA ae];rw[ho,hz1]at h4;by_cases hl:d.last=d.node
      . rw[aA hl]
        have he:=(h4.eq (by show((d.last:Nat):Int)=d.node;rw[hl])).1;injection he with _ _ _ M0 U1;rw[<-M0,<-U1]at h1;exact⟨rfl, .inr (.inl ⟨h0,hl,h1,h3⟩)⟩
      . rw[ax hl]
        exact⟨rfl,h0,hl,z,o,k,v,h1,h3,h4⟩
     |node m k2 v2 z2 o2=>
      have h7:((m:Nat):Int)=x:=by rw[ho]at h5';exact h5'
      have h8:=hSn m (hS' m (by rw[ho];simp[TT.ar]));rw[ax ae];by_cases wT:64<=d.depth
      . rw[aA wT];exact Aj.again
      . rw[ax wT];exact Q1 o' _ _ (.inr ⟨hz1,by rw[ho];rfl,rfl,rfl⟩) (by rw[ho];show((m:Nat):Int)=((x.toNat:Nat):Int);omega)
 . simp only[TGo,hs]at h
   simp only[tLoad,hs,hx];obtain⟨h0,h9,z,o,v,h1,h3,h4⟩:=h;exact⟨rfl,h0,h9,z,o,v,h1,h3,h4⟩
 . simp only[TGo,hs]at h
   simp only[tLoad,hs,hx];obtain⟨h0,h9,z,o,h1,h3,h4⟩:=h;exact⟨rfl, .inr (.inr ⟨h0,h9,z,o,h1,h3,h4⟩)⟩
 . simp only[TGo,TSy,hs]at h
   simp only[tLoad,hs,hx];have hxN:=hv (.inr (.inr hs));rw[ax ae];by_cases h2:c.kind=2
   . rw[aA h2]
     rcases h with⟨a,_⟩|⟨a1,a2,a3,a4⟩|⟨a1,a2,z,o,a3,a4,a5⟩
     . omega
     . exact Aj.comm (.inr (.inr (.inl ⟨rfl,rfl,a1,a2,a3,a4⟩)))
     . exact Aj.comm (.inr (.inr (.inr ⟨rfl,rfl,a1,a2,z,o,a3,a4,a5⟩)))
   . rw[ax h2]
     rcases h with⟨a1,a2,a3,a4⟩|⟨a,_⟩|⟨a,_⟩
     . by_cases hn:x.toNat=0
       . rw[aA hn]
         have K_:t.look K.hs c.key 0=none:=by
          rcases TT.jT (hs:=K.hs) (key:=c.key) (T:=t) (d:=0)with⟨_,b⟩|⟨n',v',z',o',b,_⟩
          . exact b
          . rw[a3]at b;cases b
         exact⟨rfl, .inr (.inr (.inr ⟨rfl,rfl,a1,K_⟩))⟩
       . rw[ax hn];exact⟨rfl, .inl ⟨a1,a2,a3,a4⟩⟩
     . omega
     . omega
 . simp only[TGo,TSy,hs]at h
   simp only[tLoad,hs,hx];exact⟨rfl,h⟩
 . simp only[TGo,TSy,hs]at h
   simp only[tLoad,hs,hx];exact⟨rfl,h⟩
 . simp only[TGo,TSy,hs]at h
   simp only[tLoad,hs,hx];rcases h with⟨a1,a2,a3,a4⟩|⟨a,_⟩|⟨a,_⟩
   . exact Aj.comm (.inr (.inl ⟨rfl,rfl,a1,a2,a3,a4⟩))
   . exact absurd a (ZbC ae)
   . exact absurd a (ZbC ae)
end
theorem oB:∀{es:List bO},dupE es=false->∀i j,i<es.length->j<es.length->(es.getD i E0).off=(es.getD j E0).off->i=j
 |[],_,i,_,hi,_,_=>by simp at hi
 |e::es,h,i,j,hi,hj,he=>by
  simp only[dupE,AY]at h
  have aG:∀k,k<es.length->(es.getD k E0).off≠e.off:=λk hk hx=>by
   have:=h.1;rw[KI]at this;refine this (es.getD k E0) ?_ (yQ.2 hx);rw[eY,dG hk];exact fq hk
  cases i with
  |zero=>
   cases j with
   |zero=>rfl
   |succ j=>exact absurd (by simpa using he.symm) (aG j (by simpa using hj))
  |succ i=>
   cases j with
   |zero=>exact absurd (by simpa using he) (aG i (by simpa using hi))
   |succ j=>rw[oB h.2 i j (by simpa using hi) (by simpa using hj) (by simpa using he)]
section
variable{L:Nat->Int}{es:List bO}{e:bO}{k:Nat}
def Ss(es:List bO):Prop:=∀e∈es,(0<=e.new/\e.new<1099511627776)/\∃k:Nat,e.off=8*(k:Int)
theorem ep(hd:dupE es=false)(ho:Ss es)(he:e∈es)(hk:e.off=8*(k:Int)):bu (appL L es) k=e.new:=by
 obtain⟨q,hq,rfl⟩:=y_ he;have hg:es.getD q E0=es[q]:=by rw[eY,dG hq];rfl
 unfold bu appL;have hw:ee es q=k:=by unfold ee;rw[hg,hk];omega
 cases hf:(List.range es.length).find? (λq'=>ee es q'==k)with
 |none=>
  rw[yW]at hf;exact absurd (hf q (by simpa using hq)) (by simp[hw])
 |some q'=>
  have h1:=Fh hf;have h2:=Mn hf;have wJ:q'<es.length:=by simpa using h2
  have hw':ee es q'=k:=by simpa using h1
  have W7:es.getD q' E0=es[q']:=by rw[eY,dG wJ];rfl
  obtain⟨k',jC⟩:=(ho es[q'] (fq wJ)).2
  have:q'=q:=oB hd q' q wJ hq (by
   rw[hg,W7,hk,jC];unfold ee at hw';rw[W7,jC]at hw';omega)
  subst this;obtain⟨n1,n2⟩:=(ho es[q'] (fq wJ)).1;dsimp only;rw[hg];unfold bO.after;omega
theorem Ag(ho:Ss es)(h:∀e∈es,e.off≠8*(k:Int)):appL L es k=L k:=by
 refine xY (λq hq hw=> ?_);have hg:es.getD q E0=es[q]:=by rw[eY,dG hq];rfl
 obtain⟨k',jC⟩:=(ho es[q] (fq hq)).2;refine h es[q] (fq hq) ?_;unfold ee at hw;rw[hg,jC]at hw;omega
theorem u9(hs:nu L es=true)(he:e∈es)(hk:e.off=8*(k:Int)):e.sat (L k)=true:=by
 obtain⟨q,hq,rfl⟩:=y_ he;have hg:es.getD q E0=es[q]:=by rw[eY,dG hq];rfl
 unfold nu at hs;rw[ir]at hs;have:=hs q (by simpa using hq);unfold ee at this;rw[hg,hk]at this;rwa[show(8*(k:Int)/8).toNat=k by omega]at this
theorem xC{w:Nat}{o n:Int}(h:(jF w o n).sat (L w)=true):bu L w=o:=by
 unfold bO.sat jF at h;simpa [bu]using h
end
section
variable{K:TK}{c:TC}{L:Nat->Int}{T:Nat->TT}{fl:List Nat}{q:List (Int×Int)}{d:TD}{es:List bO}{v:Int}
theorem kQ.effect(h:kQ K.W K.B K.NN K.hs K.bk L T fl q)(hk:KR c.key)(hb:K.bk c.key<K.B)(hc:TCh K c (T (K.bk c.key)) d es v)(hd:dupE es=false)(ho:Ss es)(hs:nu L es=true)(gW:c.kind=1->d.node=0->1<=d.free):
 ∃T' eG,kQ K.W K.B K.NN K.hs K.bk (appL L es) T' eG (eu K.NN q c.kind c.key c.val c.old).1/\(eu K.NN q c.kind c.key c.val c.old).2=(v,0)/\∀b,b≠K.bk c.key->T' b=T b:=by
 have other:∀(b:Nat) (t:TT),b≠K.bk c.key->C5 T (K.bk c.key) t b=T b:=λb t aG=>gR aG
 have Km:∀x:Int,dD K c d x∈es->bu L (K.rt c)=d.raw%1099511627776:=λx hx=>by
  have:=u9 hs hx (k:=K.rt c) rfl;unfold bO.sat dD at this;have e:L (K.rt c)=d.raw:=by simpa using this
  unfold bu;rw[e]
 rcases hc with⟨rfl,rfl,jb,z,o,h1,h2⟩|⟨rfl,rfl,jb,F2,h1,h2⟩|⟨rfl,rfl,jb,hl,h1,h2⟩|⟨rfl,rfl,jb,hl,z,o,h1,h2,h3⟩
 . obtain⟨hg,_⟩:=h.part hk hb h1
   have m0:dD K c d (d.raw%1099511627776)∈g_ K c d:=by simp[g_]
   have m1:jF (K.nd d.node 1) d.value c.val∈g_ K c d:=by simp[g_]
   have Jb:(eu K.NN q c.kind c.key c.val c.old)=(il q c.key c.val,d.value,0):=by
    unfold eu;rw[hg];dsimp only;rcases jb with jb|⟨jb,hv⟩
    . rw[jb];simp
    . rw[jb];simp[hv]
   rw[Jb];refine⟨_,fl,h.set hk hb h1 (ep hd ho m1 rfl) (λk aG=> ?_),rfl,λb aG=>other b _ aG⟩;by_cases hr:k=K.rt c
   . rw[hr,ep hd ho m0 rfl,Km _ m0];rfl
   . unfold bu
     rw[Ag ho];intro e he;simp only[g_,dr,fH,gF]at he;rcases he with rfl|rfl
     . show 8*((K.rt c:Nat):Int)≠8*(k:Int);omega
     . show 8*((K.nd d.node 1:Nat):Int)≠8*(k:Int)
       have:k≠K.nd d.node 1:=aG;omega
 . have Em:=gW jb F2
   have WB:jF K.fr d.free d.cN∈dg K c d:=by simp[dg]
   have m2:jF (K.nd d.free 2) d.cN 0∈dg K c d:=by simp[dg]
   have m0:jF (K.nd d.free 0) d.fy c.key∈dg K c d:=by simp[dg]
   have m1:jF (K.nd d.free 1) d.bI c.val∈dg K c d:=by simp[dg]
   have s1:bu L K.fr=d.free:=xC (u9 hs WB rfl);have s2:bu L (K.nd d.free 2)=d.cN:=xC (u9 hs m2 rfl)
   obtain⟨eG,rfl⟩:∃eG,fl=d.free::eG:=by
    have hF:=h.fr;rw[show bu L (nV K.W)=d.free from s1]at hF;cases fl with
    |nil=>have:((d.free:Nat):Int)=0:=hF;omega
    |cons n eG=>
     have:((d.free:Nat):Int)=n:=hF.1;exact⟨eG,by rw[show n=d.free by omega]⟩
   have hg:bJ q c.key=none:=by
    rw[h.get hk hb];rcases TT.jT (hs:=K.hs) (key:=c.key) (T:=T (K.bk c.key)) (d:=0)with⟨_,a⟩|⟨_,_,_,_,a,_⟩
    . exact a
    . rw[h1]at a;cases a
   have Jb:(eu K.NN q c.kind c.key c.val c.old)=(il q c.key c.val,0,0):=by
    have Lc:=h.ct;simp only[List.length_cons]at Lc;unfold eu;rw[hg,jb];simp;omega
   rw[Jb];have kF:bC K c d d.free ⊆ dg K c d:=λe he=>by unfold dg;exact iu _ he
   have jt:bu (appL L (dg K c d)) d.link=d.free/\((d.link≠K.rt c)->bu (appL L (dg K c d)) (K.rt c)=bu L (K.rt c)):=by
    unfold bC at kF;by_cases hl:d.link=K.rt c
    . rw[aA hl]at kF
      refine⟨?_,λhx=>absurd hl hx⟩;rw[hl];exact ep hd ho (kF (gH.2 rfl)) rfl
    . rw[ax hl]at kF
      have a0:=kF (yX);have a1:=kF (pV _ (gH.2 rfl));exact⟨ep hd ho a1 rfl,λ_=>by rw[ep hd ho a0 rfl,Km _ a0];rfl⟩
   refine⟨_,eG,h.ins hk hb h1 h2 jt.1 ?_ (ep hd ho m2 rfl) (ep hd ho m0 rfl) (ep hd ho m1 rfl) (λk a1 a2 a3 a4 a5=> ?_),rfl,λb aG=>other b _ aG⟩
   . exact(ep hd ho WB rfl).trans s2.symm
   . by_cases hr:k=K.rt c
     . rw[hr];exact jt.2 (λhx=>a1 (by rw[hr];exact hx.symm))
     . unfold bu
       rw[Ag ho];intro e he;have a2':k≠K.fr:=a2;have a3':k≠K.nd d.free 0:=a3;have a4':k≠K.nd d.free 1:=a4;have a5':k≠K.nd d.free 2:=a5;simp only[dg,bC,gG,dr,fH,gF]at he;rcases he with he|rfl|rfl|rfl|rfl
       . split at he
         . rw[gH.1 he];show 8*((K.rt c:Nat):Int)≠8*(k:Int);omega
         . simp only[dr,fH,gF]at he
           rcases he with rfl|rfl
           . show 8*((K.rt c:Nat):Int)≠8*(k:Int);omega
           . show 8*((d.link:Nat):Int)≠8*(k:Int);omega
       . show 8*((K.fr:Nat):Int)≠8*(k:Int);omega
       . show 8*((K.nd d.free 2:Nat):Int)≠8*(k:Int);omega
       . show 8*((K.nd d.free 0:Nat):Int)≠8*(k:Int);omega
       . show 8*((K.nd d.free 1:Nat):Int)≠8*(k:Int);omega
 . have he:cB K c d=bC K c d 0++[jF K.fr d.free d.last,jF (K.nd d.last 2) 0 d.free]:=by unfold cB;rw[aA hl]
   have WB:jF K.fr d.free d.last∈cB K c d:=by simp[cB]
   have m2:jF (K.nd d.last 2) 0 d.free∈cB K c d:=by simp[cB]
   have s1:bu L K.fr=d.free:=xC (u9 hs WB rfl);obtain⟨hg,_⟩:=h.part hk hb h1
   have Jb:(eu K.NN q c.kind c.key c.val c.old)=(eK q c.key,d.value,0):=by
    unfold eu;rw[hg,jb];simp
   rw[Jb];have kF:bC K c d 0 ⊆ cB K c d:=λe hx=>by rw[he];exact iu _ hx
   have jt:bu (appL L (cB K c d)) d.link=0/\((d.link≠K.rt c)->bu (appL L (cB K c d)) (K.rt c)=bu L (K.rt c)):=by
    unfold bC at kF;by_cases hl:d.link=K.rt c
    . rw[aA hl]at kF
      refine⟨?_,λhx=>absurd hl hx⟩;rw[hl];exact ep hd ho (kF (gH.2 rfl)) rfl
    . rw[ax hl]at kF
      have a0:=kF (yX);have a1:=kF (pV _ (gH.2 rfl));exact⟨ep hd ho a1 rfl,λ_=>by rw[ep hd ho a0 rfl,Km _ a0];rfl⟩
   refine⟨_,d.node::fl,h.ZdE hk hb h1 h2 jt.1 ?_ ?_ (λk a1 a2 a3=> ?_),rfl,λb aG=>other b _ aG⟩
   . rw[<-hl];exact ep hd ho WB rfl
   . rw[<-hl];exact(ep hd ho m2 rfl).trans s1.symm
   . by_cases hr:k=K.rt c
     . rw[hr];exact jt.2 (λhx=>a1 (by rw[hr];exact hx.symm))
     . unfold bu
       rw[Ag ho];intro e hx;have a2':k≠K.fr:=a2;have a3':k≠K.nd d.last 2:=by rw[hl];exact a3
       rw[he]at hx;simp only[bC,gG,dr,fH,gF]at hx;rcases hx with hx|rfl|rfl
       . split at hx
         . rw[gH.1 hx];show 8*((K.rt c:Nat):Int)≠8*(k:Int);omega
         . simp only[dr,fH,gF]at hx
           rcases hx with rfl|rfl
           . show 8*((K.rt c:Nat):Int)≠8*(k:Int);omega
           . show 8*((d.link:Nat):Int)≠8*(k:Int);omega
       . show 8*((K.fr:Nat):Int)≠8*(k:Int);omega
       . show 8*((K.nd d.last 2:Nat):Int)≠8*(k:Int);omega
 . have he:cB K c d=[dD K c d (d.raw%1099511627776),jF d.aD d.last 0,jF (K.nd d.node 0) c.key d.dB,jF (K.nd d.node 1) d.value d.cF,jF K.fr d.free d.last,jF (K.nd d.last 2) 0 d.free]:=by unfold cB;rw[ax hl];rfl
   have mr:dD K c d (d.raw%1099511627776)∈cB K c d:=by rw[he];simp
   have ml:jF d.aD d.last 0∈cB K c d:=by rw[he];simp
   have m0:jF (K.nd d.node 0) c.key d.dB∈cB K c d:=by rw[he];simp
   have m1:jF (K.nd d.node 1) d.value d.cF∈cB K c d:=by rw[he];simp
   have WB:jF K.fr d.free d.last∈cB K c d:=by rw[he];simp
   have m2:jF (K.nd d.last 2) 0 d.free∈cB K c d:=by rw[he];simp
   have s1:bu L K.fr=d.free:=xC (u9 hs WB rfl);obtain⟨hg,_⟩:=h.part hk hb h1
   have Jb:(eu K.NN q c.kind c.key c.val c.old)=(eK q c.key,d.value,0):=by
    unfold eu;rw[hg,jb];simp
   rw[Jb];have uU:(TT.node d.node c.key d.value z o).leaf=(d.last,d.dB,d.cF):=h3.leaf.symm;have jD:(TT.node d.node c.key d.value z o).clink (aQ K.W K.B) d.link=d.aD:=h3.link.symm
   have hzo:z.eX=true\/o.eX=true:=by
    cases hz:z with
    |node=>exact .inl rfl
    |nil=>
     cases hoo:o with
     |node=>exact .inr rfl
     |nil=>
      rw[hz,hoo]at uU;simp only[TT.leaf,rY]at uU;exact absurd uU.1.symm hl
   refine⟨_,d.last::fl,h.ZdD hk hb h1 hzo uU jD h2 (ep hd ho ml rfl) (ep hd ho WB rfl) ?_ (ep hd ho m0 rfl) (ep hd ho m1 rfl) (λk a1 a2 a3 a4 a5=> ?_),rfl,λb aG=>other b _ aG⟩
   . exact(ep hd ho m2 rfl).trans s1.symm
   . by_cases hr:k=K.rt c
     . rw[hr,ep hd ho mr rfl,Km _ mr];rfl
     . unfold bu
       rw[Ag ho];intro e hx;have a2':k≠K.fr:=a2;have a3':k≠K.nd d.last 2:=a3;have a4':k≠K.nd d.node 0:=a4;have a5':k≠K.nd d.node 1:=a5;rw[he]at hx;simp only[dr,fH,gF]at hx;rcases hx with rfl|rfl|rfl|rfl|rfl|rfl
       . show 8*((K.rt c:Nat):Int)≠8*(k:Int);omega
       . show 8*((d.aD:Nat):Int)≠8*(k:Int);omega
       . show 8*((K.nd d.node 0:Nat):Int)≠8*(k:Int);omega
       . show 8*((K.nd d.node 1:Nat):Int)≠8*(k:Int);omega
       . show 8*((K.fr:Nat):Int)≠8*(k:Int);omega
       . show 8*((K.nd d.last 2:Nat):Int)≠8*(k:Int);omega
end
end Go.Proofs.YtjkpjakodomnmaaGreatDoor
