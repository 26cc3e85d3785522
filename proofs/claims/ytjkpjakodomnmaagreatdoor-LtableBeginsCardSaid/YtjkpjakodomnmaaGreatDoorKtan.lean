/- The base, part 14 (merged). -/
import Derived.Test.YtjkpjakodomnmaaGreatDoorKtam
import Derived.Shelf.SlSortCmp.Whole1
import Derived.Lib.Small
set_option linter.unusedVariables false
set_option linter.unusedSimpArgs false
set_option maxRecDepth 100000
set_option maxHeartbeats 16000000
namespace Go.Proofs.YtjkpjakodomnmaaGreatDoor
open Go.RowKit Go.Proofs.Tryz
def iP(es:List bO)(off:Int):Option Nat:=(List.range es.length).find? λq=>(es.getD q E0).off==off
def DA:Option Nat->Value
 |some q=> .int .i64 (q:Int)
 |none=> .int .i64 (-1)
theorem qi{es:List bO}{off:Int}(h:∀q,q<es.length->(es.getD q E0).off≠off):iP es off=none:=by
 unfold iP;rw[yW];intro q hq;have:=h q (by simpa using hq);simpa using this
theorem wI{es:List bO}{off:Int}{q:Nat}(hq:q<es.length)(he:(es.getD q E0).off=off)(h:∀p,p<q->(es.getD p E0).off≠off):iP es off=some q:=by
 unfold iP;rw[P0];refine⟨by simpa using he,by simpa using hq,λp hp=> ?_⟩;have:=h p hp;simpa using this
def uX(w:World)(A:Option Addr)(m c:Nat)(es:List bO):Prop:=
 es.length=m/\m<=c/\∀(k:Nat) (h:k<es.length),∃g off,A=some ⟨g,off,none⟩/\g<w.heap.size/\w.cell? ⟨g,off+k*4,none⟩=some (.int .u64 es[k].off)/\w.cell? ⟨g,off+k*4+1,none⟩=some (.int .u64 es[k].old)/\w.cell? ⟨g,off+k*4+2,none⟩=some (.int .u64 es[k].new)/\w.cell? ⟨g,off+k*4+3,none⟩=some (.bool es[k].ex)
section
variable{w w':World}{A:Option Addr}{m c:Nat}{es:List bO}
theorem uX.of(h:Sl 223 4 w A m c (ba es))(hm:es.length=m):uX w A m c es:=by
 refine⟨hm,?_,λk hk=>h.vS hk⟩;rcases h.2 with⟨_,h1,h2⟩|⟨_,_,_,_,_,h1,_⟩
 . omega
 . exact h1
theorem uX.bl(h:uX w A m c es)(hB:Below w.heap.size w w'):uX w' A m c es:=by
 refine⟨h.1,h.2.1,λk hk=> ?_⟩;obtain⟨g,off,hA,hl,t1,t2,t3,t4⟩:=h.2.2 k hk;have hc:∀o,w'.cell? ⟨g,o,none⟩=w.cell? ⟨g,o,none⟩:=λo=>hB.cell (p:=⟨g,o,none⟩) hl
 exact⟨g,off,hA,cD hl hB.size,by rw[hc];exact t1,by rw[hc];exact t2,by rw[hc];exact t3,by rw[hc];exact t4⟩
theorem uX.take(h:uX w A m c es)(j:Nat)(hj:j<=m):uX w A j c (es.take j):=by
 obtain⟨h1,h2,h3⟩:=h;refine⟨by simp;omega,by omega,λk hk=> ?_⟩;have jC:k<es.length:=by simp at hk;omega
 have e:(es.take j)[k]=es[k]:=by simp
 rw[e];exact h3 k jC
theorem uX.vS(h:uX w A m c es){k:Nat}(hk:k<es.length):∃g off,A=some ⟨g,off,none⟩/\g<w.heap.size/\w.cell? ⟨g,off+k*4,none⟩=some (.int .u64 es[k].off)/\w.cell? ⟨g,off+k*4+1,none⟩=some (.int .u64 es[k].old)/\w.cell? ⟨g,off+k*4+2,none⟩=some (.int .u64 es[k].new)/\w.cell? ⟨g,off+k*4+3,none⟩=some (.bool es[k].ex):=h.2.2 k hk
theorem Np(es:List bO){k:Nat}(hk:k<es.length)(r:Nat)(hr:r<4):(ba es)[k*4+r]?=some (if r=0 then .int .u64 es[k].off else if r=1 then .int .u64 es[k].old else if r=2 then .int .u64 es[k].new else .bool es[k].ex):=by
 obtain⟨h0,h1,h2,h3⟩:=zT es k hk;rcases(by omega:r=0\/r=1\/r=2\/r=3)with rfl|rfl|rfl|rfl
 . exact h0
 . exact h1
 . exact h2
 . exact h3
theorem uX.cells{g off:Nat}(h:uX w (some ⟨g,off,none⟩) m c es)(j:Nat)(u:Value)(hu:(ba es)[j]?=some u):w.cell? ((⟨g,off,none⟩:Addr).add j)=some u:=by
 have hj:j<es.length*4:=by have:=(ki.1 hu).1;rwa[mH]at this
 have hk:j/4<es.length:=by omega
 have h1:(⟨g,off,none⟩:Addr).add j=⟨g,off+j,none⟩:=by unfold Addr.add;split<;>simp_all
 obtain⟨g2,Fv,hA,_,t1,t2,t3,t4⟩:=h.2.2 _ hk;injection hA with hA;injection hA with e1 e2;subst e1 e2;have hx:=Np es hk (j%4) ae;rw[show j/4*4+j%4=j by omega,hu]at hx;injection hx with hx;rw[h1,hx];rcases(by omega:j%4=0\/j%4=1\/j%4=2\/j%4=3)with hr|hr|hr|hr
 . rw[hr,aA rfl,show off+j=off+j/4*4 by omega];exact t1
 . rw[hr,ax ae,aA rfl,show off+j=off+j/4*4+1 by omega];exact t2
 . rw[hr,ax ae,ax ae,aA rfl,show off+j=off+j/4*4+2 by omega];exact t3
 . rw[hr,ax ae,ax ae,ax ae,show off+j=off+j/4*4+3 by omega];exact t4
end
section
variable{w:World}{A:Option Addr}{m c:Nat}{es:List bO}{off:Int}
theorem Nv(W:World)(e:bO)(g:Nat)(hg:W.cell? ⟨g,0,none⟩=some (.int .u64 off)):
 Calls prog 142 #[.agg #[.int .u64 e.off, .int .u64 e.old, .int .u64 e.new, .bool e.ex], .pointer (some ⟨g,0,none⟩)] W λr w'=>r= .returned (.bool (e.off==off))/\Below W.heap.size W w':=by
 have eh:g<W.heap.size:=sR W _ hg;go_enter func142,ntmps142
 go_wp2;go_ret;exact⟨rfl,aC⟩
theorem MJ(w:World)(A:Option Addr)(m c:Nat)(es:List bO)(hm:es.length=m)(oM:m<=100000)(hS:uX w A m c es)(g:Nat)(hg:w.cell? ⟨g,0,none⟩=some (.int .u64 off)):
 Calls prog 141 #[.slice A m c, .func (.func 142) #[] #[.pointer (some ⟨g,0,none⟩)]] w λr w'=>r= .returned (DA (iP es off))/\Below w.heap.size w w':=by
 have HS:=ag hS;have HM:=ag hm;have eh:g<w.heap.size:=sR w _ hg;clear hS hm;go_enter func141,ntmps141
 go_wp2;go_loopw [8,5,10,4,9,11,12,13,14,15,16,17,18] (λi _ _ _ _ _ _ _ _ _ _ _ _ wr=>∃j:Nat,j<=m/\i= .int .i64 j/\(∀q,q<j->(es.getD q E0).off≠off)/\Below w.heap.size w wr) (λi _ _ _ _ _ _ _ _ _ _ _ _ _=>m-(intOf i).toNat)
 case atStart=>exact⟨0,by omega,rfl,λq hq=>by omega,bZ _ _⟩
 case round=>
  obtain⟨j,hj,rfl,js,hB⟩:=hrel;have tK:=ag js;have HB:=ag hB;have ie:wr.cell? ⟨g,0,none⟩=some (.int .u64 off):=(hB.cell (p:=⟨g,0,none⟩) eh).trans hg;have fK:g<wr.heap.size:=cD eh hB.size;by_cases aM:j<m
  . have dx:(j:Int)<(m:Int):=by omega
    obtain⟨g2,Fv,hA,hl,t1,t2,t3,t4⟩:=(HS.out.bl hB).vS (k:=j) (by rw[HM.out];exact aM);have MZ:es.getD j E0=es[j]'(by rw[HM.out];exact aM):=by rw[eY,dG (by rw[HM.out];exact aM)];rfl
    obtain⟨e,he⟩:=aH (es[j]'(by rw[HM.out];exact aM));rw[he]at t1 t2 t3 t4 MZ;have HEG:=ag MZ;obtain⟨eo,nK,rK,Nn⟩:=e;dsimp only at t1 t2 t3 t4;subst hA;have jk:=ag (λ(W:World) (h:W.cell? ⟨g,0,none⟩=some (.int .u64 off))=>Nv W ⟨eo,nK,rK,Nn⟩ g h);dsimp only at jk;clear js hB he MZ;by_cases hq:eo=off
    . have hb:(eo==off)=true:=by simpa using hq
      rw[hb]at jk;have HQ:=ag hq;clear hb hq;go_wp2_with (go_at_call 142;refine(jk.out _ ie).mono ?_;rintro e w' ⟨rfl,hb⟩;obtain⟨x,rfl⟩:=aE hb;clear hb)
      go_ret;rw[wI (q:=j) (by rw[HM.out];exact aM) (by rw[HEG.out];exact HQ.out) tK.out];exact⟨rfl,HB.out.trans ((by exact aC:Below wr.heap.size wr _).mono HB.out.size)⟩
    . have hb:(eo==off)=false:=by simpa using hq
      rw[hb]at jk;have HQ:=ag hq;clear hb hq;go_wp2_with (go_at_call 142;refine(jk.out _ ie).mono ?_;rintro e w' ⟨rfl,hb⟩;obtain⟨x,rfl⟩:=aE hb;clear hb)
      refine⟨⟨j+1,by omega,by go_num,λq wJ=> ?_,HB.out.trans ((by exact aC:Below wr.heap.size wr _).mono HB.out.size)⟩,by simp[intOf];omega⟩;by_cases Ja:q=j
      . rw[Ja,HEG.out];exact HQ.out
      . exact tK.out q ae
  . obtain rfl:j=m:=by omega
    go_wp2;go_ret;rw[qi (λq hq=>tK.out q (by rw[HM.out]at hq;exact hq))];exact⟨rfl,HB.out⟩
theorem Vz(W:World)(e:bO)(g:Nat)(hg:W.cell? ⟨g,0,none⟩=some (.int .u64 off)):
 Calls prog 183 #[.agg #[.int .u64 e.off, .int .u64 e.old, .int .u64 e.new, .bool e.ex], .pointer (some ⟨g,0,none⟩)] W λr w'=>r= .returned (.bool (e.off==off))/\Below W.heap.size W w':=by
 have eh:g<W.heap.size:=sR W _ hg;go_enter func183,ntmps183
 go_wp2;go_ret;exact⟨rfl,aC⟩
theorem Uv(w:World)(A:Option Addr)(m c:Nat)(es:List bO)(hm:es.length=m)(oM:m<=100000)(hS:uX w A m c es)(g:Nat)(hg:w.cell? ⟨g,0,none⟩=some (.int .u64 off)):
 Calls prog 141 #[.slice A m c, .func (.func 183) #[] #[.pointer (some ⟨g,0,none⟩)]] w λr w'=>r= .returned (DA (iP es off))/\Below w.heap.size w w':=by
 have HS:=ag hS;have HM:=ag hm;have eh:g<w.heap.size:=sR w _ hg;clear hS hm;go_enter func141,ntmps141
 go_wp2;go_loopw [8,5,10,4,9,11,12,13,14,15,16,17,18] (λi _ _ _ _ _ _ _ _ _ _ _ _ wr=>∃j:Nat,j<=m/\i= .int .i64 j/\(∀q,q<j->(es.getD q E0).off≠off)/\Below w.heap.size w wr) (λi _ _ _ _ _ _ _ _ _ _ _ _ _=>m-(intOf i).toNat)
 case atStart=>exact⟨0,by omega,rfl,λq hq=>by omega,bZ _ _⟩
 case round=>
  obtain⟨j,hj,rfl,js,hB⟩:=hrel;have tK:=ag js;have HB:=ag hB;have ie:wr.cell? ⟨g,0,none⟩=some (.int .u64 off):=(hB.cell (p:=⟨g,0,none⟩) eh).trans hg;have fK:g<wr.heap.size:=cD eh hB.size;by_cases aM:j<m
  . have dx:(j:Int)<(m:Int):=by omega
    obtain⟨g2,Fv,hA,hl,t1,t2,t3,t4⟩:=(HS.out.bl hB).vS (k:=j) (by rw[HM.out];exact aM);have MZ:es.getD j E0=es[j]'(by rw[HM.out];exact aM):=by rw[eY,dG (by rw[HM.out];exact aM)];rfl
    obtain⟨e,he⟩:=aH (es[j]'(by rw[HM.out];exact aM));rw[he]at t1 t2 t3 t4 MZ;have HEG:=ag MZ;obtain⟨eo,nK,rK,Nn⟩:=e;dsimp only at t1 t2 t3 t4;subst hA;have jk:=ag (λ(W:World) (h:W.cell? ⟨g,0,none⟩=some (.int .u64 off))=>Vz W ⟨eo,nK,rK,Nn⟩ g h);dsimp only at jk;clear js hB he MZ;by_cases hq:eo=off
    . have hb:(eo==off)=true:=by simpa using hq
      rw[hb]at jk;have HQ:=ag hq;clear hb hq;go_wp2_with (go_at_call 183;refine(jk.out _ ie).mono ?_;rintro e w' ⟨rfl,hb⟩;obtain⟨x,rfl⟩:=aE hb;clear hb)
      go_ret;rw[wI (q:=j) (by rw[HM.out];exact aM) (by rw[HEG.out];exact HQ.out) tK.out];exact⟨rfl,HB.out.trans ((by exact aC:Below wr.heap.size wr _).mono HB.out.size)⟩
    . have hb:(eo==off)=false:=by simpa using hq
      rw[hb]at jk;have HQ:=ag hq;clear hb hq;go_wp2_with (go_at_call 183;refine(jk.out _ ie).mono ?_;rintro e w' ⟨rfl,hb⟩;obtain⟨x,rfl⟩:=aE hb;clear hb)
      refine⟨⟨j+1,by omega,by go_num,λq wJ=> ?_,HB.out.trans ((by exact aC:Below wr.heap.size wr _).mono HB.out.size)⟩,by simp[intOf];omega⟩;by_cases Ja:q=j
      . rw[Ja,HEG.out];exact HQ.out
      . exact tK.out q ae
  . obtain rfl:j=m:=by omega
    go_wp2;go_ret;rw[qi (λq hq=>tK.out q (by rw[HM.out]at hq;exact hq))];exact⟨rfl,HB.out⟩
theorem Zb4(w:World)(A:Option Addr)(m c:Nat)(es:List bO)(hm:es.length=m)(oM:m<=100000)(hS:uX w A m c es)(g:Nat)(hg:w.cell? ⟨g,0,none⟩=some (.int .u64 off)):
 Calls prog 184 #[.slice A m c, .func (.func 183) #[] #[.pointer (some ⟨g,0,none⟩)]] w λr w'=>r= .returned (.bool (iP es off).isSome)/\Below w.heap.size w w':=by
 have HI:=ag (Uv w A m c es hm oM hS g hg);clear hS hm hg;cases hq:iP es off with
 |none=>
  rw[hq]at HI;dsimp only[DA]at HI;go_enter func184,ntmps184
  go_wp2_with (go_at_call 141;refine HI.out.mono ?_;rintro e w' ⟨rfl,hb⟩;obtain⟨x,rfl⟩:=aE hb;clear hb)
  go_ret;exact⟨rfl,aC⟩
 |some q=>
  rw[hq]at HI;dsimp only[DA]at HI;have h0:decide ((q:Int)≥0)=true:=kx ae;have h1:decide (0<=(q:Int))=true:=kx ae;go_enter func184,ntmps184
  go_wp2_with (go_at_call 141;refine HI.out.mono ?_;rintro e w' ⟨rfl,hb⟩;obtain⟨x,rfl⟩:=aE hb;clear hb)
  go_ret;exact⟨by simp,aC⟩
end
def FR(bs:List Bool):Option Nat:=(List.range bs.length).find? λq=> !bs.getD q true
theorem Nh(bs:List Bool)(k:Nat)(h:k<bs.length)(h2:k<(bools bs).length):(bools bs)[k]= .bool (bs[k]'h):=by simp[bools]
theorem YG(w:World)(A:Option Addr)(m c:Nat)(bs:List Bool)(hm:bs.length=m)(oM:m<=100000)(hS:Sl 4 1 w A m c (bools bs)):
 Calls prog 185 #[.slice A m c, .bool false] w λr w'=>r= .returned (DA (FR bs))/\w=w':=by
 have HS:=ag hS;have HM:=ag hm;clear hS hm;go_enter func185,ntmps185
 go_wp2;go_loopw [8,5,10,4,9,11,12,13,14,15,16,17,18] (λi _ _ _ _ _ _ _ _ _ _ _ _ wr=>∃j:Nat,j<=m/\i= .int .i64 j/\(∀q,q<j->bs.getD q true=true)/\w=wr) (λi _ _ _ _ _ _ _ _ _ _ _ _ _=>m-(intOf i).toNat)
 case atStart=>exact⟨0,by omega,rfl,λq hq=>by omega,rfl⟩
 case round=>
  obtain⟨j,hj,rfl,js,rfl⟩:=hrel;have tK:=ag js;by_cases aM:j<m
  . have dx:(j:Int)<(m:Int):=by omega
    have oZ:j<bs.length:=by rw[HM.out];exact aM
    obtain⟨g2,Fv,hA,hl,t1⟩:=HS.out.at_ (j:=j) (by simpa [bools]using oZ);rw[Nh _ _ oZ]at t1;have DM:bs.getD j true=bs[j]'oZ:=by rw[eY,dG oZ];rfl
    obtain⟨b,hb⟩:=aH (bs[j]'oZ);rw[hb]at t1 DM;have HGD:=ag DM;subst hA;clear js hb DM oZ;cases b with
    |false=>
     go_wp2;go_ret
     have:FR bs=some j:=by
      unfold FR;rw[P0];exact⟨by rw[HGD.out];rfl,by simpa [HM.out]using aM,λq hq=>by rw[tK.out q hq];rfl⟩
     rw[this];exact⟨rfl,rfl⟩
    |true=>
     go_wp2;refine⟨⟨j+1,by omega,by go_num,λq hq=> ?_,trivial⟩,by simp[intOf];omega⟩;by_cases Ja:q=j
     . rw[Ja];exact HGD.out
     . exact tK.out q ae
  . obtain rfl:j=m:=by omega
    go_wp2;go_ret
    have:FR bs=none:=by
     unfold FR;rw[yW];intro q hq;have:=tK.out q (by simpa [HM.out]using hq);simpa using this
    rw[this];exact⟨rfl,rfl⟩
open Go.Shelf
def Mg:Go.Shelf.Ren:=⟨fun|6=>187|15=>100|14=>191|28=>135|29=>136|20=>192|21=>193|22=>194|23=>195|24=>196|25=>197|26=>198|27=>199|46=>200|47=>166|48=>167|49=>201|50=>202|57=>203|n=>n,fun|22=>23|24=>3|25=>49|3=>3|39=>150|0=>0|53=>215|55=>22|4=>4|46=>208|45=>207|50=>212|5=>5|9=>9|66=>238|70=>241|76=>250|77=>63|n=>n,fun|n=>n⟩
theorem ZaT:Go.Proofs.SlLaysF.n6 prog Mg:={
 mixed:=by kernel_rfl
 f6:=⟨Tryz.f187.name,by decide,func187.trans (bP some krQ)⟩
 f14:=⟨Tryz.f191.name,by decide,func191.trans (bP some krQ)⟩
 f15:=func100.trans (bP some krQ)
 f20:=⟨Tryz.f192.name,by decide,func192.trans (bP some krQ)⟩
 f21:=⟨Tryz.f193.name,by decide,func193.trans (bP some krQ)⟩
 f22:=⟨Tryz.f194.name,by decide,func194.trans (bP some krQ)⟩
 f23:=⟨Tryz.f195.name,by decide,func195.trans (bP some krQ)⟩
 f24:=⟨Tryz.f196.name,by decide,func196.trans (bP some krQ)⟩
 f25:=⟨Tryz.f197.name,by decide,func197.trans (bP some krQ)⟩
 f26:=⟨Tryz.f198.name,by decide,func198.trans (bP some krQ)⟩
 f27:=⟨Tryz.f199.name,by decide,func199.trans (bP some krQ)⟩
 f28:=func135.trans (bP some krQ)
 f29:=func136.trans (bP some krQ)
 f46:=⟨Tryz.f200.name,by decide,func200.trans (bP some krQ)⟩
 f47:=func166.trans (bP some krQ)
 f48:=func167.trans (bP some krQ)
 f49:=⟨Tryz.f201.name,by decide,func201.trans (bP some krQ)⟩
 f50:=⟨Tryz.f202.name,by decide,func202.trans (bP some krQ)⟩
 f57:=⟨Tryz.f203.name,by decide,func203.trans (bP some krQ)⟩
 t0:=underlying0
 a0:=isAgg0
 z0:=sizeOf0
 v0:=zeroValue0
 t3:=underlying3
 a3:=isAgg3
 z3:=sizeOf3
 v3:=zeroValue3
 t4:=underlying4
 a4:=isAgg4
 z4:=sizeOf4
 v4:=zeroValue4
 t5:=underlying5
 a5:=isAgg5
 z5:=sizeOf5
 v5:=zeroValue5
 t9:=underlying9
 a9:=isAgg9
 z9:=sizeOf9
 v9:=zeroValue9
 t22:=underlying23
 a22:=isAgg23
 z22:=sizeOf23
 v22:=zeroValue23
 a24:=isAgg3
 z24:=sizeOf3
 t25:=underlying49
 a25:=isAgg49
 z25:=sizeOf49
 v25:=zeroValue49
 t39:=underlying150
 a39:=isAgg150
 z39:=sizeOf150
 v39:=zeroValue150
 t45:=underlying207
 a45:=isAgg207
 z45:=sizeOf207
 v45:=zeroValue207
 t46:=underlying208
 a46:=isAgg208
 z46:=sizeOf208
 v46:=zeroValue208
 t50:=underlying212
 a50:=isAgg212
 z50:=sizeOf212
 v50:=zeroValue212
 t53:=underlying215
 a53:=isAgg215
 z53:=sizeOf215
 v53:=zeroValue215
 t55:=underlying22
 a55:=isAgg22
 z55:=sizeOf22
 v55:=zeroValue22
 t66:=underlying238
 a66:=isAgg238
 z66:=sizeOf238
 v66:=zeroValue238
 t70:=underlying241
 a70:=isAgg241
 z70:=sizeOf241
 v70:=zeroValue241
 t76:=underlying250
 a76:=isAgg250
 z76:=sizeOf250
 v76:=zeroValue250
 t77:=underlying63
 a77:=isAgg63
 z77:=sizeOf63
 v77:=zeroValue63}
end Go.Proofs.YtjkpjakodomnmaaGreatDoor
namespace Go.Proofs.YtjkpjakodomnmaaGreatDoor
open Go.RowKit Go.Proofs.Tryz
theorem s7(w:World)(x:Int):Calls prog 101 #[.int .u64 x] w λe w'=>e= .returned (.bool false)/\w=w':=by
 go_enter func101,ntmps101
 go_wp2;go_ret;exact⟨by simp,rfl⟩
theorem Gt(w:World)(x y:Int):Calls prog 73 #[.int .u64 x, .int .u64 y] w λe w'=>e= .returned (.int .i64 (Lib.compareInt x y))/\w=w':=by
 by_cases h1:x<y
 . have e:Lib.compareInt x y= -1:=by simp[Lib.compareInt,h1]
   have HE:=ag e;clear e;go_enter func73,ntmps73
   go_wp2_with (go_at_call 101;refine(s7 _ _).mono ?_;rintro e w' ⟨rfl,rfl⟩)
   go_ret;rw[HE.out];exact⟨rfl,rfl⟩
 . by_cases h2:y<x
   . have e:Lib.compareInt x y=1:=by simp[Lib.compareInt,h1,h2]
     have HE:=ag e;clear e;go_enter func73,ntmps73
     go_wp2_with (go_at_call 101;refine(s7 _ _).mono ?_;rintro e w' ⟨rfl,rfl⟩)
     go_ret;rw[HE.out];exact⟨rfl,rfl⟩
   . have e:Lib.compareInt x y=0:=by simp[Lib.compareInt,h1,h2]
     have HE:=ag e;clear e;go_enter func73,ntmps73
     go_wp2_with (go_at_call 101;refine(s7 _ _).mono ?_;rintro e w' ⟨rfl,rfl⟩)
     go_ret;rw[HE.out];exact⟨rfl,rfl⟩
def encI{m:Nat}(x:Fin m):Value:= .int .i64 ((x.val:Nat):Int)
def cfI(es:List bO)(m:Nat)(x y:Fin m):Int:=Lib.compareInt (es.getD x.val E0).off (es.getD y.val E0).off
theorem ltI(es:List bO)(m:Nat)(x y:Fin m):ltOf (cfI es m) x y=decide ((es.getD x.val E0).off<(es.getD y.val E0).off):=by
 unfold ltOf cfI Lib.compareInt;by_cases h1:(es.getD x.val E0).off<(es.getD y.val E0).off
 . simp only[h1,cR,decide_true];rfl
 . by_cases h2:(es.getD y.val E0).off<(es.getD x.val E0).off
   . simp only[h1,h2,cR,dF,B3];rfl
   . simp only[h1,h2,dF,B3];rfl
theorem Zcn(es:List bO)(m:Nat):Go.Sort.SWO (ltOf (cfI es m)) where
 irrefl x:=by rw[ltI];simp
 trans x y z h1 h2:=by rw[ltI]at*;simp at*;omega
 ntrans x y z h1 h2:=by rw[ltI]at*;simp at*;omega
theorem Zag(W:World)(gO a:Nat)(ea:Option Addr)(m ec:Nat)(es:List bO)(hm:es.length=m)(hO:W.cell? ⟨gO,0,none⟩=some (.pointer (some ⟨a,0,none⟩)))(h3:W.cell? ⟨a,3,none⟩=some (.slice ea m ec))(hS:Sl 223 4 W ea m ec (ba es))(x y:Fin m):
 Calls prog 188 #[.int .i64 ((x.val:Nat):Int), .int .i64 ((y.val:Nat):Int), .pointer (some ⟨gO,0,none⟩)] W λe w'=>e= .returned (.int .i64 (cfI es m x y))/\∃q,w'=W.drewN q:=by
 have hx:=x.isLt;have hy:=y.isLt;obtain⟨g,off,hA,eh,t1,_,_,_⟩:=hS.vS (k:=x.val) ae;obtain⟨g2,Fv,o8,_,s1,_,_,_⟩:=hS.vS (k:=y.val) ae;rw[hA]at o8;injection o8 with o8;injection o8 with e1 e2;subst e1 e2;subst hA;have hgO:gO<W.heap.size:=sR W _ hO;have ha:a<W.heap.size:=sR W _ h3;have ex:es.getD x.val E0=es[x.val]'(by omega):=by rw[eY,dG ae];rfl
 have ey:es.getD y.val E0=es[y.val]'(by omega):=by rw[eY,dG ae];rfl
 obtain⟨u,hu⟩:=aH ((es[x.val]'(by omega)).off);obtain⟨v,hv⟩:=aH ((es[y.val]'(by omega)).off);have HR:Hid (cfI es m x y=Lib.compareInt u v):=by show _=_;unfold cfI;rw[ex,ey,hu,hv]
 rw[hu]at t1;rw[hv]at s1;rw[HR.out];have HC:=ag (λW=>Gt W u v);obtain⟨xv,hxv⟩:=aH x.val;obtain⟨yv,hyv⟩:=aH y.val;rw[hxv]at hx t1;rw[hyv]at hy s1;rw[hxv,hyv];have hxI:(xv:Int)<(m:Int):=by omega
 have hyI:(yv:Int)<(m:Int):=by omega
 clear hS hu hv ex ey HR hxv hyv;go_enter func188,ntmps188
 go_upto_region 1 with(fail)
 refine b_ 16 krQ krQ ?_;simp only[List.take_succ_cons,List.take_zero,jm,iq];repeat(go_big_quiet_step (fail))
 refine cE ?_;rintro _ ⟨nq,rfl⟩;go_wp2_with (go_at_call 73;refine(HC.out _).mono ?_;rintro e w' ⟨rfl,rfl⟩)
 go_ret;exact⟨rfl,nq,rfl⟩
section
variable{α:Type} [Inhabited α]{enc:α->Value}{w:World}{sj off n:Nat}{d d0:Array α}{os:Array Obj}
theorem Gw:Ch (At sj) w (sortWorld enc w sj off n d os):=by
 refine⟨rfl,rfl,rfl,?_,λb hb hS=> ?_⟩
 . simp[sortWorld,Go.Sort.grow,Go.Sort.putRow,Go.Sort.mapBlock,Go.Sort.ahead]
 . have aG:sj≠b:=λh=>hS h.symm
   unfold sortWorld Go.Sort.grow Go.Sort.putRow Go.Sort.mapBlock Go.Sort.ahead;simp only;rw[P3 (by simpa using hb),Array.getElem?_modify,if_neg aG]
theorem RH{e:TypeId}{cur:Array Value}(h:CB w sj e cur):CB (sortWorld enc w sj off n d os) sj e (Go.Sort.putCells enc off d cur):=by
 have hl:=h.lt;unfold CB at h |-;unfold sortWorld Go.Sort.grow Go.Sort.putRow Go.Sort.mapBlock Go.Sort.ahead;simp only;rw[P3 (by simpa using hl),Array.getElem?_modify,if_pos rfl,h];rfl
end
theorem TX(w:World)(gO a sj off cap m:Nat)(fv:1<=m)(hm6:m<=1000)(ks:List Nat)(hk:ks.Perm (List.range m))(hS:Sl 3 1 w (some ⟨sj,off,none⟩) m cap (ic ks))(ea:Option Addr)(ec:Nat)(es:List bO)(En:es.length=m)
 (hO:w.cell? ⟨gO,0,none⟩=some (.pointer (some ⟨a,0,none⟩))) (h3:w.cell? ⟨a,3,none⟩=some (.slice ea m ec)) (hE:Sl 223 4 w ea m ec (ba es)) (n1:sj≠gO) (n2:sj≠a) (n3:∀b,ah ea b->b≠sj):
 Calls prog 187 #[.slice (some ⟨sj,off,none⟩) m cap, .func (.func 188) #[] #[.pointer (some ⟨gO,0,none⟩)]] w λe w'=>e= .returned (.tuple #[])/\∃ks':List Nat,ks'.Perm (List.range m)/\Sl 3 1 w' (some ⟨sj,off,none⟩) m cap (ic ks')/\Ch (At sj) w w':=by
 have eg:∀args w,(callFunc 188 args).run prog w= .ok (.enter 188 args) w:=enters_of func188 krQ rfl;have hgO:gO<w.heap.size:=sR w _ hO;have ha:a<w.heap.size:=sR w _ h3;have kG:ks.length=m:=by rw[hk.length_eq];simp
 obtain⟨m',rfl⟩:∃m',m=m'+1:=⟨m-1,by omega⟩;have hblk:sj<w.heap.size:=hS.lt (by simp[ah])
 obtain⟨cur,mN,MP,je,vM,uT⟩:∃cur,CB w sj 3 cur/\m'+1<=cap/\cap<=maxLen/\off+cap*1<=cur.size/\(cur.toList.drop off).take ((m'+1)*1)=ic ks:=by
  rcases hS.2 with⟨hx,_⟩|⟨g',o',cur,hA,hC,h1,h2,h3,h4⟩
  . cases hx
  . injection hA with hA
    injection hA with e1 e2;subst e1 e2;exact⟨cur,hC,h1,h2,h3,h4⟩
 obtain⟨d,hd⟩:∃d:Array (Fin (m'+1)),d=(ks.map λk=>(Fin.ofNat (m'+1) k)).toArray:=⟨_,rfl⟩;have Zw:d.size=m'+1:=by rw[hd];simp[kG]
 have aM:∀k∈ks,k<m'+1:=λk Ek=>by have:=hk.mem_iff.1 Ek;simpa using this
 have hdv:∀j (hj:j<ks.length),(d[j]!).val=ks[j]:=λj hj=>by
  have h1:d[j]! =Fin.ofNat (m'+1) ks[j]:=by rw[hd];simp[hj]
  rw[h1];show ks[j]%(m'+1)=ks[j]
  exact Pz (aM _ (fq hj))
 have hH:Go.Sort.Holds (encI (m:=m'+1)) w sj off d:=by
  intro j hj;have iz:j<ks.length:=by omega
  obtain⟨g,o,hA,_,hc⟩:=hS.at_ (j:=j) (by simpa [ic]using iz);injection hA with hA;injection hA with e1 e2;subst e1 e2;rw[CJ _ _ iz]at hc;refine⟨?_,mN.frozen _⟩;rw[hc];unfold encI;rw[hdv j iz]
 have Jo:=Any.slices_SortFunc ZaT (encI (m:=m'+1)) (λ_=>rfl) (cfI es (m'+1)) (Zcn es (m'+1)) 188 #[.pointer (some ⟨gO,0,none⟩)] sj off cap d w eg (λq os dk hs x y=>by
  have hc:Ch (At sj) w (sortWorld (encI (m:=m'+1)) w sj off q dk os):=Gw;refine(Zag _ gO a ea (m'+1) ec es En ((hc.cells gO 0 hgO (λh=>n1 h.symm)).trans hO) ((hc.cells a 3 ha (λh=>n2 h.symm)).trans h3) (hE.ch hc (λb hb=>n3 b hb)) x y).mono ?_;rintro e w' ⟨rfl,q2,rfl⟩;exact⟨rfl,q2, #[],by rw[Go.Sort.grow_empty]⟩) hH hblk (by rw[Zw];omega)
 rw[Zw]at Jo;change Calls prog 187 _ _ _ at Jo;refine Jo.mono ?_;rintro e w' ⟨rfl,d',q,os,hp,_,rfl⟩;obtain⟨p1,_,p3⟩:=hp;have U3:d'.size=m'+1:=by rw[p1];exact Zw
 have lC:d'.extract 0 (m'+1)=d':=by
  have h9:d'.extract 0 d'.size=d':=by simp
  rwa[U3]at h9
 have uw:d.extract 0 (m'+1)=d:=by
  have h9:d.extract 0 d.size=d:=by simp
  rwa[Zw]at h9
 rw[lC,uw]at p3
 have jb:d.toList.map (λx=>x.val)=ks:=by
  apply Cg
  . simp[Zw,kG]
  . intro j h1 h2
    have:=hdv j h2;simp only[vo,Array.getElem_toList];rw[<-this];congr 1;simp at h1;simp[h1]
 have hh':=holds_sortWorld (encI (m:=m'+1)) w sj off q d d' os hblk hH p1;refine⟨rfl,d'.toList.map (λx=>x.val),?_,?_,Gw⟩
 . refine List.Perm.trans ?_ hk
   rw[<-jb];exact p3.map _
 . refine⟨by simp[ic,U3], .inr ⟨sj,off,_,rfl,RH mN,MP,je,?_,?_⟩⟩
   . simpa [Go.Sort.putCells]using vM
   . have lR:off+(m'+1)<=cur.size:=by omega
     apply Cg
     . simp[ic,U3,Go.Sort.putCells];omega
     . intro j h1 h2
       have hj:j<m'+1:=by simpa [ic,U3]using h2
       simp only[ic,PG,List.getElem_drop,vo,Array.getElem_toList,Go.Sort.putCells,Array.getElem_mapIdx];rw[aA (by rw[U3];omega)];unfold encI;congr 3;rw[show off+j-off=j by omega];simp[U3,hj]
structure Zci(line n cnt:Nat)(σ:PwS):Prop where
 n:n<100000
 reg:line+4*cnt<=100000
 busy:σ.busy.length=cnt
section
variable{K:Nat->Prop}{p d c a line lines:Nat}{t:Nat->Nat}{size:Int}{w w2:World}{σ:PwS}{o oc:aX}{cnt n N:Nat}{M:Nat->Prop}{xs:List Int}{L:Nat->Int}{ln:Int}
theorem bB.pool(H:bB K p d t line lines size w σ):p<w.heap.size/\w.cell? ⟨p,5,none⟩=some (fu σ.cur)/\w.frozen? ⟨p,5,none⟩=false:=by
 obtain⟨role,bb,h,hK⟩:=H;exact⟨h.pl.lt,h.pl.cell 5,h.pl.frozen 5⟩
theorem RW(hI:Inv aR (cP line) n cnt M N σ xs L)(hR:kh n cnt M (cP line))(ha:σ.ops a=some o)(hc:σ.cur=some c)(bT:σ.ops c=some oc):
 (oc.aa=0->oc.loaded<oc.order.length/\∃v,xs[ee oc.es (oc.order.getD oc.loaded 0)]?=some v/\0<=v/\v<4611686018427387904)/\
 (oc.aa≠0->oc.aa<=4/\o.mS c oc.aa<oc.prog.length/\oc.prog.length<=37/\Hy n (oc.prog.getD (o.mS c oc.aa) (0,0,0))):=by
 obtain⟨IK,g1,g2,g3,g4⟩:=hI.run c hc;rw[bT]at g1;injection g1 with g1;subst g1;have bF:=hI.ok c oc bT;refine⟨λhs=> ?_,λhs=> ?_⟩
 . rcases g4 with⟨_,hl,AE,hM⟩|⟨e,_⟩|⟨e,_⟩|⟨e,_⟩
   . have hw:=(bF.wd (bF.qQ hl)).1
     exact⟨hl,_,hM _ hw,hI.hL _ hw⟩
   . omega
   . omega
   . omega
 . obtain⟨h1,h4,hp⟩:=g4.info hs
   obtain⟨hj,Jj⟩:=hI.I3 hR hc bT ha hs;exact⟨h4,hj,Jj,(K4 (sum:=aR) (xs:=xs) hR bF hI.on.length h1 h4 hp hj).1⟩
theorem E5{mQ:PwS}(hI:Inv aR (cP line) n cnt M N σ xs L)(hR:kh n cnt M (cP line))(hN:N<1000000)(ha:σ.ops a=some o)(he:o.ended=false)(hd:o.done=false)(QB:mQ=if σ.cur.isSome then σ else{σ with cur:=some a})(Jq:mQ.cur=some c)(Gf:Inv aR (cP line) n cnt M N mQ xs L)(tx:mQ.ops=σ.ops)(ZF:mQ.busy=σ.busy)(bT:mQ.ops c=some oc):
 ∃τ o1 dz L',mQ.ry aR (cP line) a o c oc=τ/\Inv aR (cP line) n cnt M (N+1) τ dz L'/\τ.ops a=some o1/\o1.k=o.k/\o1.th=o.th/\τ.busy=σ.busy/\σ.step aR (cP line) a=if o1.done then(τ.fB a o1 0,true)else(τ,false):=by
 have cM:∀i,(σ.dev.a8 i).err=0:=hI.on.err;have N1:mQ.ops a=some o:=by rw[tx];exact ha
 obtain⟨ys,L1,xQ,Rc⟩:=Gf.ry hR hN N1 Jq bT
 have Er:bW σ (mQ.ry aR (cP line) a o c oc):=by
  have h1:=JP (sum:=aR) (at0:=cP line) N1 bT;exact⟨h1.1.trans ZF,λb=>(h1.2 b).trans (by rw[tx])⟩
 obtain⟨o1,k1,k2,k3,k4⟩:=Rc.sm N1;obtain⟨τ,DB⟩:=aH (mQ.ry aR (cP line) a o c oc);rw[DB]at xQ Er k1;refine⟨τ,o1,ys,L1,DB,xQ,k1,k4,k3,Er.1,?_⟩;unfold PwS.step;rw[ha];simp only[he,eS,dF,hd,cM,ne_eq,KK];rw[<-QB,Jq,Option.getD_some,bT];simp only[DB,k1];rw[ax (by rw[xQ.on.err];simp)]
theorem Yg(H:bB K p d t line lines size w σ)(tC:K 0)(hT:Tab w)(hI:Inv aR (cP line) n cnt M N σ xs L)(hR:kh n cnt M (cP line))(hN:N<1000000)(hE:Zci line n cnt σ)(ha:σ.ops a=some o):
 Calls prog 75 #[.pointer (some ⟨a,0,none⟩)] w λr w'=>r= .returned (.bool (σ.step aR (cP line) a).2)/\bB K p d t line lines size w' (σ.step aR (cP line) a).1/\Ch (λb=>¬K b) w w':=by
 have HP:=ag H;have cM:∀i,(σ.dev.a8 i).err=0:=hI.on.err;have tz:=hI.ok a o ha;have mK:=tz.th;have QS:o.k<σ.busy.length:=by rw[hE.busy];exact tz.k
 obtain⟨xa,tu,fa,_,_,_,_,_,_,_,_,CA,_⟩:=H.h_ ha;obtain⟨Ew,p5,f5⟩:=H.pool;have c0:=CA.c0;have c1:=CA.c1;have c9:=CA.c9;have fD:=CA.fD;have jx:=ag (H.err o.th mK);rw[cM]at jx;have Xe:a≠p:=tu.symm
 have rH:∀c,σ.cur=some c->∃oc,σ.ops c=some oc:=λc hc=>by
  obtain⟨oc,h1,_⟩:=hI.run c hc;exact⟨oc,h1⟩
 cases he:o.ended with
 |true=>
  have HQ:Hid (σ.step aR (cP line) a=(σ,true)):=by show _=_;unfold PwS.step;rw[ha];simp[he]
  rw[he]at fD;clear hI hR hE tz QS rH CA fa cM;rw[HQ.out];go_enter func75,ntmps75
  go_wp2;go_ret;exact⟨rfl,HP.out,Ch.refl _ _⟩
 |false=>
  rw[he]at fD;cases hd:o.done with
  |true=>
   have HQ:Hid (σ.step aR (cP line) a=(σ.fB a o 0,true)):=by show _=_;unfold PwS.step;rw[ha];simp[he,hd,cM]
   have x_:=ag (Qd H ha rH QS 0);rw[hd]at c9;clear hI hR hE tz QS rH CA fa cM hd he;rw[HQ.out];go_enter func75,ntmps75
   go_wp2_with (first|(go_at_call 65;refine jx.out.mono ?_;rintro e w' ⟨rfl,rfl⟩)|(go_at_call 102;refine x_.out.mono ?_;rintro e w5 ⟨rfl,hX,hC⟩;have BB:=ag hX;have rz:=ag hC;clear hX hC))
   go_ret;exact⟨rfl,BB.out,rz.out⟩
  |false=>
   rw[hd]at c9;cases cS:σ.cur with
   |none=>
    rw[cS]at p5;have Gf:=hI.claim cS ha hd;have bT:({σ with cur:=some a}:PwS).ops a=some o:=ha;have GI:=H.zW (some a);have hT0:Tab (w.setCell ⟨p,5,none⟩ (fu (some a))):=hT.ch GI.2 (λh0=>h0 tC);have p5':fu (none:Option Nat)= .pointer none:=rfl;obtain⟨τ,o1,ys,L1,DB,xQ,k1,k4,k3,kb,bh⟩:=E5 hI hR hN ha he hd (show({σ with cur:=some a}:PwS)=if σ.cur.isSome then σ else{σ with cur:=some a} by rw[cS];rfl) rfl Gf rfl rfl bT;obtain⟨y0,y1⟩:=RW Gf hR (a:=a) (o:=o) ha rfl bT;have bF:=hI.ok a o bT;have J8:=ag (Cu GI.1 tC hT0 ha bT bF tz Gf.on hN hE.n (by have:=hE.reg;have:=bF.k;omega) (by have:=bF.l6;omega) (λb hb=>by obtain⟨ob,h1,_⟩:=hI.sf a o b ha hb;exact⟨ob,h1⟩) y0 y1);rw[DB]at J8;have Sb:Hid (∀W,bB K p d t line lines size W τ->Calls prog 65 #[.pointer (some ⟨t o.th,0,none⟩)] W λe w'=>e= .returned (.int .i64 0)/\W=w'):=λW HW=>by have:=HW.err o.th mK;rwa[xQ.on.err]at this
    have x_:=ag (λ(W:World) (HW:bB K p d t line lines size W τ)=>Qd HW k1 (λc hc=>by obtain⟨oc,h1,_⟩:=xQ.run c hc;exact⟨oc,h1⟩) (by rw[k4,kb];exact QS) 0);have K1:=ag k1;have jk:=ag GI.2;have K3:=ag k3;cases kP:o1.done with
    |true=>
     have HQ:Hid (σ.step aR (cP line) a=(τ.fB a o1 0,true)):=by show _=_;rw[bh,kP];rfl
     have Hr:=ag kP;clear hI hR hE tz QS rH CA fa cM hd he y0 y1 bF bh xQ k1 k4 k3 kb DB kP Gf bT cS hT0 p5' GI;rw[HQ.out];go_enter func75,ntmps75
     go_wp2_with (first|(go_at_call 65;(first|(with_reducible refine jx.out.mono ?_)|(with_reducible refine(Sb.out _ rR.out).mono ?_));rintro e w' ⟨rfl,rfl⟩)|(go_at_call 103;refine J8.out.mono ?_;rintro e w2 ⟨rfl,hX,hC⟩;have rR:=ag hX;have dh:=ag hC;clear hX hC;obtain⟨Zax,_,_,_,_,_,_,_,_,_,_,Kb,_⟩:=rR.out.h_ K1.out;have RI:w2.cell? ⟨a,1,none⟩=some (.pointer (some ⟨t o.th,0,none⟩)):=(K3.out▸Kb.c1);have c9':w2.cell? ⟨a,9,none⟩=some (.bool true):=(Hr.out▸Kb.c9);clear Kb)|(go_at_call 102;refine(x_.out _ rR.out).mono ?_;rintro e w5 ⟨rfl,hX,hC⟩;have BB:=ag hX;have rz:=ag hC;clear hX hC))
     go_ret;exact⟨rfl,BB.out,(jk.out.trans dh.out (λ_ hb _=>hb)).trans rz.out (λ_ hb _=>hb)⟩
    |false=>
     have HQ:Hid (σ.step aR (cP line) a=(τ,false)):=by show _=_;rw[bh,kP];rfl
     have Hr:=ag kP;clear hI hR hE tz QS rH CA fa cM hd he y0 y1 bF bh xQ k1 k4 k3 kb DB kP Gf bT cS hT0 p5' GI;rw[HQ.out];go_enter func75,ntmps75
     go_wp2_with (first|(go_at_call 65;(first|(with_reducible refine jx.out.mono ?_)|(with_reducible refine(Sb.out _ rR.out).mono ?_));rintro e w' ⟨rfl,rfl⟩)|(go_at_call 103;refine J8.out.mono ?_;rintro e w2 ⟨rfl,hX,hC⟩;have rR:=ag hX;have dh:=ag hC;clear hX hC;obtain⟨Zax,_,_,_,_,_,_,_,_,_,_,Kb,_⟩:=rR.out.h_ K1.out;have RI:w2.cell? ⟨a,1,none⟩=some (.pointer (some ⟨t o.th,0,none⟩)):=(K3.out▸Kb.c1);have c9':w2.cell? ⟨a,9,none⟩=some (.bool false):=(Hr.out▸Kb.c9);clear Kb))
     go_ret;exact⟨rfl,rR.out,jk.out.trans dh.out (λ_ hb _=>hb)⟩
   |some c=>
    rw[cS]at p5;obtain⟨oc,bT⟩:=rH c cS;obtain⟨τ,o1,ys,L1,DB,xQ,k1,k4,k3,kb,bh⟩:=E5 hI hR hN ha he hd (show σ=if σ.cur.isSome then σ else{σ with cur:=some a} by rw[cS];rfl) cS hI rfl rfl bT;obtain⟨y0,y1⟩:=RW hI hR (a:=a) (o:=o) ha cS bT;have bF:=hI.ok _ oc bT;have J8:=ag (Cu H tC hT ha bT bF tz hI.on hN hE.n (by have:=hE.reg;have:=bF.k;omega) (by have:=bF.l6;omega) (λb hb=>by obtain⟨ob,h1,_⟩:=hI.sf a o b ha hb;exact⟨ob,h1⟩) y0 y1);rw[DB]at J8;have Sb:Hid (∀W,bB K p d t line lines size W τ->Calls prog 65 #[.pointer (some ⟨t o.th,0,none⟩)] W λe w'=>e= .returned (.int .i64 0)/\W=w'):=λW HW=>by have:=HW.err o.th mK;rwa[xQ.on.err]at this
    have x_:=ag (λ(W:World) (HW:bB K p d t line lines size W τ)=>Qd HW k1 (λc hc=>by obtain⟨oc,h1,_⟩:=xQ.run c hc;exact⟨oc,h1⟩) (by rw[k4,kb];exact QS) 0);have K1:=ag k1;have jk:=ag (Ch.refl (λb=>¬K b) w);have K3:=ag k3;cases kP:o1.done with
    |true=>
     have HQ:Hid (σ.step aR (cP line) a=(τ.fB a o1 0,true)):=by show _=_;rw[bh,kP];rfl
     have Hr:=ag kP;clear hI hR hE tz QS rH CA fa cM hd he y0 y1 bF bh xQ k1 k4 k3 kb DB kP bT cS;rw[HQ.out];go_enter func75,ntmps75
     go_wp2_with (first|(go_at_call 65;(first|(with_reducible refine jx.out.mono ?_)|(with_reducible refine(Sb.out _ rR.out).mono ?_));rintro e w' ⟨rfl,rfl⟩)|(go_at_call 103;refine J8.out.mono ?_;rintro e w2 ⟨rfl,hX,hC⟩;have rR:=ag hX;have dh:=ag hC;clear hX hC;obtain⟨Zax,_,_,_,_,_,_,_,_,_,_,Kb,_⟩:=rR.out.h_ K1.out;have RI:w2.cell? ⟨a,1,none⟩=some (.pointer (some ⟨t o.th,0,none⟩)):=(K3.out▸Kb.c1);have c9':w2.cell? ⟨a,9,none⟩=some (.bool true):=(Hr.out▸Kb.c9);clear Kb)|(go_at_call 102;refine(x_.out _ rR.out).mono ?_;rintro e w5 ⟨rfl,hX,hC⟩;have BB:=ag hX;have rz:=ag hC;clear hX hC))
     go_ret;exact⟨rfl,BB.out,(jk.out.trans dh.out (λ_ hb _=>hb)).trans rz.out (λ_ hb _=>hb)⟩
    |false=>
     have HQ:Hid (σ.step aR (cP line) a=(τ,false)):=by show _=_;rw[bh,kP];rfl
     have Hr:=ag kP;clear hI hR hE tz QS rH CA fa cM hd he y0 y1 bF bh xQ k1 k4 k3 kb DB kP bT cS;rw[HQ.out];go_enter func75,ntmps75
     go_wp2_with (first|(go_at_call 65;(first|(with_reducible refine jx.out.mono ?_)|(with_reducible refine(Sb.out _ rR.out).mono ?_));rintro e w' ⟨rfl,rfl⟩)|(go_at_call 103;refine J8.out.mono ?_;rintro e w2 ⟨rfl,hX,hC⟩;have rR:=ag hX;have dh:=ag hC;clear hX hC;obtain⟨Zax,_,_,_,_,_,_,_,_,_,_,Kb,_⟩:=rR.out.h_ K1.out;have RI:w2.cell? ⟨a,1,none⟩=some (.pointer (some ⟨t o.th,0,none⟩)):=(K3.out▸Kb.c1);have c9':w2.cell? ⟨a,9,none⟩=some (.bool false):=(Hr.out▸Kb.c9);clear Kb))
     go_ret;exact⟨rfl,rR.out,jk.out.trans dh.out (λ_ hb _=>hb)⟩
end
def gT(pv:Value)(tv:Value)(r:eP):Array Value:= #[pv,tv, .int .u64 r.off, .int .i64 r.place, .int .u64 r.raw, .bool r.ended, .int .i64 r.err]
def Zah:Option Int->Value
 |some x=> .tuple #[.int .u64 x, .bool true]
 |none=> .tuple #[.int .u64 0, .bool false]
theorem Uu(o:aX)(off:Int):o.S0 off=if o.aa=3 then(iP o.es off).map (λq=>kW o.seen q)else none:=rfl
section
variable{K:Nat->Prop}{p d c a line lines:Nat}{t:Nat->Nat}{size:Int}{w w2:World}{σ:PwS}{o oc:aX}{rb:Nat}{pv tv:Value}{r:eP}
theorem bB.S0(H:bB K p d t line lines size w σ)(ha:σ.ops a=some o):∃ea ec sb sc,w.cell? ⟨a,3,none⟩=some (.slice ea o.es.length ec)/\w.cell? ⟨a,5,none⟩=some (.slice (some ⟨sb,0,none⟩) o.seen.length sc)/\w.cell? ⟨a,7,none⟩=some (.int .i64 o.aa)/\Sl 223 4 w ea o.es.length ec (ba o.es)/\IB .u64 22 w sb o.seen/\o.seen.length<=sc/\a<w.heap.size:=by
 obtain⟨role,bb,h,hK⟩:=H;obtain⟨ea,ec,oa,ock,sb,sc,pa,pc,h1,h2,h3,h4,zN,h5,_⟩:=h.op a o ha;exact⟨ea,ec,sb,sc,h1.h_.c3,h1.h_.c5,h1.h_.c7,h2,h4,zN,h1.lt⟩
theorem P8(H:bB K p d t line lines size w σ)(rH:∀c,σ.cur=some c->∃oc,σ.ops c=some oc/\oc.seen.length=oc.es.length/\oc.es.length<=100000)(off:Int):
 Calls prog 109 #[.pointer (some ⟨p,0,none⟩), .int .u64 off] w λe w'=>e= .returned (Zah (σ.before off))/\Below w.heap.size w w':=by
 obtain⟨Ew,p5,f5⟩:=H.pool;cases hc:σ.cur with
 |none=>
  have HB:Hid (σ.before off=none):=by show _=_;simp[PwS.before,hc]
  rw[hc]at p5;rw[HB.out];clear hc rH H HB;go_enter func109,ntmps109
  go_wp2;exact bH (v:= .tuple #[.int .u64 0, .bool false]) (by simp[results,results109,go_sem]) rfl ⟨rfl,aC⟩
 |some c=>
  obtain⟨oc,bT,oK,hl⟩:=rH c hc;obtain⟨ea,ec,sb,sc,c3,c5,c7,hS,hI,hsc,aM⟩:=H.S0 bT;have HB:Hid (σ.before off=oc.S0 off):=by show _=_;simp[PwS.before,hc,bT]
  rw[hc]at p5;rw[HB.out,Uu];have HS:=ag hS;have HI:=ag hI;obtain⟨m,hm⟩:=aH oc.es.length;have HM:=ag hm;rw[hm]at c3 oK hl;rw[oK]at c5 hsc;have Zer:=hI.lt;by_cases hs:oc.aa=3
  . rw[hs]at c7
    rw[aA hs]
    have Tc:Hid (∀W g,Below w.heap.size w W->W.cell? ⟨g,0,none⟩=some (.int .u64 off)->Calls prog 141 #[.slice ea m ec, .func (.func 142) #[] #[.pointer (some ⟨g,0,none⟩)]] W λr w'=>r= .returned (DA (iP oc.es off))/\Below W.heap.size W w'):=λW g hW hg=>
     MJ W ea m ec oc.es HM.out hl (by have:=(uX.of HS.out rfl).bl hW;rwa[HM.out]at this) g hg
    cases hq:iP oc.es off with
    |none=>
     rw[hq]at Tc;dsimp only[DA]at Tc;clear hc rH H HB hS hI bT hs hq;go_enter func109,ntmps109
     go_wp2_with (go_at_call 141;refine(Tc.out _ _ aC (by go_simp)).mono ?_;rintro e w' ⟨rfl,hb⟩;obtain⟨x,rfl⟩:=aE hb;clear hb)
     exact bH (v:= .tuple #[.int .u64 0, .bool false]) (by simp[results,results109,go_sem]) rfl ⟨rfl,aC⟩
    |some q=>
     have gg:q<m:=by
      have:=Mn hq;rw[hm]at this;simpa using this
     have hcs:w.cell? ⟨sb,q,none⟩=some (.int .u64 (kW oc.seen q)):=by
      rw[hI.cell ae,Jv ae]
     rw[hq]at Tc;dsimp only[DA]at Tc;have hq0:¬(q:Int)<0:=by omega
     have hqI:(q:Int)<(m:Int):=by omega
     obtain⟨z,hz⟩:=aH (kW oc.seen q);have HZ:Hid ((some q).map (λq=>kW oc.seen q)=some z):=by show _=_;simp[hz]
     rw[hz]at hcs;rw[HZ.out];clear hc rH H HB hS hI bT hs hq hz HZ;go_enter func109,ntmps109
     go_wp2_with (go_at_call 141;refine(Tc.out _ _ aC (by go_simp)).mono ?_;rintro e w' ⟨rfl,hb⟩;obtain⟨x,rfl⟩:=aE hb;clear hb)
     exact bH (v:= .tuple #[.int .u64 z, .bool true]) (by simp[results,results109,go_sem]) rfl ⟨rfl,aC⟩
  . rw[ax hs]
    have QE:((oc.aa:Int) !=3)=true:=by rw[bne_iff_ne];omega
    clear hc rH H HB hS hI bT hs;go_enter func109,ntmps109
    go_wp2;exact bH (v:= .tuple #[.int .u64 0, .bool false]) (by simp[results,results109,go_sem]) rfl ⟨rfl,aC⟩
theorem Za2(w:World)(h:CB w rb 193 (gT pv tv r))(e:Int):
 Calls prog 108 #[.pointer (some ⟨rb,0,none⟩), .int .i64 e] w λx w'=>x= .returned (.bool true)/\CB w' rb 193 (gT pv tv (r.fail e))/\Ch (At rb) w w':=by
 have HC:=ag h;have c5:w.cell? ⟨rb,5,none⟩=some (.bool r.ended):=h.cell 5;have c6:w.cell? ⟨rb,6,none⟩=some (.int .i64 r.err):=h.cell 6;have c4:w.cell? ⟨rb,4,none⟩=some (.int .u64 r.raw):=h.cell 4;have f5:=h.frozen 5;have f6:=h.frozen 6;have f4:=h.frozen 4;have hl:=h.lt;clear h;go_enter func108,ntmps108
 go_wp2;go_ret;exact⟨rfl,((HC.out.set 5 _).set 6 _).set 4 _,(((Ch.refl _ _).bj _ _).bj _ _).bj _ _⟩
def eP.val(r:eP):Value:=if !r.ended then .tuple #[.int .u64 0, .int .i64 8]else if r.err≠0 then .tuple #[.int .u64 0, .int .i64 r.err]else .tuple #[.int .u64 (r.raw%1099511627776), .int .i64 0]
theorem Ub(w:World)(h:CB w rb 193 (gT pv tv r))(hr:0<=r.raw/\r.raw<18446744073709551616):
 Calls prog 112 #[.pointer (some ⟨rb,0,none⟩)] w λx w'=>x= .returned r.val/\Below w.heap.size w w':=by
 have c5:w.cell? ⟨rb,5,none⟩=some (.bool r.ended):=h.cell 5;have c6:w.cell? ⟨rb,6,none⟩=some (.int .i64 r.err):=h.cell 6;have c4:w.cell? ⟨rb,4,none⟩=some (.int .u64 r.raw):=h.cell 4;have hl:=h.lt;have e1:=yj r.raw hr;clear h hr;unfold eP.val;cases he:r.ended with
 |false=>
  rw[he]at c5;go_enter func112,ntmps112
  go_wp2;exact bH (v:= .tuple #[.int .u64 0, .int .i64 8]) (by simp[results,results112,go_sem]) rfl ⟨rfl,aC⟩
 |true=>
  rw[he]at c5;by_cases h0:r.err=0
  . rw[h0]at c6
    rw[h0];go_enter func112,ntmps112
    go_wp2;exact bH (v:= .tuple #[.int .u64 (r.raw%1099511627776), .int .i64 0]) (by simp[results,results112,go_sem]) rfl ⟨rfl,aC⟩
  . have h0':(r.err !=0)=true:=by simpa using h0
    have HE:Hid (r.err≠0):=h0;rw[ax smQ,aA HE.out];obtain⟨er,F8⟩:=aH r.err;rw[F8]at c6 h0' |-;clear h0 HE F8;go_enter func112,ntmps112
    go_wp2;go_quiet (fail)
    go_wp2;exact bH (v:= .tuple #[.int .u64 0, .int .i64 er]) (by simp[results,results112,go_sem]) rfl ⟨rfl,aC⟩
end
section
variable{K F:Nat->Prop}{p d c a line lines:Nat}{t:Nat->Nat}{size:Int}{w w' w2:World}{σ:PwS}{o oc:aX}{rb:Nat}{pv tv:Value}{r:eP}{N:Nat}{S:aq}
theorem bB.SZ{T:Nat->Prop}(h:bB K p d t line lines size w σ)(hc:Ch T w w')(hT:∀b,b<w.heap.size->T b->K b):bB K p d t line lines size w' σ:=by
 obtain⟨role,bb,h,hK⟩:=h;have hs:=hc.size;have aG:∀b,b<w.heap.size->role b≠0->w'.heap[b]?=w.heap[b]?:=λb hb hr=>hc.block b hb (λhx=>hr (hK b (hT b hb hx)).1)
 refine⟨λb=>if w.heap.size<=b then 0 else role b,bb,⟨?_,h.pl.keep (aG p h.pl.lt (by rw[h.rp];omega)),h.bz.keep (λb bG=> ?_),?_,?_,h.pb,λa o ho=>(h.op a o ho).keep (λb hl hr=>by rw[ax ae];exact hr) (λb hl hr=>aG b hl (by rw[hr];omega))⟩,λb hk=> ?_⟩
 . refine(h.dv.Ab hc (X:=λb=>w.heap.size<=b/\b<w'.heap.size) (λb hb hf hx=> ?_) (λb hx=>hx)).mono (λb hf=> ?_)
   . have:=(hK b (hT b hb hx)).1
     rcases hf with hf|hf
     . omega
     . omega
   . by_cases hl:w.heap.size<=b
     . right
       have:=hf.2;omega
     . left
       rw[ax hl];exact hf.1.resolve_right hl
 . have:b=bb:=by simpa [ah,wm]using bG
   rw[this];exact aG bb (h.bz.lt (b:=bb) (by simp[ah])) (by rw[h.rb];omega)
 . rw[ax (by have:=h.pl.lt;omega)];exact h.rp
 . rw[ax (by have:=h.bz.lt (b:=bb) (by simp[ah]);omega)];exact h.rb
 . obtain⟨h1,h2⟩:=hK b hk
   exact⟨by show(if _ then _ else role b)=0;rw[ax ae];exact h1,by omega⟩
theorem Zbd(h:DV F d t w S)(i:Nat)(hi:i<8)(off:Int)(ho:0<=off/\off<18446744073709551616):
 Calls prog 68 #[.pointer (some ⟨t i,0,none⟩), .int .u64 off] w λe w'=>e= .returned (.int .u64 (S.load off))/\DV F d t w' (S.on i (S.cQ off))/\Ch F w w':=by
 obtain⟨h1,L,rfl,h3,h4⟩:=h;refine(XR w d L S h3 i hi off ho).mono ?_;rintro e w' ⟨rfl,o6,cz⟩;exact⟨rfl,⟨λb hb=>h1 b (f_ cz.size hb),L,rfl,o6,h4⟩,cz.mono (λb hb _=>h4 b hb)⟩
def fg(K:Nat->Prop)(p d:Nat)(t:Nat->Nat)(line lines:Nat)(size:Int)(rb:Nat)(pv tv:Value)(w:World)(w':World)(σ:PwS)(r:eP):Prop:=
 bB K p d t line lines size w' σ/\CB w' rb 193 (gT pv tv r)/\Ch (λb=>¬K b\/b=rb) w w'
theorem fg.set(h:fg K p d t line lines size rb pv tv w w2 σ r)(hK:K rb)(hC:Ch (At rb) w2 w'){r':eP}(hr:CB w' rb 193 (gT pv tv r')):fg K p d t line lines size rb pv tv w w' σ r':=
 ⟨h.1.SZ hC (λb _ hb=>by rw[show b=rb from hb];exact hK),hr,h.2.2.trans hC (λb hb _=> .inr hb)⟩
theorem fg.dev(h:fg K p d t line lines size rb pv tv w w2 σ r)(hK:K rb){σ':PwS}(hC:Ch (λb=>¬K b) w2 w')(hP:bB K p d t line lines size w' σ'):fg K p d t line lines size rb pv tv w w' σ' r:=
 ⟨hP,h.2.1.keep (hC.block rb h.2.1.lt (λhx=>hx hK)),h.2.2.trans hC (λb hb _=> .inl hb)⟩
theorem fg.bl(h:fg K p d t line lines size rb pv tv w w2 σ r)(hB:Below w2.heap.size w2 w'):fg K p d t line lines size rb pv tv w w' σ r:=
 ⟨h.1.ko hB,h.2.1.below hB,h.2.2.trans (Ch.au (S:=λ_=>False) hB) (λ_ hb _=>hb.elim)⟩
theorem X6(hK:K rb)(h:fg K p d t line lines size rb pv tv w w2 σ r)(e:Int):Calls prog 108 #[.pointer (some ⟨rb,0,none⟩), .int .i64 e] w2 λx w'=>x= .returned (.bool true)/\fg K p d t line lines size rb pv tv w w' σ (r.fail e):=
 (Za2 w2 h.2.1 e).mono (λx w' hx=>⟨hx.1,h.set hK hx.2.2 hx.2.1⟩)
theorem fg.cells(h:fg K p d t line lines size rb pv tv w w2 σ r):w2.cell? ⟨rb,0,none⟩=some pv/\w2.cell? ⟨rb,1,none⟩=some tv/\w2.cell? ⟨rb,2,none⟩=some (.int .u64 r.off)/\w2.cell? ⟨rb,3,none⟩=some (.int .i64 r.place)/\w2.cell? ⟨rb,4,none⟩=some (.int .u64 r.raw)/\w2.cell? ⟨rb,5,none⟩=some (.bool r.ended)/\w2.cell? ⟨rb,6,none⟩=some (.int .i64 r.err)/\rb<w2.heap.size/\∀i,w2.frozen? ⟨rb,i,none⟩=false:=
 ⟨h.2.1.cell 0,h.2.1.cell 1,h.2.1.cell 2,h.2.1.cell 3,h.2.1.cell 4,h.2.1.cell 5,h.2.1.cell 6,h.2.1.lt,λi=>h.2.1.frozen i⟩
theorem fg.pP(h:fg K p d t line lines size rb pv tv w w2 σ r)(hK:K rb)(x:Int):fg K p d t line lines size rb pv tv w (w2.setCell ⟨rb,4,none⟩ (.int .u64 x)) σ {r with raw:=x}:=h.set hK ((Ch.refl _ _).bj _ _) (h.2.1.set 4 _)
theorem fg.pQ(h:fg K p d t line lines size rb pv tv w w2 σ r)(hK:K rb):fg K p d t line lines size rb pv tv w (w2.setCell ⟨rb,5,none⟩ (.bool true)) σ {r with ended:=true}:=h.set hK ((Ch.refl _ _).bj _ _) (h.2.1.set 5 _)
theorem fg.kJ(h:fg K p d t line lines size rb pv tv w w2 σ r)(hK:K rb)(k:Nat)(x:Int)(hx:x=k):fg K p d t line lines size rb pv tv w (w2.setCell ⟨rb,3,none⟩ (.int .i64 x)) σ {r with place:=k}:=by
 subst hx;exact h.set hK ((Ch.refl _ _).bj _ _) (h.2.1.set 3 _)
theorem fg.call{f:FuncId}{args:Array Value}{v:Value}{S':aq}(h:fg K p d t line lines size rb pv tv w w2 σ r)(hK:K rb)(CI:∀F,DV F d t w2 σ.dev->Calls prog f args w2 λe w'=>e= .returned v/\DV F d t w' S'/\Ch F w2 w'):
 Calls prog f args w2 λe w'=>e= .returned v/\fg K p d t line lines size rb pv tv w w' {σ with dev:=S'} r:=
 (Fs h.1 CI).mono (λe w' hx=>⟨hx.1,h.dev hK hx.2.2 hx.2.1⟩)
theorem D2{D:aq}(h:(D.a8 r.th).err=0):r.wW D=r:=by unfold eP.wW;rw[ax (by rw[h];simp)]
theorem xW{D:aq}{e:Int}(h:(D.a8 r.th).err=e)(he:e≠0):r.wW D=r.fail e:=by unfold eP.wW;rw[h,aA he]
theorem rdStep(H:bB K p d t line lines size w σ)(hK:K rb)(hC:CB w rb 193 (gT (.pointer (some ⟨p,0,none⟩)) (.pointer (some ⟨t r.th,0,none⟩)) r))
 (rH:∀c,σ.cur=some c->∃oc,σ.ops c=some oc/\oc.seen.length=oc.es.length/\oc.es.length<=100000) (bQ:r.th<8) (ho:0<=r.off/\r.off<18446744073709551616) (hG:Good σ.dev N) (hN:N<1000000) (hp:r.place<=2)
 (hv:r.place=0->0<=σ.dev.load r.off/\σ.dev.load r.off<4611686018427387904):
 Calls prog 78 #[.pointer (some ⟨rb,0,none⟩)] w λe w'=>e= .returned (.bool (σ.aI r).2.ended)/\fg K p d t line lines size rb (.pointer (some ⟨p,0,none⟩)) (.pointer (some ⟨t r.th,0,none⟩)) w w' (σ.aI r).1 (σ.aI r).2:=by
 have H0:Hid (fg K p d t line lines size rb (.pointer (some ⟨p,0,none⟩)) (.pointer (some ⟨t r.th,0,none⟩)) w w σ r):=⟨H,hC,Ch.refl _ _⟩;have HK:=ag hK;obtain⟨c0,c1,c2,c3,_,c5,_,hl,_⟩:=H0.out.cells;have jx:=ag (H.err r.th bQ);have xu:=ag (λ(W:World) (τ:PwS) (r':eP) (h:fg K p d t line lines size rb (.pointer (some ⟨p,0,none⟩)) (.pointer (some ⟨t r.th,0,none⟩)) w W τ r')=>h.1.err r.th bQ);have qI:=ag (λ(W:World) (τ:PwS) (r':eP) (h:fg K p d t line lines size rb (.pointer (some ⟨p,0,none⟩)) (.pointer (some ⟨t r.th,0,none⟩)) w W τ r')=>X6 hK h);cases he:r.ended with
 |true=>
  have HQ:Hid (σ.aI r=(σ,r)):=by show _=_;unfold PwS.aI;rw[aA he]
  have HE:=ag he;rw[he]at c5;clear hC rH hG hv H he;rw[HQ.out];go_enter func78,ntmps78
  go_wp2;go_ret;rw[HE.out];exact⟨rfl,H0.out⟩
 |false=>
  have HE:=ag he;rw[he]at c5;by_cases h0:(σ.dev.a8 r.th).err=0
  . rw[h0]at jx
    by_cases p0:r.place=0
    . obtain⟨G4,SE⟩:=hv p0
      obtain⟨v,SD⟩:=aH (σ.dev.load r.off);obtain⟨D,hD⟩:=aH (σ.dev.on r.th (σ.dev.cQ r.off));have tL:=ag (λ(W:World) (hW:fg K p d t line lines size rb (.pointer (some ⟨p,0,none⟩)) (.pointer (some ⟨t r.th,0,none⟩)) w W σ r)=>hW.call hK (λF hF=>Zbd hF r.th bQ r.off ho));rw[SD,hD]at tL;have V7:=ag (λ(W:World) (h:fg K p d t line lines size rb (.pointer (some ⟨p,0,none⟩)) (.pointer (some ⟨t r.th,0,none⟩)) w W {σ with dev:=D} r)=>P8 h.1 rH r.off)
      have HQ:Hid (σ.aI r=({σ with dev:=D},match({σ with dev:=D}:PwS).before r.off with
       |some x=>({r with raw:=x,ended:=true,place:=1}:eP).wW D
       |none=>({r with raw:=v,place:=1}:eP).wW D)):=by
       show _=_
       unfold PwS.aI;rw[ax (by rw[he];simp),ax (by rw[h0];simp),aA p0,<-SD,<-hD];rfl
      rw[SD]at G4 SE;have e1:=ED v ⟨G4,SE⟩;have e2:=Ke v ae;have Oj:=ag p0;rw[p0]at c3;obtain⟨nS,zy⟩:=aH (({σ with dev:=D}:PwS));have Hr:Hid (nS.dev=D):=by show _=_;rw[<-zy]
      rw[zy]at tL V7 HQ;obtain⟨er,F8⟩:=aH ((D.a8 r.th).err);have uO:Hid (∀(W:World) (r':eP),fg K p d t line lines size rb (.pointer (some ⟨p,0,none⟩)) (.pointer (some ⟨t r.th,0,none⟩)) w W nS r'->Calls prog 65 #[(.pointer (some ⟨t r.th,0,none⟩))] W λe w'=>e= .returned (.int .i64 er)/\W=w'):=λW r' h=>by have:=xu.out W nS r' h;rwa[Hr.out,F8]at this
      have HR:=ag F8;clear hC rH hG hv H he SD hD G4 SE zy p0 h0 xu F8 Hr;rw[HQ.out];cases hb:nS.before r.off with
      |some x=>
       rw[hb]at V7;dsimp only[Zah]at V7 |-;clear hb HQ;by_cases hz:er=0
       . have HZ:Hid (({r with raw:=x,ended:=true,place:=1}:eP).wW D=({r with raw:=x,ended:=true,place:=1}:eP)):=D2 (HR.out.trans hz)
         rw[hz]at uO;rw[HZ.out];clear hz HR;go_enter func78,ntmps78
         go_upto_region 8 with(go_at_call 65;refine jx.out.mono ?_;rintro e w' ⟨rfl,rfl⟩)
         refine b_ 8 krQ krQ ?_;simp only[List.take_succ_cons,List.take_zero,jm,iq];repeat(go_big_quiet_step (fail))
         refine cE ?_;rintro _ ⟨nq,rfl⟩;go_upto_region 9 with(go_at_call 68;refine(tL.out _ (H0.out.bl aC)).mono ?_;rintro e w2 ⟨rfl,hR⟩;obtain⟨d0,d1,d2,d3,d4,d5,d6,ju,df⟩:=hR.cells;have pA:=ag hR;clear hR)
         rw[Oj.out]at d3;rw[HE.out]at d5;have Z9:=df 3;have df4:=df 4;have Z8:=df 5;clear df;refine cy krQ krQ ?_;repeat(go_big_quiet_step ((go_at_call 109;exact bK (V7.out _ (pA.out.bl (BX.below _))))))
         refine cE ?_;rintro _ ⟨y,rfl⟩;have LG:=ag (pA.out.bl y.below);have hly:=y.lt_size ju;go_wp2_with (first|(go_at_call 65;refine(uO.out _ _ (((LG.out.pP HK.out x).pQ HK.out).kJ HK.out 1 1 rfl)).mono ?_;rintro e w' ⟨rfl,rfl⟩))
         go_ret;exact⟨rfl,(((LG.out.pP HK.out x).pQ HK.out).kJ HK.out 1 1 rfl)⟩
       . have HZ:Hid (({r with raw:=x,ended:=true,place:=1}:eP).wW D=({r with raw:=x,ended:=true,place:=1}:eP).fail er):=xW HR.out hz
         have hz':(er !=0)=true:=by simpa using hz
         rw[HZ.out];clear hz HR;go_enter func78,ntmps78
         go_upto_region 8 with(go_at_call 65;refine jx.out.mono ?_;rintro e w' ⟨rfl,rfl⟩)
         refine b_ 8 krQ krQ ?_;simp only[List.take_succ_cons,List.take_zero,jm,iq];repeat(go_big_quiet_step (fail))
         refine cE ?_;rintro _ ⟨nq,rfl⟩;go_upto_region 9 with(go_at_call 68;refine(tL.out _ (H0.out.bl aC)).mono ?_;rintro e w2 ⟨rfl,hR⟩;obtain⟨d0,d1,d2,d3,d4,d5,d6,ju,df⟩:=hR.cells;have pA:=ag hR;clear hR)
         rw[Oj.out]at d3;rw[HE.out]at d5;have Z9:=df 3;have df4:=df 4;have Z8:=df 5;clear df;refine cy krQ krQ ?_;repeat(go_big_quiet_step ((go_at_call 109;exact bK (V7.out _ (pA.out.bl (BX.below _))))))
         refine cE ?_;rintro _ ⟨y,rfl⟩;have LG:=ag (pA.out.bl y.below);have hly:=y.lt_size ju;go_wp2_with (first|(go_at_call 65;refine(uO.out _ _ (((LG.out.pP HK.out x).pQ HK.out).kJ HK.out 1 1 rfl)).mono ?_;rintro e w' ⟨rfl,rfl⟩)|(go_at_call 108;refine(qI.out _ _ _ (((LG.out.pP HK.out x).pQ HK.out).kJ HK.out 1 1 rfl) er).mono ?_;rintro e w5 ⟨rfl,hR⟩;have NJ:=ag hR;clear hR))
         go_ret;exact⟨rfl,NJ.out⟩
      |none=>
       rw[hb]at V7;dsimp only[Zah]at V7 |-;clear hb HQ;by_cases hz:er=0
       . have HZ:Hid (({r with raw:=v,place:=1}:eP).wW D=({r with raw:=v,place:=1}:eP)):=D2 (HR.out.trans hz)
         rw[hz]at uO;rw[HZ.out];clear hz HR;go_enter func78,ntmps78
         go_upto_region 8 with(go_at_call 65;refine jx.out.mono ?_;rintro e w' ⟨rfl,rfl⟩)
         refine b_ 8 krQ krQ ?_;simp only[List.take_succ_cons,List.take_zero,jm,iq];repeat(go_big_quiet_step (fail))
         refine cE ?_;rintro _ ⟨nq,rfl⟩;go_upto_region 9 with(go_at_call 68;refine(tL.out _ (H0.out.bl aC)).mono ?_;rintro e w2 ⟨rfl,hR⟩;obtain⟨d0,d1,d2,d3,d4,d5,d6,ju,df⟩:=hR.cells;have pA:=ag hR;clear hR)
         rw[Oj.out]at d3;rw[HE.out]at d5;have Z9:=df 3;have df4:=df 4;have Z8:=df 5;clear df;refine cy krQ krQ ?_;repeat(go_big_quiet_step ((go_at_call 109;exact bK (V7.out _ (pA.out.bl (BX.below _))))))
         refine cE ?_;rintro _ ⟨y,rfl⟩;have LG:=ag (pA.out.bl y.below);have hly:=y.lt_size ju;go_wp2_with (first|(go_at_call 65;refine(uO.out _ _ ((LG.out.pP HK.out v).kJ HK.out 1 1 rfl)).mono ?_;rintro e w' ⟨rfl,rfl⟩))
         go_ret;exact⟨(by show Ending.returned (.bool false)= .returned (.bool r.ended);rw[HE.out]),((LG.out.pP HK.out v).kJ HK.out 1 1 rfl)⟩
       . have HZ:Hid (({r with raw:=v,place:=1}:eP).wW D=({r with raw:=v,place:=1}:eP).fail er):=xW HR.out hz
         have hz':(er !=0)=true:=by simpa using hz
         rw[HZ.out];clear hz HR;go_enter func78,ntmps78
         go_upto_region 8 with(go_at_call 65;refine jx.out.mono ?_;rintro e w' ⟨rfl,rfl⟩)
         refine b_ 8 krQ krQ ?_;simp only[List.take_succ_cons,List.take_zero,jm,iq];repeat(go_big_quiet_step (fail))
         refine cE ?_;rintro _ ⟨nq,rfl⟩;go_upto_region 9 with(go_at_call 68;refine(tL.out _ (H0.out.bl aC)).mono ?_;rintro e w2 ⟨rfl,hR⟩;obtain⟨d0,d1,d2,d3,d4,d5,d6,ju,df⟩:=hR.cells;have pA:=ag hR;clear hR)
         rw[Oj.out]at d3;rw[HE.out]at d5;have Z9:=df 3;have df4:=df 4;have Z8:=df 5;clear df;refine cy krQ krQ ?_;repeat(go_big_quiet_step ((go_at_call 109;exact bK (V7.out _ (pA.out.bl (BX.below _))))))
         refine cE ?_;rintro _ ⟨y,rfl⟩;have LG:=ag (pA.out.bl y.below);have hly:=y.lt_size ju;go_wp2_with (first|(go_at_call 65;refine(uO.out _ _ ((LG.out.pP HK.out v).kJ HK.out 1 1 rfl)).mono ?_;rintro e w' ⟨rfl,rfl⟩)|(go_at_call 108;refine(qI.out _ _ _ ((LG.out.pP HK.out v).kJ HK.out 1 1 rfl) er).mono ?_;rintro e w5 ⟨rfl,hR⟩;have NJ:=ag hR;clear hR))
         go_ret;exact⟨rfl,NJ.out⟩
    . have p0':((r.place:Int)==0)=false:=by rw[vp];omega
      by_cases p1:r.place=1
      . obtain⟨D,hD⟩:=aH (σ.dev.flush r.th r.off)
        have tL:=ag (λ(W:World) (hW:fg K p d t line lines size rb (.pointer (some ⟨p,0,none⟩)) (.pointer (some ⟨t r.th,0,none⟩)) w W σ r)=>hW.call hK (λF hF=>Jy hF r.th bQ hG hN r.off ho));rw[hD]at tL
        have HQ:Hid (σ.aI r=({σ with dev:=D},({r with place:=2}:eP).wW D)):=by
         show _=_
         unfold PwS.aI;rw[ax (by rw[he];simp),ax (by rw[h0];simp),ax p0,aA p1,<-hD]
        have Oj:Hid (r.place=1):=(show r.place=1 by omega);rw[Oj.out]at c3 p0';obtain⟨nS,zy⟩:=aH (({σ with dev:=D}:PwS));have Hr:Hid (nS.dev=D):=by show _=_;rw[<-zy]
        rw[zy]at tL HQ;obtain⟨er,F8⟩:=aH ((D.a8 r.th).err);have uO:Hid (∀(W:World) (r':eP),fg K p d t line lines size rb (.pointer (some ⟨p,0,none⟩)) (.pointer (some ⟨t r.th,0,none⟩)) w W nS r'->Calls prog 65 #[(.pointer (some ⟨t r.th,0,none⟩))] W λe w'=>e= .returned (.int .i64 er)/\W=w'):=λW r' h=>by have:=xu.out W nS r' h;rwa[Hr.out,F8]at this
        have HR:=ag F8;clear hC rH hG hv H he hD zy p0 h0 xu F8 Hr p1 hp;rw[HQ.out];clear HQ;by_cases hz:er=0
        . have HZ:Hid (({r with place:=2}:eP).wW D=({r with place:=2}:eP)):=D2 (HR.out.trans hz)
          rw[hz]at uO;rw[HZ.out];clear hz HR;go_enter func78,ntmps78
          go_upto_region 16 with(go_at_call 65;refine jx.out.mono ?_;rintro e w' ⟨rfl,rfl⟩)
          refine b_ 8 krQ krQ ?_;simp only[List.take_succ_cons,List.take_zero,jm,iq];repeat(go_big_quiet_step (fail))
          refine cE ?_;rintro _ ⟨nq,rfl⟩;go_wp2_with (first|(go_at_call 110;refine(tL.out _ (H0.out.bl aC)).mono ?_;rintro e w2 ⟨rfl,hR⟩;obtain⟨d0,d1,d2,d3,d4,d5,d6,ju,df⟩:=hR.cells;have pA:=ag hR;clear hR;rw[Oj.out]at d3;rw[HE.out]at d5;have Z9:=df 3;have Z8:=df 5;clear df)|(go_at_call 65;refine(uO.out _ _ (pA.out.kJ HK.out 2 2 rfl)).mono ?_;rintro e w' ⟨rfl,rfl⟩))
          go_ret;exact⟨(by show Ending.returned (.bool false)= .returned (.bool r.ended);rw[HE.out]),(pA.out.kJ HK.out 2 2 rfl)⟩
        . have HZ:Hid (({r with place:=2}:eP).wW D=({r with place:=2}:eP).fail er):=xW HR.out hz
          have hz':(er !=0)=true:=by simpa using hz
          rw[HZ.out];clear hz HR;go_enter func78,ntmps78
          go_upto_region 16 with(go_at_call 65;refine jx.out.mono ?_;rintro e w' ⟨rfl,rfl⟩)
          refine b_ 8 krQ krQ ?_;simp only[List.take_succ_cons,List.take_zero,jm,iq];repeat(go_big_quiet_step (fail))
          refine cE ?_;rintro _ ⟨nq,rfl⟩;go_wp2_with (first|(go_at_call 110;refine(tL.out _ (H0.out.bl aC)).mono ?_;rintro e w2 ⟨rfl,hR⟩;obtain⟨d0,d1,d2,d3,d4,d5,d6,ju,df⟩:=hR.cells;have pA:=ag hR;clear hR;rw[Oj.out]at d3;rw[HE.out]at d5;have Z9:=df 3;have Z8:=df 5;clear df)|(go_at_call 65;refine(uO.out _ _ (pA.out.kJ HK.out 2 2 rfl)).mono ?_;rintro e w' ⟨rfl,rfl⟩)|(go_at_call 108;refine(qI.out _ _ _ (pA.out.kJ HK.out 2 2 rfl) er).mono ?_;rintro e w5 ⟨rfl,hR⟩;have NJ:=ag hR;clear hR))
          go_ret;exact⟨rfl,NJ.out⟩
      . obtain⟨D,hD⟩:=aH (σ.dev.fence r.th)
        have tL:=ag (λ(W:World) (hW:fg K p d t line lines size rb (.pointer (some ⟨p,0,none⟩)) (.pointer (some ⟨t r.th,0,none⟩)) w W σ r)=>hW.call hK (λF hF=>Jz hF r.th bQ hG hN));rw[hD]at tL
        have HQ:Hid (σ.aI r=({σ with dev:=D},({r with place:=3,ended:=true}:eP).wW D)):=by
         show _=_
         unfold PwS.aI;rw[ax (by rw[he];simp),ax (by rw[h0];simp),ax p0,ax p1,<-hD]
        have Oj:Hid (r.place=2):=(show r.place=2 by omega);rw[Oj.out]at c3 p0';obtain⟨nS,zy⟩:=aH (({σ with dev:=D}:PwS));have Hr:Hid (nS.dev=D):=by show _=_;rw[<-zy]
        rw[zy]at tL HQ;obtain⟨er,F8⟩:=aH ((D.a8 r.th).err);have uO:Hid (∀(W:World) (r':eP),fg K p d t line lines size rb (.pointer (some ⟨p,0,none⟩)) (.pointer (some ⟨t r.th,0,none⟩)) w W nS r'->Calls prog 65 #[(.pointer (some ⟨t r.th,0,none⟩))] W λe w'=>e= .returned (.int .i64 er)/\W=w'):=λW r' h=>by have:=xu.out W nS r' h;rwa[Hr.out,F8]at this
        have HR:=ag F8;clear hC rH hG hv H he hD zy p0 h0 xu F8 Hr p1 hp;rw[HQ.out];clear HQ;by_cases hz:er=0
        . have HZ:Hid (({r with place:=3,ended:=true}:eP).wW D=({r with place:=3,ended:=true}:eP)):=D2 (HR.out.trans hz)
          rw[hz]at uO;rw[HZ.out];clear hz HR;go_enter func78,ntmps78
          go_upto_region 18 with(go_at_call 65;refine jx.out.mono ?_;rintro e w' ⟨rfl,rfl⟩)
          go_wp2_with (first|(go_at_call 111;refine(tL.out _ (H0.out.bl aC)).mono ?_;rintro e w2 ⟨rfl,hR⟩;obtain⟨d0,d1,d2,d3,d4,d5,d6,ju,df⟩:=hR.cells;have pA:=ag hR;clear hR;rw[Oj.out]at d3;rw[HE.out]at d5;have Z9:=df 3;have Z8:=df 5;clear df)|(go_at_call 65;refine(uO.out _ _ ((pA.out.pQ HK.out).kJ HK.out 3 3 rfl)).mono ?_;rintro e w' ⟨rfl,rfl⟩))
          go_ret;exact⟨rfl,((pA.out.pQ HK.out).kJ HK.out 3 3 rfl)⟩
        . have HZ:Hid (({r with place:=3,ended:=true}:eP).wW D=({r with place:=3,ended:=true}:eP).fail er):=xW HR.out hz
          have hz':(er !=0)=true:=by simpa using hz
          rw[HZ.out];clear hz HR;go_enter func78,ntmps78
          go_upto_region 18 with(go_at_call 65;refine jx.out.mono ?_;rintro e w' ⟨rfl,rfl⟩)
          go_wp2_with (first|(go_at_call 111;refine(tL.out _ (H0.out.bl aC)).mono ?_;rintro e w2 ⟨rfl,hR⟩;obtain⟨d0,d1,d2,d3,d4,d5,d6,ju,df⟩:=hR.cells;have pA:=ag hR;clear hR;rw[Oj.out]at d3;rw[HE.out]at d5;have Z9:=df 3;have Z8:=df 5;clear df)|(go_at_call 65;refine(uO.out _ _ ((pA.out.pQ HK.out).kJ HK.out 3 3 rfl)).mono ?_;rintro e w' ⟨rfl,rfl⟩)|(go_at_call 108;refine(qI.out _ _ _ ((pA.out.pQ HK.out).kJ HK.out 3 3 rfl) er).mono ?_;rintro e w5 ⟨rfl,hR⟩;have NJ:=ag hR;clear hR))
          go_ret;exact⟨rfl,NJ.out⟩
  . have HQ:Hid (σ.aI r=(σ,r.fail (σ.dev.a8 r.th).err)):=by
     show _=_
     unfold PwS.aI;rw[ax (by rw[he];simp),aA h0]
    obtain⟨er,F8⟩:=aH ((σ.dev.a8 r.th).err);rw[F8]at jx h0 HQ;have hz':(er !=0)=true:=by simpa using h0
    clear hC rH hG hv H he h0 xu F8;rw[HQ.out];go_enter func78,ntmps78
    go_wp2_with (first|(go_at_call 65;refine jx.out.mono ?_;rintro e w' ⟨rfl,rfl⟩)|(go_at_call 108;refine(qI.out _ _ _ H0.out er).mono ?_;rintro e w5 ⟨rfl,hR⟩;have NJ:=ag hR;clear hR))
    go_ret;exact⟨rfl,NJ.out⟩
end
theorem JC(es:List bO):∀u∈ba es,u.oneCell'=true:=by
 intro u hu;simp only[ba,Fj]at hu;obtain⟨p,_,hu⟩:=hu;simp only[dr,fH,gF]at hu;rcases hu with rfl|rfl|rfl|rfl<;>rfl
def Zcj(w:World)(xs:List Value)(n:Nat)(e:Ending)(w':World):Prop:=∃A c,e= .returned (.slice A n c)/\Sl 223 4 w' A n c xs/\Below w.heap.size w w'/\∀b,ah A b->w.heap.size<=b
theorem Zac(w:World)(g off:Nat)(n c:Nat)(es:List bO)(h1:1<=n)(hn:n<=1000000)(hS:uX w (some ⟨g,off,none⟩) n c es):Calls prog 186 #[.slice (some ⟨g,off,none⟩) n c] w (Zcj w (ba es) n):=by
 have hsn:=λ(W:World)=>Lib.run_eql_slice_nil (P:=prog) W 174 223 (some ⟨g,off,none⟩) n c 0 0 underlying174
 have HS:=ag hS;have XG:Hid (Sl 223 4 (w.alloc (.cells #[] 223)) (some ⟨w.heap.size,0,none⟩) 0 0 []):=⟨by simp, .inr ⟨w.heap.size,0, #[],rfl,CB.new _ _ _,a_ _,by omega,by simp,by simp⟩⟩;have hlen:(ba es).length=n*4:=by rw[mH,hS.1]
 have Zay:=ag hlen;clear hS hlen;go_enter func186,ntmps186
 go_wp2_with (at_builtin;refine ay rfl (.tmp 5) (.tmp 6) 174 rfl 223 (.agg #[.int .u64 0, .int .u64 0, .int .u64 0, .bool false]) 4 32 rfl ae underlying174 zx ae (some ⟨w.heap.size,0,none⟩) 0 0 [] ⟨g,off,none⟩ n c (ba es) rfl rfl XG.out Zay.out h1 ((HS.out.bl (ai (bZ _ _) _)).cells) (JC _) ae ?_;intro A2 c2 w2 HO HC HW HG)
 go_ret;have hO:=HO.out;rw[List.nil_append,cY]at hO;refine⟨A2,c2,rfl,hO,bM (ai (bZ _ _) _) HC.out (λb hb=> ?_),λb hb=> ?_⟩
 . have:w.heap.size=b:=by simpa [ah]using hb
   omega
 . rcases HW.out b hb with h|h
   . have:w.heap.size=b:=by simpa [ah]using h
     omega
   . rw[h];simp
def Lm(line lines n:Nat)(es:List bO)(j:Nat):Bool:=(List.range j).all λq=>A_ line lines n (es.getD q E0).off&& !(iP (es.take q) (es.getD q E0).off).isSome&&(es.getD q E0).t_
def wG(k th:Nat)(es:List bO)(order:List Nat):aX:=⟨k,th,es,order,List.replicate es.length 0,0,0,[],false,false,false,0,none,0,0⟩
section
variable{K:Nat->Prop}{p d a line lines:Nat}{t:Nat->Nat}{size:Int}{w w':World}{σ:PwS}{n:Nat}
theorem bB.Za7{role:Nat->Nat}{bb:Nat}{k:Nat}{o:aX}(h:PM role p d bb t line lines size w σ)(hK:∀b,K b->role b=0/\b<w.heap.size)(hC:Ch (At bb) w w')(ha:w.heap.size<=a)
 (Bo:Sl 4 1 w' (some ⟨bb,0,none⟩) σ.busy.length σ.busy.length (bools (σ.busy.set k true)))
 (ho:∃ea ec oa oc sb sc pa pc,CB w' a 187 (ei p t o ea ec oa oc sb sc pa pc)/\Sl 223 4 w' ea o.es.length ec (ba o.es)/\Sl 3 1 w' oa o.order.length oc (ic o.order)/\IB .u64 22 w' sb o.seen/\o.seen.length<=sc/\Sl 164 3 w' pa o.prog.length pc (bw o.prog)/\
   w.heap.size<=sb/\sb≠a/\(∀b,ah ea b->w.heap.size<=b/\b≠a/\b≠sb)/\(∀b,ah oa b->w.heap.size<=b/\b≠a/\b≠sb)/\∀b,ah pa b->w.heap.size<=b/\b≠a/\b≠sb):
 bB K p d t line lines size w' {σ.aB a o with busy:=σ.busy.set k true}/\Ch (λb=>¬K b) w w':=by
 obtain⟨l1,l2⟩:=h.lt;have hs:=hC.size;have aG:∀b,b<w.heap.size->role b≠2->w'.heap[b]?=w.heap[b]?:=λb hb hr=>hC.block b hb (λhx=>hr (by rw[show b=bb from hx];exact h.rb))
 refine⟨⟨rl w (a+3) role,bb,⟨?_,?_,?_,by rw[bR l1];exact h.rp,by rw[bR l2];exact h.rb,h.pb,λb ob hb=> ?_⟩,λb hk=> ?_⟩,hC.mono λb hb _ hk=> ?_⟩
 . refine(h.dv.Ab hC (X:=λb=>w.heap.size<=b/\b<w'.heap.size) (λb hb hf hx=> ?_) (λb hx=>hx)).mono (λb hf=> ?_)
   . rw[show b=bb from hx,h.rb]at hf
     rcases hf with hf|hf
     . omega
     . omega
   . by_cases hl:w.heap.size<=b
     . right
       have:=hf.2;omega
     . left
       rw[bR ae];exact hf.1.resolve_right hl
 . have:=h.pl.keep (hC.block p l1 (λhx=>h.pb hx))
   show CB w' p _ #[_,_,_,_, .slice _ (σ.busy.set k true).length (σ.busy.set k true).length,_]
   rw[lO];exact this
 . show Sl _ _ _ _ (σ.busy.set k true).length (σ.busy.set k true).length _
   rw[lO];exact Bo
 . have dy:(if b=a then some o else σ.ops b)=some ob:=hb
   clear hb;by_cases jg:b=a
   . rw[aA jg]at dy
     injection dy with dy;subst jg dy;obtain⟨ea,ec,oa,oc,sb,sc,pa,pc,h1,h2,h3,h4,zN,h5,r2,n1,r3,r4,r5⟩:=ho;exact⟨ea,ec,oa,oc,sb,sc,pa,pc,h1,h2,h3,h4,zN,h5,ve ha,ve r2,n1,λb hb=>⟨ve (r3 b hb).1,(r3 b hb).2⟩,λb hb=>⟨ve (r4 b hb).1,(r4 b hb).2⟩,λb hb=>⟨ve (r5 b hb).1,(r5 b hb).2⟩⟩
   . rw[ax jg]at dy
     exact(h.op b ob dy).keep (λb' hl hr=>by rw[bR hl];exact hr) (λb' hl hr=>aG b' hl (by rw[hr];omega))
 . obtain⟨h1,h2⟩:=hK b hk
   exact⟨by rw[bR h2];exact h1,by omega⟩
 . have h1:=(hK b hk).1
   rw[show b=bb from hb,h.rb]at h1;omega
end
section
variable{K:Nat->Prop}{p d a line lines:Nat}{t:Nat->Nat}{size:Int}{w w':World}{σ:PwS}{n:Nat}
theorem X8(H:bB K p d t line lines ((n:Int)*64) w σ)(hn:n<100000)(hl:line+lines<100000)(th:Nat)(bQ:th<8)(off:Int)(ho:0<=off/\off<18446744073709551616)(hg:A_ line lines n off=true):
 Calls prog 140 #[.pointer (some ⟨p,0,none⟩), .int .i64 (th:Int), .int .u64 off] w λr w'=>∃g,r= .returned (.pointer (some ⟨g,0,none⟩))/\CB w' g 193 (gT (.pointer (some ⟨p,0,none⟩)) (.pointer (some ⟨t th,0,none⟩)) ⟨th,off,0,0,false,0⟩)/\w.heap.size<=g/\Below w.heap.size w w':=by
 have HP:=ag H;obtain⟨role,bb,N6,tC⟩:=H;have Ew:=N6.lt.1;have lS:=N6.pl;have p0:w.cell? ⟨p,0,none⟩=some (.pointer (some ⟨d,0,none⟩)):=lS.cell 0;have p1:w.cell? ⟨p,1,none⟩=some (.int .i64 line):=lS.cell 1;have p2:w.cell? ⟨p,2,none⟩=some (.int .i64 lines):=lS.cell 2;have p3:w.cell? ⟨p,3,none⟩=some (.int .u64 ((n:Int)*64)):=lS.cell 3;have VX:=ag (BR w line lines n hl hn off ho);rw[hg]at VX;have UB:¬(th:Int)<0:=by omega
 have I9:¬(th:Int)≥8:=by omega
 have JX:Hid (∀W,Below w.heap.size w W->Calls prog 37 #[.pointer (some ⟨d,0,none⟩), .int .i64 (th:Int)] W λe w'=>e= .returned (.pointer (some ⟨t th,0,none⟩))/\W=w'):=λW hW=>by
  obtain⟨role,bb,h,hK⟩:=HP.out.ko hW;exact kL h.dv th bQ
 clear N6 tC lS hg bQ;go_enter func140,ntmps140
 go_wp2_with (first
  |(go_at_call 162;refine VX.out.mono ?_;rintro e w' ⟨rfl,hb⟩;obtain⟨x,rfl⟩:=aE hb;clear hb)
  |(go_at_call 37;refine(JX.out _ aC).mono ?_;rintro e w' ⟨rfl,rfl⟩))
 go_ret;exact⟨_,rfl,CB.new _ _ _,by have:=x.size;omega,aC⟩
end
def aK(d p NN lines:Nat)(bs:Nat->Option Nat):Array Value:=
 #[.int .u64 2048, .int .u64 8, .int .u64 NN, .pointer (some ⟨d,0,none⟩), .pointer (some ⟨p,0,none⟩), .int .i64 lines,fu (bs 0),fu (bs 1),fu (bs 2),fu (bs 3),fu (bs 4),fu (bs 5),fu (bs 6),fu (bs 7)]
def TC.nw(c:TC):Int:=if c.kind=1\/c.kind=3 then c.val else 0
def TC.od(c:TC):Int:=if c.kind=3 then c.old else 0
def bV(q th:Nat)(c:TC)(h:Int)(rt:Nat)(d:TD)(rd ch:Option Nat)(rv:Int)(ended:Bool):Array Value:=
 #[.pointer (some ⟨q,0,none⟩), .int .i64 th, .int .u8 ((c.kind:Int)+1), .int .u64 c.key, .int .u64 c.od, .int .u64 c.nw, .int .u64 h, .int .u64 (8*(rt:Int)), .int .u8 d.aa,fu rd,fu ch,
  .int .u64 d.raw, .int .u64 d.node, .int .u64 (8*(d.link:Int)), .int .i64 d.depth, .int .u64 d.value, .int .u64 d.last, .int .u64 (8*(d.aD:Int)), .int .u64 d.aN, .int .u64 d.dB, .int .u64 d.cF,
  .int .u64 d.free, .int .u64 d.cN, .int .u64 d.fy, .int .u64 d.bI, .int .u64 d.res, .int .u64 rv, .int .i64 d.err, .bool ended]
section
variable{q d p lines NN:Nat}{bs:Nat->Option Nat}{w:World}
structure TaC(w:World)(q d p NN lines:Nat):Prop where
 c0:w.cell? ⟨q,0,none⟩=some (.int .u64 2048)
 c1:w.cell? ⟨q,1,none⟩=some (.int .u64 8)
 c2:w.cell? ⟨q,2,none⟩=some (.int .u64 NN)
 c3:w.cell? ⟨q,3,none⟩=some (.pointer (some ⟨d,0,none⟩))
 c4:w.cell? ⟨q,4,none⟩=some (.pointer (some ⟨p,0,none⟩))
 c5:w.cell? ⟨q,5,none⟩=some (.int .i64 lines)
 lt:q<w.heap.size
theorem CB.tac(h:CB w q 117 (aK d p NN lines bs)):TaC w q d p NN lines:=⟨h.cell 0,h.cell 1,h.cell 2,h.cell 3,h.cell 4,h.cell 5,h.lt⟩
end
structure ToC(w:World)(a q th:Nat)(c:TC)(h:Int)(rt:Nat)(d:TD)(rd ch:Option Nat)(rv:Int)(ended:Bool):Prop where
 c0:w.cell? ⟨a,0,none⟩=some (.pointer (some ⟨q,0,none⟩))
 c1:w.cell? ⟨a,1,none⟩=some (.int .i64 th)
 c2:w.cell? ⟨a,2,none⟩=some (.int .u8 ((c.kind:Int)+1))
 c3:w.cell? ⟨a,3,none⟩=some (.int .u64 c.key)
 c4:w.cell? ⟨a,4,none⟩=some (.int .u64 c.od)
 c5:w.cell? ⟨a,5,none⟩=some (.int .u64 c.nw)
 c6:w.cell? ⟨a,6,none⟩=some (.int .u64 h)
 c7:w.cell? ⟨a,7,none⟩=some (.int .u64 (8*(rt:Int)))
 c8:w.cell? ⟨a,8,none⟩=some (.int .u8 d.aa)
 c9:w.cell? ⟨a,9,none⟩=some (fu rd)
 gj:w.cell? ⟨a,10,none⟩=some (fu ch)
 fD:w.cell? ⟨a,11,none⟩=some (.int .u64 d.raw)
 fZ:w.cell? ⟨a,12,none⟩=some (.int .u64 d.node)
 fW:w.cell? ⟨a,13,none⟩=some (.int .u64 (8*(d.link:Int)))
 fO:w.cell? ⟨a,14,none⟩=some (.int .i64 d.depth)
 dC:w.cell? ⟨a,15,none⟩=some (.int .u64 d.value)
 iR:w.cell? ⟨a,16,none⟩=some (.int .u64 d.last)
 jh:w.cell? ⟨a,17,none⟩=some (.int .u64 (8*(d.aD:Int)))
 jM:w.cell? ⟨a,18,none⟩=some (.int .u64 d.aN)
 jL:w.cell? ⟨a,19,none⟩=some (.int .u64 d.dB)
 jK:w.cell? ⟨a,20,none⟩=some (.int .u64 d.cF)
 iD:w.cell? ⟨a,21,none⟩=some (.int .u64 d.free)
 jJ:w.cell? ⟨a,22,none⟩=some (.int .u64 d.cN)
 jI:w.cell? ⟨a,23,none⟩=some (.int .u64 d.fy)
 jH:w.cell? ⟨a,24,none⟩=some (.int .u64 d.bI)
 gN:w.cell? ⟨a,25,none⟩=some (.int .u64 d.res)
 jG:w.cell? ⟨a,26,none⟩=some (.int .u64 rv)
 iC:w.cell? ⟨a,27,none⟩=some (.int .i64 d.err)
 iB:w.cell? ⟨a,28,none⟩=some (.bool ended)
 lt:a<w.heap.size
 fr:∀i,w.frozen? ⟨a,i,none⟩=false
theorem CB.eQ{w:World}{a q th rt:Nat}{c:TC}{h rv:Int}{d:TD}{rd ch:Option Nat}{ended:Bool}(hc:CB w a 107 (bV q th c h rt d rd ch rv ended)):ToC w a q th c h rt d rd ch rv ended:=
 ⟨hc.cell 0,hc.cell 1,hc.cell 2,hc.cell 3,hc.cell 4,hc.cell 5,hc.cell 6,hc.cell 7,hc.cell 8,hc.cell 9,hc.cell 10,hc.cell 11,hc.cell 12,hc.cell 13,hc.cell 14,hc.cell 15,hc.cell 16,hc.cell 17,hc.cell 18,hc.cell 19,hc.cell 20,hc.cell 21,hc.cell 22,hc.cell 23,hc.cell 24,hc.cell 25,hc.cell 26,hc.cell 27,hc.cell 28,hc.lt,λi=>hc.frozen i⟩
section
variable{K:Nat->Prop}{p d q a lines n NN:Nat}{t:Nat->Nat}{size:Int}{w w':World}{σ:PwS}{bs:Nat->Option Nat}
theorem XP(H:bB K p d t 0 32 ((n:Int)*64) w σ)(hn:n<1000)(hKa:K a)(hq:CB w q 117 (aK d p NN lines bs)){th rt:Nat}{c:TC}{h:Int}{D:TD}{rd0' ch:Option Nat}(hc:CB w a 107 (bV q th c h rt D rd0' ch 0 false))
 (bQ:th<8) (s:Nat) (k:Nat) (hk:256<=k/\k<8*n):
 Calls prog 107 #[.pointer (some ⟨a,0,none⟩), .int .u8 (s:Int), .int .u64 (8*(k:Int))] w λe w'=>∃g,e= .returned (.tuple #[])/\w.heap.size<=g/\CB w' a 107 (bV q th c h rt {D with aa:=s} (some g) ch 0 false)/\
  CB w' g 193 (gT (.pointer (some ⟨p,0,none⟩)) (.pointer (some ⟨t th,0,none⟩)) ⟨th,8*(k:Int),0,0,false,0⟩)/\bB (λb=>K b\/(w.heap.size<=b/\b<w'.heap.size)) p d t 0 32 ((n:Int)*64) w' σ/\Ch (At a) w w':=by
 have ho:A_ 0 32 n (8*(k:Int))=true:=by unfold A_;simp;omega
 have HRD:=ag (λ(W:World) (hW:Below w.heap.size w W)=>X8 (H.ko hW) ae ae th bQ (8*(k:Int)) ae ho);have HP:=ag H;have HC:=ag hc;obtain⟨q0,q1,q2,q3,q4,q5,ql⟩:=hq.tac;obtain⟨c0,c1,c2,c3,c4,c5,c6,c7,c8,c9,gj,fD,fZ,fW,fO,dC,iR,jh,jM,jL,jK,iD,jJ,jI,jH,gN,jG,iC,iB,hl,hf⟩:=hc.eQ;have f8:=hf 8;have f9:=hf 9;clear c2 c3 c4 c5 c6 c7 gj fD fZ fW fO dC iR jh jM jL jK iD jJ jI jH gN jG iC iB q0 q1 q2 q3 q5
 have iU:Hid (∀(X:World) (g:Nat),Below w.heap.size w X->w.heap.size<=g->CB X g 193 (gT (.pointer (some ⟨p,0,none⟩)) (.pointer (some ⟨t th,0,none⟩)) ⟨th,8*(k:Int),0,0,false,0⟩)->
  CB ((X.setCell ⟨a,8,none⟩ (.int .u8 (s:Int))).setCell ⟨a,9,none⟩ (.pointer (some ⟨g,0,none⟩))) a 107 (bV q th c h rt {D with aa:=s} (some g) ch 0 false)/\
  CB ((X.setCell ⟨a,8,none⟩ (.int .u8 (s:Int))).setCell ⟨a,9,none⟩ (.pointer (some ⟨g,0,none⟩))) g 193 (gT (.pointer (some ⟨p,0,none⟩)) (.pointer (some ⟨t th,0,none⟩)) ⟨th,8*(k:Int),0,0,false,0⟩)/\
  bB (λb=>K b\/(w.heap.size<=b/\b<((X.setCell ⟨a,8,none⟩ (.int .u8 (s:Int))).setCell ⟨a,9,none⟩ (.pointer (some ⟨g,0,none⟩))).heap.size)) p d t 0 32 ((n:Int)*64) ((X.setCell ⟨a,8,none⟩ (.int .u8 (s:Int))).setCell ⟨a,9,none⟩ (.pointer (some ⟨g,0,none⟩))) σ/\
  Ch (At a) w ((X.setCell ⟨a,8,none⟩ (.int .u8 (s:Int))).setCell ⟨a,9,none⟩ (.pointer (some ⟨g,0,none⟩)))):=λX g hB hg hG=>by
  have aG:g≠a:=by have:=HC.out.lt;omega
  have h1:CB X a 107 (bV q th c h rt D rd0' ch 0 false):=HC.out.below hB;have cz:Ch (At a) X ((X.setCell ⟨a,8,none⟩ (.int .u8 (s:Int))).setCell ⟨a,9,none⟩ (.pointer (some ⟨g,0,none⟩))):=((Ch.refl _ _).bj _ _).bj _ _;refine⟨(h1.set 8 _).set 9 _,(hG.far (p:=⟨a,8,none⟩) aG _).far (p:=⟨a,9,none⟩) aG _,?_,(Ch.au (S:=At a) hB).trans cz (λb hb _=>hb)⟩;have hz:((X.setCell ⟨a,8,none⟩ (.int .u8 (s:Int))).setCell ⟨a,9,none⟩ (.pointer (some ⟨g,0,none⟩))).heap.size=X.heap.size:=by simp
  rw[hz];exact(HP.out.bl hB).SZ cz (λb _ hb=> .inl (by rw[show b=a from hb];exact hKa))
 clear H hq hc hf ho bQ hk;go_enter func107,ntmps107
 go_wp2;go_region_with (go_at_call 140;refine(HRD.out _ aC).mono ?_;rintro e w3 ⟨g,rfl,hG,hg,hb⟩;obtain⟨x,rfl⟩:=aE hb;have HG:=ag hG;have XE:=ag hg;clear hG hb hg)
 all_goals
  go_end0
  exact⟨g,rfl,by have:=XE.out;have h2:=x.size;simp at this;omega,iU.out _ g aC (by have:=XE.out;have h2:=x.size;simp at this;omega) HG.out⟩
end
end Go.Proofs.YtjkpjakodomnmaaGreatDoor
