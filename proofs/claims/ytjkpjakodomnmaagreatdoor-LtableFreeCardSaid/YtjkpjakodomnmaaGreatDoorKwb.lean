/- The law LtableFree, second part (merged). -/
import Derived.Test.YtjkpjakodomnmaaGreatDoorKwa
set_option linter.unusedVariables false
set_option linter.unusedSimpArgs false
set_option maxRecDepth 100000
set_option maxHeartbeats 16000000
namespace Go.Proofs.YtjkpjakodomnmaaGreatDoor
open Go.RowKit Go.Proofs.Tryz
theorem lj{P:Program}(w:World)(t ty e:TypeId)(zv:Value)(size oP:Nat)(I7:zv.cells.size=size)(lR:0<size)(ht:P.underlying t=some (.slice e))(bp:(P.info? e).map (λi=>(i.zero,i.size,i.bytes))=some (some zv,size,oP))(AG:oP<=128)
 (A:Option Addr) (n c:Nat) (xs:List Value) (cL:Sl e size w A n c xs) (ad:Addr) (m d:Nat) (ys:List Value) (hm:ys.length=m*size) (DK:0<m) (hr:∀j u,ys[j]?=some u->w.cell? (ad.add j)=some u) (hf:∀u∈ys,u.oneCell'=true)
 (hbound:n+m<=1000000000):
 ∃A' c' w',(Builtin.append_ #[t,t] ty #[.slice A n c, .slice (some ad) m d]).run P w= .ok (.slice A' (n+m) c') w'/\Sl e size w' A' (n+m) c' (xs++ys)/\Ch (ah A) w w'/\(∀b,ah A' b->ah A b\/b=w.heap.size)/\(c<n+m->A'=some ⟨w.heap.size,0,none⟩):=by
 cases hi:P.info? e with
 |none=>rw[hi]at bp;cases bp
 |some i=>
  rw[hi]at bp;simp only[Option.map_some,sP,rY]at bp;obtain⟨hz,hs,hb⟩:=bp;subst hs hb;have Q4:(n+m)*i.bytes<=(n+m)*128:=Cm _ AG;have hmx:n+m<=maxLen:=by unfold maxLen;omega
  have hlen:(xs++ys).length=(n+m)*i.size:=by rw[dO,cL.1,hm,sJ]
  have grown:∀(old:Nat),old<n+m->Sl e i.size (w.drew.alloc (.cells (xs.toArray++ys.toArray++Builtin.zeroCells zv.cells (grownCap w (n+m) old e-(n+m))) e)) (some ⟨w.heap.size,0,none⟩) (n+m) (grownCap w (n+m) old e) (xs++ys):=by
   intro old ho;have Ha:=grownCap_ge w (n+m) old e;have je:grownCap w (n+m) old e<=maxLen:=PN w (n+m) old e hmx;refine⟨hlen, .inr ⟨w.heap.size,0,_,rfl,Cb w.drew _,Ha,je,?_,?_⟩⟩
   . simp only[PB,Df,size_zeroCells,I7,cL.1,hm,<-sJ,cY]
     apply zc
     omega
   . simp only[PQ,iZ,iq]
     rw[<-iZ,<-hlen];exact B_
  have py:∀o:Obj,Ch (ah A) w (w.drew.alloc o):=λo=>(Ch.drew (Ch.refl _ _)).alloc o
  rcases cL.2 with⟨rfl,rfl,rfl⟩|⟨g,off,cur,rfl,hC,MP,je,vM,uT⟩
  . have hx:xs=[]:=E9 (by simpa using cL.1)
    subst hx;have gL:=run_append_nil (P:=P) w t ty e i zv ht hi hz ad m d ys hm hr DK ae (by simp only[cY]at Q4;omega);have ie:=grown 0 ae;simp only[cY,List.nil_append,PI]at ie |-;exact⟨_,_,_,gL,ie,py _,λb hb=> .inr (by simpa [ah]using hb.symm),λ_=>rfl⟩
  . by_cases qj:n+m<=c
    . have e0:n*i.size+m*i.size<=c*i.size:=by rw[<-sJ];exact zc _ qj
      have gL:=KQ (P:=P) w t ty e i ht hi g off n c ad m d ys hm hr hf qj
       (λj hj=>by rw[hC.cell];have:off+n*i.size+j<cur.size:=by omega
                  simp[this]) (λj hj=>hC.frozen _)
      refine⟨_,_,_,gL,⟨hlen, .inr ⟨g,off,_,rfl,mo ys (off+n*i.size) w cur hC ae,qj,je,?_,?_⟩⟩,(mg g ys _ w).mono (λb hb _=>by unfold At at hb;subst hb;simp[ah]),λb hb=> .inl hb,λh=>by omega⟩
      . simp only[Df,dO,gf,yU,Array.length_toList]
        omega
      . rw[<-uT,sJ]
        have jB:(cur.toList.take (off+n*i.size)).length=off+n*i.size:=by simp;omega
        simp only[iZ];rw[P5 (by rw[jB];omega),Fg];rw[show off+n*i.size-off=n*i.size by omega];have ju:((cur.toList.drop off).take (n*i.size)).length=n*i.size:=by rw[uT];exact cL.1
        rw[<-hm,<-ju];rw[<-iZ];rw[show((cur.toList.drop off).take ((cur.toList.drop off).take (n*i.size)).length)=(cur.toList.drop off).take (n*i.size) by rw[ju]];rw[<-dO];exact B_
    . have gL:=Pw (P:=P) w t ty e i zv ht hi hz ⟨g,off,none⟩ n c xs cL.1 (cL.cells _ rfl) ad m d ys hm hr ae ae (growslice_fits ae ae)
      exact⟨_,_,_,gL,grown c ae,py _,λb hb=> .inr (by simpa [ah]using hb.symm),λ_=>rfl⟩
theorem iF{P:Program}{w:World}{ops:Array Oper}{rest:List Oper}{o:Oper}{a:Act}{Q:Exit->Act->World->Prop}(DM:o.guard=none)(s x:Operand)(t:TypeId)
 (ho:o.op= .call {callee:= .builtin .append,args:= #[s,x],argTypes:= #[t,t]}) (e:TypeId) (zv:Value) (size oP:Nat) (I7:zv.cells.size=size) (lR:0<size) (ht:P.underlying t=some (.slice e)) (bp:(P.info? e).map (λi=>(i.zero,i.size,i.bytes))=some (some zv,size,oP)) (AG:oP<=128)
 (A:Option Addr) (n c:Nat) (xs:List Value) (ad:Addr) (m d:Nat) (ys:List Value) (AE:a.eval s= .slice A n c) (MK:a.eval x= .slice (some ad) m d) (cL:Sl e size w A n c xs) (hm:ys.length=m*size) (DK:0<m) (hr:∀j u,ys[j]?=some u->w.cell? (ad.add j)=some u) (hf:∀u∈ys,u.oneCell'=true)
 (hbound:n+m<=1000000000)
 (h:∀A' c' w',Hid (Sl e size w' A' (n+m) c' (xs++ys))->Hid (Ch (ah A) w w')->Hid (∀b,ah A' b->ah A b\/b=w.heap.size)->Hid (c<n+m->A'=some ⟨w.heap.size,0,none⟩)->wpList P ops Q rest (a.put o.dst (.slice A' (n+m) c')) w'):wpList P ops Q (o::rest) a w:=by
 refine Kv DM λK hK=> ?_
 obtain⟨A',c',w',gL,h1,h2,h3,h4⟩:=lj (P:=P) w t o.type e zv size oP I7 lR ht bp AG A n c xs cL ad m d ys hm DK hr hf hbound;unfold Oper.wp execOp;simp only[ho,resolve,invoke,builtin,Ku,Sem.run_pure,Result.andThen_ok,KD,oV,wu,AE,MK,gL];exact hK _ _ (h A' c' w' h1 h2 h3 h4)
def yJ(t:RQ):List Value:=[.int .i64 (t.c.kind:Int), .int .u64 t.c.key, .int .u64 t.c.val, .int .u64 t.c.old, .int .i64 t.bg, .int .i64 t.en, .bool t.ended, .int .u64 t.got, .int .i64 t.err]
def kr(ts:List RQ):List Value:=ts.flatMap yJ
theorem qe(ts:List RQ):(kr ts).length=ts.length*9:=by
 induction ts with
 |nil=>rfl
 |cons e ts ih=>rw[kr,yM,dO];change _+(kr ts).length=_;rw[ih];simp[yJ];omega
theorem yI(ts:List RQ):∀k,k<ts.length->∀r,r<9->(kr ts)[k*9+r]?=(yJ (ts.getD k du))[r]?:=by
 induction ts with
 |nil=>intro k h;simp at h
 |cons p ts ih=>
  intro k h r hr;cases k with
  |zero=>
   show(yJ p++kr ts)[0*9+r]?=_
   rw[nY (by simp[yJ];omega)];simp
  |succ k=>
   show(yJ p++kr ts)[(k+1)*9+r]?=_
   rw[nZ (by simp[yJ];omega),show(k+1)*9+r-(yJ p).length=k*9+r by simp[yJ];omega,ih k (by simpa using h) r hr];simp
theorem u_(ts:List RQ){j:Nat}(hj:j<ts.length):kr (ts.take (j+1))=kr (ts.take j)++yJ (ts.getD j du):=by
 unfold kr;rw[iw hj,eY,dG hj,Cl];simp only[yM,KB,vh,Option.getD_some]
theorem Sl.rqP{w:World}{A:Option Addr}{m c:Nat}{ts:List RQ}(h:Sl 37 9 w A m c (kr ts))(h0:0<m):∃g off,A=some ⟨g,off,none⟩/\Bz w g off m ts:=by
 have hl:=h.1;have hlen:=qe ts;have hn:ts.length=m:=by omega
 obtain⟨g,off,hA,hg,_⟩:=h.at_ (j:=0) ae;refine⟨g,off,hA,hg,λk hk=> ?_⟩
 have hc:∀r,r<9->w.cell? ⟨g,off+k*9+r,none⟩=(yJ (ts.getD k du))[r]?:=λr hr=>by
  obtain⟨g2,Fv,o8,_,c2⟩:=h.at_ (j:=k*9+r) ae;rw[hA]at o8;injection o8 with o8;injection o8 with x1 x2;subst x1 x2;rw[<-yI ts k ae r hr,sL,c2,dG]
 exact⟨hc 0 ae,hc 1 ae,hc 2 ae,hc 3 ae,hc 4 ae,hc 5 ae,hc 6 ae,hc 7 ae,hc 8 ae⟩
theorem og:(prog.info? 37).map (λi=>(i.zero,i.size,i.bytes))=some (some (.agg #[.int .i64 0, .int .u64 0, .int .u64 0, .int .u64 0, .int .i64 0, .int .i64 0, .bool false, .int .u64 0, .int .i64 0]),9,72):=by kernel_rfl
theorem qB(w:World)(e:TypeId)(cs:Array Value):∀(j:Nat) (u:Value),cs[j]?=some u->(w.alloc (.cells cs e)).cell? ((⟨w.heap.size,0,none⟩:Addr).add j)=some u:=by
 intro j u hu;have h1:(⟨w.heap.size,0,none⟩:Addr).add j=⟨w.heap.size,j,none⟩:=by unfold Addr.add;split<;>simp_all
 rw[h1,(CB.new w e cs).cell j];exact hu
def SnP(n:Nat)(w:World)(ts:List RQ)(e:Ending)(w':World):Prop:=∃A c,e= .returned (.slice A n c)/\(0<n->∃g off,A=some ⟨g,off,none⟩/\Bz w' g off n ts)/\Below w.heap.size w w'
theorem DQ(w:World)(As:Option Addr)(M cA:Nat)(ts:List RQ)(SF:ts.length=M)(hM:M<=1000)(hS:Od w As M ts):Calls prog 30 #[.slice As M cA] w (SnP M w ts):=by
 have HS:=ag hS;have HTS:=ag SF;clear hS SF;go_enter func30,ntmps30
 go_wp2;go_loopw [8,3,5,9,10,11,12,13,14,15,16,17,18,19,20,21,22,23,24,25,26,27,28,29,36,31,32,33,34,35,36,37,38] (λi s _ _ _ _ _ _ _ _ _ _ _ _ _ _ _ _ _ _ _ _ _ _ _ _ _ _ _ _ _ _ _ wr=>∃(j:Nat) (A':Option Addr) (c':Nat),j<=M/\i= .int .i64 j/\s= .slice A' j c'/\Sl 37 9 wr A' j c' (kr (ts.take j))/\Below w.heap.size w wr/\∀b,ah A' b->w.heap.size<=b) (λi s _ _ _ _ _ _ _ _ _ _ _ _ _ _ _ _ _ _ _ _ _ _ _ _ _ _ _ _ _ _ _ _=>M-(intOf i).toNat)
 case atStart=>exact⟨0,none,0,by omega,rfl,rfl,Sl.nil,bZ _ _,by simp[ah]⟩
 case round=>
  obtain⟨j,A',c',hj,rfl,rfl,vN,hB,hO⟩:=hrel;have VQ:=ag vN;have HB:=ag hB;have HO:=ag hO;by_cases aM:j<M
  . have dx:(j:Int)<(M:Int):=by omega
    obtain⟨h7,gS,oS,g,a,hAs,hgS,hcS,mN⟩:=(HS.out.bl hB) j aM;have HSN:=ag (u_ ts (j:=j) (by rw[HTS.out];exact aM));generalize ts.getD j du=t at mN h7 HSN;obtain⟨⟨kd,ky,val,old⟩,bg,en,ed,got,err⟩:=t;unfold Ui at mN;dsimp only at mN h7;have h7':(err==7)=false:=by simpa using h7
    have c1:=mN.cell 1;have c2:=mN.cell 2;have c3:=mN.cell 3;have c4:=mN.cell 4;have c5:=mN.cell 5;have c6:=mN.cell 6;have c7:=mN.cell 7;have c8:=mN.cell 8;have c9:=mN.cell 9;have gj:=mN.cell 10;have fD:=mN.cell 11;have cl:=mN.lt;subst hAs;clear vN hB hO mN h7;go_wp2_with (at_builtin;refine iF rfl (.tmp 31) (.tmp 36) 69 rfl 37 (.agg #[.int .i64 0, .int .u64 0, .int .u64 0, .int .u64 0, .int .i64 0, .int .i64 0, .bool false, .int .u64 0, .int .i64 0]) 9 72 rfl ae underlying69 og ae A' j c' (kr (ts.take j)) ⟨wr.heap.size,0,none⟩ 1 1 [.int .i64 (kd:Int), .int .u64 ky, .int .u64 val, .int .u64 old, .int .i64 bg, .int .i64 en, .bool ed, .int .u64 got, .int .i64 err] rfl rfl (VQ.out.keep (λb hb=>d_ _ _ _ (VQ.out.lt hb))) rfl ae (λj u hu=>qB wr 37 _ j u (by simpa using hu)) (λu hu=>by simp at hu;rcases hu with rfl|rfl|rfl|rfl|rfl|rfl|rfl|rfl|rfl<;>rfl) ae ?_;intro A4 c4' w4 lU eW mU uM)
    refine⟨⟨j+1,A4,c4',by omega,by go_num,rfl,?_,bM (ai HB.out _) eW.out (λb hb=>HO.out b hb),λb hb=> ?_⟩,by simp[intOf];omega⟩
    . rw[HSN.out]
      exact lU.out
    . rcases mU.out b hb with h|h
      . exact HO.out b h
      . have h1:=HB.out.size
        rw[h];simp;omega
  . obtain rfl:j=M:=by omega
    have hX:SnP j w ts (.returned (.slice A' j c')) wr:=by
     rw[fR (by rw[HTS.out];exact a_ _)]at vN;exact⟨A',c',rfl,λh0=>vN.rqP h0,hB⟩
    have HX:=ag hX;clear vN hB hO hX;go_wp2;go_ret;exact HX.out
theorem vG:(prog.info? 4).map (λi=>(i.zero,i.size,i.bytes))=some (some (.bool false),1,1):=by kernel_rfl
theorem vW(bs:List Bool):∀u∈bools bs,u.oneCell'=true:=by
 intro u hu;obtain⟨x,_,rfl⟩:=iJ.1 hu;rfl
theorem cJ(bs:List Bool):(bools bs).length=bs.length:=by simp[bools]
theorem tE(bs:List Bool)(k:Nat)(b:Bool):bools (bs.set k b)=(bools bs).set k (.bool b):=by simp[bools,yR]
theorem xz.cells{w:World}{g off m:Nat}{bs:List Bool}(h:xz w g off m bs)(hl:bs.length=m):∀(j:Nat) (u:Value),(bools bs)[j]?=some u->w.cell? ((⟨g,off,none⟩:Addr).add j)=some u:=by
 intro j u hu;have h1:(⟨g,off,none⟩:Addr).add j=⟨g,off+j,none⟩:=by unfold Addr.add;split<;>simp_all
 have hj:j<bs.length:=by have:=(ki.1 hu).1;rwa[cJ]at this
 rw[h1,h.2 j ae,<-hu];simp[bools,hj]
theorem Sl.blP{w:World}{g m c:Nat}{bs:List Bool}(h:Sl 4 1 w (some ⟨g,0,none⟩) m c (bools bs)):xz w g 0 m bs:=by
 have hl:=h.1;rw[cJ]at hl;refine⟨h.lt (b:=g) (by simp[ah]),λk hk=> ?_⟩;have kG:k<bs.length:=by omega
 obtain⟨g2,off,hA,_,hc⟩:=h.at_ (j:=k) (by rw[cJ];exact kG);injection hA with hA;injection hA with e1 e2;subst e1 e2;rw[cY]at hc |-;rw[hc];simp[bools,eY,kG]
theorem C_(w:World)(e:TypeId):Sl e 1 (w.alloc (.cells #[] e)) (some ⟨w.heap.size,0,none⟩) 0 0 []:=
 ⟨rfl, .inr ⟨_,0,_,rfl,CB.new _ _ _,a_ _,im _,a_ _,rfl⟩⟩
def JO(l:List RQ)(used:List Bool)(i:Nat):Bool:=used.getD i true|| !(l.getD i du).ended
def JN(P:Nat)(l:List RQ)(vs:List (Int×Int))(used:List Bool)(E:List (Int×Int)->List Bool->Bool)(i:Nat):Bool:=eR l used i&&pR P vs (l.getD i du)&&E (pS P vs (l.getD i du)) (used.set i true)
theorem lp(f:Nat->Bool)(j:Nat):(List.range (j+1)).any f=((List.range j).any f||f j):=by simp[xf]
theorem ll(f:Nat->Bool){j m:Nat}(h:j<m)(hf:f j=true):(List.range m).any f=true:=Px.2 ⟨j,by simpa using h,hf⟩
theorem pT(P:Nat)(Jt:P<=1000)(w:World)(A:Option Addr)(n8 c8:Nat)(vs:List (Int×Int))(hl:vs.length=n8)(FZ:n8<=P)(kE:sq vs)(hR:gP w A vs)(AL:Option Addr)(m c:Nat)(l:List RQ)(iW:l.length=m)(jb:∀k,(l.getD k du).c.kind<=3)(hm:m<=1000)
 (hP:0<m->∃g off,AL=some ⟨g,off,none⟩/\Bz w g off m l)
 (AU:Option Addr) (cu:Nat) (used:List Bool) (I8:used.length=m) (hU:0<m->∃gu ou,AU=some ⟨gu,ou,none⟩/\xz w gu ou m used) (F:Option Addr) (nf cf:Nat) (fin:List (Int×Int)) (hf:fin.length=nf) (FX:nf<=1000) (hF:gP w F fin) (E:List (Int×Int)->List Bool->Bool)
 (hE:∀(W:World) (A':Option Addr) (n' c':Nat) (Hx:List (Int×Int)) (g2 o2 c2:Nat) (i:Nat),Below w.heap.size w W->Hx.length=n'->n'<=P->sq Hx->gP W A' Hx->i<m->used.getD i true=false->xz W g2 o2 m (used.set i true)->
   Calls prog 48 #[.slice A' n' c', .int .i64 (P:Int), .slice AL m c, .slice (some ⟨g2,o2,none⟩) m c2, .slice F nf cf] W λr w'=>r= .returned (.bool (E Hx (used.set i true)))/\Below W.heap.size W w'):
 Calls prog 48 #[.slice A n8 c8, .int .i64 (P:Int), .slice AL m c, .slice AU m cu, .slice F nf cf] w λr w'=>r= .returned (.bool ((wh l used&&vs==fin)||(List.range m).any (JN P l vs used E)))/\Below w.heap.size w w':=by
 have HR:=ag hR;have HL:=ag (And.intro hl (And.intro FZ kE));have HP:=ag hP;have HU:=ag hU;have HUL:=ag I8;have HLL:=ag iW;have HE:=ag hE;have HPB:=ag Jt
 have LD:Hid (∀W,Below w.heap.size w W->Calls prog 13 #[.slice A n8 c8, .slice F nf cf] W λr w'=>r= .returned (.bool (vs==fin))/\Below W.heap.size W w'):=λW hW=>by
  have:=kT (w:=W) A F n8 c8 nf cf vs fin hl hf ⟨by omega,by omega⟩ (hR.below hW) (hF.below hW);rw[show decide (vs=fin)=(vs==fin) by rw[Ps];simp]at this;exact this
 have iV:Hid (wh l used=(List.range m).all (JO l used)):=by show _=_;rw[<-iW];rfl
 generalize (vs==fin)=sm at LD |-;rw[iV.out];clear hR hl hP hU I8 iW hE hf hF iV FZ kE FX Jt;go_enter func48,ntmps48
 go_wp2;go_loopw [20,11,12,21,22,23,24,25,26,27,28,29,36,31,32,33,34,35,36,37,38] (λi b _ _ _ _ _ _ _ _ _ _ _ _ _ _ _ _ _ _ _ wr=>∃j:Nat,j<=m/\i= .int .i64 j/\b= .bool ((List.range j).all (JO l used))/\Below w.heap.size w wr) (λi b _ _ _ _ _ _ _ _ _ _ _ _ _ _ _ _ _ _ _ _=>m-(intOf i).toNat)
 case atStart=>exact⟨0,by omega,rfl,by simp,bZ _ _⟩
 case round=>
  obtain⟨j,hj,rfl,rfl,hB⟩:=hrel;have HB:=ag hB;by_cases aM:j<m
  . have dx:(j:Int)<(m:Int):=by omega
    have fX:=ag (fG (JO l used) j);obtain⟨g,off,hA,Gd⟩:=HP.out ae;obtain⟨gu,ou,ZR,Js⟩:=HU.out ae;have fK:g<wr.heap.size:=(Gd.bl hB).1;have QW:gu<wr.heap.size:=(Js.bl hB).1;have cuj:=(Js.bl hB).2 j aM;obtain⟨_,_,_,_,_,_,a4,_,_⟩:=(Gd.bl hB).2 j aM;have uP:Hid (JO l used j=(used.getD j true|| !(l.getD j du).ended)):=rfl;generalize used.getD j true=uj at cuj uP;generalize (l.getD j du).ended=ed at a4 uP;generalize (List.range j).all (JO l used)=av at fX |-;rw[uP.out]at fX;clear hB Gd Js uP;subst hA ZR;cases av with
    |false=>
     go_wp2;exact⟨⟨j+1,by omega,by go_num,by rw[fX.out];rfl,HB.out⟩,by simp[intOf];omega⟩
    |true=>
     cases uj with
     |true=>
      go_wp2;exact⟨⟨j+1,by omega,by go_num,by rw[fX.out];rfl,HB.out⟩,by simp[intOf];omega⟩
     |false=>
      go_wp2;exact⟨⟨j+1,by omega,by go_num,by rw[fX.out];rfl,HB.out⟩,by simp[intOf];omega⟩
  . obtain rfl:j=m:=by omega
    obtain⟨ra,zA⟩:=aH ((List.range j).all (JO l used));rw[zA];have Xz:=ag zA;clear hB zA;go_upto_region 7 with(fail)
    go_cut [44]from 39 to 43 (λs wx=>s= .bool (ra&&sm)/\Below w.heap.size w wx)
    case first=>
     cases ra with
     |true=>
      go_wp2_with (go_at_call 13;refine(LD.out _ HB.out).mono ?_;rintro e w' ⟨rfl,hb⟩;obtain⟨x,rfl⟩:=aE hb;clear hb)
      go_meet;exact⟨rfl,ji HB.out x⟩
     |false=>
      go_wp2;go_meet;exact⟨rfl,HB.out⟩
    case rest=>
    obtain⟨rfl,Li⟩:=hcut;have Sj:=ag Li;clear Li HB;obtain⟨rs,YR⟩:=aH ((ra&&sm));rw[YR];have NI:Hid (((List.range j).all (JO l used)&&sm)=rs):=by show _=_;rw[Xz.out];exact YR
    clear YR Xz;cases rs with
    |true=>
     go_wp2;exact bH (v:= .bool true) (by simp[results,results48,go_sem]) rfl ⟨by rw[NI.out];rfl,Sj.out⟩
    |false=>
     go_wp2;go_loopw [47,10,13,14,15,16,17,48,49,50,51,52,53,54,55,56,57,58,59,60,61,62,63,64,65,66,67,68,69,70,71,72,73,74,75,76,77,78,79,80,81,82,83,84,85,86,87,88,89,90,91,92,93,94,95,96,97,98,99,100,101] (λi _ _ _ _ _ _ _ _ _ _ _ _ _ _ _ _ _ _ _ _ _ _ _ _ _ _ _ _ _ _ _ _ _ _ _ _ _ _ _ _ _ _ _ _ _ _ _ _ _ _ _ _ _ _ _ _ _ _ _ _ wr=>∃q:Nat,q<=j/\i= .int .i64 q/\(List.range q).any (JN P l vs used E)=false/\Below w.heap.size w wr) (λi _ _ _ _ _ _ _ _ _ _ _ _ _ _ _ _ _ _ _ _ _ _ _ _ _ _ _ _ _ _ _ _ _ _ _ _ _ _ _ _ _ _ _ _ _ _ _ _ _ _ _ _ _ _ _ _ _ _ _ _ _=>j-(intOf i).toNat)
     case atStart=>exact⟨0,by omega,rfl,by simp,Sj.out⟩
     case round=>
      clear Sj;obtain⟨q,hq,rfl,zJ,hB⟩:=hrel;have Sp:=ag zJ;have HB:=ag hB;by_cases aM:q<j
      . have dx:(q:Int)<(j:Int):=by omega
        have bh:=lp (JN P l vs used E) q;rw[zJ,Bool.false_or]at bh;have fX:=ag bh;have HTR:=ag (ll (JN P l vs used E) aM);obtain⟨g,off,hA,Gd⟩:=HP.out ae;obtain⟨gu,ou,ZR,Js⟩:=HU.out ae;subst hA ZR;have fK:g<wr.heap.size:=(Gd.bl hB).1;have QW:gu<wr.heap.size:=(Js.bl hB).1;obtain⟨a0,a1,a2,a3,b4,b5,a4,a5,a6⟩:=(Gd.bl hB).2 q aM;have VW:=ag (Gd.bl hB);have HUU:=ag (Js.bl hB);have jP:Hid (∀W,Below wr.heap.size wr W->Calls prog 74 #[.slice (some ⟨g,off,none⟩) j c, .slice (some ⟨gu,ou,none⟩) j cu, .int .i64 (q:Int)] W λr w'=>r= .returned (.bool (eR l used q))/\Below W.heap.size W w'):=λW hW=>vg W g off j c l HLL.out hm (VW.out.bl hW) gu ou cu used (HUU.out.bl hW) q aM
        have HUS:Hid (eR l used q=true->used.getD q true=false):=λh=>by
         unfold eR at h;rw[kz]at h;simpa using h.1
        have HG:Hid (JN P l vs used E q=(eR l used q&&pR P vs (l.getD q du)&&E (pS P vs (l.getD q du)) (used.set q true))):=rfl;have uN:Hid (pR P vs (l.getD q du)=(!(l.getD q du).ended||((cI P vs (l.getD q du).c).2.1==(l.getD q du).got&&(cI P vs (l.getD q du).c).2.2==(l.getD q du).err))):=rfl;have uP:Hid (pS P vs (l.getD q du)=(cI P vs (l.getD q du).c).1):=rfl;have La:=jb q;generalize (l.getD q du).c=cl at a0 a1 a2 a3 uN uP La;generalize (l.getD q du).bg=bg at b4;generalize (l.getD q du).en=en at b5;generalize (l.getD q du).ended=ed at a4 uN;generalize (l.getD q du).got=got at a5 uN;generalize (l.getD q du).err=err at a6 uN;have AA:Hid (∀W,Below wr.heap.size wr W->Calls prog 24 #[.slice A n8 c8, .int .i64 (P:Int), .agg #[.int .i64 (cl.kind:Int), .int .u64 cl.key, .int .u64 cl.val, .int .u64 cl.old, .int .i64 bg, .int .i64 en, .bool ed, .int .u64 got, .int .i64 err]] W (GY A W (cI P vs cl))):=λW hW=>sI n8 c8 HL.out.1 (f_ HL.out.2.1 HPB.out) ((HR.out.below HB.out).below hW) HL.out.2.2 P HPB.out cl La bg en ed got err
        have VV:Hid ((cI P vs cl).1.length<=P/\sq (cI P vs cl).1):=⟨Ii HL.out.2.2 (by rw[HL.out.1];exact HL.out.2.1),yz HL.out.2.2⟩;generalize (cl.kind:Int)=ck at a0 AA;generalize cl.key=cky at a1 AA;generalize cl.val=cvl at a2 AA;generalize cl.old=cod at a3 AA;generalize cI P vs cl=ap at uN uP AA VV;obtain⟨nq,gv,ge⟩:=ap;dsimp only at uN uP VV;rw[uN.out,uP.out]at HG;generalize eR l used q=rn at jP HG HUS;clear Gd Js zJ hB bh uN uP;cases rn with
        |false=>
         go_wp2_with (go_at_call 74;refine(jP.out _ (bZ _ _)).mono ?_;rintro e w' ⟨rfl,hb⟩;obtain⟨x1,rfl⟩:=aE hb;clear hb)
         exact⟨⟨q+1,by omega,by go_num,by rw[fX.out,HG.out];rfl,ji HB.out x1⟩,by simp[intOf];omega⟩
        |true=>
         rw[B5]at HG;go_upto_region 13 with(go_at_call 74;refine(jP.out _ (bZ _ _)).mono ?_;rintro e w' ⟨rfl,hb⟩;obtain⟨x1,rfl⟩:=aE hb;clear hb)
         have k0:x1.w.cell? ⟨g,off+q*9,none⟩=some (.int .i64 ck):=(x1.below.cell (p:=⟨g,off+q*9,none⟩) fK).trans a0;have k1:x1.w.cell? ⟨g,off+q*9+1,none⟩=some (.int .u64 cky):=(x1.below.cell (p:=⟨g,off+q*9+1,none⟩) fK).trans a1;have k2:x1.w.cell? ⟨g,off+q*9+2,none⟩=some (.int .u64 cvl):=(x1.below.cell (p:=⟨g,off+q*9+2,none⟩) fK).trans a2;have k3:x1.w.cell? ⟨g,off+q*9+3,none⟩=some (.int .u64 cod):=(x1.below.cell (p:=⟨g,off+q*9+3,none⟩) fK).trans a3;have k4:x1.w.cell? ⟨g,off+q*9+4,none⟩=some (.int .i64 bg):=(x1.below.cell (p:=⟨g,off+q*9+4,none⟩) fK).trans b4;have k5:x1.w.cell? ⟨g,off+q*9+5,none⟩=some (.int .i64 en):=(x1.below.cell (p:=⟨g,off+q*9+5,none⟩) fK).trans b5;have k6:x1.w.cell? ⟨g,off+q*9+6,none⟩=some (.bool ed):=(x1.below.cell (p:=⟨g,off+q*9+6,none⟩) fK).trans a4;have k7:x1.w.cell? ⟨g,off+q*9+7,none⟩=some (.int .u64 got):=(x1.below.cell (p:=⟨g,off+q*9+7,none⟩) fK).trans a5;have k8:x1.w.cell? ⟨g,off+q*9+8,none⟩=some (.int .i64 err):=(x1.below.cell (p:=⟨g,off+q*9+8,none⟩) fK).trans a6;have Zt:g<x1.w.heap.size:=cD fK x1.size;go_upto_region 14 with(go_at_call 24;(with_reducible refine(AA.out _ aC).mono ?_);rintro e w4 ⟨A4,m4,c4,rfl,Bk,nI,kH,_⟩;have uQ:=ag (And.intro Bk nI);have Ay:Hid (Below wr.heap.size wr w4):=x1.below.trans (kH.mono x1.size);clear Bk nI kH)
         clear k0 k1 k2 k3 k4 k5 k6 k7 k8;have Bk:=uQ.out.1;have nI:=uQ.out.2;have l9:=Ay.out;clear uQ Ay;obtain⟨wd,rfl⟩:∃wd,wd=w4:=⟨w4,rfl⟩;have Az:=ag l9;have uQ:=ag (And.intro Bk nI);have Zdc:g<wd.heap.size:=cD fK l9.size;have d4:wd.cell? ⟨g,off+q*9+6,none⟩=some (.bool ed):=(l9.cell (p:=⟨g,off+q*9+6,none⟩) fK).trans a4;have d5:wd.cell? ⟨g,off+q*9+7,none⟩=some (.int .u64 got):=(l9.cell (p:=⟨g,off+q*9+7,none⟩) fK).trans a5;have d6:wd.cell? ⟨g,off+q*9+8,none⟩=some (.int .i64 err):=(l9.cell (p:=⟨g,off+q*9+8,none⟩) fK).trans a6;clear a0 a1 a2 a3 b4 b5 a4 a5 a6 Zt Bk nI l9 jP AA;go_cut [88]from 66 to 87 (λs wx=>s= .bool (!(!ed||(gv==got&&ge==err)))/\wd=wx)
         case first=>
          cases ed with
          |false=>
           go_wp2;go_meet;exact⟨rfl,rfl⟩
          |true=>
           by_cases h1:gv=got
           . by_cases h2:ge=err
             . have ZT:(gv !=got)=false:=by simp[h1]
               have Ju:(ge !=err)=false:=by simp[h2]
               go_wp2;go_meet;exact⟨by simp[h1,h2],rfl⟩
             . have ZT:(gv !=got)=false:=by simp[h1]
               have Ju:(ge !=err)=true:=by simp[h2]
               go_wp2;go_meet;exact⟨by simp[h1,h2],rfl⟩
           . have ZT:(gv !=got)=true:=by simp[h1]
             go_wp2;go_meet;exact⟨by simp[h1],rfl⟩
         case rest=>
         obtain⟨rfl,rfl⟩:=hcut;generalize (!ed||(gv==got&&ge==err))=rf at HG |-;clear d4 d5 d6;cases rf with
         |false=>
          go_wp2;exact⟨⟨q+1,by omega,by go_num,by rw[fX.out,HG.out];rfl,HB.out.trans (Az.out.mono HB.out.size)⟩,by simp[intOf];omega⟩
         |true=>
          rw[B5]at HG
          go_upto_region 16 with(first
           |(at_builtin;refine ay rfl (.tmp 89) (.tmp 90) 122 rfl 4 (.bool false) 1 1 rfl ae underlying122 vG ae (some ⟨wd.heap.size,0,none⟩) 0 0 [] ⟨gu,ou,none⟩ j cu (bools used) rfl rfl (C_ wd 4) (by rw[cJ,HUL.out];omega) ae (xz.cells (HUU.out.bl (ai Az.out _)) HUL.out) (vW _) ae ?_;intro A3 c3 w3 GK fo R0 V2))
          obtain rfl:=V2.out ae;have lR:wr.heap.size<=wd.heap.size:=Az.out.size;have NH:Hid (Sl 4 1 w3 (some ⟨wd.heap.size+1,0,none⟩) j c3 (bools used)):=by have:=GK.out;show Sl _ _ _ _ _ _ _;simpa using this
          have qK:Hid (Below wd.heap.size wd w3):=bM (ai (bZ _ _) _) fo.out (λb hb=>by simp[ah]at hb;omega);have Hu:Hid (Below wr.heap.size wr w3):=Az.out.trans (qK.out.mono Az.out.size);have HGM:Hid (wd.heap.size<=wd.heap.size+1):=lM _;obtain⟨gm,DL⟩:=aH (wd.heap.size+1);have e1:(wd.alloc (.cells #[] 4)).heap.size=gm:=by rw[<-DL];simp
          rw[DL]at NH HGM;try rw[e1]
          have bU:w3.cell? ⟨gm,q,none⟩=some (.bool (used.getD q true)):=by have:=NH.out.blP.2 q aM;rwa[cY]at this
          have MX:=NH.out.mZ q;have Zs:=NH.out.lt (b:=gm) (by simp[ah])
          have R5:Hid (xz (w3.setCell ⟨gm,q,none⟩ (.bool true)) gm 0 j (used.set q true)):=by
           have h1:=NH.out.set (j:=q) (by rw[cJ,HUL.out];exact aM) (.bool true);rw[cY,<-tE]at h1;exact h1.blP
          have J7:Hid (Below wd.heap.size wd (w3.setCell ⟨gm,q,none⟩ (.bool true))):=gZ qK.out (p:=⟨gm,q,none⟩) HGM.out _;have Sk:Hid (Below wr.heap.size wr (w3.setCell ⟨gm,q,none⟩ (.bool true))):=Az.out.trans (J7.out.mono Az.out.size);clear GK fo R0 V2 NH Hu qK DL e1;go_upto_region 17 with(fail)
          obtain⟨W4,M8⟩:=aH (w3.setCell ⟨gm,q,none⟩ (.bool true));rw[M8]at R5 Sk J7 |-
          have Oh:Hid (Calls prog 48 #[.slice A4 m4 c4, .int .i64 (P:Int), .slice (some ⟨g,off,none⟩) j c, .slice (some ⟨gm,0,none⟩) j c3, .slice F nf cf] W4 λr w'=>r= .returned (.bool (E nq (used.set q true)))/\Below W4.heap.size W4 w'):=
           HE.out W4 A4 m4 c4 nq gm 0 c3 q (HB.out.trans (Sk.out.mono HB.out.size)) uQ.out.1 (by rw[<-uQ.out.1];exact VV.out.1) VV.out.2 (uQ.out.2.below J7.out) aM (HUS.out (by first|rfl|trivial)) R5.out
          generalize E nq (used.set q true)=ev at Oh HG;clear M8 bU MX Zs HUS;cases ev with
          |true=>
           go_wp2_with (go_at_call 48;refine Oh.out.mono ?_;rintro e w' ⟨rfl,hb⟩;obtain⟨x5,rfl⟩:=aE hb;clear hb)
           exact bH (v:= .bool true) (by simp[results,results48,go_sem]) rfl ⟨by rw[HTR.out HG.out,Bool.or_true],ji (HB.out.trans (Sk.out.mono HB.out.size)) x5⟩
          |false=>
           go_wp2_with (go_at_call 48;refine Oh.out.mono ?_;rintro e w' ⟨rfl,hb⟩;obtain⟨x5,rfl⟩:=aE hb;clear hb)
           exact⟨⟨q+1,by omega,by go_num,by rw[fX.out,HG.out],ji (HB.out.trans (Sk.out.mono HB.out.size)) x5⟩,by simp[intOf];omega⟩
      . obtain rfl:q=j:=by omega
        have HB:=ag hB;have Sp:=ag zJ;clear zJ hB;go_wp2;exact bH (v:= .bool false) (by simp[results,results48,go_sem]) rfl ⟨by rw[NI.out,Sp.out];rfl,HB.out⟩
def lB(used:List Bool):Nat:=(used.filter (λb=> !b)).length
theorem nG(used:List Bool)(i:Nat)(h:used.getD i true=false):lB (used.set i true)+1=lB used:=by
 unfold lB;induction used generalizing i with
 |nil=>simp at h
 |cons x l ih=>
  cases i with
  |zero=>
   have:x=false:=by simpa using h
   subst this;simp
  |succ i=>
   have:=ih i (by simpa using h);rw[List.set_cons_succ,sN,sN];split
   . simp only[List.length_cons];omega
   . exact this
theorem sZ(used:List Bool)(h:lB used=0)(i:Nat):used.getD i true=true:=by
 by_cases hi:i<used.length
 . cases hx:used.getD i true with
   |true=>rfl
   |false=>have:=nG used i hx;omega
 . rw[eY,oY ae];rfl
theorem vB(m:Nat):lB (List.replicate m false)=m:=by
 unfold lB;rw[yZ.2 (by intro a ha;rw[(List.mem_replicate.1 ha).2];rfl),yO]
theorem sH(P:Nat)(Jt:P<=1000)(m c:Nat)(AL:Option Addr)(l:List RQ)(iW:l.length=m)(jb:∀k,(l.getD k du).c.kind<=3)(hm:m<=1000)(F:Option Addr)(nf cf:Nat)(fin:List (Int×Int))(hf:fin.length=nf)(FX:nf<=1000)(N:Nat):∀(w:World) (A:Option Addr) (n8 c8:Nat) (vs:List (Int×Int)) (AU:Option Addr) (cu:Nat) (used:List Bool),lB used=N->vs.length=n8->n8<=P->sq vs->gP w A vs->
 (0<m->∃g off,AL=some ⟨g,off,none⟩/\Bz w g off m l)->used.length=m->(0<m->∃gu ou,AU=some ⟨gu,ou,none⟩/\xz w gu ou m used)->gP w F fin->
 Calls prog 48 #[.slice A n8 c8, .int .i64 (P:Int), .slice AL m c, .slice AU m cu, .slice F nf cf] w λr w'=>r= .returned (.bool (exq P l fin N vs used))/\Below w.heap.size w w':=by
 induction N with
 |zero=>
  intro w A n8 c8 vs AU cu used hN hl FZ kE hR hP I8 hU hF;refine(pT P Jt w A n8 c8 vs hl FZ kE hR AL m c l iW jb hm hP AU cu used I8 hU F nf cf fin hf FX hF (λ_ _=>false) (λW A' n' c' Hx g2 o2 c2 i _ _ _ _ _ _ hx _=>by rw[sZ used hN i]at hx;cases hx)).mono ?_;rintro e w' ⟨rfl,hb⟩;refine⟨?_,hb⟩
  have h0:(List.range m).any (JN P l vs used λ_ _=>false)=false:=by
   rw[KI];intro i _;simp[JN]
  rw[h0,tY];rfl
 |succ N ih=>
  intro w A n8 c8 vs AU cu used hN hl FZ kE hR hP I8 hU hF
  refine(pT P Jt w A n8 c8 vs hl FZ kE hR AL m c l iW jb hm hP AU cu used I8 hU F nf cf fin hf FX hF (exq P l fin N) (λW A' n' c' Hx g2 o2 c2 i hB hv G8 oO hr hi hx hBl=>
   ih W A' n' c' Hx (some ⟨g2,o2,none⟩) c2 (used.set i true) (by have:=nG used i hx;omega) hv G8 oO hr (λh0=>by
    obtain⟨g,off,h1,h2⟩:=hP h0;exact⟨g,off,h1,h2.bl hB⟩) (by rw[lO];exact I8) (λ_=>⟨g2,o2,rfl,hBl⟩) (hF.below hB))).mono ?_
  rintro e w' ⟨rfl,hb⟩;refine⟨?_,hb⟩;rw[<-iW];rfl
theorem mD(w:World)(P:Nat)(Jt:P<=1000)(A:Option Addr)(n8 c8:Nat)(vs:List (Int×Int))(hl:vs.length=n8)(FZ:n8<=P)(kE:sq vs)(hR:gP w A vs)(AL:Option Addr)(m c:Nat)(l:List RQ)(iW:l.length=m)(jb:∀k,(l.getD k du).c.kind<=3)(hm:m<=1000)(hP:0<m->∃g off,AL=some ⟨g,off,none⟩/\Bz w g off m l)
 (F:Option Addr) (nf cf:Nat) (fin:List (Int×Int)) (hf:fin.length=nf) (FX:nf<=1000) (hF:gP w F fin):
 Calls prog 29 #[.slice A n8 c8, .int .i64 (P:Int), .slice AL m c, .slice F nf cf] w λr w'=>r= .returned (.bool (exq P l fin m vs (List.replicate m false)))/\Below w.heap.size w w':=by
 have zE:=λW=>lh W m hm
 have oG:Hid (Below w.heap.size w (w.alloc (.cells (bools (List.replicate m false)).toArray 4))):=ai (bZ _ _) _
 have HE:Hid (Calls prog 48 #[.slice A n8 c8, .int .i64 (P:Int), .slice AL m c, .slice (some ⟨w.heap.size,0,none⟩) m m, .slice F nf cf] (w.alloc (.cells (bools (List.replicate m false)).toArray 4)) λr w'=>r= .returned (.bool (exq P l fin m vs (List.replicate m false)))/\Below (w.alloc (.cells (bools (List.replicate m false)).toArray 4)).heap.size (w.alloc (.cells (bools (List.replicate m false)).toArray 4)) w'):=
  sH P Jt m c AL l iW jb hm F nf cf fin hf FX m _ A n8 c8 vs (some ⟨w.heap.size,0,none⟩) m (List.replicate m false) (vB m) hl FZ kE (hR.below oG.out) (λh0=>by
   obtain⟨g,off,h1,h2⟩:=hP h0;exact⟨g,off,h1,h2.bl oG.out⟩) smQ (λ_=>⟨_,0,rfl,(Da (CB.new _ _ _) smQ hm).blP⟩) (hF.below oG.out)
 clear hR hP hF hl iW hf;go_enter func29,ntmps29
 go_wp2_with (go_at_call 48;refine HE.out.mono ?_;rintro e w' ⟨rfl,hb⟩;obtain⟨x,rfl⟩:=aE hb;clear hb)
 go_ret;exact⟨rfl,ji oG.out x⟩
theorem o_.le{κ:Nat->Nat}{p d q n lines NN N:Nat}{t:Nat->Nat}{vs:List (Int×Int)}{w:World}{σ:PwS}{xs:List Int}{L:Nat->Int}{Tr:Nat->TT}{fl:List Nat}(h:o_ κ p d q n lines NN t w vs N σ xs L Tr fl):vs.length<=NN:=by
 have:=h.Ef.ab.ct;omega
structure Hv(κ:Nat->Nat)(p d q n lines NN:Nat)(t:Nat->Nat)(q0:List (Int×Int))(ms:List TM)(gs oz:List Nat)(Am:Option Addr)(cm:Nat)(bs:Nat->Option Nat)(w:World)(σ:PwS)(xs:List Int)(L:Nat->Int)(Tr:Nat->TT)(fl:List Nat)(ord:List Nat)(N T:Nat):Prop where
 qu:Hk κ p d q n lines NN t bs w σ
 qw:TW aR (cP 0) n (aF NN) q0 σ ms N T xs L Tr fl ord
 bi:∀(i:Nat) (m:TM),ms[i]?=some m->m.ph.over=false->bs m.th=some (oz.getD i 0)
 bo:∀th,(∀(i:Nat) (m:TM),ms[i]?=some m->m.ph.over=false->m.th≠th)->bs th=none
 mm:∀(i:Nat) (m:TM),ms[i]?=some m->Xv NN κ i p q t w (gs.getD i 0) (oz.getD i 0) m
 lg:gs.length=ms.length
 la:oz.length=ms.length
 sl:Sl 35 1 w Am ms.length cm (gs.map xF)
 am:∀b,ah Am b->κ b=3
 xG:xr lines L
section
variable{κ dL:Nat->Nat}{p d q n lines NN N T i:Nat}{t:Nat->Nat}{q0:List (Int×Int)}{ms:List TM}{gs oz:List Nat}{Am AO:Option Addr}{cm c5 a gm:Nat}{bs:Nat->Option Nat}{w w' w1 w5:World}{σ σ':PwS}{xs dz:List Int}{L L':Nat->Int}{Tr wY:Nat->TT}{fl eG:List Nat}{ord aZ:List Nat}{m m':TM}{c:aW}{k:Oa}{rl:Nat->List aW}{now:Nat->Option Nat}{mu:Nat}{A:Nat->Option Addr}{cp:Nat->Nat}
theorem Bx.frM(h:Bx k rl now ms gs T mu w κ A cp oz Am cm bs σ xs L Tr fl ord N):Hv κ k.p k.d k.q k.n k.lines k.NN k.t k.q0 ms gs oz Am cm bs w σ xs L Tr fl ord N T:=
 ⟨h.mem.qu,h.qw,h.mem.bi,h.mem.bo,h.mem.mm,h.mem.lg,h.mem.la,h.mem.sl,λb hb=>(h.mem.bk.am b hb).1,h.xG⟩
def FsP(κ:Nat->Nat)(p d q n lines NN:Nat)(t:Nat->Nat)(q0:List (Int×Int))(ms:List TM)(gs oz:List Nat)(Am:Option Addr)(cm:Nat)(L:Nat->Int)(σ:PwS)(N T i:Nat)(w:World)(e:Ending)(w':World):Prop:=
 e= .returned (.tuple #[])/\∃(m':TM) (dL:Nat->Nat) (VE:Nat->Option Nat) (σ':PwS) (dz:List Int) (L':Nat->Int) (wY:Nat->TT) (eG:List Nat) (aZ:List Nat),Hv dL p d q n lines NN t q0 (ms.set i m') gs oz Am cm VE w' σ' dz L' wY eG aZ (N+1) (T+1)/\(∀b,b<w.heap.size->dL b=κ b)/\Ch (λb=>κ b≠1/\κ b≠3) w w'/\
  ∀lv:Nat->Bool,lv i=true->pg σ ms lv->pg σ' (ms.set i m') lv/\uS 1700 (λj=>decide (j=i)) lv (aF NN) σ' L' (ms.set i m')+1<=uS 1700 (λj=>decide (j=i)) lv (aF NN) σ L ms
theorem Hv.step(h:Hv κ p d q n lines NN t q0 ms gs oz Am cm bs w σ xs L Tr fl ord N T)(hN:N<1000000)(hP:NN<1000000)(hi:ms[i]?=some m)(bU:m.ph.over=false):
 Calls prog 32 #[.pointer (some ⟨gs.getD i 0,0,none⟩), .int .i64 (T:Int)] w (FsP κ p d q n lines NN t q0 ms gs oz Am cm L σ N T i w):=by
 refine(IQ h.qu h.qw hN hi (h.mm i m hi) (h.bi i m hi bU) bU).mono ?_;rintro e w' ⟨bl,b1,b2,rfl,dL,hk,N6,hM,hq,hC⟩;obtain⟨dz,L',wY,eG,aZ,d1,dk,d2⟩:=h.qw.O6 (BS (n:=n) (P:=8+4*NN) (by have:=h.qu.dS;omega)) hN (by have:=h.qu.nn.2;exact this) hP (MS NN) hi bU b1 b2;refine⟨rfl,_,dL,N9 (m.next T (aV aR (cP 0) (aF NN) σ m bl).2) bs,_,dz,L',wY,eG,aZ,?_,hk,hC.mono (λb hb _=>by omega),λlv h1 h2=>d2 1700 1 _ lv smQ h1 h2 (GD.one i) (a_ _)⟩;have bQ:(m.next T (aV aR (cP 0) (aF NN) σ m bl).2).th=m.th:=rfl;generalize m.next T (aV aR (cP 0) (aF NN) σ m bl).2=m' at hM hq d1 bQ |-;have fU:=kV hi;have Ek:∀{b:Nat} {ty:TypeId} {vs:Array Value},CB w b ty vs->dL b=κ b:=λ{b ty vs} hb=>hk b hb.lt
 have tj:∀(j:Nat) (mj:TM),(ms.set i m')[j]?=some mj->(j=i/\mj=m')\/(j≠i/\ms[j]?=some mj):=λj mj hj=>aJ hi hj
 have Jc:∀(j:Nat) (mj:TM),ms[j]?=some mj->mj.ph.over=false->mj.th=m.th->j=i:=λj mj hj ho he=>h.qw.sb.th.one j i mj m hj hi ho bU he
 have h0:(0:Nat)<w.heap.size:=h.qu.tab.1;refine⟨⟨N6,hq,by rw[Ek h.qu.hq];exact h.qu.kq,h.qu.tab.ch hC (λhx=>by have:=h.qu.k0;omega),by rw[hk 0 h0];exact h.qu.k0,h.qu.hn,h.qu.hP,h.qu.dS⟩,d1,λj mj hj ho=> ?_,λth aS=> ?_,λj mj hj=> ?_,by rw[lO];exact h.lg,by rw[lO];exact h.la,?_,λb hb=>by rw[hk b (h.sl.lt hb)];exact h.am b hb,h.xG.keep dk⟩
 . rcases tj j mj hj with⟨e1,e2⟩|⟨e1,e2⟩
   . subst e1 e2
     unfold N9;rw[ho];simp only[eS,dF];rw[bQ];exact h.bi j m hi bU
   . have hb:=h.bi j mj e2 ho
     unfold N9;split
     . have aG:mj.th≠m'.th:=λhx=>e1 (Jc j mj e2 ho (by rw[hx,bQ]))
       exact(ax aG).trans hb
     . exact hb
 . unfold N9
   have QH:∀(hx:m'.th≠th),bs th=none:=λhx=>h.bo th (λj mj hj ho=>by
    by_cases eb:j=i
    . subst eb
      rw[hi]at hj;injection hj with hj;rw[<-hj,<-bQ];exact hx
    . exact aS j mj (by rw[rE (cC eb)];exact hj) ho)
   split
   . rename_i DH
     by_cases hx:th=m'.th
     . exact aA hx
     . exact(ax hx).trans (QH (cC hx))
   . rename_i DH
     exact QH (aS i m' (nX fU) (by simpa using DH))
 . rcases tj j mj hj with⟨e1,e2⟩|⟨e1,e2⟩
   . rw[e1,e2];exact hM
   . exact(h.mm j mj e2).ch hC (λb _ hb=>by omega) hk
 . rw[lO]
   exact h.sl.keep (λb hb=>hC.block b (h.sl.lt hb) (λhx=>by have:=h.am b hb;omega))
theorem Hv.Yl(h:Hv κ p d q n lines NN t q0 ms gs oz Am cm bs w σ xs L Tr fl ord N T)(js:∀(i:Nat)(m:TM),ms[i]?=some m->m.th≠5)
 (g1:w.heap.size<=gm) (g2:w.heap.size<=a) (g3:a≠gm) (g4:CB w1 gm 40 (zi (tF c.c 5) a)) (g5:CB w1 a 107 (iH q 5 NN c.c)) (g6:CB w1 q 117 (aK d p NN lines (λi=>if i=5 then some a else bs i))) (g7:Ch (At q) w w1)
 (uA:Ch (ah Am) w1 w5) (vN:Sl 35 1 w5 AO (ms.length+1) c5 ((gs++[gm]).map xF)) (hW:∀b,ah AO b->ah Am b\/w1.heap.size<=b):
 Hv (jV κ w w5 ms.length gm a AO) p d q n lines NN t q0 (ms++[tF c.c 5]) (gs++[gm]) (oz++[a]) AO c5 (λi=>if i=5 then some a else bs i) w5 σ xs L Tr fl ord N T:=by
 have vI:=g7.size;have Zdd:=g4.lt;have Zdv:=g5.lt;have hC:Ch (λb=>κ b=2\/κ b=3) w w5:=(g7.mono (λb hb _=> .inl (by rw[show b=q from hb];exact h.qu.kq))).trans uA (λb hb hl=> .inr (h.am b hb));have lR:=hC.size;have ZcJ:=uA.size;have Nc:∀b,ah Am b->b<w.heap.size:=λb hb=>h.sl.lt hb
 have old:∀{b:Nat},b<w.heap.size->jV κ w w5 ms.length gm a AO b=κ b:=λhb=>ny hb
 have kk:∀{b:Nat} {ty:TypeId} {vs:Array Value},CB w b ty vs->jV κ w w5 ms.length gm a AO b=κ b:=λhb=>old hb.lt
 have zw:∀{b:Nat} {ty:TypeId} {vs:Array Value},CB w1 b ty vs->¬ah Am b->CB w5 b ty vs:=λ{b ty vs} hb h2=>hb.keep (uA.block b hb.lt h2)
 have nq:¬ah Am q:=λhx=>by have:=h.am q hx;have:=h.qu.kq;omega
 have ngm:¬ah Am gm:=λhx=>by have:=Nc gm hx;omega
 have na:¬ah Am a:=λhx=>by have:=Nc a hx;omega
 have Gh:(0:Nat)<w.heap.size:=h.qu.tab.1;have xK:jV κ w w5 ms.length gm a AO gm=2*ms.length+5:=by unfold jV;rw[ax ae,aA rfl]
 have zA:jV κ w w5 ms.length gm a AO a=2*ms.length+4:=by unfold jV;rw[ax ae,ax g3,aA rfl]
 obtain⟨m5,hm5⟩:∃m5:TM,m5=(tF c.c 5):=⟨_,rfl⟩;rw[<-hm5]at g4 |-;have e5:m5.th=5:=by rw[hm5];rfl
 refine⟨⟨?_,zw g6 nq,by rw[kk h.qu.hq];exact h.qu.kq,h.qu.tab.ch hC (λhx=>by have:=h.qu.k0;omega),by rw[old Gh];exact h.qu.k0,h.qu.hn,h.qu.hP,h.qu.dS⟩,?_,λj mj hj ho=> ?_,λth aS=> ?_,λj mj hj=> ?_,by simp[h.lg],by simp[h.la],by rw[dO];exact vN,λb hb=> ?_,h.xG⟩
 . refine(h.qu.pm.chQ hC (λb _ hb=>by omega)).less (λb hb=> ?_)
   by_cases hl:b<w.heap.size
   . left;rw[old hl]at hb;exact hb
   . right
     refine⟨by omega,?_⟩;unfold jV at hb;rw[ax hl]at hb;split at hb
     . rename_i hx;rw[hx];omega
     . split at hb
       . rename_i hx;rw[hx];omega
       . split at hb
         . rename_i hx;exact vN.lt hx
         . split at hb
           . assumption
           . omega
 . refine h.qw.add (by rw[hm5];rfl) (by rw[hm5];exact c.cOk) (.inr (.inr (.inr e5))) (λj mj hj ho=> ?_)
   rw[e5];exact js j mj hj
 . rcases k_ hj with⟨hl,e⟩|⟨hl,e⟩
   . rw[jv (by rw[h.la];exact hl)]
     exact(ax (js j mj e)).trans (h.bi j mj e ho)
   . rw[hl,<-h.la,eE,e,e5]
     exact aA rfl
 . have aG:th≠5:=λhx=>(aS ms.length m5 smQ (by rw[hm5];rfl)) (by rw[e5];exact hx.symm)
   exact(ax aG).trans (h.bo th (λj mj hj ho=>aS j mj (by rw[nY (kV hj)];exact hj) ho))
 . rcases k_ hj with⟨hl,e⟩|⟨hl,e⟩
   . rw[jv (by rw[h.lg];exact hl),jv (by rw[h.la];exact hl)]
     exact(h.mm j mj e).ch hC (λb _ hb=>by omega) (λb hb=>old hb)
   . subst e
     subst hl;have e1:(gs++[gm]).getD ms.length 0=gm:=by rw[<-h.lg];exact eE
     have e2:(oz++[a]).getD ms.length 0=a:=by rw[<-h.la];exact eE
     rw[e1,e2];refine⟨xK,zw g4 ngm,zA,?_⟩;rw[hm5];exact zw g5 na
 . rcases hW b hb with h1|h1
   . rw[old (Nc b h1)];exact h.am b h1
   . have hl:=vN.lt hb
     unfold jV;rw[ax ae,ax ae,ax ae];exact aA hb
theorem Hv.rest(h:Hv κ p d q n lines NN t q0 ms gs oz Am cm bs w σ xs L Tr fl ord N T)(aS:∀(i:Nat)(m:TM),ms[i]?=some m->m.ph.over=true):
 o_ (xh κ) p d q n lines NN t w (dY NN ms q0 ord) N σ xs L Tr fl/\VO (xh κ) w Am cm ms:=by
 have hq:=h.qu
 have jf:bs=λ_=>none:=by
  funext th
  exact h.bo th (λi m hi ho=>by rw[aS i m hi]at ho;cases ho)
 rw[jf]at hq;refine⟨⟨⟨hq.pm.less (λb hb=>KV hb),hq.hq,by rw[ud (by rw[hq.kq];omega)];exact hq.kq,hq.tab,by rw[ud (by rw[hq.k0];omega)];exact hq.k0,hq.hn,hq.hP,hq.dS⟩,⟨h.qw.inv,eZ.start h.qw.ls.ab h.qw.ls.cn (h.qw.ls.quiet aS),h.qw.sb.none aS⟩,λb _=>KW κ b,h.xG⟩,⟨gs,oz,h.sl,h.lg,λb hb=>ue (by have:=h.am b hb;omega),λi m hi=> ?_⟩⟩;have hm:=h.mm i m hi;exact⟨hm.cb,ue (by have:=hm.kg;omega)⟩
end
theorem eZ.Zb1{K:TK}{q0:List (Int×Int)}{σ:PwS}{ms:List TM}{Tm:Nat}{L:Nat->Int}{T:Nat->TT}{fl:List Nat}{ord:List Nat}{N:Nat}(h:eZ K q0 σ ms Tm L T fl ord N)(aS:∀(i:Nat)(m:TM),ms[i]?=some m->m.ph.over=true){m:TM}(hm:m∈ms):∃v e,m.ph= .fin v e/\(e=0\/e=4\/e=5\/e=6):=by
 obtain⟨i,hi⟩:=ze.1 hm;have vJ:i∈ord:=(h.perm aS).mem_iff.2 (by rw[B6];exact(ki.1 hi).1);obtain⟨p,hp⟩:=Cn vJ;exact⟨_,_,h.fin aS hp hi,yx _ _ _⟩
def FrX(GZ:Nat->Nat)(w7:World)(p d q n lines NN:Nat)(t:Nat->Nat)(q0:List (Int×Int))(M:Nat)(gs oz:List Nat)(Am:Option Addr)(cm Nb j T:Nat)(wr:World):Prop:=
 ∃(κ:Nat->Nat) (ms:List TM) (bs:Nat->Option Nat) (σ:PwS) (xs:List Int) (L:Nat->Int) (Tr:Nat->TT) (fl:List Nat) (ord:List Nat) (N:Nat),Hv κ p d q n lines NN t q0 ms gs oz Am cm bs wr σ xs L Tr fl ord N T/\ms.length=M/\(∀(i:Nat) (m:TM),j<=i->ms[i]?=some m->m.ph.over=true)/\N<=Nb+10300*(M-j)/\T<=1000+10300*(M-j)/\(∀b,b<w7.heap.size->κ b=GZ b)/\Ch (λb=>GZ b≠1/\GZ b≠3) w7 wr
def FrY(GZ:Nat->Nat)(w7:World)(p d q n lines NN:Nat)(t:Nat->Nat)(q0:List (Int×Int))(M:Nat)(gs oz:List Nat)(Am:Option Addr)(cm Nb i k T:Nat)(wr:World):Prop:=
 ∃(κ:Nat->Nat) (ms:List TM) (bs:Nat->Option Nat) (σ:PwS) (xs:List Int) (L:Nat->Int) (Tr:Nat->TT) (fl:List Nat) (ord:List Nat) (N:Nat) (lv:Nat->Bool),Hv κ p d q n lines NN t q0 ms gs oz Am cm bs wr σ xs L Tr fl ord N T/\ms.length=M/\(∀(j:Nat) (m:TM),i<j->ms[j]?=some m->m.ph.over=true)/\N<=Nb+10300*(M-(i+1))+k/\T<=1000+10300*(M-(i+1))+k/\
  lv i=true/\pg σ ms lv/\uS 1700 (λj=>decide (j=i)) lv (aF NN) σ L ms+k<=10300/\(∀b,b<w7.heap.size->κ b=GZ b)/\Ch (λb=>GZ b≠1/\GZ b≠3) w7 wr
section
variable{GZ:Nat->Nat}{w7 wr:World}{p d q n lines NN M i k T Nb cm:Nat}{t:Nat->Nat}{q0:List (Int×Int)}{gs oz:List Nat}{Am:Option Addr}
theorem FrX.start(h:FrX GZ w7 p d q n lines NN t q0 M gs oz Am cm Nb (i+1) T wr):FrY GZ w7 p d q n lines NN t q0 M gs oz Am cm Nb i 0 T wr:=by
 obtain⟨κ,ms,bs,σ,xs,L,Tr,fl,ord,N,h1,h2,h3,h4,h5,h6,h7⟩:=h;obtain⟨lv,g1,g2,g3⟩:=h1.qw.O_ i;exact⟨κ,ms,bs,σ,xs,L,Tr,fl,ord,N,lv,h1,h2,λj m hj hm=>h3 j m hj hm,by omega,by omega,g1,g2,by omega,h6,h7⟩
theorem Hv.at_{κ:Nat->Nat}{ms:List TM}{bs:Nat->Option Nat}{σ:PwS}{xs:List Int}{L:Nat->Int}{Tr:Nat->TT}{fl:List Nat}{ord:List Nat}{N:Nat}{m:TM}(h:Hv κ p d q n lines NN t q0 ms gs oz Am cm bs wr σ xs L Tr fl ord N T)(hi:ms[i]?=some m):
 ∃gS oS,Am=some ⟨gS,oS,none⟩/\gS<wr.heap.size/\wr.cell? ⟨gS,oS+i,none⟩=some (.pointer (some ⟨gs.getD i 0,0,none⟩))/\CB wr (gs.getD i 0) 40 (zi m (oz.getD i 0)):=by
 have fU:=kV hi;obtain⟨gS,oS,hA,eh,hc⟩:=h.sl.at_ (j:=i) (by rw[vk,h.lg];exact fU)
 have hx:(gs.map xF)[i]'(by rw[vk,h.lg];exact fU)= .pointer (some ⟨gs.getD i 0,0,none⟩):=by
  rw[vo,eY,dG (by rw[h.lg];exact fU)];rfl
 rw[hx]at hc;exact⟨gS,oS,hA,eh,hc,(h.mm i m hi).cb⟩
theorem FrY.cases(h:FrY GZ w7 p d q n lines NN t q0 M gs oz Am cm Nb i k T wr)(hi:i<M)(hM:M<=8)(hNb:Nb<=500000)(hP:NN<1000000):
 (k<=10300/\T<=200000)/\∃gS oS g,Am=some ⟨gS,oS,none⟩/\gS<wr.heap.size/\wr.cell? ⟨gS,oS+i,none⟩=some (.pointer (some ⟨g,0,none⟩))/\g<wr.heap.size/\∃b,wr.cell? ⟨g,11,none⟩=some (.bool b)/\
   ((b=true/\FrX GZ w7 p d q n lines NN t q0 M gs oz Am cm Nb i T wr)\/(b=false/\k<10300/\Calls prog 32 #[.pointer (some ⟨g,0,none⟩), .int .i64 (T:Int)] wr λe w'=>e= .returned (.tuple #[])/\FrY GZ w7 p d q n lines NN t q0 M gs oz Am cm Nb i (k+1) (T+1) w')):=by
 obtain⟨κ,ms,bs,σ,xs,L,Tr,fl,ord,N,lv,h1,h2,h3,h4,h5,h6,h7,h8,h9,Vj⟩:=h;have hg:ms[i]?=some (ms[i]'(by omega)):=dG ae;obtain⟨gS,oS,hA,eh,hc,gi⟩:=h1.at_ hg;refine⟨⟨by omega,by omega⟩,gS,oS,gs.getD i 0,hA,eh,hc,gi.lt,(ms[i]'(by omega)).ph.over,gi.cell 11,?_⟩;cases bU:(ms[i]'(by omega)).ph.over with
 |true=>
  refine .inl ⟨rfl,κ,ms,bs,σ,xs,L,Tr,fl,ord,N,h1,h2,λj m hj hm=> ?_,by omega,by omega,h9,Vj⟩;by_cases eb:j=i
  . subst eb
    rw[hg]at hm;injection hm with hm;rw[<-hm];exact bU
  . exact h3 j m ae hm
 |false=>
  have bh:=h1.step ae hP hg bU
  have Bh:=XV (w:=1700) (K:=aF NN) (st:=λj=>decide (j=i)) (lv:=lv) (i:=i) (L:=L) bU smQ h1.qw.inv (λd a hx=>by
   obtain⟨o,o1,o2,_⟩:=h1.qw.sb.ch i _ d a hg hx;exact⟨o,o1,o2⟩)
  have hle:=yC (f:=tM 1700 (λj=>decide (j=i)) lv (aF NN) σ L) (ms:=ms) (j:=i) 0 hg;rw[cY]at hle;have Zex:1<=uS 1700 (λj=>decide (j=i)) lv (aF NN) σ L ms:=f_ Bh hle;refine .inr ⟨rfl,by omega,bh.mono ?_⟩;rintro e w' ⟨rfl,m',dL,VE,σ',dz,L',wY,eG,aZ,f1,f2,f3,f4⟩;obtain⟨f5,f6⟩:=f4 lv h6 h7;have hs7:=Vj.size;refine⟨rfl,dL,ms.set i m',VE,σ',dz,L',wY,eG,aZ,N+1,lv,f1,by rw[lO];exact h2,λj m hj hm=> ?_,by omega,by omega,h6,f5,by omega,λb hb=>by rw[f2 b ae];exact h9 b hb,Vj.trans f3 (λb hb aM=>by rw[<-h9 b aM];exact hb)⟩;rw[rE ae]at hm;exact h3 j m hj hm
end
theorem Hv.later{κ:Nat->Nat}{p d q n lines NN N T T':Nat}{t:Nat->Nat}{q0:List (Int×Int)}{ms:List TM}{gs oz:List Nat}{Am:Option Addr}{cm:Nat}{bs:Nat->Option Nat}{w:World}{σ:PwS}{xs:List Int}{L:Nat->Int}{Tr:Nat->TT}{fl:List Nat}{ord:List Nat}(h:Hv κ p d q n lines NN t q0 ms gs oz Am cm bs w σ xs L Tr fl ord N T)(hT:T<=T'):Hv κ p d q n lines NN t q0 ms gs oz Am cm bs w σ xs L Tr fl ord N T':=
 ⟨h.qu,h.qw.later hT,h.bi,h.bo,h.mm,h.lg,h.la,h.sl,h.am,h.xG⟩
theorem Pm{w w':World}{A:Option Addr}{vs:List (Int×Int)}{S:Nat->Prop}(h:gP w A vs)(hC:Ch S w w')(hS:∀b,ah A b->b<w.heap.size->¬S b):gP w' A vs:=
 h.FL hC.size (λb hb ho=>hC.block b hb (hS b ho hb))
def FqP(W1:World)(p d q n lines NN:Nat)(t:Nat->Nat)(N m:Nat)(e:Ending)(w4:World):Prop:=
 ∃A4 c4,e= .returned (.tuple #[.slice A4 m c4, .bool true])/\gP w4 A4 (aY m)/\∃(CW:Nat->Nat) (N4:Nat) (σ4:PwS) (xs4:List Int) (L4:Nat->Int) (Tr4:Nat->TT) (fl4:List Nat),o_ CW p d q n lines NN t w4 (aY m) N4 σ4 xs4 L4 Tr4 fl4/\N4<=N+6778*m/\(∀b,ah A4 b->CW b=1)/\(∀b,b<W1.heap.size->CW b=1)/\Below W1.heap.size W1 w4
theorem Zb0{W1 w2 W:World}{κ:Nat->Nat}{p d q n lines NN N:Nat}{t:Nat->Nat}{σ:PwS}{xs:List Int}{L:Nat->Int}{Tr:Nat->TT}{fl:List Nat}(hR:o_ κ p d q n lines NN t w2 [] N σ xs L Tr fl)(hb:Below W1.heap.size W1 w2)(hk:∀b,b<W1.heap.size->κ b=1)(hW:Below w2.heap.size w2 W)(m:Nat)(hm:m<=NN)(hN:N+6778*NN<1000000):
 Calls prog 28 #[.pointer (some ⟨q,0,none⟩), .int .i64 (m:Int)] W (FqP W1 p d q n lines NN t N m):=by
 refine(DT (hR.ch hW) m hm hN).mono ?_;rintro e w4 ⟨A4,c4,rfl,CW,N4,σ4,xs4,L4,Tr4,fl4,zL,SU,ZK,uB,Bl,Gg⟩;have hs:=hb.size;have hsW:=hW.size;have hkW:∀b,b<W1.heap.size->iY κ w2 W 1 b=1:=λb aM=>by rw[bc ae];exact hk b aM
 exact⟨A4,c4,rfl,ZK.X5,CW,N4,σ4,xs4,L4,Tr4,fl4,zL,SU,λb hb=>(uB b hb).1,λb aM=>by rw[Bl b ae];exact hkW b aM,JK (hb.trans (hW.mono hs)) hkW Gg⟩
theorem zu(w:World)(hT:Tab w)(z:Int)(hz: -9223372036854775808<=z/\z<9223372036854775808)(Ac:Option Addr)(len cap:Nat)(cs:List aW)(hcs:rQ w Ac len cap cs)
 (Ap:Option Addr) (np cp:Nat) (ps:List Int) (lZ:ps.length=np) (MN:np<9223372036854775808) (FV:Rd .i64 w Ap ps) (AF:∀z∈ps,-9223372036854775808<=z/\z<9223372036854775808) (cl:aW) (gq:oF cl):
 Calls prog 8 #[.agg #[.int .i64 z, .slice Ac len cap], .slice Ap np cp,Pq cl] w λe w'=>e= .returned (.bool true)/\Below w.heap.size w w':=by
 have Oh:=ag gq;clear gq;obtain⟨c1,c2,c3,c4,c5⟩:=cl;unfold Pq;dsimp only;have N0:Below w.heap.size w ((w.alloc (.cells #[.int .i64 z, .slice Ac len cap] 73)).alloc (.cells #[.int .i64 c1, .int .i64 c2, .int .u64 c3, .int .u64 c4, .int .u64 c5] 33)):=ai (ai (bZ _ _) _) _;have BH:=ag (j8 _ (hT.below N0) 0 ae);have GR:=ag (λ(W:World) (hW:Below w.heap.size w W)=>lD W (hT.below hW));have Ax:=ag hcs;have vZ:=ag (And.intro lZ (And.intro MN (And.intro FV AF)));have HZ:=ag hz;have oG:=ag N0
 have jk:Hid (((w.alloc (.cells #[.int .i64 z, .slice Ac len cap] 73)).alloc (.cells #[.int .i64 c1, .int .i64 c2, .int .u64 c3, .int .u64 c4, .int .u64 c5] 33)).cell? ⟨w.heap.size,0,none⟩=some (.int .i64 z)/\((w.alloc (.cells #[.int .i64 z, .slice Ac len cap] 73)).alloc (.cells #[.int .i64 c1, .int .i64 c2, .int .u64 c3, .int .u64 c4, .int .u64 c5] 33)).cell? ⟨w.heap.size,1,none⟩=some (.slice Ac len cap)/\w.heap.size<((w.alloc (.cells #[.int .i64 z, .slice Ac len cap] 73)).alloc (.cells #[.int .i64 c1, .int .i64 c2, .int .u64 c3, .int .u64 c4, .int .u64 c5] 33)).heap.size):=by
  have h1:=(CB.new w 73 #[.int .i64 z, .slice Ac len cap]).below (ai (bZ _ _) (.cells #[.int .i64 c1, .int .i64 c2, .int .u64 c3, .int .u64 c4, .int .u64 c5] 33));exact⟨h1.cell 0,h1.cell 1,h1.lt⟩
 have Te:Hid (CB ((w.alloc (.cells #[.int .i64 z, .slice Ac len cap] 73)).alloc (.cells #[.int .i64 c1, .int .i64 c2, .int .u64 c3, .int .u64 c4, .int .u64 c5] 33)) (w.heap.size+1) 33 #[.int .i64 c1, .int .i64 c2, .int .u64 c3, .int .u64 c4, .int .u64 c5]):=CB.br _ _ _ smQ;clear hT hcs lZ MN FV AF hz N0;go_enter func8,ntmps8
 go_upto_region 4 with(first
  |(go_at_call 10;(with_reducible refine BH.out.mono ?_);rintro e w1 ⟨d,p,q,n,lines,NN,t,σ,N,xs,L,Tr,fl,rfl,hl,oL,nP,hR,hN,eD⟩;have dZ:=ag eD;have HX:=ag (And.intro oL (And.intro hR hN));clear hl oL nP hR hN eD)
  |(go_at_call 11;refine(GR.out _ (oG.out.trans (dZ.out.mono oG.out.size))).mono ?_;rintro e w2 ⟨rfl,dy⟩;have xx:=ag dy;clear dy))
 obtain⟨κ,hR,hb,hk⟩:=RS HX.out.1 HX.out.2.1 dZ.out xx.out;have hN:=HX.out.2.2;have iX:NN<=26:=by have:=hR.qu.hP;omega
 have DK:=Int.emod_nonneg z (show(NN:Int)+1≠0 by omega);have fv:=Int.emod_lt_of_pos z (show(0:Int)<(NN:Int)+1 by omega);obtain⟨m,hm⟩:∃m:Nat,z%((NN:Int)+1)=(m:Int):=⟨(z%((NN:Int)+1)).toNat,by omega⟩;have F3:m<=NN:=by omega
 have hV0:=hR.Ef;have rS:Hid (∀W,Below w2.heap.size w2 W->Calls prog 25 #[.pointer (some ⟨q,0,none⟩)] W λe w'=>e= .returned (.int .i64 (NN:Int))/\W=w'):=λW hW=>kZ (hV0.bl hW)
 have Hp:Hid (∀W,Calls prog 17 #[.int .i64 z, .int .i64 ((NN:Int)+1)] W λr w'=>r= .returned (.int .i64 (m:Int))/\W=w'):=λW=>by have:=qq W z HZ.out ((NN:Int)+1) ae;rw[hm]at this;exact this
 have XF:=ag (λ(W:World) (hW:Below w2.heap.size w2 W)=>Zb0 hR hb hk hW m F3 ae);have e1:IntKind.i64.wrap ((NN:Int)+1)=(NN:Int)+1:=b9 _ ae;have G_:w.heap.size<w2.heap.size:=cD jk.out.2.2 hb.size;have x0:w2.cell? ⟨w.heap.size,0,none⟩=some (.int .i64 z):=(hb.cell (p:=⟨w.heap.size,0,none⟩) jk.out.2.2).trans jk.out.1;have x1:w2.cell? ⟨w.heap.size,1,none⟩=some (.slice Ac len cap):=(hb.cell (p:=⟨w.heap.size,1,none⟩) jk.out.2.2).trans jk.out.2.1;have HK:=ag (And.intro hb (And.intro hk (And.intro hN (And.intro iX F3))));clear HX dZ xx BH GR hR hb hk hN DK fv hm F3 hV0 iX
 go_region_held3 (λw'=>w'.cell? ⟨w.heap.size,0,none⟩=some (.int .i64 z)/\w.heap.size<w'.heap.size)
  ((refine⟨?_,?_⟩<;>first|assumption|(go_simp;done)|(simp;omega)))
  (first
    |(go_at_call 25;(with_reducible refine(rS.out _ aC).mono ?_);rintro e w' ⟨rfl,rfl⟩)
    |(go_at_call 17;(with_reducible refine(Hp.out _).mono ?_);rintro e w' ⟨rfl,rfl⟩)
    |(go_at_call 28;(with_reducible refine(XF.out _ aC).mono ?_);rintro e w4 ⟨A4,cc4,rfl,nI,CW,N4,σ4,xs4,L4,Tr4,fl4,zL,SU,uB,Bl,kH⟩;have HF4:=ag (And.intro nI (And.intro zL (And.intro SU (And.intro uB Bl))));have y0:w4.cell? ⟨w.heap.size,0,none⟩=some (.int .i64 z):=(kH.cell (p:=⟨w.heap.size,0,none⟩) jk.out.2.2).trans jk.out.1;have y1:w4.cell? ⟨w.heap.size,1,none⟩=some (.slice Ac len cap):=(kH.cell (p:=⟨w.heap.size,1,none⟩) jk.out.2.2).trans jk.out.2.1;have y9:w.heap.size<w4.heap.size:=cD jk.out.2.2 kH.size;have mA:=ag kH;clear nI zL SU uB Bl kH))
 obtain⟨nI,zL,SU,uB,Bl⟩:=HF4.out;obtain⟨_,_,hN,iX,F3⟩:=HK.out;have kH:Below w.heap.size w w4:=oG.out.trans (mA.out.mono oG.out.size);have F4:∀b,b<w.heap.size->CW b=1:=λb aM=>Bl b (by have:=jk.out.2.2;omega)
 have Hh:=Ax.out.lf (κ:=CW) kH.size (λb aM=>⟨F4 b aM,kH.block b aM⟩);have hRp:=vZ.out.2.2.1.below kH;have Lc:(cs.take 7).length<=7:=by rw[gf];omega
 have Av:Hid (Calls prog 12 #[.pointer (some ⟨q,0,none⟩), .slice Ac len cap, .slice Ap np cp, .bool false] w4 (JS CW p d q n lines NN t (aY m) cs (N4+6778*(cs.take 7).length) w4 false)):=by
  refine Ll zL.qu zL.k2 zL.qw Ac len cap cs (by have:=Ax.out.2.2.1;have:=Ax.out.2.1;omega) Hh Ax.out.2.2.2.2 Ap np cp ps vZ.out.1 vZ.out.2.1 hRp (λb hb aM=> ?_) vZ.out.2.2.2 false (a_ _) ae ae zL.xG;rcases vZ.out.2.2.1 with h|⟨b2,off,h1,h2,h3⟩
  . have:=vZ.out.1;rw[h]at this;simp at this;omega
  . rw[h1]at hb
    have:b2=b:=by simpa [ah]using hb
    rw[<-this];exact F4 b2 h2
 have Si:Hid (N4+6778*(cs.take 7).length<=300000):=by show _<=_;omega
 generalize N4+6778*(cs.take 7).length=Bd at Av Si;clear nI zL SU uB Bl kH F4 Hh hRp Lc hN iX F3 rS Hp XF;go_upto_region 10 with(go_at_call 12;(with_reducible refine Av.out.mono ?_);rintro e w5 ⟨bt,rl,now,ms,gs,T,mu,Ou,A5,cp5,oz,Am,cm,bs,σ5,xs5,L5,Tr5,fl5,ord,N5,rfl,Gc,_,hT5⟩;have LF:=ag Gc;have HT5:=ag (hT5 rfl);clear Gc hT5)
 have hF:=LF.out.frM.later (T':=1000) (by have:=HT5.out;omega);have Ej:ms.length<=7:=by have:=LF.out.seven;omega
 have js:∀(i:Nat) (m:TM),ms[i]?=some m->m.th≠5:=λi m hi=>by have:=(LF.out.rn.a8 i m hi).1;omega
 have hN5:N5<=300000:=by have h9:N5+mu<=Bd:=LF.out.bd;have:=Si.out;omega
 have ZbO:bs 5=none:=hF.bo 5 (λi m hi _=>js i m hi);have Ht:Hid (Calls prog 31 #[.pointer (some ⟨q,0,none⟩), .agg #[.int .i64 c1, .int .i64 c2, .int .u64 c3, .int .u64 c4, .int .u64 c5], .int .i64 5] w5 (LN q d p NN lines 5 (aW.c ⟨c1,c2,c3,c4,c5⟩) bs w5)):=Gk hF.qu.pm hF.qu.hq 5 ae ZbO (hF.qw.inv.on.err 5) ⟨c1,c2,c3,c4,c5⟩ Oh.out;have Jp:CB w5 (w.heap.size+1) 33 #[.int .i64 c1, .int .i64 c2, .int .u64 c3, .int .u64 c4, .int .u64 c5]:=((Te.out.below mA.out)).keep (LF.out.ch.block _ (Te.out.below mA.out).lt (λhx=>by have h9:=HF4.out.2.2.2.2 (w.heap.size+1) Te.out.lt;have hx:CW (w.heap.size+1)=0\/CW (w.heap.size+1)=2:=hx;omega));have q1:=Jp.cell 0;have q2:=Jp.cell 1;have q3:=Jp.cell 2;have q4:=Jp.cell 3;have q5:=Jp.cell 4;have q6:=Jp.lt;clear Jp;have HF:=ag hF;have tK:=ag js;clear hF js ZbO;unfold LN at Ht;go_upto_region 13 with(go_at_call 31;(with_reducible refine Ht.out.mono ?_);rintro e w6 ⟨gm,a,rfl,y1,y2,y3,y4,y5,y6,y7⟩;have HY:=ag (And.intro y1 (And.intro y2 (And.intro y3 (And.intro y4 (And.intro y5 (And.intro y6 y7))))));clear y1 y2 y3 y4 y5 y6 y7)
 clear q1 q2 q3 q4 q5 q6;have xt:Hid (Sl 35 1 w6 Am ms.length cm (gs.map xF)):=HF.out.sl.keep (λb hb=>HY.out.2.2.2.2.2.2.block b (HF.out.sl.lt hb) (λhx=>by have h1:=HF.out.am b hb;have h2:=HF.out.qu.kq;rw[show b=q from hx]at h1;omega));go_upto_region 16 with(at_builtin;refine ay rfl (.tmp 60) (.tmp 62) 29 rfl 35 (.pointer none) 1 8 rfl ae underlying29 vF ae Am ms.length cm (gs.map xF) ⟨w6.heap.size,0,none⟩ 1 1 [.pointer (some ⟨gm,0,none⟩)] rfl rfl (xt.out.keep (λb hb=>d_ _ _ _ (xt.out.lt hb))) rfl ae (mh w6 35 _) (by simp;rfl) ae ?_;intro A7 c7 w7 HO7 HC7 HW7 HG7)
 have Rf:Ch (ah Am) w6 w7:=(Ch.au (S:=ah Am) (ai (bZ _ _) _)).trans HC7.out (λb hb _=>hb);obtain⟨y1,y2,y3,y4,y5,y6,y7⟩:=HY.out
 have hW7:∀b,ah A7 b->ah Am b\/w6.heap.size<=b:=λb hb=>by
  rcases HW7.out b hb with h|h
  . exact .inl h
  . right;rw[h];simp
 have hF7:=HF.out.Yl tK.out y1 y2 y3 y4 y5 y6 y7 Rf (by rw[yL];exact HO7.out) hW7;obtain⟨nI,zL,SU,uB,Bl⟩:=HF4.out;have kH:Below w.heap.size w w4:=oG.out.trans (mA.out.mono oG.out.size);have F4:∀b,b<w.heap.size->CW b=1:=λb aM=>Bl b (by have:=jk.out.2.2;omega)
 have Vd:Ch (λb=>CW b=0\/CW b=2) w4 w5:=LF.out.ch;have hold:∀b,b<w4.heap.size->Ou b=CW b:=LF.out.old;have gg:=zL.qu.hq.lt;have La:=zL.qu.kq;have YQ:=kH.size;have s45:=Vd.size;have s56:=y7.size;have s67:=Rf.size;have AH:Below w.heap.size w w5:=JK kH F4 Vd
 have Xd:Below w.heap.size w w6:=bM AH y7 (λb hb=>by
  rw[show b=q from hb];by_cases aM:q<w.heap.size
  . have:=F4 q aM;omega
  . omega)
 have Zo:∀b,b<w.heap.size->Ou b=1:=λb aM=>by rw[hold b ae];exact F4 b aM
 have Eo:Below w.heap.size w w7:=bM Xd Rf (λb hb=>by
  by_cases aM:b<w.heap.size
  . have h1:=Zo b aM;have h2:=HF.out.am b hb;omega
  . omega)
 have QT:∀b,b<w.heap.size->jV Ou w5 w7 ms.length gm a A7 b=1:=λb aM=>by rw[ny ae];exact Zo b aM
 have UF:gP w5 A4 (aY m):=Pn nI (λ_=>uB) Vd
 have UE:gP w7 A4 (aY m)/\∀b,ah A4 b->b<w4.heap.size->jV Ou w5 w7 ms.length gm a A7 b=1:=by
  refine⟨?_,λb hb aM=>by rw[ny ae,hold b aM];exact uB b hb⟩;rcases nI with h|⟨b4,o4,h1,h2,h3⟩
  . exact .inl h
  . have hOb:ah A4 b4:=by rw[h1];rfl
    have hq4:∀b,ah A4 b->b=b4:=λb hb=>by
     rw[h1]at hb;have:b4=b:=by simpa [ah]using hb
     omega
    refine Pm (Pm UF y7 (λb hb _ hx=> ?_)) Rf (λb hb _ hx=> ?_)
    . have h4:=uB b hb;rw[show b=q from hx]at h4;omega
    . have h4:=uB b4 hOb;have h5:=hold b4 h2;have h6:=HF.out.am b hx;rw[hq4 b hb]at h6;omega
 have hM:(ms++[tF (aW.c ⟨c1,c2,c3,c4,c5⟩) 5]).length=ms.length+1:=by simp
 have HFX:Hid (FrX (jV Ou w5 w7 ms.length gm a A7) w7 p d q n lines NN t (aY m) (ms.length+1) (gs++[gm]) (oz++[a]) A7 c7 N5 (ms.length+1) 1000 w7):=
  ⟨_,_,_,_,_,_,_,_,_,_,hF7,hM,λi m hi hm=>by have:=(ki.1 hm).1;omega,by omega,by omega,λb _=>rfl,Ch.refl _ _⟩
 have hA7:gP w7 A4 (aY m)/\(aY m=[]\/∀b,ah A4 b->jV Ou w5 w7 ms.length gm a A7 b=1):=by
  refine⟨UE.1,?_⟩;rcases nI with h|⟨b4,o4,h1,h2,h3⟩
  . exact .inl h
  . refine .inr (λb hb=>UE.2 b hb ?_)
    rw[h1]at hb;have:b4=b:=by simpa [ah]using hb
    omega
 have uQ:=ag (And.intro hA7 (And.intro Eo QT));have hP6:NN<1000000:=by have:=HK.out.2.2.2.1;omega
 have hM8:ms.length+1<=8:=by omega
 generalize jV Ou w5 w7 ms.length gm a A7=GZ at HFX uQ;generalize gs++[gm]=gs7 at HFX;generalize oz++[a]=oz7 at HFX;obtain⟨M,hMe⟩:=aH (ms.length+1);have HME:=ag hMe;rw[hMe]at HFX hM8 |-;clear hMe;clear Rf y1 y2 y3 y4 y5 y6 y7 hW7 hF7 nI zL SU uB Bl kH F4 Vd hold gg La YQ s45 s56 s67 AH Xd Zo Eo QT UF UE hM hA7 Ej HO7 HC7 HW7 HG7 HY xt HF tK LF HT5 Ht Av HF4 mA oG Si jk Te Oh;have e2:IntKind.i64.wrap ((M:Int)-1)=(M:Int)-1:=b9 _ ae;go_wp2;go_loopw [16,15,6,17,67,68,69,70,71,72,73,74,75,76,77,78,79,80,81,82,83,84,85,86,87,88,89,90,91,92,93,94,95,96,97,98,99,100] (λi a _ _ _ _ _ _ _ _ _ _ _ _ _ _ _ _ _ _ _ _ _ _ _ _ _ _ _ _ _ _ _ _ _ _ _ _ wr=>∃(j T:Nat),j<=M/\i= .int .i64 ((j:Int)-1)/\a= .int .i64 (T:Int)/\FrX GZ w7 p d q n lines NN t (aY m) M gs7 oz7 A7 c7 N5 j T wr) (λi a _ _ _ _ _ _ _ _ _ _ _ _ _ _ _ _ _ _ _ _ _ _ _ _ _ _ _ _ _ _ _ _ _ _ _ _ _=>((intOf i)+1).toNat)
 case atStart=>exact⟨M,1000,a_ _,by rw[show((M:Int)-1)=(ms.length:Int) by have:=HME.out;omega],rfl,HFX.out⟩
 case round=>
  clear HFX;obtain⟨j,T,hj,rfl,rfl,hX⟩:=hrel;have HX:=ag hX;clear hX;by_cases aM:0<j
  . obtain⟨i,rfl⟩:∃i,j=i+1:=⟨j-1,by omega⟩
    have hi:((i+1:Nat):Int)-1=(i:Int):=by omega
    have Ha:(0:Int)<=(i:Int):=by omega
    rw[hi];have Xx:=ag HX.out.start;go_wp2;go_loopw [17,15,71,72,73,74,75,76,77,78,79,80,81,82,83,84,85,86,87,88,89,90,91,92] (λk a _ _ _ _ _ _ _ _ _ _ _ _ _ _ _ _ _ _ _ _ _ _ wr=>∃(k' T:Nat),k= .int .i64 (k':Int)/\a= .int .i64 (T:Int)/\FrY GZ w7 p d q n lines NN t (aY m) M gs7 oz7 A7 c7 N5 i k' T wr) (λk a _ _ _ _ _ _ _ _ _ _ _ _ _ _ _ _ _ _ _ _ _ _ _=>10300-(intOf k).toNat)
    case atStart=>exact⟨0,T,rfl,rfl,Xx.out⟩
    case round=>
     clear Xx HX;obtain⟨k',T',rfl,rfl,hY⟩:=hrel;obtain⟨⟨hk,hT9⟩,gS,oS,g,hA,hgS,hcS,hg,b,Q2,ig⟩:=hY.cases ae hM8 ae hP6;have fC:(k':Int)<20000:=by omega
     have hiM:(i:Int)<(M:Int):=by omega
     subst hA;clear hY;rcases ig with⟨rfl,hX2⟩|⟨rfl,wL,bh⟩
     . have NF:=ag hX2
       have e3:IntKind.i64.wrap ((i:Int)-1)=(i:Int)-1:=b9 _ ae;clear hX2;go_wp2;exact⟨⟨i,T',by omega,by go_num,rfl,NF.out⟩,by(simp[intOf])<;>omega⟩
     . have fX:=ag bh
       have e3:IntKind.i64.wrap ((k':Int)+1)=(k':Int)+1:=b9 _ ae;have e4:IntKind.i64.wrap ((T':Int)+1)=(T':Int)+1:=b9 _ ae;clear bh;go_wp2_with (go_at_call 32;(with_reducible refine fX.out.mono ?_);rintro e w' ⟨rfl,hY2⟩;have HY2:=ag hY2;clear hY2)
       exact⟨⟨k'+1,T'+1,by go_num,by go_num,HY2.out⟩,by simp[intOf];omega⟩
  . obtain rfl:j=0:=by omega
    obtain⟨κ8,Uh,bs8,σ8,xs8,L8,Tr8,fl8,Za6,N8,h1,h2,h3,_,_,_,h7⟩:=HX.out;have aS:∀(i:Nat) (m:TM),Uh[i]?=some m->m.ph.over=true:=λi m hi=>h3 i m (im _) hi
    obtain⟨hR8,ZbT⟩:=h1.rest aS;have hMQ:=ZbT.Yv (λm hm=>h1.qw.ls.Zb1 aS hm);have jb:=h1.qw.ls.kd;have F7:exq NN (Uh.map fp) (dY NN Uh (aY m) Za6) (Uh.map fp).length (aY m) (List.replicate (Uh.map fp).length false)=true:=h1.qw.ls.Gl;rw[vk,h2]at F7;rw[h2]at hMQ;obtain⟨⟨UE,hA7⟩,Eo,QT⟩:=uQ.out;obtain⟨_,_,_,iX,F3⟩:=HK.out
    have zL:gP wr A4 (aY m):=by
     rcases hA7 with h|h
     . rw[h];exact gP.nil
     . exact Pm UE h7 (λb hb _ hx=>hx.1 (h b hb))
    have hbr:Below w.heap.size w wr:=bM Eo h7 (λb hb=>by
     by_cases aM:b<w.heap.size
     . exact absurd (QT b aM) hb.1
     . omega)
    have hV8:=hR8.Ef;have hle:=hR8.le;generalize dY NN Uh (aY m) Za6=qs at hV8 hle F7;have rS:Hid (∀W,Below wr.heap.size wr W->Calls prog 25 #[.pointer (some ⟨q,0,none⟩)] W λe w'=>e= .returned (.int .i64 (NN:Int))/\W=w'):=λW hW=>kZ (hV8.bl hW)
    have LI:Hid (∀W,Below wr.heap.size wr W->Calls prog 14 #[.pointer (some ⟨q,0,none⟩)] W (nN qs W)):=λW hW=>CN (hV8.bl hW)
    have Sn:Hid (∀W A c,Below wr.heap.size wr W->gP W A qs->Calls prog 26 #[.pointer (some ⟨q,0,none⟩), .slice A qs.length c] W λe w'=>e= .returned (.bool true)/\Below W.heap.size W w'):=λW A c hW hr=>zP (hV8.bl hW) A qs.length c rfl hr
    have pk:=ag (DQ wr A7 M c7 (Uh.map fp) (by rw[vk];exact h2) ae hMQ)
    have x9:Hid (∀W A6 c6 A9 c9,Below wr.heap.size wr W->(0<M->∃g off,A6=some ⟨g,off,none⟩/\Bz W g off M (Uh.map fp))->gP W A9 qs->Calls prog 29 #[.slice A4 m cc4, .int .i64 (NN:Int), .slice A6 M c6, .slice A9 qs.length c9] W λr w'=>r= .returned (.bool true)/\Below W.heap.size W w'):=λW A6 c6 A9 c9 hW h6 h9=>by
     have:=mD W NN ae A4 m cc4 (aY m) (iM m) F3 (qx m) (zL.below hW) A6 M c6 (Uh.map fp) (by rw[vk];exact h2) jb ae h6 A9 qs.length c9 qs rfl ae h9;rw[F7]at this;exact this
    have lJ:=ag hbr;unfold nN at LI;unfold SnP at pk;clear h1 h2 h3 h7 aS hR8 ZbT hMQ F7 jb UE hA7 Eo QT iX F3 zL hbr hV8 hle HX uQ HK Ax vZ HZ
    go_wp2_with (first
     |(go_at_call 25;(with_reducible refine(rS.out _ (bZ _ _)).mono ?_);rintro e w' ⟨rfl,rfl⟩)
     |(go_at_call 30;(with_reducible refine pk.out.mono ?_);rintro e w16 ⟨A6,c6,rfl,h6,Xd⟩;have HP6:=ag h6;have Oq:=ag Xd;clear h6 Xd)
     |(go_at_call 14;(with_reducible refine(LI.out _ Oq.out).mono ?_);rintro e w17 ⟨A9,c9,rfl,hr9,_,SQ⟩;have S9:=ag hr9;have ZaA:=ag SQ;have AM:Hid (Below wr.heap.size wr w17):=Oq.out.trans (SQ.mono Oq.out.size);clear hr9 SQ)
     |(go_at_call 29;(with_reducible refine(x9.out _ A6 c6 A9 c9 AM.out (λh0=>(by obtain⟨g,off,h1,h2⟩:=HP6.out h0;exact⟨g,off,h1,h2.bl ZaA.out⟩)) S9.out).mono ?_);rintro e w18 ⟨rfl,Ld⟩;have V_:Hid (Below wr.heap.size wr w18):=AM.out.trans (Ld.mono AM.out.size);clear Ld)
     |(go_at_call 14;(with_reducible refine(LI.out _ V_.out).mono ?_);rintro e w19 ⟨A10,gj,rfl,Zbn,_,Q5⟩;have ZdT:=ag Zbn;have Tf:Hid (Below wr.heap.size wr w19):=V_.out.trans (Q5.mono V_.out.size);clear Zbn Q5)
     |(go_at_call 26;(with_reducible refine(Sn.out _ A10 gj Tf.out ZdT.out).mono ?_);rintro e w20 ⟨rfl,ZbQ⟩;have ZaB:Hid (Below wr.heap.size wr w20):=Tf.out.trans (ZbQ.mono Tf.out.size);clear ZbQ))
    exact bH (v:= .bool true) (by simp[results,results8,go_sem]) rfl ⟨rfl,lJ.out.trans (ZaB.out.mono lJ.out.size)⟩
end Go.Proofs.YtjkpjakodomnmaaGreatDoor
