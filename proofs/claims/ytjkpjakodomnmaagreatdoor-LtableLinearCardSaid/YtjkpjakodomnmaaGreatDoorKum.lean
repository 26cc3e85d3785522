/- The reference's search, seen (merged). -/
import Derived.Test.YtjkpjakodomnmaaGreatDoorKul
import Derived.Test.YtjkpjakodomnmaaGreatDoorKuv
set_option linter.unusedVariables false
set_option linter.unusedSimpArgs false
set_option maxRecDepth 100000
set_option maxHeartbeats 16000000
namespace Go.Proofs.YtjkpjakodomnmaaGreatDoor
open Go.RowKit Go.Proofs.Tryz
theorem lj{P:Program}(w:World)(t ty e:TypeId)(zv:Value)(size oP:Nat)(I7:zv.cells.size=size)(lR:0<size)(ht:P.underlying t=some (.slice e))(bp:(P.info? e).map (λi=>(i.zero,i.size,i.bytes))=some (some zv,size,oP))(AG:oP<=128)
 (A:Option Addr) (n c:Nat) (xs:List Value) (cL:Sl e size w A n c xs) (ad:Addr) (m d:Nat) (ys:List Value) (hm:ys.length=m*size) (DK:0<m) (hr:∀j u,ys[j]?=some u->w.cell? (ad.add j)=some u) (hf:∀u∈ys,u.oneCell'=true)
 (hbound:n+m<=1000000000):
 ∃A' c' w',(Builtin.append_ #[t,t] ty #[.slice A n c, .slice (some ad) m d]).run P w= .ok (.slice A' (n+m) c') w'/\Sl e size w' A' (n+m) c' (xs++ys)/\Ch (ah A) w w'/\(∀b,ah A' b->ah A b\/b=w.heap.size)/\(c<n+m->A'=some ⟨w.heap.size,0,none⟩):=by
 cases hi:P.info? e with
 |none=>rw[hi]at bp;cases bp
 |some i=>
  rw[hi]at bp;simp only[Option.map_some,sP,rY]at bp;obtain⟨hz,hs,hb⟩:=bp;subst hs hb;have Q4:(n+m)*i.bytes<=(n+m)*128:=Cm _ AG;have hmx:n+m<=maxLen:=by unfold maxLen;omega
  have hlen:(xs++ys).length=(n+m)*i.size:=by rw[dO,cL.1,hm,sJ]
  have grown:∀(old:Nat),old<n+m->Sl e i.size (w.drew.alloc (.cells (xs.toArray++ys.toArray++Builtin.zeroCells zv.cells (grownCap w (n+m) old e-(n+m))) e)) (some ⟨w.heap.size,0,none⟩) (n+m) (grownCap w (n+m) old e) (xs++ys):=by
   intro old ho;have Ha:=grownCap_ge w (n+m) old e;have je:grownCap w (n+m) old e<=maxLen:=PN w (n+m) old e hmx;refine⟨hlen, .inr ⟨w.heap.size,0,_,rfl,Cb w.drew _,Ha,je,?_,?_⟩⟩
   . simp only[PB,Df,size_zeroCells,I7,cL.1,hm,<-sJ,cY]
     apply zc
     omega
   . simp only[PQ,iZ,iq]
     rw[<-iZ,<-hlen];exact B_
  have py:∀o:Obj,Ch (ah A) w (w.drew.alloc o):=λo=>(Ch.drew (Ch.refl _ _)).alloc o
  rcases cL.2 with⟨rfl,rfl,rfl⟩|⟨g,off,cur,rfl,hC,MP,je,vM,uT⟩
  . have hx:xs=[]:=E9 (by simpa using cL.1)
    subst hx;have gL:=run_append_nil (P:=P) w t ty e i zv ht hi hz ad m d ys hm hr DK ae (by simp only[cY]at Q4;omega);have ie:=grown 0 ae;simp only[cY,List.nil_append,PI]at ie |-;exact⟨_,_,_,gL,ie,py _,λb hb=> .inr (by simpa [ah]using hb.symm),λ_=>rfl⟩
  . by_cases qj:n+m<=c
    . have e0:n*i.size+m*i.size<=c*i.size:=by rw[<-sJ];exact zc _ qj
      have gL:=KQ (P:=P) w t ty e i ht hi g off n c ad m d ys hm hr hf qj
       (λj hj=>by rw[hC.cell];have:off+n*i.size+j<cur.size:=by omega
                  simp[this]) (λj hj=>hC.frozen _)
      refine⟨_,_,_,gL,⟨hlen, .inr ⟨g,off,_,rfl,mo ys (off+n*i.size) w cur hC ae,qj,je,?_,?_⟩⟩,(mg g ys _ w).mono (λb hb _=>by unfold At at hb;subst hb;simp[ah]),λb hb=> .inl hb,λh=>by omega⟩
      . simp only[Df,dO,gf,yU,Array.length_toList]
        omega
      . rw[<-uT,sJ]
        have jB:(cur.toList.take (off+n*i.size)).length=off+n*i.size:=by simp;omega
        simp only[iZ];rw[P5 (by rw[jB];omega),Fg];rw[show off+n*i.size-off=n*i.size by omega];have ju:((cur.toList.drop off).take (n*i.size)).length=n*i.size:=by rw[uT];exact cL.1
        rw[<-hm,<-ju];rw[<-iZ];rw[show((cur.toList.drop off).take ((cur.toList.drop off).take (n*i.size)).length)=(cur.toList.drop off).take (n*i.size) by rw[ju]];rw[<-dO];exact B_
    . have gL:=Pw (P:=P) w t ty e i zv ht hi hz ⟨g,off,none⟩ n c xs cL.1 (cL.cells _ rfl) ad m d ys hm hr ae ae (growslice_fits ae ae)
      exact⟨_,_,_,gL,grown c ae,py _,λb hb=> .inr (by simpa [ah]using hb.symm),λ_=>rfl⟩
theorem iF{P:Program}{w:World}{ops:Array Oper}{rest:List Oper}{o:Oper}{a:Act}{Q:Exit->Act->World->Prop}(DM:o.guard=none)(s x:Operand)(t:TypeId)
 (ho:o.op= .call {callee:= .builtin .append,args:= #[s,x],argTypes:= #[t,t]}) (e:TypeId) (zv:Value) (size oP:Nat) (I7:zv.cells.size=size) (lR:0<size) (ht:P.underlying t=some (.slice e)) (bp:(P.info? e).map (λi=>(i.zero,i.size,i.bytes))=some (some zv,size,oP)) (AG:oP<=128)
 (A:Option Addr) (n c:Nat) (xs:List Value) (ad:Addr) (m d:Nat) (ys:List Value) (AE:a.eval s= .slice A n c) (MK:a.eval x= .slice (some ad) m d) (cL:Sl e size w A n c xs) (hm:ys.length=m*size) (DK:0<m) (hr:∀j u,ys[j]?=some u->w.cell? (ad.add j)=some u) (hf:∀u∈ys,u.oneCell'=true)
 (hbound:n+m<=1000000000)
 (h:∀A' c' w',Hid (Sl e size w' A' (n+m) c' (xs++ys))->Hid (Ch (ah A) w w')->Hid (∀b,ah A' b->ah A b\/b=w.heap.size)->Hid (c<n+m->A'=some ⟨w.heap.size,0,none⟩)->wpList P ops Q rest (a.put o.dst (.slice A' (n+m) c')) w'):wpList P ops Q (o::rest) a w:=by
 refine Kv DM λK hK=> ?_
 obtain⟨A',c',w',gL,h1,h2,h3,h4⟩:=lj (P:=P) w t o.type e zv size oP I7 lR ht bp AG A n c xs cL ad m d ys hm DK hr hf hbound;unfold Oper.wp execOp;simp only[ho,resolve,invoke,builtin,Ku,Sem.run_pure,Result.andThen_ok,KD,oV,wu,AE,MK,gL];exact hK _ _ (h A' c' w' h1 h2 h3 h4)
def yJ(t:RQ):List Value:=[.int .i64 (t.c.kind:Int), .int .u64 t.c.key, .int .u64 t.c.val, .int .u64 t.c.old, .int .i64 t.bg, .int .i64 t.en, .bool t.ended, .int .u64 t.got, .int .i64 t.err]
def kr(ts:List RQ):List Value:=ts.flatMap yJ
theorem qe(ts:List RQ):(kr ts).length=ts.length*9:=by
 induction ts with
 |nil=>rfl
 |cons e ts ih=>rw[kr,yM,dO];change _+(kr ts).length=_;rw[ih];simp[yJ];omega
theorem yI(ts:List RQ):∀k,k<ts.length->∀r,r<9->(kr ts)[k*9+r]?=(yJ (ts.getD k du))[r]?:=by
 induction ts with
 |nil=>intro k h;simp at h
 |cons p ts ih=>
  intro k h r hr;cases k with
  |zero=>
   show(yJ p++kr ts)[0*9+r]?=_
   rw[nY (by simp[yJ];omega)];simp
  |succ k=>
   show(yJ p++kr ts)[(k+1)*9+r]?=_
   rw[nZ (by simp[yJ];omega),show(k+1)*9+r-(yJ p).length=k*9+r by simp[yJ];omega,ih k (by simpa using h) r hr];simp
theorem u_(ts:List RQ){j:Nat}(hj:j<ts.length):kr (ts.take (j+1))=kr (ts.take j)++yJ (ts.getD j du):=by
 unfold kr;rw[iw hj,eY,dG hj,Cl];simp only[yM,KB,vh,Option.getD_some]
theorem Sl.rqP{w:World}{A:Option Addr}{m c:Nat}{ts:List RQ}(h:Sl 37 9 w A m c (kr ts))(h0:0<m):∃g off,A=some ⟨g,off,none⟩/\Bz w g off m ts:=by
 have hl:=h.1;have hlen:=qe ts;have hn:ts.length=m:=by omega
 obtain⟨g,off,hA,hg,_⟩:=h.at_ (j:=0) ae;refine⟨g,off,hA,hg,λk hk=> ?_⟩
 have hc:∀r,r<9->w.cell? ⟨g,off+k*9+r,none⟩=(yJ (ts.getD k du))[r]?:=λr hr=>by
  obtain⟨g2,Fv,o8,_,c2⟩:=h.at_ (j:=k*9+r) ae;rw[hA]at o8;injection o8 with o8;injection o8 with x1 x2;subst x1 x2;rw[<-yI ts k ae r hr,sL,c2,dG]
 exact⟨hc 0 ae,hc 1 ae,hc 2 ae,hc 3 ae,hc 4 ae,hc 5 ae,hc 6 ae,hc 7 ae,hc 8 ae⟩
theorem og:(prog.info? 37).map (λi=>(i.zero,i.size,i.bytes))=some (some (.agg #[.int .i64 0, .int .u64 0, .int .u64 0, .int .u64 0, .int .i64 0, .int .i64 0, .bool false, .int .u64 0, .int .i64 0]),9,72):=by kernel_rfl
theorem qB(w:World)(e:TypeId)(cs:Array Value):∀(j:Nat) (u:Value),cs[j]?=some u->(w.alloc (.cells cs e)).cell? ((⟨w.heap.size,0,none⟩:Addr).add j)=some u:=by
 intro j u hu;have h1:(⟨w.heap.size,0,none⟩:Addr).add j=⟨w.heap.size,j,none⟩:=by unfold Addr.add;split<;>simp_all
 rw[h1,(CB.new w e cs).cell j];exact hu
def SnP(n:Nat)(w:World)(ts:List RQ)(e:Ending)(w':World):Prop:=∃A c,e= .returned (.slice A n c)/\(0<n->∃g off,A=some ⟨g,off,none⟩/\Bz w' g off n ts)/\Below w.heap.size w w'
theorem DQ(w:World)(As:Option Addr)(M cA:Nat)(ts:List RQ)(SF:ts.length=M)(hM:M<=1000)(hS:Od w As M ts):Calls prog 30 #[.slice As M cA] w (SnP M w ts):=by
 have HS:=ag hS;have HTS:=ag SF;clear hS SF;go_enter func30,ntmps30
 go_wp2;go_loopw [8,3,5,9,10,11,12,13,14,15,16,17,18,19,20,21,22,23,24,25,26,27,28,29,36,31,32,33,34,35,36,37,38] (λi s _ _ _ _ _ _ _ _ _ _ _ _ _ _ _ _ _ _ _ _ _ _ _ _ _ _ _ _ _ _ _ wr=>∃(j:Nat) (A':Option Addr) (c':Nat),j<=M/\i= .int .i64 j/\s= .slice A' j c'/\Sl 37 9 wr A' j c' (kr (ts.take j))/\Below w.heap.size w wr/\∀b,ah A' b->w.heap.size<=b) (λi s _ _ _ _ _ _ _ _ _ _ _ _ _ _ _ _ _ _ _ _ _ _ _ _ _ _ _ _ _ _ _ _=>M-(intOf i).toNat)
 case atStart=>exact⟨0,none,0,by omega,rfl,rfl,Sl.nil,bZ _ _,by simp[ah]⟩
 case round=>
  obtain⟨j,A',c',hj,rfl,rfl,vN,hB,hO⟩:=hrel;have VQ:=ag vN;have HB:=ag hB;have HO:=ag hO;by_cases aM:j<M
  . have dx:(j:Int)<(M:Int):=by omega
    obtain⟨h7,gS,oS,g,a,hAs,hgS,hcS,mN⟩:=(HS.out.bl hB) j aM;have HSN:=ag (u_ ts (j:=j) (by rw[HTS.out];exact aM));generalize ts.getD j du=t at mN h7 HSN;obtain⟨⟨kd,ky,val,old⟩,bg,en,ed,got,err⟩:=t;unfold Ui at mN;dsimp only at mN h7;have h7':(err==7)=false:=by simpa using h7
    have c1:=mN.cell 1;have c2:=mN.cell 2;have c3:=mN.cell 3;have c4:=mN.cell 4;have c5:=mN.cell 5;have c6:=mN.cell 6;have c7:=mN.cell 7;have c8:=mN.cell 8;have c9:=mN.cell 9;have gj:=mN.cell 10;have fD:=mN.cell 11;have cl:=mN.lt;subst hAs;clear vN hB hO mN h7;go_wp2_with (at_builtin;refine iF rfl (.tmp 31) (.tmp 36) 69 rfl 37 (.agg #[.int .i64 0, .int .u64 0, .int .u64 0, .int .u64 0, .int .i64 0, .int .i64 0, .bool false, .int .u64 0, .int .i64 0]) 9 72 rfl ae underlying69 og ae A' j c' (kr (ts.take j)) ⟨wr.heap.size,0,none⟩ 1 1 [.int .i64 (kd:Int), .int .u64 ky, .int .u64 val, .int .u64 old, .int .i64 bg, .int .i64 en, .bool ed, .int .u64 got, .int .i64 err] rfl rfl (VQ.out.keep (λb hb=>d_ _ _ _ (VQ.out.lt hb))) rfl ae (λj u hu=>qB wr 37 _ j u (by simpa using hu)) (λu hu=>by simp at hu;rcases hu with rfl|rfl|rfl|rfl|rfl|rfl|rfl|rfl|rfl<;>rfl) ae ?_;intro A4 c4' w4 lU eW mU uM)
    refine⟨⟨j+1,A4,c4',by omega,by go_num,rfl,?_,bM (ai HB.out _) eW.out (λb hb=>HO.out b hb),λb hb=> ?_⟩,by simp[intOf];omega⟩
    . rw[HSN.out]
      exact lU.out
    . rcases mU.out b hb with h|h
      . exact HO.out b h
      . have h1:=HB.out.size
        rw[h];simp;omega
  . obtain rfl:j=M:=by omega
    have hX:SnP j w ts (.returned (.slice A' j c')) wr:=by
     rw[fR (by rw[HTS.out];exact a_ _)]at vN;exact⟨A',c',rfl,λh0=>vN.rqP h0,hB⟩
    have HX:=ag hX;clear vN hB hO hX;go_wp2;go_ret;exact HX.out
theorem vG:(prog.info? 4).map (λi=>(i.zero,i.size,i.bytes))=some (some (.bool false),1,1):=by kernel_rfl
theorem vW(bs:List Bool):∀u∈bools bs,u.oneCell'=true:=by
 intro u hu;obtain⟨x,_,rfl⟩:=iJ.1 hu;rfl
theorem cJ(bs:List Bool):(bools bs).length=bs.length:=by simp[bools]
theorem tE(bs:List Bool)(k:Nat)(b:Bool):bools (bs.set k b)=(bools bs).set k (.bool b):=by simp[bools,yR]
theorem xz.cells{w:World}{g off m:Nat}{bs:List Bool}(h:xz w g off m bs)(hl:bs.length=m):∀(j:Nat) (u:Value),(bools bs)[j]?=some u->w.cell? ((⟨g,off,none⟩:Addr).add j)=some u:=by
 intro j u hu;have h1:(⟨g,off,none⟩:Addr).add j=⟨g,off+j,none⟩:=by unfold Addr.add;split<;>simp_all
 have hj:j<bs.length:=by have:=(ki.1 hu).1;rwa[cJ]at this
 rw[h1,h.2 j ae,<-hu];simp[bools,hj]
theorem Sl.blP{w:World}{g m c:Nat}{bs:List Bool}(h:Sl 4 1 w (some ⟨g,0,none⟩) m c (bools bs)):xz w g 0 m bs:=by
 have hl:=h.1;rw[cJ]at hl;refine⟨h.lt (b:=g) (by simp[ah]),λk hk=> ?_⟩;have kG:k<bs.length:=by omega
 obtain⟨g2,off,hA,_,hc⟩:=h.at_ (j:=k) (by rw[cJ];exact kG);injection hA with hA;injection hA with e1 e2;subst e1 e2;rw[cY]at hc |-;rw[hc];simp[bools,eY,kG]
theorem C_(w:World)(e:TypeId):Sl e 1 (w.alloc (.cells #[] e)) (some ⟨w.heap.size,0,none⟩) 0 0 []:=
 ⟨rfl, .inr ⟨_,0,_,rfl,CB.new _ _ _,a_ _,im _,a_ _,rfl⟩⟩
def JO(l:List RQ)(used:List Bool)(i:Nat):Bool:=used.getD i true|| !(l.getD i du).ended
def JN(P:Nat)(l:List RQ)(vs:List (Int×Int))(used:List Bool)(E:List (Int×Int)->List Bool->Bool)(i:Nat):Bool:=eR l used i&&pR P vs (l.getD i du)&&E (pS P vs (l.getD i du)) (used.set i true)
theorem lp(f:Nat->Bool)(j:Nat):(List.range (j+1)).any f=((List.range j).any f||f j):=by simp[xf]
theorem ll(f:Nat->Bool){j m:Nat}(h:j<m)(hf:f j=true):(List.range m).any f=true:=Px.2 ⟨j,by simpa using h,hf⟩
theorem pT(P:Nat)(Jt:P<=1000)(w:World)(A:Option Addr)(n8 c8:Nat)(vs:List (Int×Int))(hl:vs.length=n8)(FZ:n8<=P)(kE:sq vs)(hR:gP w A vs)(AL:Option Addr)(m c:Nat)(l:List RQ)(iW:l.length=m)(jb:∀k,(l.getD k du).c.kind<=3)(hm:m<=1000)
 (hP:0<m->∃g off,AL=some ⟨g,off,none⟩/\Bz w g off m l)
 (AU:Option Addr) (cu:Nat) (used:List Bool) (I8:used.length=m) (hU:0<m->∃gu ou,AU=some ⟨gu,ou,none⟩/\xz w gu ou m used) (F:Option Addr) (nf cf:Nat) (fin:List (Int×Int)) (hf:fin.length=nf) (FX:nf<=1000) (hF:gP w F fin) (E:List (Int×Int)->List Bool->Bool)
 (hE:∀(W:World) (A':Option Addr) (n' c':Nat) (Hx:List (Int×Int)) (g2 o2 c2:Nat) (i:Nat),Below w.heap.size w W->Hx.length=n'->n'<=P->sq Hx->gP W A' Hx->i<m->used.getD i true=false->xz W g2 o2 m (used.set i true)->
   Calls prog 48 #[.slice A' n' c', .int .i64 (P:Int), .slice AL m c, .slice (some ⟨g2,o2,none⟩) m c2, .slice F nf cf] W λr w'=>r= .returned (.bool (E Hx (used.set i true)))/\Below W.heap.size W w'):
 Calls prog 48 #[.slice A n8 c8, .int .i64 (P:Int), .slice AL m c, .slice AU m cu, .slice F nf cf] w λr w'=>r= .returned (.bool ((wh l used&&vs==fin)||(List.range m).any (JN P l vs used E)))/\Below w.heap.size w w':=by
 have HR:=ag hR;have HL:=ag (And.intro hl (And.intro FZ kE));have HP:=ag hP;have HU:=ag hU;have HUL:=ag I8;have HLL:=ag iW;have HE:=ag hE;have HPB:=ag Jt
 have LD:Hid (∀W,Below w.heap.size w W->Calls prog 13 #[.slice A n8 c8, .slice F nf cf] W λr w'=>r= .returned (.bool (vs==fin))/\Below W.heap.size W w'):=λW hW=>by
  have:=kT (w:=W) A F n8 c8 nf cf vs fin hl hf ⟨by omega,by omega⟩ (hR.below hW) (hF.below hW);rw[show decide (vs=fin)=(vs==fin) by rw[Ps];simp]at this;exact this
 have iV:Hid (wh l used=(List.range m).all (JO l used)):=by show _=_;rw[<-iW];rfl
 generalize (vs==fin)=sm at LD |-;rw[iV.out];clear hR hl hP hU I8 iW hE hf hF iV FZ kE FX Jt;go_enter func48,ntmps48
 go_wp2;go_loopw [20,11,12,21,22,23,24,25,26,27,28,29,36,31,32,33,34,35,36,37,38] (λi b _ _ _ _ _ _ _ _ _ _ _ _ _ _ _ _ _ _ _ wr=>∃j:Nat,j<=m/\i= .int .i64 j/\b= .bool ((List.range j).all (JO l used))/\Below w.heap.size w wr) (λi b _ _ _ _ _ _ _ _ _ _ _ _ _ _ _ _ _ _ _ _=>m-(intOf i).toNat)
 case atStart=>exact⟨0,by omega,rfl,by simp,bZ _ _⟩
 case round=>
  obtain⟨j,hj,rfl,rfl,hB⟩:=hrel;have HB:=ag hB;by_cases aM:j<m
  . have dx:(j:Int)<(m:Int):=by omega
    have fX:=ag (fG (JO l used) j);obtain⟨g,off,hA,Gd⟩:=HP.out ae;obtain⟨gu,ou,ZR,Js⟩:=HU.out ae;have fK:g<wr.heap.size:=(Gd.bl hB).1;have QW:gu<wr.heap.size:=(Js.bl hB).1;have cuj:=(Js.bl hB).2 j aM;obtain⟨_,_,_,_,_,_,a4,_,_⟩:=(Gd.bl hB).2 j aM;have uP:Hid (JO l used j=(used.getD j true|| !(l.getD j du).ended)):=rfl;generalize used.getD j true=uj at cuj uP;generalize (l.getD j du).ended=ed at a4 uP;generalize (List.range j).all (JO l used)=av at fX |-;rw[uP.out]at fX;clear hB Gd Js uP;subst hA ZR;cases av with
    |false=>
     go_wp2;exact⟨⟨j+1,by omega,by go_num,by rw[fX.out];rfl,HB.out⟩,by simp[intOf];omega⟩
    |true=>
     cases uj with
     |true=>
      go_wp2;exact⟨⟨j+1,by omega,by go_num,by rw[fX.out];rfl,HB.out⟩,by simp[intOf];omega⟩
     |false=>
      go_wp2;exact⟨⟨j+1,by omega,by go_num,by rw[fX.out];rfl,HB.out⟩,by simp[intOf];omega⟩
  . obtain rfl:j=m:=by omega
    obtain⟨ra,zA⟩:=aH ((List.range j).all (JO l used));rw[zA];have Xz:=ag zA;clear hB zA;go_upto_region 7 with(fail)
    go_cut [44]from 39 to 43 (λs wx=>s= .bool (ra&&sm)/\Below w.heap.size w wx)
    case first=>
     cases ra with
     |true=>
      go_wp2_with (go_at_call 13;refine(LD.out _ HB.out).mono ?_;rintro e w' ⟨rfl,hb⟩;obtain⟨x,rfl⟩:=aE hb;clear hb)
      go_meet;exact⟨rfl,ji HB.out x⟩
     |false=>
      go_wp2;go_meet;exact⟨rfl,HB.out⟩
    case rest=>
    obtain⟨rfl,Li⟩:=hcut;have Sj:=ag Li;clear Li HB;obtain⟨rs,YR⟩:=aH ((ra&&sm));rw[YR];have NI:Hid (((List.range j).all (JO l used)&&sm)=rs):=by show _=_;rw[Xz.out];exact YR
    clear YR Xz;cases rs with
    |true=>
     go_wp2;exact bH (v:= .bool true) (by simp[results,results48,go_sem]) rfl ⟨by rw[NI.out];rfl,Sj.out⟩
    |false=>
     go_wp2;go_loopw [47,10,13,14,15,16,17,48,49,50,51,52,53,54,55,56,57,58,59,60,61,62,63,64,65,66,67,68,69,70,71,72,73,74,75,76,77,78,79,80,81,82,83,84,85,86,87,88,89,90,91,92,93,94,95,96,97,98,99,100,101] (λi _ _ _ _ _ _ _ _ _ _ _ _ _ _ _ _ _ _ _ _ _ _ _ _ _ _ _ _ _ _ _ _ _ _ _ _ _ _ _ _ _ _ _ _ _ _ _ _ _ _ _ _ _ _ _ _ _ _ _ _ wr=>∃q:Nat,q<=j/\i= .int .i64 q/\(List.range q).any (JN P l vs used E)=false/\Below w.heap.size w wr) (λi _ _ _ _ _ _ _ _ _ _ _ _ _ _ _ _ _ _ _ _ _ _ _ _ _ _ _ _ _ _ _ _ _ _ _ _ _ _ _ _ _ _ _ _ _ _ _ _ _ _ _ _ _ _ _ _ _ _ _ _ _=>j-(intOf i).toNat)
     case atStart=>exact⟨0,by omega,rfl,by simp,Sj.out⟩
     case round=>
      clear Sj;obtain⟨q,hq,rfl,zJ,hB⟩:=hrel;have Sp:=ag zJ;have HB:=ag hB;by_cases aM:q<j
      . have dx:(q:Int)<(j:Int):=by omega
        have bh:=lp (JN P l vs used E) q;rw[zJ,Bool.false_or]at bh;have fX:=ag bh;have HTR:=ag (ll (JN P l vs used E) aM);obtain⟨g,off,hA,Gd⟩:=HP.out ae;obtain⟨gu,ou,ZR,Js⟩:=HU.out ae;subst hA ZR;have fK:g<wr.heap.size:=(Gd.bl hB).1;have QW:gu<wr.heap.size:=(Js.bl hB).1;obtain⟨a0,a1,a2,a3,b4,b5,a4,a5,a6⟩:=(Gd.bl hB).2 q aM;have VW:=ag (Gd.bl hB);have HUU:=ag (Js.bl hB);have jP:Hid (∀W,Below wr.heap.size wr W->Calls prog 74 #[.slice (some ⟨g,off,none⟩) j c, .slice (some ⟨gu,ou,none⟩) j cu, .int .i64 (q:Int)] W λr w'=>r= .returned (.bool (eR l used q))/\Below W.heap.size W w'):=λW hW=>vg W g off j c l HLL.out hm (VW.out.bl hW) gu ou cu used (HUU.out.bl hW) q aM
        have HUS:Hid (eR l used q=true->used.getD q true=false):=λh=>by
         unfold eR at h;rw[kz]at h;simpa using h.1
        have HG:Hid (JN P l vs used E q=(eR l used q&&pR P vs (l.getD q du)&&E (pS P vs (l.getD q du)) (used.set q true))):=rfl;have uN:Hid (pR P vs (l.getD q du)=(!(l.getD q du).ended||((cI P vs (l.getD q du).c).2.1==(l.getD q du).got&&(cI P vs (l.getD q du).c).2.2==(l.getD q du).err))):=rfl;have uP:Hid (pS P vs (l.getD q du)=(cI P vs (l.getD q du).c).1):=rfl;have La:=jb q;generalize (l.getD q du).c=cl at a0 a1 a2 a3 uN uP La;generalize (l.getD q du).bg=bg at b4;generalize (l.getD q du).en=en at b5;generalize (l.getD q du).ended=ed at a4 uN;generalize (l.getD q du).got=got at a5 uN;generalize (l.getD q du).err=err at a6 uN;have AA:Hid (∀W,Below wr.heap.size wr W->Calls prog 24 #[.slice A n8 c8, .int .i64 (P:Int), .agg #[.int .i64 (cl.kind:Int), .int .u64 cl.key, .int .u64 cl.val, .int .u64 cl.old, .int .i64 bg, .int .i64 en, .bool ed, .int .u64 got, .int .i64 err]] W (GY A W (cI P vs cl))):=λW hW=>sI n8 c8 HL.out.1 (f_ HL.out.2.1 HPB.out) ((HR.out.below HB.out).below hW) HL.out.2.2 P HPB.out cl La bg en ed got err
        have VV:Hid ((cI P vs cl).1.length<=P/\sq (cI P vs cl).1):=⟨Ii HL.out.2.2 (by rw[HL.out.1];exact HL.out.2.1),yz HL.out.2.2⟩;generalize (cl.kind:Int)=ck at a0 AA;generalize cl.key=cky at a1 AA;generalize cl.val=cvl at a2 AA;generalize cl.old=cod at a3 AA;generalize cI P vs cl=ap at uN uP AA VV;obtain⟨nq,gv,ge⟩:=ap;dsimp only at uN uP VV;rw[uN.out,uP.out]at HG;generalize eR l used q=rn at jP HG HUS;clear Gd Js zJ hB bh uN uP;cases rn with
        |false=>
         go_wp2_with (go_at_call 74;refine(jP.out _ (bZ _ _)).mono ?_;rintro e w' ⟨rfl,hb⟩;obtain⟨x1,rfl⟩:=aE hb;clear hb)
         exact⟨⟨q+1,by omega,by go_num,by rw[fX.out,HG.out];rfl,ji HB.out x1⟩,by simp[intOf];omega⟩
        |true=>
         rw[B5]at HG;go_upto_region 13 with(go_at_call 74;refine(jP.out _ (bZ _ _)).mono ?_;rintro e w' ⟨rfl,hb⟩;obtain⟨x1,rfl⟩:=aE hb;clear hb)
         have k0:x1.w.cell? ⟨g,off+q*9,none⟩=some (.int .i64 ck):=(x1.below.cell (p:=⟨g,off+q*9,none⟩) fK).trans a0;have k1:x1.w.cell? ⟨g,off+q*9+1,none⟩=some (.int .u64 cky):=(x1.below.cell (p:=⟨g,off+q*9+1,none⟩) fK).trans a1;have k2:x1.w.cell? ⟨g,off+q*9+2,none⟩=some (.int .u64 cvl):=(x1.below.cell (p:=⟨g,off+q*9+2,none⟩) fK).trans a2;have k3:x1.w.cell? ⟨g,off+q*9+3,none⟩=some (.int .u64 cod):=(x1.below.cell (p:=⟨g,off+q*9+3,none⟩) fK).trans a3;have k4:x1.w.cell? ⟨g,off+q*9+4,none⟩=some (.int .i64 bg):=(x1.below.cell (p:=⟨g,off+q*9+4,none⟩) fK).trans b4;have k5:x1.w.cell? ⟨g,off+q*9+5,none⟩=some (.int .i64 en):=(x1.below.cell (p:=⟨g,off+q*9+5,none⟩) fK).trans b5;have k6:x1.w.cell? ⟨g,off+q*9+6,none⟩=some (.bool ed):=(x1.below.cell (p:=⟨g,off+q*9+6,none⟩) fK).trans a4;have k7:x1.w.cell? ⟨g,off+q*9+7,none⟩=some (.int .u64 got):=(x1.below.cell (p:=⟨g,off+q*9+7,none⟩) fK).trans a5;have k8:x1.w.cell? ⟨g,off+q*9+8,none⟩=some (.int .i64 err):=(x1.below.cell (p:=⟨g,off+q*9+8,none⟩) fK).trans a6;have Zt:g<x1.w.heap.size:=cD fK x1.size;go_upto_region 14 with(go_at_call 24;(with_reducible refine(AA.out _ aC).mono ?_);rintro e w4 ⟨A4,m4,c4,rfl,Bk,nI,kH,_⟩;have uQ:=ag (And.intro Bk nI);have Ay:Hid (Below wr.heap.size wr w4):=x1.below.trans (kH.mono x1.size);clear Bk nI kH)
         clear k0 k1 k2 k3 k4 k5 k6 k7 k8;have Bk:=uQ.out.1;have nI:=uQ.out.2;have l9:=Ay.out;clear uQ Ay;obtain⟨wd,rfl⟩:∃wd,wd=w4:=⟨w4,rfl⟩;have Az:=ag l9;have uQ:=ag (And.intro Bk nI);have Zdc:g<wd.heap.size:=cD fK l9.size;have d4:wd.cell? ⟨g,off+q*9+6,none⟩=some (.bool ed):=(l9.cell (p:=⟨g,off+q*9+6,none⟩) fK).trans a4;have d5:wd.cell? ⟨g,off+q*9+7,none⟩=some (.int .u64 got):=(l9.cell (p:=⟨g,off+q*9+7,none⟩) fK).trans a5;have d6:wd.cell? ⟨g,off+q*9+8,none⟩=some (.int .i64 err):=(l9.cell (p:=⟨g,off+q*9+8,none⟩) fK).trans a6;clear a0 a1 a2 a3 b4 b5 a4 a5 a6 Zt Bk nI l9 jP AA;go_cut [88]from 66 to 87 (λs wx=>s= .bool (!(!ed||(gv==got&&ge==err)))/\wd=wx)
         case first=>
          cases ed with
          |false=>
           go_wp2;go_meet;exact⟨rfl,rfl⟩
          |true=>
           by_cases h1:gv=got
           . by_cases h2:ge=err
             . have ZT:(gv !=got)=false:=by simp[h1]
               have Ju:(ge !=err)=false:=by simp[h2]
               go_wp2;go_meet;exact⟨by simp[h1,h2],rfl⟩
             . have ZT:(gv !=got)=false:=by simp[h1]
               have Ju:(ge !=err)=true:=by simp[h2]
               go_wp2;go_meet;exact⟨by simp[h1,h2],rfl⟩
           . have ZT:(gv !=got)=true:=by simp[h1]
             go_wp2;go_meet;exact⟨by simp[h1],rfl⟩
         case rest=>
         obtain⟨rfl,rfl⟩:=hcut;generalize (!ed||(gv==got&&ge==err))=rf at HG |-;clear d4 d5 d6;cases rf with
         |false=>
          go_wp2;exact⟨⟨q+1,by omega,by go_num,by rw[fX.out,HG.out];rfl,HB.out.trans (Az.out.mono HB.out.size)⟩,by simp[intOf];omega⟩
         |true=>
          rw[B5]at HG
          go_upto_region 16 with(first
           |(at_builtin;refine ay rfl (.tmp 89) (.tmp 90) 122 rfl 4 (.bool false) 1 1 rfl ae underlying122 vG ae (some ⟨wd.heap.size,0,none⟩) 0 0 [] ⟨gu,ou,none⟩ j cu (bools used) rfl rfl (C_ wd 4) (by rw[cJ,HUL.out];omega) ae (xz.cells (HUU.out.bl (ai Az.out _)) HUL.out) (vW _) ae ?_;intro A3 c3 w3 GK fo R0 V2))
          obtain rfl:=V2.out ae;have lR:wr.heap.size<=wd.heap.size:=Az.out.size;have NH:Hid (Sl 4 1 w3 (some ⟨wd.heap.size+1,0,none⟩) j c3 (bools used)):=by have:=GK.out;show Sl _ _ _ _ _ _ _;simpa using this
          have qK:Hid (Below wd.heap.size wd w3):=bM (ai (bZ _ _) _) fo.out (λb hb=>by simp[ah]at hb;omega);have Hu:Hid (Below wr.heap.size wr w3):=Az.out.trans (qK.out.mono Az.out.size);have HGM:Hid (wd.heap.size<=wd.heap.size+1):=lM _;obtain⟨gm,DL⟩:=aH (wd.heap.size+1);have e1:(wd.alloc (.cells #[] 4)).heap.size=gm:=by rw[<-DL];simp
          rw[DL]at NH HGM;try rw[e1]
          have bU:w3.cell? ⟨gm,q,none⟩=some (.bool (used.getD q true)):=by have:=NH.out.blP.2 q aM;rwa[cY]at this
          have MX:=NH.out.mZ q;have Zs:=NH.out.lt (b:=gm) (by simp[ah])
          have R5:Hid (xz (w3.setCell ⟨gm,q,none⟩ (.bool true)) gm 0 j (used.set q true)):=by
           have h1:=NH.out.set (j:=q) (by rw[cJ,HUL.out];exact aM) (.bool true);rw[cY,<-tE]at h1;exact h1.blP
          have J7:Hid (Below wd.heap.size wd (w3.setCell ⟨gm,q,none⟩ (.bool true))):=gZ qK.out (p:=⟨gm,q,none⟩) HGM.out _;have Sk:Hid (Below wr.heap.size wr (w3.setCell ⟨gm,q,none⟩ (.bool true))):=Az.out.trans (J7.out.mono Az.out.size);clear GK fo R0 V2 NH Hu qK DL e1;go_upto_region 17 with(fail)
          obtain⟨W4,M8⟩:=aH (w3.setCell ⟨gm,q,none⟩ (.bool true));rw[M8]at R5 Sk J7 |-
          have Oh:Hid (Calls prog 48 #[.slice A4 m4 c4, .int .i64 (P:Int), .slice (some ⟨g,off,none⟩) j c, .slice (some ⟨gm,0,none⟩) j c3, .slice F nf cf] W4 λr w'=>r= .returned (.bool (E nq (used.set q true)))/\Below W4.heap.size W4 w'):=
           HE.out W4 A4 m4 c4 nq gm 0 c3 q (HB.out.trans (Sk.out.mono HB.out.size)) uQ.out.1 (by rw[<-uQ.out.1];exact VV.out.1) VV.out.2 (uQ.out.2.below J7.out) aM (HUS.out (by first|rfl|trivial)) R5.out
          generalize E nq (used.set q true)=ev at Oh HG;clear M8 bU MX Zs HUS;cases ev with
          |true=>
           go_wp2_with (go_at_call 48;refine Oh.out.mono ?_;rintro e w' ⟨rfl,hb⟩;obtain⟨x5,rfl⟩:=aE hb;clear hb)
           exact bH (v:= .bool true) (by simp[results,results48,go_sem]) rfl ⟨by rw[HTR.out HG.out,Bool.or_true],ji (HB.out.trans (Sk.out.mono HB.out.size)) x5⟩
          |false=>
           go_wp2_with (go_at_call 48;refine Oh.out.mono ?_;rintro e w' ⟨rfl,hb⟩;obtain⟨x5,rfl⟩:=aE hb;clear hb)
           exact⟨⟨q+1,by omega,by go_num,by rw[fX.out,HG.out],ji (HB.out.trans (Sk.out.mono HB.out.size)) x5⟩,by simp[intOf];omega⟩
      . obtain rfl:q=j:=by omega
        have HB:=ag hB;have Sp:=ag zJ;clear zJ hB;go_wp2;exact bH (v:= .bool false) (by simp[results,results48,go_sem]) rfl ⟨by rw[NI.out,Sp.out];rfl,HB.out⟩
def lB(used:List Bool):Nat:=(used.filter (λb=> !b)).length
theorem nG(used:List Bool)(i:Nat)(h:used.getD i true=false):lB (used.set i true)+1=lB used:=by
 unfold lB;induction used generalizing i with
 |nil=>simp at h
 |cons x l ih=>
  cases i with
  |zero=>
   have:x=false:=by simpa using h
   subst this;simp
  |succ i=>
   have:=ih i (by simpa using h);rw[List.set_cons_succ,sN,sN];split
   . simp only[List.length_cons];omega
   . exact this
theorem sZ(used:List Bool)(h:lB used=0)(i:Nat):used.getD i true=true:=by
 by_cases hi:i<used.length
 . cases hx:used.getD i true with
   |true=>rfl
   |false=>have:=nG used i hx;omega
 . rw[eY,oY ae];rfl
theorem vB(m:Nat):lB (List.replicate m false)=m:=by
 unfold lB;rw[yZ.2 (by intro a ha;rw[(List.mem_replicate.1 ha).2];rfl),yO]
theorem sH(P:Nat)(Jt:P<=1000)(m c:Nat)(AL:Option Addr)(l:List RQ)(iW:l.length=m)(jb:∀k,(l.getD k du).c.kind<=3)(hm:m<=1000)(F:Option Addr)(nf cf:Nat)(fin:List (Int×Int))(hf:fin.length=nf)(FX:nf<=1000)(N:Nat):∀(w:World) (A:Option Addr) (n8 c8:Nat) (vs:List (Int×Int)) (AU:Option Addr) (cu:Nat) (used:List Bool),lB used=N->vs.length=n8->n8<=P->sq vs->gP w A vs->
 (0<m->∃g off,AL=some ⟨g,off,none⟩/\Bz w g off m l)->used.length=m->(0<m->∃gu ou,AU=some ⟨gu,ou,none⟩/\xz w gu ou m used)->gP w F fin->
 Calls prog 48 #[.slice A n8 c8, .int .i64 (P:Int), .slice AL m c, .slice AU m cu, .slice F nf cf] w λr w'=>r= .returned (.bool (exq P l fin N vs used))/\Below w.heap.size w w':=by
 induction N with
 |zero=>
  intro w A n8 c8 vs AU cu used hN hl FZ kE hR hP I8 hU hF;refine(pT P Jt w A n8 c8 vs hl FZ kE hR AL m c l iW jb hm hP AU cu used I8 hU F nf cf fin hf FX hF (λ_ _=>false) (λW A' n' c' Hx g2 o2 c2 i _ _ _ _ _ _ hx _=>by rw[sZ used hN i]at hx;cases hx)).mono ?_;rintro e w' ⟨rfl,hb⟩;refine⟨?_,hb⟩
  have h0:(List.range m).any (JN P l vs used λ_ _=>false)=false:=by
   rw[KI];intro i _;simp[JN]
  rw[h0,tY];rfl
 |succ N ih=>
  intro w A n8 c8 vs AU cu used hN hl FZ kE hR hP I8 hU hF
  refine(pT P Jt w A n8 c8 vs hl FZ kE hR AL m c l iW jb hm hP AU cu used I8 hU F nf cf fin hf FX hF (exq P l fin N) (λW A' n' c' Hx g2 o2 c2 i hB hv G8 oO hr hi hx hBl=>
   ih W A' n' c' Hx (some ⟨g2,o2,none⟩) c2 (used.set i true) (by have:=nG used i hx;omega) hv G8 oO hr (λh0=>by
    obtain⟨g,off,h1,h2⟩:=hP h0;exact⟨g,off,h1,h2.bl hB⟩) (by rw[lO];exact I8) (λ_=>⟨g2,o2,rfl,hBl⟩) (hF.below hB))).mono ?_
  rintro e w' ⟨rfl,hb⟩;refine⟨?_,hb⟩;rw[<-iW];rfl
theorem mD(w:World)(P:Nat)(Jt:P<=1000)(A:Option Addr)(n8 c8:Nat)(vs:List (Int×Int))(hl:vs.length=n8)(FZ:n8<=P)(kE:sq vs)(hR:gP w A vs)(AL:Option Addr)(m c:Nat)(l:List RQ)(iW:l.length=m)(jb:∀k,(l.getD k du).c.kind<=3)(hm:m<=1000)(hP:0<m->∃g off,AL=some ⟨g,off,none⟩/\Bz w g off m l)
 (F:Option Addr) (nf cf:Nat) (fin:List (Int×Int)) (hf:fin.length=nf) (FX:nf<=1000) (hF:gP w F fin):
 Calls prog 29 #[.slice A n8 c8, .int .i64 (P:Int), .slice AL m c, .slice F nf cf] w λr w'=>r= .returned (.bool (exq P l fin m vs (List.replicate m false)))/\Below w.heap.size w w':=by
 have zE:=λW=>lh W m hm
 have oG:Hid (Below w.heap.size w (w.alloc (.cells (bools (List.replicate m false)).toArray 4))):=ai (bZ _ _) _
 have HE:Hid (Calls prog 48 #[.slice A n8 c8, .int .i64 (P:Int), .slice AL m c, .slice (some ⟨w.heap.size,0,none⟩) m m, .slice F nf cf] (w.alloc (.cells (bools (List.replicate m false)).toArray 4)) λr w'=>r= .returned (.bool (exq P l fin m vs (List.replicate m false)))/\Below (w.alloc (.cells (bools (List.replicate m false)).toArray 4)).heap.size (w.alloc (.cells (bools (List.replicate m false)).toArray 4)) w'):=
  sH P Jt m c AL l iW jb hm F nf cf fin hf FX m _ A n8 c8 vs (some ⟨w.heap.size,0,none⟩) m (List.replicate m false) (vB m) hl FZ kE (hR.below oG.out) (λh0=>by
   obtain⟨g,off,h1,h2⟩:=hP h0;exact⟨g,off,h1,h2.bl oG.out⟩) smQ (λ_=>⟨_,0,rfl,(Da (CB.new _ _ _) smQ hm).blP⟩) (hF.below oG.out)
 clear hR hP hF hl iW hf;go_enter func29,ntmps29
 go_wp2_with (go_at_call 48;refine HE.out.mono ?_;rintro e w' ⟨rfl,hb⟩;obtain⟨x,rfl⟩:=aE hb;clear hb)
 go_ret;exact⟨rfl,ji oG.out x⟩
end Go.Proofs.YtjkpjakodomnmaaGreatDoor
