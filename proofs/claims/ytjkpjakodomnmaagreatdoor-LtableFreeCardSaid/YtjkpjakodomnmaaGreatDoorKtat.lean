/- The base, part 20 (merged). -/
import Derived.Test.YtjkpjakodomnmaaGreatDoorKtas
import Derived.Shelf.SlSortCmp.NoneTotal
import Derived.Test.YtjkpjakodomnmaaGreatDoorKtar
set_option linter.unusedVariables false
set_option linter.unusedSimpArgs false
set_option maxRecDepth 100000
set_option maxHeartbeats 16000000
namespace Go.Proofs.YtjkpjakodomnmaaGreatDoor
open Go.RowKit Go.Proofs.Tryz
def VI(w:World)(A:Option Addr)(ws:List (Int×Int)):Prop:=∀k (h:k<ws.length),∃g off,A=some ⟨g,off,none⟩/\g<w.heap.size/\
 w.cell? ⟨g,off+k*2,none⟩=some (.int .u64 ws[k].1)/\w.cell? ⟨g,off+k*2+1,none⟩=some (.int .u64 ws[k].2)
def xq(x:Int×Int):List Value:=[.int .u64 x.1, .int .u64 x.2]
def cfW(x y:Int×Int):Int:=Lib.compareInt x.1 y.1
theorem ZaH(x y:Int×Int)(W:World):Calls prog 72 #[.agg #[.int .u64 x.1, .int .u64 x.2], .agg #[.int .u64 y.1, .int .u64 y.2]] W λe w'=>e= .returned (.int .i64 (cfW x y))/\∃q os',w'=Go.Sort.grow (W.drewN q) os':=by
 have hc:=λW=>Gt W x.1 y.1
 change∀W,Calls _ _ _ W λe w'=>e= .returned (.int .i64 (cfW x y))/\W=w' at hc
 generalize cfW x y=r at hc |-;go_enter func72,ntmps72
 go_wp2_with (go_at_call 73;refine(hc _).mono ?_;rintro e w' ⟨rfl,rfl⟩)
 go_ret;exact⟨rfl,0,_,by rw[Go.Sort.alloc_eq_grow,Go.Sort.alloc_eq_grow,Go.Sort.grow_grow];rfl⟩
theorem ltW(x y:Int×Int):ltOf cfW x y=decide (x.1<y.1):=by
 unfold ltOf cfW Lib.compareInt;by_cases h1:x.1<y.1
 . simp[h1]
 . by_cases h2:y.1<x.1<;>simp[h1,h2]
theorem Zcm:Go.Sort.SWO (ltOf cfW) where
 irrefl x:=by rw[ltW];simp
 trans x y z h1 h2:=by rw[ltW]at*;simp at*;omega
 ntrans x y z h1 h2:=by rw[ltW]at*;simp at*;omega
theorem QK{w:World}{g off n c:Nat}{ss:List (Int×Int)}(h:Sl 95 2 w (some ⟨g,off,none⟩) n c (az ss))(hn:ss.length=n):Go.Sort.HoldsK xq 2 w g off ss.toArray:=by
 intro t ht;have YO:t<ss.length*2:=by simpa using ht
 rw[Go.Sort.get_flatK _ _ _ _ (by simpa using YO)];have hk:t/2<ss.length:=by omega
 obtain⟨e1,e2⟩:=yi ss (t/2) hk;have c1:=h.cells _ rfl _ _ e1;have c2:=h.cells _ rfl _ _ e2;have h1:∀j,(⟨g,off,none⟩:Addr).add j=⟨g,off+j,none⟩:=by intro j;unfold Addr.add;split<;>simp_all
 rw[h1]at c1 c2;have hg:(ss.toArray)[t/2]! =ss[t/2]:=by simp[hk]
 have MX:w.frozen? ⟨g,off+t,none⟩=false:=by
  rcases h.2 with⟨hx,_⟩|⟨g',o',cur,hA,hC,_⟩
  . cases hx
  . have:g=g':=by cases hA;rfl
    subst this;exact hC.frozen _
 refine⟨?_,MX⟩;rw[hg];rcases Nat.mod_two_eq_zero_or_one t with hm|hm
 . rw[hm,show off+t=off+2*(t/2) by omega]
   simpa [xq]using c1
 . rw[hm,show off+t=off+(2*(t/2)+1) by omega]
   simpa [xq]using c2
theorem AP{w:World}{g off:Nat}{d:Array (Int×Int)}(h:Go.Sort.HoldsK xq 2 w g off d)(hg:g<w.heap.size):VI w (some ⟨g,off,none⟩) d.toList:=by
 intro k hk;have jC:k<d.size:=by simpa using hk
 have h0:=(h (k*2) (by simp;omega)).1;have h1:=(h (k*2+1) (by simp;omega)).1;rw[Go.Sort.get_flatK _ _ _ _ ae]at h0 h1;have e0:k*2/2=k:=by omega
 have e1:(k*2+1)/2=k:=by omega
 have e2:k*2%2=0:=by omega
 have e3:(k*2+1)%2=1:=by omega
 have hd:d[k]! =d[k]:=by simp[jC]
 rw[e0,e2,hd]at h0;rw[e1,e3,hd]at h1;refine⟨g,off,rfl,hg,?_,?_⟩
 . simpa [xq]using h0
 . simpa [xq,sL]using h1
theorem D4{w:World}{g off n:Nat}{d:Array (Int×Int)}{os:Array Obj}:Ch (At g) w (sortWorldK xq 2 w g off n d os):=by
 refine⟨rfl,rfl,rfl,?_,λb hb hS=> ?_⟩
 . exact size_sortWorldK_c xq 2 w g off n d os
 . have aG:g≠b:=λh=>hS h.symm
   unfold sortWorldK Go.Sort.grow Go.Sort.putRowK Go.Sort.putRow Go.Sort.mapBlock Go.Sort.ahead;simp only;rw[P3 (by simpa using hb),Array.getElem?_modify,if_neg aG]
theorem O9(w:World)(g off n c:Nat)(ss:List (Int×Int))(hn:ss.length=n)(hS:Sl 95 2 w (some ⟨g,off,none⟩) n c (az ss))(hb:n<=1000000):
 Calls prog 71 #[.slice (some ⟨g,off,none⟩) n c, .func (.func 72) #[] #[]] w λe w'=>e= .returned (.tuple #[])/\∃ws:List (Int×Int),ws.Perm ss/\(ws.Pairwise λa b=>a.1<=b.1)/\VI w' (some ⟨g,off,none⟩) ws/\Ch (At g) w w':=by
 have eg:∀args w,(callFunc 72 args).run prog w= .ok (.enter 72 args) w:=enters_of func72 krQ rfl
 have eh:g<w.heap.size:=by
  rcases hS.2 with⟨hx,_⟩|⟨g',o',cur,hA,hC,_⟩
  . cases hx
  . have:g=g':=by cases hA;rfl
    subst this;exact hC.lt
 have hH:=QK hS hn;have lR:ss.toArray.size=n:=by simpa using hn
 have Jo:=AnyQ.slices_SortFunc Wr 2 isAgg95 sizeOf95 xq (λ_=>rfl) (λx v hv=>by simp[xq]at hv;rcases hv with rfl|rfl<;>rfl) cfW Zcm 72 #[] g off c ss.toArray w eg (λ_ _ _ _ x y=>ZaH x y _) hH eh (by rw[lR];omega)
 rw[lR]at Jo;change Calls prog 71 _ _ _ at Jo;refine Jo.mono ?_;rintro e w' ⟨rfl,d',m,os,hp,hs,rfl⟩;obtain⟨p1,_,p3⟩:=hp;have hd:d'.size=n:=by rw[p1];exact lR
 have lC:d'.extract 0 n=d':=by rw[<-hd];simp
 have uw:ss.toArray.extract 0 n=ss.toArray:=by rw[<-lR];simp
 rw[lC,uw]at p3;refine⟨rfl,d'.toList,p3,?_,?_,D4⟩
 . rw[A8]
   intro i j hi hj xn;have Jl:i<d'.size:=by simpa using hi
   have iz:j<d'.size:=by simpa using hj
   have:=hs i j (im _) xn (by rw[<-hd];exact iz);rw[ltW]at this;have hdi:d'[i]! =d'[i]:=by simp[Jl]
   have hdj:d'[j]! =d'[j]:=by simp[iz]
   rw[hdi,hdj]at this;simp at this |-;omega
 . exact AP (holdsK_sortWorldK_c xq 2 w g off ss.toArray d' m os hH eh p1) (cD eh (size_sortWorldK_c xq 2 w g off m d' os))
theorem VI.X5{w:World}{A:Option Addr}{ws:List (Int×Int)}(h:VI w A ws):gP w A ws:=by
 by_cases h0:ws=[]
 . exact .inl h0
 . obtain⟨g,off,hA,hg,_,_⟩:=h 0 (List.length_pos_iff.2 h0)
   refine .inr ⟨g,off,hA,hg,λi e he=> ?_⟩;obtain⟨hl,h2⟩:=ki.1 he;obtain⟨g',zh,fL,_,c1,c2⟩:=h i hl;rw[hA]at fL;injection fL with fL;injection fL with e1 e2;subst e1 e2;rw[h2]at c1 c2;exact⟨c1,c2⟩
theorem XZ(w:World)(A:Option Addr)(n c:Nat)(es kv:List (Int×Int))(hn:es.length=n)(hS:Sl 95 2 w A n c (az es))(hb:n<=1000000)(hp:es.Perm kv)(hs:kv.Pairwise (λa b=>a.1<b.1)):
 Calls prog 71 #[.slice A n c, .func (.func 72) #[] #[]] w λe w'=>e= .returned (.tuple #[])/\gP w' A kv/\Ch (ah A) w w':=by
 cases hA:A with
 |none=>
  subst hA
  have F2:n=0:=by
   rcases hS.2 with⟨_,h1,h2⟩|⟨g,off,cur,hx,_⟩
   . omega
   . cases hx
  subst F2;have he:es=[]:=E9 hn;have hk:kv=[]:=by have:=hp.length_eq;rw[he]at this;exact E9 this.symm
  have hc:=AnyF.slices_SortFunc_none Wr none c (.func (.func 72) #[] #[]) w;change Calls prog 71 _ _ _ at hc;refine hc.mono ?_;rintro e w' ⟨rfl,rfl⟩;rw[hk];exact⟨rfl,gP.nil,Ch.refl _ _⟩
 |some a=>
  subst hA
  obtain⟨g,off,rfl⟩:∃g off,a=⟨g,off,none⟩:=by
   rcases hS.2 with⟨hx,_⟩|⟨g,off,cur,hx,_⟩
   . cases hx
   . injection hx with hx
     exact⟨g,off,hx⟩
  refine(O9 w g off n c es hn hS hb).mono ?_;rintro e w' ⟨rfl,ws,h1,h2,h3,h4⟩;have hwk:ws.Perm kv:=h1.trans hp
  have CE:ws=kv:=by
   have zF:ws.Pairwise (λa b=>a.1≠b.1):=by
    have:=hwk.pairwise_iff (R:=λa b:Int×Int=>a.1≠b.1) (λh=>cC h);exact this.2 (hs.imp (λh=>by omega))
   have aM:ws.Pairwise (λa b=>a.1<b.1):=by
    rw[A8]at h2 zF |-;intro i j hi hj xn;have a1:=h2 i j hi hj xn;have a2:=zF i j hi hj xn;omega
   exact PZ (le:=λa b=>a.1<b.1) (λa b _ _ h1 h2=>by omega) aM hs hwk
  rw[CE]at h3;exact⟨rfl,h3.X5,h4.mono (λb hb _=>by rw[show b=g from hb];rfl)⟩
structure Gz(K:Nat->Prop)(p d q n lines NN:Nat)(t:Nat->Nat)(bs:Nat->Option Nat)(w:World)(σ:PwS)(xs:List Int)(N:Nat)(L:Nat->Int)(T:Nat->TT)(fl:List Nat)(kv:List (Int×Int)):Prop where
 pm:bB K p d t 0 32 ((n:Int)*64) w σ
 on:On σ.dev n xs N
 hq:CB w q 117 (aK d p NN lines bs)
 hn:n<1000
 hP:2*(lines-2)=NN/\8<=lines/\lines<=15
 dS:272+4*NN=8*n
 wd:∀k,Mq 256 (8+4*NN) k->xs[k]?=some (L k)
 lr:∀k,Mq 256 (8+4*NN) k->0<=L k/\L k<4611686018427387904
 ab:kQ 256 8 NN cr N_ L T fl kv
 xG:xr lines L
section
variable{K:Nat->Prop}{p d q n lines NN N:Nat}{t:Nat->Nat}{bs:Nat->Option Nat}{w w':World}{σ:PwS}{xs:List Int}{L:Nat->Int}{T:Nat->TT}{fl:List Nat}{kv:List (Int×Int)}{κ:Nat->Nat}
theorem Gz.bl(h:Gz K p d q n lines NN t bs w σ xs N L T fl kv)(hB:Below w.heap.size w w'):Gz K p d q n lines NN t bs w' σ xs N L T fl kv:=
 ⟨h.pm.ko hB,h.on,h.hq.below hB,h.hn,h.hP,h.dS,h.wd,h.lr,h.ab,h.xG⟩
theorem o_.Ef(h:o_ κ p d q n lines NN t w kv N σ xs L T fl):Gz (λb=>κ b≠0) p d q n lines NN t (λ_=>none) w σ xs N L T fl kv:=
 ⟨h.qu.pm,h.qw.inv.on,h.qu.hq,h.qu.hn,h.qu.hP,h.qu.dS,λk hk=>h.qw.inv.idle (h.qw.ls.quiet (λi m hi=>by simp at hi)) k hk,h.qw.inv.hL,h.qw.ls.ab,h.xG⟩
theorem Gz.load(h:Gz K p d q n lines NN t bs w σ xs N L T fl kv){k:Nat}(hk:256<=k/\k<272+4*NN):Calls prog 68 #[.pointer (some ⟨t 0,0,none⟩), .int .u64 (8*(k:Int))] w λe w'=>e= .returned (.int .u64 (L k))/\w=w':=by
 obtain⟨role,bb,hh,hK⟩:=h.pm;exact OD hh.dv 0 ae h.on.off k (L k) (by rw[h.on.cur];exact h.wd k (by unfold Mq;omega))
def Ey(L:Nat->Int)(j:Nat):List Int:=(List.range j).map λk=>L (256+k)
theorem Oy(L:Nat->Int)(j:Nat):Ey L (j+1)=Ey L j++[L (256+j)]:=by unfold Ey;rw[xf,yL];rfl
theorem Kd(L:Nat->Int)(j:Nat):(Ey L j).length=j:=by simp[Ey]
theorem Gz.ws(h:Gz K p d q n lines NN t bs w σ xs N L T fl kv):VH (Ey L (16+4*NN)) L NN:=by
 refine⟨Kd _ _,λk h1 h2=> ?_,λk h1 h2=>h.lr k (by unfold Mq;omega),by have:=h.hP;omega⟩;unfold Ey;rw[AX,KN ae];show some (L (256+(k-256)))=_
 rw[show 256+(k-256)=k by omega]
def Po(NN s m:Nat)(W:Option Addr)(j cw:Nat)(vd:Bool):Array Value:=
 #[.slice none 0 0, .int .i64 0, .bool vd, .int .u64 2048, .int .u64 8, .int .u64 NN, .slice W j cw, .slice (some ⟨s,0,none⟩) (NN+1) (NN+1), .map (some m)]
structure Ak(NN:Nat)(w0:World)(L:Nat->Int)(b s m j:Nat)(W:Option Addr)(cw:Nat)(vd:Bool)(w:World):Prop where
 cb:CB w b 149 (Po NN s m W j cw vd)
 sn:CB w s 4 (bools (List.replicate (NN+1) false)).toArray
 mp:rL w m (λ_=>false) 0
 ws:Sl 22 1 w W j cw ((Ey L j).map (.int .u64))
 d1:b≠s/\b≠m/\s≠m
 ge:w0.heap.size<=b/\w0.heap.size<=s/\w0.heap.size<=m
 oW:∀x,ah W x->w0.heap.size<=x/\x≠b/\x≠s/\x≠m
 bl:Below w0.heap.size w0 w
theorem MF:(prog.info? 22).map (λi=>(i.zero,i.size,i.bytes))=some (some (.int .u64 0),1,8):=by kernel_rfl
theorem xd(W:World)(m:Nat)(hm:m<=1000):(Instr.makeSlice 122 (.int .u64 (m:Int)) (.int .u64 (m:Int))).run prog W= .ok (.slice (some ⟨W.heap.size,0,none⟩) m m) (W.alloc (.cells (bools (List.replicate m false)).toArray 4)):=by
 cases hi:prog.info? 4 with
 |none=>have:=rj;rw[hi]at this;cases this
 |some i=>
  have bp:=rj;rw[hi]at bp;simp only[Option.map_some,sP,rY]at bp;obtain⟨hz,hs,hb⟩:=bp;have hr:=run_make (P:=prog) W 122 4 i (.bool false) underlying122 hi hz .u64 .u64 m m ae ae (by rw[hb];omega) ae;rw[hr,hs];simp only[Int.toNat_natCast,wo];congr 3;congr 1;simp only[madeCells,Value.cells,bools,Fm];apply Array.ext
  . simp
  . intro i h1 h2
    simp[Fa]
theorem Ak.next{NN b s m j cw c6:Nat}{w0 wr X w6:World}{L:Nat->Int}{W A6:Option Addr}{vd:Bool}(h:Ak NN w0 L b s m j W cw vd wr)(hX:Below wr.heap.size wr X)(o:Sl 22 1 w6 A6 (j+1) c6 ((Ey L j).map (.int .u64)++[.int .u64 (L (256+j))]))(hc:Ch (ah W) X w6)(hW:∀y,ah A6 y->ah W y\/wr.heap.size<=y):
 Ak NN w0 L b s m (j+1) A6 c6 vd (w6.setCell ⟨b,6,none⟩ (.slice A6 (j+1) c6)):=by
 have h1:=h.cb.lt;have h2:=h.sn.lt;have h3:=h.mp.lt;have h0:=hX.size;have kp:∀{y:Nat},y<wr.heap.size->¬ah W y->w6.heap[y]?=wr.heap[y]?:=λhy hn=>(hc.block _ (cD hy h0) hn).trans (hX.block _ hy)
 have nb:∀{y:Nat},(y=b\/y=s\/y=m)->¬ah W y:=λhy hx=>by have:=h.oW _ hx;omega
 have nA:∀y,ah A6 y->y≠b/\y≠s/\y≠m:=λy hy=>by
  rcases hW y hy with hx|hx
  . exact(h.oW y hx).2
  . omega
 refine⟨?_,?_,?_,?_,h.d1,h.ge,λy hy=> ?_,?_⟩
 . exact(h.cb.keep (kp h1 (nb (.inl rfl)))).set 6 _
 . exact(h.sn.keep (kp h2 (nb (.inr (.inl rfl))))).far (p:=⟨b,6,none⟩) (cC h.d1.1) _
 . exact h.mp.keep ((ft _ _ _ _ (cC h.d1.2.1)).trans (kp h3 (nb (.inr (.inr rfl)))))
 . rw[Oy,yL]
   exact o.keep (λy hy=>ft _ _ _ _ (nA y hy).1)
 . have h5:=h.bl.size
   rcases hW y hy with hx|hx
   . exact h.oW y hx
   . exact⟨by omega,nA y hy⟩
 . have h6:=h.ge
   have h7:=h.bl;refine bM (bM h7 ((Ch.au (S:=ah W) hX).trans hc (λb hb _=>hb)) (λy hy=>(h.oW y hy).1)) ((Ch.refl (At b) w6).bj _ _) (λy hy=>by rw[show y=b from hy];exact h6.1)
theorem Sl.rdR{w:World}{A:Option Addr}{n c:Nat}{xs:List Int}(h:Sl 22 1 w A n c (xs.map (Value.int .u64))):Rd .u64 w A xs:=by
 rcases Nat.eq_zero_or_pos n with rfl|hn
 . have:=h.1
   left;simpa using this
 . have hl:xs.length=n:=by simpa using h.1
   obtain⟨g,off,rfl,hg,_⟩:=h.at_ (j:=0) (by simp;omega);refine .inr ⟨g,off,rfl,hg,λi hi=> ?_⟩;obtain⟨g',zh,h1,h2,h3⟩:=h.at_ (j:=i) (by simpa using hi);injection h1 with h1;injection h1 with h1 ZT;subst h1 ZT;rw[h3];simp
theorem Ak.valid{NN b s m j cw:Nat}{w0 wr:World}{L:Nat->Int}{W:Option Addr}{vd:Bool}(h:Ak NN w0 L b s m j W cw vd wr):Ak NN w0 L b s m j W cw true (wr.setCell ⟨b,2,none⟩ (.bool true)):=by
 have h6:=h.ge;refine⟨h.cb.set 2 _,h.sn.far (p:=⟨b,2,none⟩) (cC h.d1.1) _,h.mp.keep (ft _ _ _ _ (cC h.d1.2.1)),h.ws.keep (λy hy=>ft _ _ _ _ (h.oW y hy).2.1),h.d1,h.ge,h.oW,bM h.bl ((Ch.refl (At b) wr).bj _ _) (λy hy=>by rw[show y=b from hy];exact h6.1)⟩
theorem Ak.dn{NN b s m j cw nq:Nat}{w0 wr:World}{L:Nat->Int}{W:Option Addr}{vd:Bool}(h:Ak NN w0 L b s m j W cw vd wr):Ak NN w0 L b s m j W cw vd (wr.drewN nq):=
 ⟨h.cb.drewN nq,h.sn.drewN nq,h.mp.keep rfl,h.ws.keep (λy hy=>rfl),h.d1,h.ge,h.oW,iT h.bl nq⟩
theorem Ak.rdM{NN b s m j cw:Nat}{w0 wr:World}{L:Nat->Int}{W:Option Addr}(h:Ak NN w0 L b s m j W cw true wr):lK NN w0.heap.size (Ey L j) ⟨b,s,m,W,cw⟩ wr none 0 ⟨List.replicate (NN+1) false,λ_=>false,0,[],0⟩:=by
 refine⟨?_,h.sn,by simp,h.mp,Sl.nil,Sl.rdR h.ws,h.d1,λx hx=>by simp[ah]at hx,λx hx=>⟨(h.oW x hx).1,(h.oW x hx).2.1,(h.oW x hx).2.2.1,(h.oW x hx).2.2.2,λhy=>by simp[ah]at hy⟩,h.ge,h.bl.size⟩;have:=h.cb;show CB wr b 149 (lW NN ⟨b,s,m,W,cw⟩ (Ey L j).length none 0 _)
 rw[Kd];exact this
theorem Ak.word{NN b s m j cw:Nat}{w0 wr:World}{L:Nat->Int}{W:Option Addr}{vd:Bool}(h:Ak NN w0 L b s m j W cw vd wr){i:Nat}(hi:i<j):∃g off,W=some ⟨g,off,none⟩/\g<wr.heap.size/\∀i,i<j->wr.cell? ⟨g,off+i,none⟩=some (.int .u64 (L (256+i))):=by
 obtain⟨g,off,hA,hg,_⟩:=h.ws.at_ (j:=0) (by simp[Ey];omega);refine⟨g,off,hA,hg,λi hi=> ?_⟩;have hc:=h.ws.cells _ hA i (.int .u64 (L (256+i))) (by simp[Ey,hi]);have had:(⟨g,off,none⟩:Addr).add i=⟨g,off+i,none⟩:=by unfold Addr.add;split<;>simp_all
 rw[had]at hc;exact hc
theorem Za1{W1:World}{m1:Nat}(h:NN+1=m1):Ak NN W1 L (W1.heap.size+1+1) W1.heap.size (W1.heap.size+1) 0 none 0 false (((W1.alloc (.cells (bools (List.replicate m1 false)).toArray 4)).alloc (.map #[] 0)).alloc (.cells #[.slice none 0 0, .int .i64 0, .bool false, .int .u64 2048, .int .u64 8, .int .u64 NN, .slice none 0 0, .slice (some ⟨W1.heap.size,0,none⟩) m1 m1, .map (some (W1.heap.size+1))] 149)).drew:=by
 subst h;refine⟨?_,?_,?_,Sl.nil,⟨by omega,by omega,by omega⟩,⟨by omega,by omega,by omega⟩,λx hx=>by simp[ah]at hx,by show Below _ _ _;exact aC⟩
 . exact(CB.br _ _ _ smQ:CB (_:World) _ _ _).drewN 1
 . exact((CB.br _ _ _ rfl:CB (_:World) _ _ _).below (ai (ai (bZ _ _) _) _)).drewN 1
 . have:=rL.made (W1.alloc (.cells (bools (List.replicate (NN+1) false)).toArray 4))
   have e:(W1.alloc (.cells (bools (List.replicate (NN+1) false)).toArray 4)).heap.size=W1.heap.size+1:=by simp
   rw[e]at this;exact this.keep (d_ _ _ _ this.lt)
theorem Za0{W1:World}{m1:Nat}(h:NN+1=m1):Ak NN W1 L (W1.heap.size+1+1) (W1.heap.size+1) W1.heap.size 0 none 0 false (((W1.alloc (.map #[] 0)).alloc (.cells (bools (List.replicate m1 false)).toArray 4)).alloc (.cells #[.slice none 0 0, .int .i64 0, .bool false, .int .u64 2048, .int .u64 8, .int .u64 NN, .slice none 0 0, .slice (some ⟨(W1.heap.size+1),0,none⟩) m1 m1, .map (some W1.heap.size)] 149)).drew:=by
 subst h;refine⟨?_,?_,?_,Sl.nil,⟨by omega,by omega,by omega⟩,⟨by omega,by omega,by omega⟩,λx hx=>by simp[ah]at hx,by show Below _ _ _;exact aC⟩
 . exact(CB.br _ _ _ smQ:CB (_:World) _ _ _).drewN 1
 . exact((CB.br _ _ _ smQ:CB (_:World) _ _ _).below (ai (bZ _ _) _)).drewN 1
 . have:=rL.made W1
   refine this.keep ?_;have h1:=this.lt;exact(d_ _ _ _ (by simp;omega)).trans (d_ _ _ _ h1)
def JU(w0:World)(NN:Nat)(kv:List (Int×Int))(w:World)(e:Ending)(w':World):Prop:=
 ∃A c,e= .returned (.agg #[.slice A kv.length c, .int .i64 ((NN-kv.length:Nat):Int), .bool true])/\gP w' A kv/\(∀x,ah A x->w.heap.size<=x)/\Below w.heap.size w w'
theorem Ak.chain{b s m nw cw:Nat}{W1 w1:World}{W:Option Addr}(hV:Gz K p d q n lines NN t bs w σ xs N L T fl kv)(pw:16+4*NN=nw)(h:Ak NN W1 L b s m nw W cw true w1):
 Calls prog 69 #[.pointer (some ⟨b,0,none⟩)] w1 λe w'=>e= .returned (.tuple #[])/\lK NN W1.heap.size (Ey L nw) ⟨b,s,m,W,cw⟩ w' none 0 ⟨dR (List.replicate (NN+1) false) fl,λ_=>false,0,[],fl.length⟩/\Below W1.heap.size W1 w':=by
 have CE:=hV.ws;rw[pw]at CE;have Nd:=hV.ab;refine(Tt (fl:=fl) h.rdM CE Nd.fr Nd.n3 (λn hn=>by have:=(Nd.fr.num n hn);show(List.replicate (NN+1) false)[n]?=_;rw[IA,aA ae]) (by show 0+fl.length<100000;have:=Nd.ct;have:=CE.nn;omega)).mono ?_;rintro e w' ⟨rfl,h1,h2⟩;simp only[cY]at h1;exact⟨rfl,h1,bM h.bl h2 (λy hy=>by have:=h.ge;rcases hy with hy|hy<;>(rw[hy];first|exact this.1|exact this.2.1))⟩
def TrQ(NN:Nat)(L:Nat->Int)(nw:Nat)(T:Nat->TT)(fl:List Nat)(B:Ob)(W1:World)(j:Nat)(w:World):Prop:=
 ∃A c F,lK NN W1.heap.size (Ey L nw) B w A c F/\nM NN T fl j F/\Below W1.heap.size W1 w
theorem TrQ.step{nw j:Nat}{W1 w1:World}{B:Ob}(hV:Gz K p d q n lines NN t bs w σ xs N L T fl kv)(pw:16+4*NN=nw)(h:TrQ NN L nw T fl B W1 j w1)(hj:j<8):
 Calls prog 70 #[.pointer (some ⟨B.b,0,none⟩), .int .u64 (j:Int)] w1 λe w'=>e= .returned (.tuple #[])/\TrQ NN L nw T fl B W1 (j+1) w':=by
 have CE:=hV.ws;rw[pw]at CE;have Nd:=hV.ab;obtain⟨A,c,F,hR,hT,hB⟩:=h;have Bp:=hT.bound Nd hj;have DI:=CE.nn;have WM:=hT.nk;refine(XO (b:=j) hj hR CE (Nd.tr j hj) (Nd.wf j hj) (hT.trH Nd hj) (MS NN).inj ⟨by omega,by omega⟩).mono ?_;rintro e w' ⟨rfl,A',c',F',dn,uY,p1,p2,p3,p4,p5,p6,p7,p8,p9⟩;exact⟨rfl,A',c',F',p1,hT.next p3 p4 p5 p6 p7 p8 p9,bM hB p2 (λy hy=>hy)⟩
end
section
variable{K:Nat->Prop}{p d q n lines NN N:Nat}{t:Nat->Nat}{bs:Nat->Option Nat}{w w':World}{σ:PwS}{xs:List Int}{L:Nat->Int}{T:Nat->TT}{fl:List Nat}{kv:List (Int×Int)}{κ:Nat->Nat}
theorem Ig(h:Gz K p d q n lines NN t bs w σ xs N L T fl kv):
 Calls prog 47 #[.pointer (some ⟨q,0,none⟩)] w (JU w NN kv w):=by
 obtain⟨w00,Zek⟩:∃w00,w00=w:=⟨_,rfl⟩;have HV:=ag h;have iX:NN<1000:=by have:=h.hP;omega
 have JX:Hid (∀W,Below w.heap.size w W->Calls prog 37 #[.pointer (some ⟨d,0,none⟩), .int .i64 0] W λe w'=>e= .returned (.pointer (some ⟨t 0,0,none⟩))/\W=w'):=λW hW=>by
  obtain⟨role,bb,hh,hK⟩:=h.pm.ko hW;exact kL hh.dv 0 ae
 have tL:=ag (λ(W:World) (hW:Below w.heap.size w W) (k:Nat) (hk:256<=k/\k<272+4*NN)=>(h.bl hW).load hk);obtain⟨c0,c1,c2,c3,c4,c5,ql⟩:=h.hq.tac;obtain⟨m1,fv⟩:=aH (NN+1);have zE:=λW:World=>xd W m1 ae
 have e0:IntKind.u64.wrap ((NN:Int)+1)=(m1:Int):=by rw[bY _ ae];omega
 have HM1:=ag fv;clear fv;have NV:= @run_makeMap prog;have HP:=ag h.hP;clear h;go_enter func47,ntmps47
 go_upto_region 1 with(fail)
 have oL:w.heap.size=w.heap.size:=rfl;have g0:(w.alloc (.cells #[.slice none 0 0, .int .i64 0, .bool false] 119)).cell? ⟨q,0,none⟩=some (.int .u64 2048):=by go_simp
 have g1:(w.alloc (.cells #[.slice none 0 0, .int .i64 0, .bool false] 119)).cell? ⟨q,1,none⟩=some (.int .u64 8):=by go_simp
 have g2:(w.alloc (.cells #[.slice none 0 0, .int .i64 0, .bool false] 119)).cell? ⟨q,2,none⟩=some (.int .u64 NN):=by go_simp
 have gl:q<(w.alloc (.cells #[.slice none 0 0, .int .i64 0, .bool false] 119)).heap.size:=by simp;omega
 have gB:Below w.heap.size w (w.alloc (.cells #[.slice none 0 0, .int .i64 0, .bool false] 119)):=ai (bZ _ _) _;have gC:CB (w.alloc (.cells #[.slice none 0 0, .int .i64 0, .bool false] 119)) w.heap.size 119 #[.slice none 0 0, .int .i64 0, .bool false]:=CB.br _ _ _ rfl;obtain⟨W1,fV⟩:=aH (w.alloc (.cells #[.slice none 0 0, .int .i64 0, .bool false] 119));rw[fV]at g0 g1 g2 gl gB gC |-;obtain⟨rb,UD⟩:∃rb,rb=w.heap.size:=⟨_,rfl⟩;rw[<-UD]at gC |-;have HRB:=ag UD;have GC:=ag gC;have GB:=ag gB;clear fV gB gC UD c0 c1 c2 c3 c4 c5 oL;go_cut [3]from 9 to 22 (λr wx=>∃b s m,r= .pointer (some ⟨b,0,none⟩)/\Ak NN W1 L b s m 0 none 0 false wx)
 case first=>
  go_region_held3 (λw'=>w'.cell? ⟨q,0,none⟩=some (.int .u64 2048)/\w'.cell? ⟨q,1,none⟩=some (.int .u64 8)/\w'.cell? ⟨q,2,none⟩=some (.int .u64 NN)/\q<w'.heap.size)
   ((refine⟨?_,?_,?_,?_⟩<;>first|assumption|(go_simp;done)|exact(Below.cell (p:=⟨q,0,none⟩) (show Below W1.heap.size W1 _ by exact aC) gl).trans g0|exact(Below.cell (p:=⟨q,1,none⟩) (show Below W1.heap.size W1 _ by exact aC) gl).trans g1|exact(Below.cell (p:=⟨q,2,none⟩) (show Below W1.heap.size W1 _ by exact aC) gl).trans g2|(simp;omega)))
   (first|(go_at_call 47;fail))
  all_goals go_wp2
  all_goals go_meet
  all_goals first|exact⟨_,_,_,rfl,Za1 HM1.out⟩|exact⟨_,_,_,rfl,Za0 HM1.out⟩
 case rest=>
  obtain⟨b,s,m,rfl,hI⟩:=hcut;have HI:=ag hI;have hB:=GB.out.trans (hI.bl.mono GB.out.size);have HB:=ag hB;obtain⟨k0,k1,k2,k3,k4,k5,kl⟩:=(HV.out.bl hB).hq.tac;have tG:=HP.out;have e1:IntKind.i64.wrap ((lines:Int)*8)=((16+4*NN:Nat):Int):=by rw[b9 _ ae];omega
  obtain⟨nw,pw⟩:=aH (16+4*NN);rw[pw]at e1;have J1:=ag pw;clear hI hB tG pw g0 g1 g2 gl zE NV e0;go_upto_region 3 with(go_at_call 37;(with_reducible refine(JX.out _ HB.out).mono ?_);rintro e w1 ⟨rfl,rfl⟩)
  iterate 22 go_step
  go_cut [5,33]from 34 (λ_ _ wx=>∃W cw,Ak NN W1 L b s m nw W cw false wx)
  case first=>
   refine wp_block ?_;go_loopw [33,5,34,35,36,37,38,39,40,41,42,43,44,45,46,47,48,49,50,51,52,53,54,55,56] (λi _ _ _ _ _ _ _ _ _ _ _ _ _ _ _ _ _ _ _ _ _ _ _ _ wr=>∃(j:Nat) (W:Option Addr) (cw:Nat),j<=nw/\i= .int .i64 j/\Ak NN W1 L b s m j W cw false wr) (λi _ _ _ _ _ _ _ _ _ _ _ _ _ _ _ _ _ _ _ _ _ _ _ _ _=>nw-(intOf i).toNat)
   case atStart=>exact⟨0,none,0,by omega,rfl,HI.out⟩
   case round=>
    obtain⟨j,W,cw,hj,rfl,hI⟩:=hrel;have HII:=ag hI;have hBr:=GB.out.trans (hI.bl.mono GB.out.size);have HBr:=ag hBr;clear k0 k1 k2 k3 k4 k5 kl;by_cases aM:j<nw
    . have dx:(j:Int)<(nw:Int):=by omega
      obtain⟨k0,k1,k2,k3,k4,k5,kl⟩:=(HV.out.bl hBr).hq.tac;have b6:wr.cell? ⟨b,6,none⟩=some (.slice W j cw):=hI.cb.cell 6;have bf:=hI.cb.frozen 6;have bl:=hI.cb.lt;have pw:=J1.out;have e2:IntKind.u64.wrap (j:Int)=(j:Int):=bY _ ae;have e3:IntKind.u64.wrap (8*(j:Int))=8*(j:Int):=bY _ ae;obtain⟨of,QL⟩:∃of:Int,8*((256+j:Nat):Int)=of:=⟨_,rfl⟩;have e4:IntKind.u64.wrap (2048+8*(j:Int))=of:=by rw[bY _ ae];omega
      have HLJ:Hid (∀W',Below wr.heap.size wr W'->Calls prog 68 #[.pointer (some ⟨t 0,0,none⟩), .int .u64 of] W' λe w'=>e= .returned (.int .u64 (L (256+j)))/\W'=w'):=λW' Gb=>by
       have:=tL.out W' (HBr.out.trans (Gb.mono HBr.out.size)) (256+j) ae;rw[QL]at this;exact this
      have LD:=ag hI.ws;have tK:Hid (¬ah W b/\¬ah W q):=⟨λhx=>(hI.oW b hx).2.1 rfl,λhx=>by have h1:=(hI.oW q hx).1;have h2:=GB.out.size;omega⟩;have hbq:b≠q:=by have h1:=hI.ge.1;have h2:=GB.out.size;omega
      have hnj:j<10000:=by omega
      clear hI hBr QL pw k1 k2 k3 k4 k5;go_upto_region 6 with(fail)
      refine gQ 20 (λw'=>w'.cell? ⟨b,6,none⟩=some (.slice W j cw)/\w'.cell? ⟨q,0,none⟩=some (.int .u64 2048)/\b<w'.heap.size/\q<w'.heap.size/\w'.frozen? ⟨b,6,none⟩=false) krQ (by(refine⟨?_,?_,?_,?_,?_⟩<;>first|assumption|(go_simp;done)|(simp;omega))) (λhHeld=> ?_)
      refine aw.tk 0 ?_;try simp only[puQ]
      refine aw.tk 1 ?_;try simp only[puQ]
      refine aw.tk 2 ?_;try simp only[puQ]
      refine aw.tk 3 ?_;try simp only[puQ]
      refine aw.tk 4 ?_;try simp only[puQ]
      refine aw.tk 5 ?_;try simp only[puQ]
      refine aw.tk 6 ?_;try simp only[puQ]
      refine aw.tk 7 ?_;try simp only[puQ]
      refine aw.tk 8 ?_;try simp only[puQ]
      refine aw.tk 9 ?_;try simp only[puQ]
      refine aw.tk 10 ?_;try simp only[puQ]
      refine aw.tk 11 ?_;try simp only[puQ]
      refine aw.tk 12 ?_;try simp only[puQ]
      refine aw.tk 13 ?_;try simp only[puQ]
      refine aw.tk 14 ?_;try simp only[puQ]
      refine aw.one (i:=15) krQ rfl (λK hK=> ?_)
      (go_simp;go_at_call 68;(with_reducible refine(HLJ.out _ aC).mono ?_);rintro e w4 ⟨rfl,rfl⟩)
      refine hK.out _ _ (λ_=> ?_) (λhHeld0=> ?_)
      . (try dsimp only)
        (refine⟨?_,?_,?_,?_,?_⟩<;>first|assumption|(go_simp;done)|(simp;omega))
      have hHeld:=hHeld0 (by decide);clear hK K hHeld0;try simp only[puQ]
      refine aw.one (i:=16) krQ rfl (λK hK=> ?_);go_simp;refine hK.out _ _ (λ_=> ?_) (λhHeld0=> ?_)
      . (try dsimp only)
        (refine⟨?_,?_,?_,?_,?_⟩<;>first|assumption|(go_simp;done)|(simp;omega))
      have hHeld:=hHeld0 (by decide);clear hK K hHeld0;try simp only[puQ]
      refine aw.one (i:=17) krQ rfl (λK hK=> ?_)
      (refine dJ rfl (.tmp 40) (.tmp 52) 96 rfl 22 (.int .u64 0) 1 8 rfl ae underlying96 MF ae W j cw ((Ey L j).map (.int .u64)) ⟨wr.heap.size,0,none⟩ 1 1 [.int .u64 (L (256+j))] (by go_simp) (by go_simp) (LD.out.keep (λy hy=>d_ wr.drew _ y (LD.out.lt hy))) rfl ae (dT wr.drew 22 _) (ir.1 rfl) ae ?_;intro A6 c6 w6 HO6 Hs HW6 HG6;have y1:w6.cell? ⟨b,6,none⟩=some (.slice W j cw):=(Hs.out.cells b 6 oH tK.out.1).trans (by go_simp);have y2:w6.cell? ⟨q,0,none⟩=some (.int .u64 2048):=(Hs.out.cells q 0 oH tK.out.2).trans (by go_simp);have y3:b<w6.heap.size:=cD oH Hs.out.size;have y4:q<w6.heap.size:=cD oH Hs.out.size;have y5:w6.frozen? ⟨b,6,none⟩=false:=(Hs.out.jE b 6 oH tK.out.1).trans (by go_simp))
      refine hK.out _ _ (λ_=> ?_) (λhHeld0=> ?_)
      . (try dsimp only)
        (refine⟨?_,?_,?_,?_,?_⟩<;>first|assumption|(go_simp;done)|(simp;omega))
      have hHeld:=hHeld0 (by decide);clear hK K hHeld0;try simp only[puQ]
      refine aw.one (i:=18) krQ rfl (λK hK=> ?_);go_simp;refine hK.out _ _ (λ_=> ?_) (λhHeld0=> ?_)
      . (try dsimp only)
        (refine⟨?_,?_,?_,?_,?_⟩<;>first|assumption|(go_simp;done)|(simp;omega))
      have hHeld:=hHeld0 (by decide);clear hK K hHeld0;try simp only[puQ]
      refine aw.one (i:=19) krQ rfl (λK hK=> ?_);go_simp;refine hK.out _ _ (λ_=> ?_) (λhHeld0=> ?_)
      . (try dsimp only)
        (refine⟨?_,?_,?_,?_,?_⟩<;>first|assumption|(go_simp;done)|(simp;omega))
      have hHeld:=hHeld0 (by decide);clear hK K hHeld0;try simp only[puQ]
      refine aw.one (i:=20) krQ rfl (λK hK=> ?_);go_simp;refine hK.out _ _ (λhx=>absurd rfl hx) (λhHeld=> ?_);clear hK K hHeld;try simp only[puQ]
      refine aw.done krQ ?_ _;have HIN:=HII.out.next (X:=wr.drew.alloc (.cells #[.int .u64 (L (256+j))] 22)) (show Below _ _ _ by exact aC) HO6.out Hs.out (λy hy=>(HW6.out y hy).imp id (λhx=>by rw[hx];simp));go_wp2;exact⟨⟨j+1,A6,c6,by omega,by go_num,HIN⟩,by simp[intOf];omega⟩
    . obtain rfl:j=nw:=by omega
      have dx:¬(j:Int)<(j:Int):=by omega
      clear hI hBr;go_wp2;go_meet
      case rel=>exact⟨W,cw,HII.out⟩
  case rest=>
   clear k0 k1 k2 k3 k4 k5 kl HI HB JX tL;obtain⟨W,cw,hI⟩:=hcut;have tG:=HP.out;have pw:=J1.out;have Zez:1<nw:=by omega
   obtain⟨gw,ow,rfl,vL,ML⟩:=hI.word (i:=0) ae;have z0:=ML 0 ae;have z1:=ML 1 ae;rw[show 256+0=256 from rfl,HV.out.xG.1,Nat.add_zero]at z0;rw[show 256+1=257 from rfl,HV.out.xG.2]at z1;have hB:=GB.out.trans (hI.bl.mono GB.out.size);obtain⟨k0,k1,k2,k3,k4,k5,kl⟩:=(HV.out.bl hB).hq.tac;have b6:wc.cell? ⟨b,6,none⟩=some (.slice (some ⟨gw,ow,none⟩) nw cw):=hI.cb.cell 6;have b2:wc.cell? ⟨b,2,none⟩=some (.bool false):=hI.cb.cell 2;have bf:=hI.cb.frozen 2;have bl:=hI.cb.lt;have e5:IntKind.u64.wrap (lines:Int)=(lines:Int):=bY _ ae;have qm:0<nw:=by omega
   have dS:(1:Int)<(nw:Int):=by omega
   have CV:=ag hI;have UW:=hI.oW gw rfl;have Hf:b≠gw:=cC UW.2.1;have hbq:b≠q:=by have h1:=hI.ge.1;have h2:=GB.out.size;omega
   clear hI hB tG pw ML k0 k1 k2 k3 k4 UW;go_upto_region 8 with(fail)
   go_cut []from 57 to 81 (λwx=>Ak NN W1 L b s m nw (some ⟨gw,ow,none⟩) cw true wx)
   case first=>
    go_region_held3 (λw'=>w'.cell? ⟨b,6,none⟩=some (.slice (some ⟨gw,ow,none⟩) nw cw)/\w'.cell? ⟨gw,ow,none⟩=some (.int .u64 327831077452)/\w'.cell? ⟨gw,ow+1,none⟩=some (.int .u64 (lines:Int))/\w'.cell? ⟨q,5,none⟩=some (.int .i64 (lines:Int))/\b<w'.heap.size/\gw<w'.heap.size/\q<w'.heap.size)
     ((refine⟨?_,?_,?_,?_,?_,?_,?_⟩<;>first|assumption|(go_simp;done)|(simp;omega)))
     (first|(go_at_call 47;fail))
    go_wp2;go_meet;exact CV.out.dn (nq:=1)|>.valid
   case rest=>
    clear b6 b2 bf bl z0 z1 k5 kl CV vL;have Om:=ag hcut;have b6:wc.cell? ⟨b,6,none⟩=some (.slice (some ⟨gw,ow,none⟩) nw cw):=hcut.cb.cell 6;have bl:=hcut.cb.lt;clear hcut;go_upto_region 9 with(fail)
    iterate 22 go_step
    go_cut [7,87]from 88 (λ_ _ wx=>Ak NN W1 L b s m nw (some ⟨gw,ow,none⟩) cw true wx)
    case first=>
     refine wp_block ?_;go_loopw [87,7,88,89,90,91,92,93,94,95,96,97,98,99,100,101,102,103,104,105] (λi _ _ _ _ _ _ _ _ _ _ _ _ _ _ _ _ _ _ _ wr=>∃(j:Nat),j<=nw/\i= .int .i64 j/\Ak NN W1 L b s m nw (some ⟨gw,ow,none⟩) cw true wr) (λi _ _ _ _ _ _ _ _ _ _ _ _ _ _ _ _ _ _ _ _=>nw-(intOf i).toNat)
     case atStart=>exact⟨0,by omega,rfl,Om.out⟩
     case round=>
      clear b6 bl;obtain⟨j,hj,rfl,hI⟩:=hrel;have HI4:=ag hI;by_cases aM:j<nw
      . have dx:(j:Int)<(nw:Int):=by omega
        have MU:(0:Int)<=(j:Int):=by omega
        obtain⟨g',o',he,vL,ML⟩:=hI.word (i:=0) ae;injection he with he;injection he with he W9;subst he W9;have z0:=ML j aM;have hr:=HV.out.lr (256+j) (by have:=J1.out;unfold Mq;omega);obtain⟨x,hx⟩:=aH (L (256+j));rw[hx]at z0 hr;have e6:x/4611686018427387904=0:=by omega
        have b2:wr.cell? ⟨b,2,none⟩=some (.bool true):=hI.cb.cell 2;have bf:=hI.cb.frozen 2;have bl:=hI.cb.lt;have hnj:j<10000:=by have:=J1.out;omega
        clear hI ML hr hx;go_wp2;clear e6;exact⟨⟨j+1,by omega,by go_num,HI4.out.valid⟩,by simp[intOf];omega⟩
      . obtain rfl:j=nw:=by omega
        have dx:¬(j:Int)<(j:Int):=by omega
        clear hI;go_wp2;go_meet
        case rel=>exact HI4.out
    case rest=>
     have Ec:=ag (hcut.chain HV.out J1.out);clear Om b6 bl hcut;go_upto_region 14 with(fail)
     go_upto_region 15 with(go_at_call 69;(with_reducible refine Ec.out.mono ?_);rintro e w1 ⟨rfl,hC,Li⟩;have HC:=ag hC;have Az:=ag Li;clear hC Li)
     have hB:=GB.out.trans (Az.out.mono GB.out.size);obtain⟨k0,k1,k2,k3,k4,k5,kl⟩:=(HV.out.bl hB).hq.tac;have HQ0:Hid (TrQ NN L nw T fl ⟨b,s,m,some ⟨gw,ow,none⟩,cw⟩ W1 0 w1):=⟨none,0,_,HC.out,nM.start,Az.out⟩;clear hB k0 k2 k3 k4 k5 Ec HC Az;iterate 22 go_step
     go_cut [8,113]from 114 (λ_ _ wx=>TrQ NN L nw T fl ⟨b,s,m,some ⟨gw,ow,none⟩,cw⟩ W1 8 wx)
     case first=>
      refine wp_block ?_;go_loopw [113,8,114,115,116,117,118,119] (λi _ _ _ _ _ _ _ wr=>∃(j:Nat),j<=8/\i= .int .u64 j/\TrQ NN L nw T fl ⟨b,s,m,some ⟨gw,ow,none⟩,cw⟩ W1 j wr) (λi _ _ _ _ _ _ _ _=>8-(intOf i).toNat)
      case atStart=>exact⟨0,by omega,rfl,HQ0.out⟩
      case round=>
       clear k1 kl;obtain⟨j,hj,rfl,hQ⟩:=hrel;have HQJ:=ag hQ;by_cases aM:j<8
       . have dx:(j:Int)<8:=by omega
         have HTR:=ag (hQ.step HV.out J1.out aM);obtain⟨j1,hj1⟩:=aH (j+1);rw[hj1]at HTR;have e7:IntKind.u64.wrap ((j:Int)+1)=(j1:Int):=by rw[bY _ ae];omega
         clear hQ;go_wp2_with (go_at_call 70;(with_reducible refine HTR.out.mono ?_);rintro e w2 ⟨rfl,hP⟩;have rR:=ag hP;clear hP)
         exact⟨⟨j1,by omega,rfl,rR.out⟩,by simp[intOf];omega⟩
       . obtain rfl:j=8:=by omega
         clear hQ;go_wp2;go_meet
         case rel=>exact HQJ.out
     case rest=>
      obtain⟨A,c,F,hR,hT,hB8⟩:=hcut;have Nd:=HV.out.ab;have hp:=hT.Yc Nd;have hlen:=hp.length_eq;have gW:=hT.fr;have Lc:=Nd.ct;obtain⟨c0,c1,c2,c3,c4,c5,c6,c7,c8,cl,cf⟩:=hR.rc;have f2:=cf 2;rw[hlen]at c0;rw[gW]at c1;have hBq:=GB.out.trans (hB8.mono GB.out.size);obtain⟨k0,k1,k2,k3,k4,k5,kl⟩:=(HV.out.bl hBq).hq.tac;obtain⟨ln,tG⟩:=aH kv.length;obtain⟨fr,QY⟩:=aH fl.length;rw[tG]at c0 Lc hlen;rw[QY]at c1 Lc gW;have e8:IntKind.i64.wrap ((fr:Int)+(ln:Int))=(NN:Int):=by rw[b9 _ ae];omega
      have e9:IntKind.u64.wrap (NN:Int)=(NN:Int):=bY _ ae;have HR8:=ag hR;have V_:=ag hB8;have x8:=ag (And.intro tG (And.intro hlen (And.intro gW (And.intro Lc hp))));have hbq:b≠q:=by have h1:=hR.ge.1;have h2:=GB.out.size;omega
      clear k0 k1 k3 k4 k5 c3 c4 c5 c6 c7 c8 cf hR hT Nd hp hlen gW Lc hBq tG QY hB8;go_upto_region 20 with(fail)
      go_cut []from 120 to 149 (λwx=>lK NN W1.heap.size (Ey L nw) ⟨b,s,m,some ⟨gw,ow,none⟩,cw⟩ wx A c F/\Below W1.heap.size W1 wx)
      case first=>
       go_region_held3 (λw'=>w'.cell? ⟨b,0,none⟩=some (.slice A ln c)/\w'.cell? ⟨b,1,none⟩=some (.int .i64 (fr:Int))/\w'.cell? ⟨b,2,none⟩=some (.bool true)/\w'.cell? ⟨q,2,none⟩=some (.int .u64 (NN:Int))/\b<w'.heap.size/\q<w'.heap.size)
        ((refine⟨?_,?_,?_,?_,?_,?_⟩<;>first|assumption|(go_simp;done)|(simp;omega)))
        (first|(go_at_call 47;fail))
       all_goals go_wp2
       all_goals go_meet
       all_goals exact⟨((HR8.out.bl (iT (bZ _ _) 1)).valid).1,bM (iT V_.out 1) ((Ch.refl (At b) _).bj _ _) (λy hy=>by rw[show y=b from hy];exact HR8.out.ge.1)⟩
      case rest=>
       clear c0 c1 c2 f2 cl k2 kl e8 e9;obtain⟨hR,hB9⟩:=hcut;have S9:=ag hR;have Tf:=ag hB9;have hSO:=XZ wc A F.es.length c F.es kv rfl hR.sl (by have:=x8.out.2.1;have:=x8.out.2.2.2.1;omega) x8.out.2.2.2.2 HV.out.ab.so;rw[x8.out.2.1]at hSO;have LC:=ag hSO;obtain⟨c0,c1,c2,c3,c4,c5,c6,c7,c8,cl,cf⟩:=hR.rc;rw[x8.out.2.1]at c0;clear hR hB9 hSO c1 c2 c3 c4 c5 c6 c7 c8 cf;go_upto_region 22 with(go_at_call 71;(with_reducible refine LC.out.mono ?_);rintro e w3 ⟨rfl,hk,hC⟩;have HK:=ag hk;have fo:=ag hC;clear hk hC)
       clear c0 cl;have gi:=S9.out.cb.keep (fo.out.block _ S9.out.cb.lt (λhx=>(S9.out.oA _ hx).2.1 rfl));have vL:=GC.out.below Tf.out;have UC:=vL.keep (fo.out.block _ vL.lt (λhx=>by have h1:=(S9.out.oA _ hx).1;have h2:=GC.out.lt;omega));have d0:w3.cell? ⟨b,0,none⟩=some (.slice A ln c):=by have:=gi.cell 0;rw[this,<-x8.out.2.1];rfl
       have d1:w3.cell? ⟨b,1,none⟩=some (.int .i64 (fr:Int)):=by have:=gi.cell 1;rw[this,<-x8.out.2.2.1];rfl
       have d2:w3.cell? ⟨b,2,none⟩=some (.bool true):=gi.cell 2;have dl:=gi.lt;have r0:w3.cell? ⟨rb,0,none⟩=some (.slice none 0 0):=UC.cell 0;have r1:w3.cell? ⟨rb,1,none⟩=some (.int .i64 0):=UC.cell 1;have r2:w3.cell? ⟨rb,2,none⟩=some (.bool false):=UC.cell 2;have q0:=UC.frozen 0;have q1:=UC.frozen 1;have q2:=UC.frozen 2;have rl:=UC.lt;have Zes:rb≠b:=by have h1:=S9.out.ge.1;have h2:=GC.out.lt;have h3:(Ob.mk b s m (some ⟨gw,ow,none⟩) cw).b=b:=rfl;omega
       have Oh:=ag UC;clear gi UC vL;iterate 15 go_step
       have UF:CB (((w3.setCell ⟨rb,0,none⟩ (.slice A ln c)).setCell ⟨rb,1,none⟩ (.int .i64 (fr:Int))).setCell ⟨rb,2,none⟩ (.bool true)) rb 119 #[.slice A ln c, .int .i64 (fr:Int), .bool true]:=((Oh.out.set 0 _).set 1 _).set 2 _;have uA:Ch (At rb) w3 (((w3.setCell ⟨rb,0,none⟩ (.slice A ln c)).setCell ⟨rb,1,none⟩ (.int .i64 (fr:Int))).setCell ⟨rb,2,none⟩ (.bool true)):=(((Ch.refl (At rb) w3).bj _ _).bj _ _).bj _ _;obtain⟨W5,Q7⟩:=aH ((((w3.setCell ⟨rb,0,none⟩ (.slice A ln c)).setCell ⟨rb,1,none⟩ (.int .i64 (fr:Int))).setCell ⟨rb,2,none⟩ (.bool true)));rw[Q7]at UF uA |-;clear Q7 d0 d1 d2 dl r0 r1 r2 q0 q1 q2 rl;have t0:W5.cell? ⟨rb,0,none⟩=some (.slice A ln c):=UF.cell 0;have t1:W5.cell? ⟨rb,1,none⟩=some (.int .i64 (fr:Int)):=UF.cell 1;have t2:W5.cell? ⟨rb,2,none⟩=some (.bool true):=UF.cell 2;have tl:=UF.lt
       have Oi:Hid (JU w NN kv w (.returned (.agg #[.slice A ln c, .int .i64 (fr:Int), .bool true])) W5):=by
        have jt:=x8.out.1;have Lc:=x8.out.2.2.2.1;have MW:=GB.out.size;have hA:∀x,ah A x->W1.heap.size<=x:=λx hx=>(S9.out.oA x hx).1
        have tq:=GC.out.lt;refine⟨A,c,?_,HK.out.FL uA.size (λy hy ho=>uA.block y hy (λhx=>by have:=hA y ho;have hx:y=rb:=hx;omega)),λx hx=>by have:=hA x hx;omega,?_⟩
        . rw[jt,show NN-ln=fr by omega]
        . exact bM (bM (GB.out.trans (Tf.out.mono MW)) fo.out (λy hy=>by have:=hA y hy;omega)) uA (λy hy=>by have hy:y=rb:=hy;have:=HRB.out;omega)
       clear UF uA;go_wp2;exact bH (v:= .agg #[.slice A ln c, .int .i64 (fr:Int), .bool true]) (by simp[results,results47,go_sem,t0,t1,t2,tl]) rfl Oi.out
end
theorem OC{F:Nat->Prop}{d:Nat}{t:Nat->Nat}{w:World}{S:aq}(h:DV F d t w S):Calls prog 46 #[.pointer (some ⟨d,0,none⟩)] w λe w'=>e= .returned (.bool S.off)/\w=w':=by
 obtain⟨_,L,rfl,h3,_⟩:=h;have ho:=h3.KX;have hl:=h3.lt;clear h3;go_enter func46,ntmps46
 go_wp2;go_ret;exact⟨rfl,rfl⟩
section
variable{K:Nat->Prop}{p d q n lines NN N:Nat}{t:Nat->Nat}{bs:Nat->Option Nat}{w w':World}{σ:PwS}{xs:List Int}{L:Nat->Int}{T:Nat->TT}{fl:List Nat}{kv:List (Int×Int)}
theorem kZ(h:Gz K p d q n lines NN t bs w σ xs N L T fl kv):Calls prog 25 #[.pointer (some ⟨q,0,none⟩)] w λe w'=>e= .returned (.int .i64 (NN:Int))/\w=w':=by
 obtain⟨c0,c1,c2,c3,c4,c5,ql⟩:=h.hq.tac;have e1:IntKind.i64.wrap (NN:Int)=(NN:Int):=b9 _ (by have:=h.hP;omega);clear h c0 c1 c3 c4 c5;go_enter func25,ntmps25
 go_wp2;go_ret;exact⟨rfl,rfl⟩
theorem ZbZ(W:World)(A:Option Addr)(n c:Nat)(x:Int)(b:Bool):(Instr.field 119 (.agg #[.slice A n c, .int .i64 x, .bool b]) 0).run prog W= .ok (.slice A n c) W:=by kernel_rfl
def nN(kv:List (Int×Int))(w:World)(e:Ending)(w':World):Prop:=
 ∃A c,e= .returned (.slice A kv.length c)/\gP w' A kv/\(∀x,ah A x->w.heap.size<=x)/\Below w.heap.size w w'
theorem XT(h:Gz K p d q n lines NN t bs w σ xs N L T fl kv):Calls prog 41 #[.pointer (some ⟨q,0,none⟩)] w (nN kv w):=by
 have HRD:=ag (Ig h)
 have J0:Hid (Calls prog 46 #[.pointer (some ⟨d,0,none⟩)] w λe w'=>e= .returned (.bool false)/\w=w'):=by
  obtain⟨role,bb,hh,hK⟩:=h.pm;have:=OC hh.dv;rw[h.on.off]at this;exact this
 obtain⟨c0,c1,c2,c3,c4,c5,ql⟩:=h.hq.tac;clear h c0 c1 c2 c4 c5;have Bn:=ZbZ;go_enter func41,ntmps41
 go_wp2_with (first
  |(go_at_call 46;(with_reducible refine J0.out.mono ?_);rintro e w1 ⟨rfl,rfl⟩)
  |(go_at_call 47;(with_reducible refine HRD.out.mono ?_);rintro e w2 ⟨A,c,rfl,h1,h2,h3⟩;have H1:=ag (And.intro h1 (And.intro h2 h3));clear h1 h2 h3))
 exact bH (v:= .slice A kv.length c) (by simp[results,results41,go_sem]) rfl ⟨A,c,rfl,H1.out.1,H1.out.2.1,H1.out.2.2⟩
def LB(a b:Int)(w:World)(e:Ending)(w':World):Prop:=e= .returned (.tuple #[.int .i64 a, .int .i64 b])/\Below w.heap.size w w'
theorem EO(h:Gz K p d q n lines NN t bs w σ xs N L T fl kv):Calls prog 27 #[.pointer (some ⟨q,0,none⟩)] w (LB ((NN-kv.length:Nat):Int) (kv.length:Int) w):=by
 have HRD:=ag (λ(W:World) (hW:Below w.heap.size w W)=>Ig (h.bl hW))
 have J0:Hid (∀W,Below w.heap.size w W->Calls prog 46 #[.pointer (some ⟨d,0,none⟩)] W λe w'=>e= .returned (.bool false)/\W=w'):=λW hW=>by
  obtain⟨role,bb,hh,hK⟩:=h.pm.ko hW;have:=OC hh.dv;rw[h.on.off]at this;exact this
 obtain⟨c0,c1,c2,c3,c4,c5,ql⟩:=h.hq.tac;clear h c0 c1 c2 c4 c5;go_enter func27,ntmps27
 go_wp2_with (first
  |(go_at_call 46;(with_reducible refine(J0.out _ aC).mono ?_);rintro e w1 ⟨rfl,rfl⟩)
  |(go_at_call 47;(with_reducible refine(HRD.out _ aC).mono ?_);rintro e w2 ⟨A,c,rfl,h1,h2,h3⟩;obtain⟨y,rfl⟩:=aE h3;clear h1 h2 h3))
 go_quiet (fail)
 go_wp2;exact bH (v:= .tuple #[.int .i64 ((NN-kv.length:Nat):Int), .int .i64 (kv.length:Int)]) (by simp[results,results27,go_sem]) rfl ⟨rfl,by show Below _ _ _;exact aC⟩
end
theorem Ph(w:World)(line lines size:Int)(tp:Nat)(off:Int)(HL:∀W,Below w.heap.size w W->Calls prog 68 #[.pointer (some ⟨tp,0,none⟩), .int .u64 off] W λe w'=>e= .returned (.int .u64 1836515329)/\W=w'):
 Calls prog 124 #[.agg #[.int .i64 line, .int .i64 lines, .int .u64 size], .func (.func 68) #[.pointer (some ⟨tp,0,none⟩)] #[], .int .u64 off] w λe w'=>e= .returned (.tuple #[.agg #[.int .u8 1, .slice none 0 0, .slice none 0 0], .bool true])/\Below w.heap.size w w':=by
 have HL:=ag HL;go_enter func124,ntmps124
 go_wp2_with (go_at_call 68;refine(HL.out _ aC).mono ?_;rintro e w' ⟨rfl,rfl⟩)
 exact bH (v:= .tuple #[.agg #[.int .u8 1, .slice none 0 0, .slice none 0 0], .bool true]) (by simp[results,results124,go_sem]) rfl ⟨rfl,aC⟩
theorem T9(w:World)(line lines m:Nat)(size:Int)(hm:lines/4=m)(hl:line+lines<1000)(gc:Nat)(HL:∀W,Below w.heap.size w W->∀k,k<m->Calls prog 68 #[.pointer (some ⟨gc,0,none⟩), .int .u64 (cP line k)] W λe w'=>e= .returned (.int .u64 1836515329)/\W=w'):
 Calls prog 91 #[.agg #[.int .i64 (line:Int), .int .i64 (lines:Int), .int .u64 size], .func (.func 68) #[.pointer (some ⟨gc,0,none⟩)] #[]] w λe w'=>∃A c,e= .returned (.tuple #[.slice A m c, .bool true])/\Sl 176 3 w' A m c (recs m)/\Below w.heap.size w w'/\∀b,ah A b->w.heap.size<=b:=by
 have HL:=ag HL
 have NL:Hid (∀W,Calls prog 54 #[.agg #[.int .i64 (line:Int), .int .i64 (lines:Int), .int .u64 size]] W λe w'=>e= .returned (.int .i64 (m:Int))/\Below W.heap.size W w'):=λW=>by
  have:=xD W line lines size ae;rwa[hm]at this
 have NQ:Hid (∀W k,k<m->Calls prog 55 #[.agg #[.int .i64 (line:Int), .int .i64 (lines:Int), .int .u64 size], .int .i64 (k:Int)] W λe w'=>e= .returned (.int .u64 (cP line k))/\Below W.heap.size W w'):=λW k hk=>T7 W line lines size k ae
 have oM:m<=250:=by omega
 clear hm hl;go_enter func91,ntmps91
 go_wp2_with (go_at_call 54;refine(NL.out _).mono ?_;rintro e w' ⟨rfl,hb⟩;obtain⟨x,rfl⟩:=aE hb;clear hb)
 have Bm:w.heap.size<x.w.heap.size:=x.lt_size smQ;have z0:x.w.cell? ⟨w.heap.size,0,none⟩=some (.int .i64 (line:Int)):=by go_simp
 have z1:x.w.cell? ⟨w.heap.size,1,none⟩=some (.int .i64 (lines:Int)):=by go_simp
 have z2:x.w.cell? ⟨w.heap.size,2,none⟩=some (.int .u64 size):=by go_simp
 have xw:Hid (Below w.heap.size w x.w):=by show Below _ _ _;exact aC
 obtain⟨W0,nR⟩:=aH x.w;obtain⟨gr,ie⟩:=aH w.heap.size;have V1:=ag ie;rw[nR]at Bm z0 z1 z2 xw;rw[ie]at Bm z0 z1 z2;rw[nR,ie];clear nR ie;go_loopw [12,6,7,8,9,13,14,15,16,17,18,19,20,21,22,23,24,25,26,27,28,29,30] (λi' rc _ _ _ _ _ _ _ _ _ _ _ _ _ _ _ _ _ _ _ _ _ wr=>∃(j:Nat) (A:Option Addr) (c:Nat),j<=m/\i'= .int .i64 j/\rc= .slice A j c/\Sl 176 3 wr A j c (recs j)/\Below W0.heap.size W0 wr/\∀b,ah A b->W0.heap.size<=b) (λi' _ _ _ _ _ _ _ _ _ _ _ _ _ _ _ _ _ _ _ _ _ _ _=>m-(intOf i').toNat)
 case atStart=>exact⟨0,none,0,by omega,rfl,rfl,Sl.nil,bZ _ _,by simp[ah]⟩
 case round=>
  obtain⟨j,A,c,hj,rfl,rfl,hS,hB,hO⟩:=hrel;have HS:=ag hS;have HB:=ag hB;have HO:=ag hO;have y0:=(hB.cell (p:=⟨gr,0,none⟩) Bm).trans z0;have y1:=(hB.cell (p:=⟨gr,1,none⟩) Bm).trans z1;have y2:=(hB.cell (p:=⟨gr,2,none⟩) Bm).trans z2;have vL:gr<wr.heap.size:=cD Bm hB.size;have V9:Hid (Below w.heap.size w wr):=xw.out.trans (hB.mono xw.out.size);clear hS hB hO;by_cases aM:j<m
  . have dx:(j:Int)<(m:Int):=by omega
    have GU:=ag (λW=>NQ.out W j aM);have HLJ:Hid (∀W,Below wr.heap.size wr W->∀W2,Below W.heap.size W W2->Calls prog 68 #[.pointer (some ⟨gc,0,none⟩), .int .u64 (cP line j)] W2 λe w'=>e= .returned (.int .u64 1836515329)/\W2=w'):=λW hW W2 eM=>HL.out W2 ((V9.out.trans (hW.mono V9.out.size)).trans (eM.mono (f_ V9.out.size hW.size))) j aM
    obtain⟨q,hq⟩:=aH (cP line j);rw[hq]at GU HLJ;clear hq;go_wp2;go_cut [8,9]from 15 to 30 (λs8 s9 wx=>D9 wr s8 s9 wx)
    case first=>
     go_region_held3 (λw'=>w'.cell? ⟨gr,0,none⟩=some (.int .i64 (line:Int))/\w'.cell? ⟨gr,1,none⟩=some (.int .i64 (lines:Int))/\w'.cell? ⟨gr,2,none⟩=some (.int .u64 size)/\gr<w'.heap.size/\Below wr.heap.size wr w')
      ((refine⟨?_,?_,?_,?_,?_⟩<;>first|assumption|((repeat(first|with_reducible(first|exact bZ _ _|refine ai ?_ _|refine ru ?_|refine iT ?_ _|refine ji ?_ _|exact BX.below _|refine gZ ?_ (by first|(exact a_ _)|(simp;done)|(simp;omega)) _)|assumption));done)|(refine gZ (gZ (gZ ?_ NS _) NS _) NS _;(repeat(first|with_reducible(first|exact bZ _ _|refine ai ?_ _|refine ru ?_|refine iT ?_ _|refine ji ?_ _|exact BX.below _|refine gZ ?_ (by first|(exact a_ _)|(simp;done)|(simp;omega)) _)|assumption));done)|(go_simp;done)|(simp;omega)))
      (first|(go_at_call 55;refine(GU.out _).mono ?_;rintro e w' ⟨rfl,hb⟩;obtain⟨y,rfl⟩:=aE hb;clear hb;have NS:wr.heap.size<=y.w.heap.size:=(by have h9:=y.size;first|exact h9|(simp at h9;omega));have SL:gr<y.w.heap.size:=y.lt_size (by first|exact vL|(simp;omega));have k0:y.w.cell? ⟨gr,0,none⟩=some (.int .i64 (line:Int)):=(y.cell gr 0 (by first|exact vL|(simp;omega))).trans (by first|exact y0|go_simp);have k1:y.w.cell? ⟨gr,1,none⟩=some (.int .i64 (lines:Int)):=(y.cell gr 1 (by first|exact vL|(simp;omega))).trans (by first|exact y1|go_simp);have k2:y.w.cell? ⟨gr,2,none⟩=some (.int .u64 size):=(y.cell gr 2 (by first|exact vL|(simp;omega))).trans (by first|exact y2|go_simp))|(go_at_call 124;refine(Ph _ (line:Int) (lines:Int) size gc q (HLJ.out _ aC)).mono ?_;rintro e w' ⟨rfl,hb⟩;obtain⟨yy,rfl⟩:=aE hb;clear hb;have Zda:gr<yy.w.heap.size:=yy.lt_size (by first|exact SL|(simp;omega));have r0:yy.w.cell? ⟨gr,0,none⟩=some (.int .i64 (line:Int)):=(yy.cell gr 0 (by first|exact SL|(simp;omega))).trans (by first|exact k0|go_simp);have r1:yy.w.cell? ⟨gr,1,none⟩=some (.int .i64 (lines:Int)):=(yy.cell gr 1 (by first|exact SL|(simp;omega))).trans (by first|exact k1|go_simp);have r2:yy.w.cell? ⟨gr,2,none⟩=some (.int .u64 size):=(yy.cell gr 2 (by first|exact SL|(simp;omega))).trans (by first|exact k2|go_simp)))
     all_goals go_wp2
     all_goals go_meet
     all_goals first
      |exact Kr aC
      |exact Kq (by first|with_reducible exact(CB.br _ _ _ rfl).bx yy|with_reducible exact((CB.br _ _ _ rfl).bx y).bx yy|exact(((CB.br _ _ _ rfl).drew).bx y).bx yy) aC (by first|exact a_ _|exact NS|(simp;omega))
    case rest=>
     obtain⟨gd,rfl,rfl,Na,hBd⟩:=hcut;have d0:wc.cell? ⟨gd,0,none⟩=some (.int .u8 1):=Na.cell 0;have d1:wc.cell? ⟨gd,1,none⟩=some (.slice none 0 0):=Na.cell 1;have d2:wc.cell? ⟨gd,2,none⟩=some (.slice none 0 0):=Na.cell 2;have DM:gd<wc.heap.size:=Na.lt;have Si:=ag hBd;clear Na hBd y0 y1 y2;go_wp2_with (at_builtin;refine ay rfl (.tmp 26) (.tmp 28) 168 rfl 176 (.agg #[.int .u8 0, .slice none 0 0, .slice none 0 0]) 3 56 rfl ae underlying168 FO ae A j c (recs j) ⟨wc.heap.size,0,none⟩ 1 1 [.int .u8 1, .slice none 0 0, .slice none 0 0] rfl rfl (HS.out.keep (λb hb=>(ai Si.out _).block b (HS.out.lt hb))) rfl ae (dE wc 176 _ _ _) Kp ae ?_;intro A4 c4 w4 lU eW mU uM)
     go_roundw
     case rel=>
      refine⟨j+1,A4,c4,by omega,by go_num,rfl,?_,?_,λb hb=> ?_⟩
      . rw[qN];exact lU.out
      . exact bM (HB.out.trans ((ai Si.out _).mono HB.out.size)) eW.out (λb hb=>HO.out b hb)
      . have h1:=HB.out.size
        have h2:=Si.out.size;rcases mU.out b hb with h|h
        . exact HO.out b h
        . rw[h];simp;omega
     case measure=>simp[intOf];omega
  . obtain rfl:j=m:=by omega
    clear y0 y1 y2;go_wp2;refine bH (v:= .tuple #[.slice A j c, .bool true]) (by simp[results,results91,go_sem]) rfl ⟨A,c,rfl,HS.out,V9.out,λb hb=>by have:=HO.out b hb;have:=xw.out.size;omega⟩
section
variable{K:Nat->Prop}{p d n N:Nat}{t:Nat->Nat}{w w':World}{σ:PwS}{xs:List Int}
theorem X_{line lines:Nat}{size:Int}(H:bB K p d t line lines size w σ)(m:Nat)(hm:m<=1000)(hb:σ.busy=List.replicate m false):Calls prog 92 #[.pointer (some ⟨p,0,none⟩)] w λe w'=>e= .returned (.int .i64 (m:Int))/\w=w':=by
 obtain⟨bb,h1,h2,h3,h4,h5⟩:=H.plc;have hl:(List.replicate m false).length=m:=yO ..;rw[hb,hl]at h4 h5;have z4:=h4.cell 4;have HS:=ag h5;have HL:=ag hl;clear H hb h4 h5 hl;go_enter func92,ntmps92
 go_wp2;go_loopw [13,3,5,14,15,16,17,18,19,20,21] (λi c _ _ _ _ _ _ _ _ _ wr=>∃j:Nat,j<=m/\i= .int .i64 j/\c= .int .i64 j/\w=wr) (λi _ _ _ _ _ _ _ _ _ _ _=>m-(intOf i).toNat)
 case atStart=>exact⟨0,by omega,rfl,rfl,rfl⟩
 case round=>
  obtain⟨j,hj,rfl,rfl,rfl⟩:=hrel;by_cases aM:j<m
  . have dx:(j:Int)<(m:Int):=by omega
    obtain⟨g,off,hA,hg,hc⟩:=HS.out.at_ (j:=j) (by simpa [bools]using aM);have SD:(bools (List.replicate m false))[j]'(by simpa [bools]using aM)= .bool false:=by simp[bools]
    rw[SD]at hc;simp only[sP]at hA;go_wp2;go_roundw
    case rel=>exact⟨j+1,by omega,by first|(simp;done)|go_num⟩
    case measure=>simp[intOf];omega
  . obtain rfl:j=m:=by omega
    go_wp2;go_ret;exact⟨rfl,rfl⟩
theorem Ua(m j:Nat)(hj:j<m):(recs m)[j*3]?=some (.int .u8 1)/\(recs m)[j*3+1]?=some (.slice none 0 0)/\(recs m)[j*3+2]?=some (.slice none 0 0):=by
 induction m with
 |zero=>omega
 |succ m ih=>
  rw[qN];have hl:=wH m;by_cases h:j<m
  . have hx:=ih h
    rw[nY ae,nY ae,nY ae];exact hx
  . obtain rfl:j=m:=by omega
    rw[nZ ae,nZ ae,nZ ae,hl];simp
theorem Iy{A:Option Addr}{m c j:Nat}(h:Sl 176 3 w A m c (recs m))(hj:j<m):∃g off,A=some ⟨g,off,none⟩/\g<w.heap.size/\w.cell? ⟨g,off+j*3,none⟩=some (.int .u8 1)/\w.cell? ⟨g,off+j*3+1,none⟩=some (.slice none 0 0)/\w.cell? ⟨g,off+j*3+2,none⟩=some (.slice none 0 0):=by
 have hl:=wH m;obtain⟨a1,a2,a3⟩:=Ua m j hj;obtain⟨g,off,hA,hg,hc⟩:=h.at_ (j:=j*3) ae;obtain⟨g1,Mx,Vg,_,wN⟩:=h.at_ (j:=j*3+1) ae;obtain⟨g2,Fv,o8,_,xo⟩:=h.at_ (j:=j*3+2) ae;rw[hA]at Vg o8;simp only[sP,Addr.mk.injEq]at Vg o8;obtain⟨rfl,rfl,_⟩:=Vg;obtain⟨rfl,rfl,_⟩:=o8;refine⟨g,off,hA,hg,?_,?_,?_⟩
 . rw[hc];exact(dG ae).symm.trans a1
 . rw[show off+j*3+1=off+(j*3+1) by omega,wN];exact(dG ae).symm.trans a2
 . rw[show off+j*3+2=off+(j*3+2) by omega,xo];exact(dG ae).symm.trans a3
def ZdK(K:Nat->Prop)(p d n:Nat)(t:Nat->Nat)(w:World)(σ:PwS)(e:Ending)(w':World):Prop:=
 e= .returned (.tuple #[.int .i64 0, .int .i64 0])/\bB K p d t 0 32 ((n:Int)*64) w' σ/\Ch (λb=>¬K b) w w'
theorem Mp(H:bB K p d t 0 32 ((n:Int)*64) w σ)(hn:n<1000)(dP:On σ.dev n xs N)(hb:σ.busy=List.replicate 8 false)(hc:σ.cur=none)(hu:∀k,k<8->xs[8*(0+4*k)]?=some 1836515329):
 Calls prog 63 #[.pointer (some ⟨p,0,none⟩), .int .i64 0] w (ZdK K p d n t w σ):=by
 have JX:Hid (Calls prog 37 #[.pointer (some ⟨d,0,none⟩), .int .i64 0] w λe w'=>e= .returned (.pointer (some ⟨t 0,0,none⟩))/\w=w'):=by
  obtain⟨role,bb,h,hK⟩:=H;exact kL h.dv 0 ae
 have xu:Hid (∀W,Below w.heap.size w W->Calls prog 65 #[.pointer (some ⟨t 0,0,none⟩)] W λe w'=>e= .returned (.int .i64 0)/\Below W.heap.size W w'):=λW hW=>by
  have:=(H.ko hW).err 0 ae;rw[dP.err 0]at this;exact this.mono (λe w' hx=>⟨hx.1,by obtain⟨_,rfl⟩:=hx;exact bZ _ _⟩)
 have HFR:Hid (∀W,Below w.heap.size w W->Calls prog 92 #[.pointer (some ⟨p,0,none⟩)] W λe w'=>e= .returned (.int .i64 8)/\W=w'):=λW hW=>X_ (H.ko hW) 8 ae hb
 have iV:Hid (∀W,Below w.heap.size w W->Calls prog 91 #[.agg #[.int .i64 0, .int .i64 32, .int .u64 ((n:Int)*64)], .func (.func 68) #[.pointer (some ⟨t 0,0,none⟩)] #[]] W λe w'=>∃A c,e= .returned (.tuple #[.slice A 8 c, .bool true])/\Sl 176 3 w' A 8 c (recs 8)/\Below W.heap.size W w'/\∀b,ah A b->W.heap.size<=b):=λW hW=>
  T9 W 0 32 8 ((n:Int)*64) rfl ae (t 0) (λW2 eM k hk=>by
   obtain⟨role,bb,h,hK⟩:=H.ko (hW.trans (eM.mono hW.size));have:=OD h.dv 0 ae dP.off (8*(0+4*k)) 1836515329 (by rw[dP.cur];exact hu k hk);exact this)
 have R6:Hid (∀W,Below w.heap.size w W->bB K p d t 0 32 ((n:Int)*64) (W.setCell ⟨p,5,none⟩ (.pointer none)) σ/\Ch (λb=>¬K b) w (W.setCell ⟨p,5,none⟩ (.pointer none))):=λW hW=>by
  have:=(H.ko hW).zW none;have e:({σ with cur:=none}:PwS)=σ:=by rw[<-hc]
  rw[e]at this;exact⟨this.1,(Ch.au (S:=λb=>¬K b) hW).trans this.2 (λb hb _=>hb)⟩
 obtain⟨bb,h1,h2,h3,h4,h5⟩:=H.plc;rw[hb]at h4;have z0:=h4.cell 0;have z1:=h4.cell 1;have z2:=h4.cell 2;have z3:=h4.cell 3;have z4:=h4.cell 4;have z5:=h4.cell 5;have f5:=h4.frozen 5;have HP:=ag (show w.cell? ⟨p,5,none⟩=some (fu σ.cur)/\w.frozen? ⟨p,5,none⟩=false from⟨z5,f5⟩);clear H dP hb hc hu h4 h5 z5 f5;go_enter func63,ntmps63
 go_upto_region 7 with(first
  |(go_at_call 37;refine JX.out.mono ?_;rintro e w' ⟨rfl,rfl⟩)
  |(go_at_call 65;refine(xu.out _ (bZ _ _)).mono ?_;rintro e w' ⟨rfl,hb⟩;obtain⟨x,rfl⟩:=aE hb;clear hb))
 go_quiet ((go_at_call 92;with_reducible exact mE (HFR.out _ aC)))
 all_goals go_wp2_with (first
  |(go_at_call 91;refine(iV.out _ aC).mono ?_;rintro e w' ⟨A,c,rfl,hS,hb,hO⟩;have HS:=ag hS;have HO:=ag hO;obtain⟨z,rfl⟩:=aE hb;clear hb hS hO)
  |(go_at_call 65;refine(xu.out _ aC).mono ?_;rintro e w' ⟨rfl,hb⟩;obtain⟨u,rfl⟩:=aE hb;clear hb))
 have V6:Hid (Below w.heap.size w u.w):=by show Below _ _ _;exact aC
 have Xy:Hid (Sl 176 3 u.w A 8 c (recs 8)):=HS.out.keep (λb hb=>u.below.block b (HS.out.lt hb));obtain⟨W0,nR⟩:=aH u.w;rw[nR]at V6 Xy;rw[nR];clear nR HS HO;go_loopw [64,11,12,13,65,66,67,68,69,70,71,94] (λi n _ _ _ _ _ _ _ _ _ _ wr=>∃j:Nat,j<=8/\i= .int .i64 j/\n= .int .i64 0/\Below W0.heap.size W0 wr) (λi _ _ _ _ _ _ _ _ _ _ _ _=>8-(intOf i).toNat)
 case atStart=>exact⟨0,by omega,rfl,rfl,bZ _ _⟩
 case round=>
  obtain⟨j,hj,rfl,rfl,hB⟩:=hrel;have HB:=ag hB;by_cases aM:j<8
  . have dx:(j:Int)<8:=by omega
    obtain⟨g,off,rfl,hg,r0,r1,r2⟩:=Iy Xy.out aM;have y0:=(hB.cell (p:=⟨g,_,none⟩) hg).trans r0;have y1:=(hB.cell (p:=⟨g,_,none⟩) hg).trans r1;have y2:=(hB.cell (p:=⟨g,_,none⟩) hg).trans r2;have ie:g<wr.heap.size:=cD hg hB.size;clear hB r0 r1 r2 hg z0 z1 z2 z3 z4;go_wp2;go_roundw
    case rel=>exact⟨j+1,by omega,by go_num,rfl,HB.out.trans ((by exact aC:Below wr.heap.size wr _).mono HB.out.size)⟩
    case measure=>simp[intOf];omega
  . obtain rfl:j=8:=by omega
    have hBB:=V6.out.trans (hB.mono V6.out.size);have R7:=ag (R6.out wr hBB);have y5:=(hBB.cell (p:=⟨p,5,none⟩) h1).trans HP.out.1;have yf:=(hBB.frozen (p:=⟨p,5,none⟩) h1).trans HP.out.2;have AF:p<wr.heap.size:=cD h1 hBB.size;clear hB hBB z0 z1 z2 z3 z4;go_wp2;exact bH (v:= .tuple #[.int .i64 0, .int .i64 0]) (by simp[results,results63,go_sem]) rfl ⟨rfl,R7.out⟩
end
section
variable{K F:Nat->Prop}{p d n lines NN N:Nat}{t:Nat->Nat}{bs:Nat->Option Nat}{w w':World}{σ:PwS}{xs:List Int}
theorem Bw.Ef{q:Nat}(he:Bw xs lines NN)(H:bB K p d t 0 32 ((n:Int)*64) w σ)(dP:On σ.dev n xs N)(hn:n<1000)(hP:2*(lines-2)=NN/\8<=lines/\lines<=15)(dS:272+4*NN=8*n)(hq:CB w q 117 (aK d p NN lines bs)):Gz K p d q n lines NN t bs w σ xs N (λk=>xs.getD k 0) (λ_=> .nil) (List.range' 1 NN) []:=
 ⟨H,dP,hq,hn,hP,dS,λk hk=>(he.at_ hk ae ae).1,λk hk=>(he.at_ hk ae ae).2,he.ab ae ae,he.xG⟩
def Xs(d p NN lines:Nat)(w:World)(e:Ending)(w':World):Prop:=
 ∃q,e= .returned (.tuple #[.pointer (some ⟨q,0,none⟩), .int .i64 0])/\w.heap.size<=q/\CB w' q 117 (aK d p NN lines (λ_=>none))/\Below w.heap.size w w'
theorem XS(H:bB K p d t 0 32 ((n:Int)*64) w σ)(dP:On σ.dev n xs N)(hn:n<1000)(hP:2*(lines-2)=NN/\8<=lines/\lines<=15)(dS:272+4*NN=8*n)(he:Bw xs lines NN):
 Calls prog 64 #[.pointer (some ⟨d,0,none⟩), .pointer (some ⟨p,0,none⟩), .int .i64 32, .int .i64 (lines:Int)] w (Xs d p NN lines w):=by
 have S7:Hid (Calls prog 88 #[.pointer (some ⟨d,0,none⟩)] w λe w'=>e= .returned (.int .u64 ((n:Int)*64))/\w=w'):=by
  obtain⟨role,bb,h,hK⟩:=H;have:=EE h.dv;rwa[dP.nl]at this
 have HIN:Hid (Calls prog 58 #[.int .i64 32, .int .i64 (lines:Int), .int .u64 ((n:Int)*64)] w λe w'=>e= .returned (.bool true)/\w=w'):=ER w 32 lines n ae hP.2.1 ae hn;have HLY:=ag (λW=>EP W lines NN hP.2 hP.1)
 have JX:Hid (Calls prog 37 #[.pointer (some ⟨d,0,none⟩), .int .i64 0] w λe w'=>e= .returned (.pointer (some ⟨t 0,0,none⟩))/\w=w'):=by
  obtain⟨role,bb,h,hK⟩:=H;exact kL h.dv 0 ae
 have xu:Hid (∀W,Below w.heap.size w W->Calls prog 65 #[.pointer (some ⟨t 0,0,none⟩)] W λe w'=>e= .returned (.int .i64 0)/\W=w'):=λW hW=>by
  have:=(H.ko hW).err 0 ae;rwa[dP.err 0]at this
 have HRD:Hid (∀W q,Below w.heap.size w W->CB W q 117 (aK d p NN lines (λ_=>none))->Calls prog 47 #[.pointer (some ⟨q,0,none⟩)] W (JU W NN [] W)):=λW q hW hq=>
  Ig (he.Ef (H.ko hW) dP hn hP dS hq)
 have e1:IntKind.u64.wrap 32=32:=rfl;have e2:IntKind.u64.wrap (32*64)=2048:=rfl;clear H dP he hP dS;unfold Xs;unfold uo at HLY;go_enter func64,ntmps64
 go_wp2_with (first
  |(go_at_call 88;(with_reducible refine S7.out.mono ?_);rintro e w' ⟨rfl,rfl⟩)
  |(go_at_call 58;(with_reducible refine HIN.out.mono ?_);rintro e w' ⟨rfl,rfl⟩)
  |(go_at_call 37;(with_reducible refine JX.out.mono ?_);rintro e w' ⟨rfl,rfl⟩)
  |(go_at_call 65;(with_reducible refine(xu.out _ aC).mono ?_);rintro e w' ⟨rfl,rfl⟩)
  |(go_at_call 59;(with_reducible refine(HLY.out _).mono ?_);rintro e w1 ⟨rfl,hb⟩;obtain⟨y,rfl⟩:=aE hb;clear hb)
  |(go_at_call 47;refine(HRD.out _ y.w.heap.size aC (CB.new _ _ _)).mono ?_;rintro e w2 ⟨A,c,rfl,_,_,hb⟩;have HB:=ag hb;obtain⟨x,rfl⟩:=aE hb;clear hb))
 refine bH (v:= .tuple #[.pointer (some ⟨y.w.heap.size,0,none⟩), .int .i64 0]) (by simp[results,results64,go_sem]) rfl ⟨y.w.heap.size,rfl,y.size,((CB.new _ _ _).below HB.out).below (ai (bZ _ _) _),by exact aC⟩
end
section
variable{K F:Nat->Prop}{p d q n lines NN N:Nat}{t:Nat->Nat}{bs:Nat->Option Nat}{w w':World}{σ:PwS}{xs:List Int}{S:aq}
def VM(K:Nat->Prop)(d n NN lines:Nat)(t:Nat->Nat)(S:aq)(w:World)(e:Ending)(w':World):Prop:=
 ∃p q,e= .returned (.tuple #[.pointer (some ⟨q,0,none⟩), .bool true])/\bB (λb=>K b\/b=q) p d t 0 32 ((n:Int)*64) w' {dev:=S,busy:=List.replicate 8 false,cur:=none,ops:=λ_=>none}/\
  CB w' q 117 (aK d p NN lines (λ_=>none))/\w.heap.size<=q/\Ch (λb=>¬K b) w w'
theorem Vn(h:DV F d t w S)(gq:Clean S n xs N)(K9:32+lines=n)(h4:8<=lines/\lines<=15)(iX:2*(lines-2)=NN)(Ze:xs.length=8*n)(hfx:Fits xs)(hu:∀k,k<8->xs[8*(0+4*k)]?=some 1836515329)(he:Bw xs lines NN)(hK:∀b,K b->b<w.heap.size/\¬F b):
 Calls prog 39 #[.pointer (some ⟨d,0,none⟩), .int .i64 (lines:Int)] w (VM K d n NN lines t S w):=by
 have dP:On S n xs N:=⟨gq.good,gq.nl,gq.cur,gq.off,gq.armed,gq.err⟩;have Oi:Hid (Calls prog 62 #[.pointer (some ⟨d,0,none⟩), .int .i64 0, .int .i64 32] w (LA w d 0 32 8 ((n:Int)*64))):=X9 h gq.cur gq.nl Ze hfx 0 32 8 rfl ae ae ae hu;have ZdW:=ag (λ(w5:World) (p bb:Nat) (hB:Below w.heap.size w w5) hp hb WJ px aG=>bB.new (K:=K) (w':=w5) (p:=p) (bb:=bb) (m:=8) (line:=0) (lines:=32) (size:=(n:Int)*64) h hB hp hb WJ px aG hK);have BD:=ag dP;have HU:=ag hu;have HE:=ag he;have HN:=ag (And.intro K9 (And.intro h4 iX));clear h gq Ze hfx hu he dP K9 h4 iX;go_enter func39,ntmps39
 go_wp2_with (first
  |(go_at_call 62;(with_reducible refine Oi.out.mono ?_);rintro e w5 ⟨p,bb,rfl,hp,Bo,WJ,px,aG,AH⟩;have lJ:=ag AH;have HP5:=ag (ZdW.out w5 p bb AH hp Bo WJ px aG);clear hp Bo WJ px aG AH)
  |(go_at_call 63;(with_reducible refine(Mp HP5.out (by have:=HN.out;omega) BD.out rfl rfl HU.out).mono ?_);rintro e w6 ⟨rfl,hp6,hc6⟩;have HP6:=ag hp6;have Hs:=ag hc6;clear hp6 hc6)
  |(go_at_call 64;(with_reducible refine(XS HP6.out BD.out (by have:=HN.out;omega) ⟨HN.out.2.2,HN.out.2.1.1,HN.out.2.1.2⟩ (by have:=HN.out;omega) HE.out).mono ?_);rintro e w7 ⟨q,rfl,hq,Xa,Eo⟩;have HQ:=ag (And.intro hq Xa);have AM:=ag Eo;clear hq Xa Eo))
 refine bH (v:= .tuple #[.pointer (some ⟨q,0,none⟩), .bool true]) (by simp[results,results39,go_sem]) rfl ?_;obtain⟨hq,Xa⟩:=HQ.out;have hC:Ch (λb=>¬K b) w w7:=((Ch.au (S:=λb=>¬K b) lJ.out).trans Hs.out (λb hb _=>hb)).trans (Ch.au AM.out) (λb hb _=>hb);refine⟨p,q,rfl,(HP6.out.bl AM.out).less (λb hb=> ?_),Xa,by have:=lJ.out.size;have:=Hs.out.size;omega,hC⟩;rcases hb with hb|hb
 . exact .inl hb
 . right;subst hb;exact⟨hq,Xa.lt⟩
def mC(w:World)(q:Nat):Nat->Nat:=λb=>if b=q then 2 else if b<w.heap.size then 1 else 0
def Kc(z:Int)(w:World)(e:Ending)(w':World):Prop:=
 ∃(d p q n lines NN:Nat) (t:Nat->Nat) (σ:PwS) (N:Nat) (xs:List Int) (L:Nat->Int) (Tr:Nat->TT) (fl:List Nat),e= .returned (.tuple #[.pointer (some ⟨d,0,none⟩), .pointer (some ⟨q,0,none⟩), .int .i64 (lines:Int)])/\(lines:Int)=8+z%4/\w.heap.size<=q/\q<w'.heap.size/\
  o_ (mC w q) p d q n lines NN t w' [] N σ xs L Tr fl/\N<=600/\Below w.heap.size w w'
theorem T6(w:World)(q b:Nat):mC w q b<=2:=by
 by_cases h1:b=q
 . unfold mC;rw[aA h1];omega
 . unfold mC;rw[ax h1];split<;>omega
theorem Kn{w:World}{q b:Nat}(hq:w.heap.size<=q)(h:mC w q b=0\/mC w q b=2):w.heap.size<=b:=by
 unfold mC at h;by_cases h1:b=q
 . omega
 . rw[ax h1]at h
   by_cases h2:b<w.heap.size
   . rw[aA h2]at h;omega
   . omega
theorem j8(w:World)(hT:Tab w)(z:Int)(hz: -9223372036854775808<=z/\z<9223372036854775808):Calls prog 10 #[.int .i64 z] w (Kc z w):=by
 obtain⟨lines,hl⟩:∃lines:Nat,8+z%4=(lines:Int):=⟨(8+z%4).toNat,by omega⟩;obtain⟨zm,hzm⟩:=aH (z%4);have Hp:Hid (Calls prog 17 #[.int .i64 z, .int .i64 4] w λr w'=>r= .returned (.int .i64 zm)/\w=w'):=by rw[<-hzm];exact qq w z hz 4 ae
 have Bk:8<=lines/\lines<=15:=by omega
 rw[hzm]at hl;have e1:IntKind.i64.wrap (8+zm)=(lines:Int):=by rw[hl];exact b9 _ ae
 obtain⟨n,hn⟩:=aH (32+lines);obtain⟨NN,iX⟩:=aH (2*(lines-2));have e2:IntKind.i64.wrap (32+(lines:Int))=(n:Int):=by rw[b9 _ ae];omega
 have J1:Hid (Calls prog 35 #[.int .i64 (n:Int)] w (GX w (jW (List.replicate (8*n) 0) n))):=Z_ w n ae ae;have HZ:Hid ((lines:Int)=8+z%4):=by show _=_;omega
 have J4:=ag (And.intro Bk (And.intro hn iX));have HT:=ag hT;have HXN:Hid (G0 lines NN=yu (aO (List.replicate (8*n) 0) (eF 0 8)) lines NN):=by show _=_;unfold G0;rw[hn]
 clear hzm hl hz hn iX hT;go_enter func10,ntmps10
 go_wp2_with (first
  |(go_at_call 17;(with_reducible refine Hp.out.mono ?_);rintro e w' ⟨rfl,rfl⟩)
  |(go_at_call 35;(with_reducible refine J1.out.mono ?_);rintro e w1 ⟨d,L,rfl,hD,hb,hF⟩;have HB:=ag hb;have Oe:Hid (DV (λb=>w.heap.size<=b) d L.t w1 (jW (List.replicate (8*n) 0) n)):=⟨(λb bG=>by have h1:=hb.size;omega),L,rfl,hD,(λb bG=>hF b bG)⟩;clear hb hD hF)
  |(go_at_call 37;(first|(refine(kL Oe.out 0 ae).mono ?_)|(refine(kL HV4.out 0 ae).mono ?_));rintro e w' ⟨rfl,rfl⟩)
  |(go_at_call 36;(refine(P7 Oe.out (Fx _ n smQ) 0 32 ae (by have:=J4.out;omega) (by have:=J4.out;omega) 0 ae ae).mono ?_);rintro e w4 ⟨rfl,⟨S4,hD4,hL4⟩,Gg⟩;have HV4:=ag hD4;have Zd6:=ag hL4;have eW:=ag Gg;clear hD4 hL4 Gg)
  |(go_at_call 38;(refine(OW HV4.out lines NN J4.out.1 J4.out.2.2 (by rw[J4.out.2.1];exact Zd6.out) 0 ae ae).mono ?_);rintro e w5 ⟨rfl,⟨S5,hD5,hL5⟩,uA⟩;have HV5:=ag hD5;have Zd5:=ag hL5;have rz:=ag uA;clear hD5 hL5 uA)
  |(go_at_call 39;have ZA:Clean S5 n (G0 lines NN) (0+100+400):=(by rw[HXN.out];have h9:=Zd5.out;rw[J4.out.2.1]at h9;exact h9);(refine(Vn (NN:=NN) (K:=λb=>b<w.heap.size) HV5.out ZA J4.out.2.1 J4.out.1 J4.out.2.2 (by rw[IX,J4.out.2.1]) (Ov lines NN (by have:=J4.out;omega) (by have:=J4.out;omega)) (XI lines NN) (Ow lines NN J4.out.1.1 J4.out.2.2) (λb hb=>⟨by have h1:=HB.out.size;have h2:=eW.out.size;have h3:=rz.out.size;omega,by omega⟩)).mono ?_);rintro e w8 ⟨p,q,rfl,hP,hq,hqw,hC⟩;have Zd4:=ag ZA;have HP8:=ag (And.intro hP (And.intro hq (And.intro hqw hC)));clear hP hq hqw hC ZA))
 refine bH (v:= .tuple #[.pointer (some ⟨d,0,none⟩), .pointer (some ⟨q,0,none⟩), .int .i64 (lines:Int)]) (by simp[results,results10,go_sem]) rfl ?_;obtain⟨hP,hq,hqw,hC⟩:=HP8.out;have gq:=Zd4.out;obtain⟨l4,ln,lN⟩:=J4.out;have dP:On S5 n (G0 lines NN) (0+100+400):=⟨gq.good,gq.nl,gq.cur,gq.off,gq.armed,gq.err⟩;have AH:Below w.heap.size w w5:=bM (bM HB.out eW.out (λb hb=>hb)) rz.out (λb hb=>hb);have Ld:Below w.heap.size w w8:=bM AH hC (λb hb=>by omega);have hem:=Ow lines NN l4.1 lN;have hs5:=AH.size;refine⟨d,p,q,n,lines,NN,L.t,_,0+100+400,G0 lines NN,λk=>(G0 lines NN).getD k 0,λ_=> .nil,List.range' 1 NN,rfl,HZ.out,by omega,hq.lt,⟨⟨hP.less (λb hb=> ?_),hq,?_,HT.out.below Ld,?_,by omega,⟨lN,l4⟩,by omega⟩,⟨Inv.init dP (λk hk=>(hem.at_ hk ae ae).2) (λk hk=>(hem.at_ hk ae ae).1),eZ.start (hem.ab ae ae) (λb hb=>by have:=hem.cn (b:=b) hb;exact Int.le_trans this ae) rfl,?_⟩,λb _=>T6 w q b,hem.xG⟩,by omega,Ld⟩
 . unfold mC at hb
   by_cases h1:b=q
   . exact .inr h1
   . rw[ax h1]at hb
     by_cases h2:b<w.heap.size
     . exact .inl h2
     . rw[ax h2]at hb;exact absurd rfl hb
 . unfold mC;rw[aA rfl]
 . unfold mC;have:=HT.out.1;rw[ax ae,aA this]
 . refine⟨⟨λi m h=>(by simp at h),λi j mi mj h=>(by simp at h)⟩,λi m d r h=>(by simp at h),λi m d a h=>(by simp at h),by simp,λk hk=> ?_,λi j mi mj a a' o o' h=>(by simp at h)⟩
   constructor
   . intro h
     have:(List.replicate 8 false).getD k false=false:=by
      rw[eY,IA];split<;>rfl
     rw[this]at h;cases h
   . rintro⟨i,m,a,o,h,_⟩;simp at h
end
end Go.Proofs.YtjkpjakodomnmaaGreatDoor
