/- The base, part 19 (merged). -/
import Derived.Test.YtjkpjakodomnmaaGreatDoorKtaq
import Derived.Laws.StructEq
import Derived.Shelf.SlSortCmp.WholeK
set_option linter.unusedVariables false
set_option linter.unusedSimpArgs false
set_option maxRecDepth 100000
set_option maxHeartbeats 16000000
namespace Go.Proofs.YtjkpjakodomnmaaGreatDoor
open Go.RowKit Go.Proofs.Tryz
theorem I4:(prog.info? 181).map (λi=>(i.zero,i.size,i.bytes))=some (some (.agg #[.int .u64 0, .int .i64 0, .int .u64 0]),3,24):=by kernel_rfl
def dA(st:List PL):List Value:=st.flatMap λp=>[.int .u64 p.1.root, .int .i64 (p.2.1:Int), .int .u64 (p.2.2:Int)]
theorem lX(st su:List PL):dA (st++su)=dA st++dA su:=by simp[dA]
theorem eB(st:List PL):(dA st).length=st.length*3:=by
 induction st with
 |nil=>rfl
 |cons p st ih=>rw[dA,yM,dO];change _+(dA st).length=_;rw[ih];simp;omega
theorem Sl.Zaf{e:TypeId}{size:Nat}{w:World}{A:Option Addr}{n c:Nat}{xs:List Value}(h:Sl e size w A n c xs):n<=c:=by
 rcases h.2 with⟨_,h1,h2⟩|⟨_,_,_,_,_,h1,_⟩
 . omega
 . exact h1
theorem Ya{w:World}{A:Option Addr}{n c:Nat}{st:List PL}{p:PL}(h:Sl 181 3 w A n c (dA (st++[p]))):∃g off,A=some ⟨g,off,none⟩/\g<w.heap.size/\w.cell? ⟨g,off+st.length*3,none⟩=some (.int .u64 p.1.root)/\w.cell? ⟨g,off+st.length*3+1,none⟩=some (.int .i64 (p.2.1:Int))/\w.cell? ⟨g,off+st.length*3+2,none⟩=some (.int .u64 (p.2.2:Int)):=by
 have hl:=eB st;have ju:=eB (st++[p]);have hn:(dA (st++[p])).length=st.length*3+3:=by rw[ju];simp;omega
 obtain⟨g,off,hA,hg,_⟩:=h.at_ (j:=st.length*3) ae;have hc:=h.cells _ hA;have had:∀x,(⟨g,off,none⟩:Addr).add x=⟨g,off+x,none⟩:=λx=>by unfold Addr.add;split<;>simp_all
 have e:dA (st++[p])=dA st++[.int .u64 p.1.root, .int .i64 (p.2.1:Int), .int .u64 (p.2.2:Int)]:=by rw[lX];rfl
 have h0:=hc (st.length*3) (.int .u64 p.1.root) (by rw[e,nZ ae,hl];simp);have h1:=hc (st.length*3+1) (.int .i64 (p.2.1:Int)) (by rw[e,nZ ae,hl];simp);have h2:=hc (st.length*3+2) (.int .u64 (p.2.2:Int)) (by rw[e,nZ ae,hl];simp);rw[had]at h0 h1 h2;exact⟨g,off,hA,hg,h0,h1,h2⟩
def lenV(v:Value):Nat:=match v with
 | .slice _ n _=>n
 |_=>0
def TrR(NN n0 b:Nat)(ws:List Int)(B:Ob)(L:Nat->Int)(t:TT)(F:AJ)(w:World)(s4:Value)(wr:World):Prop:=
 ∃(A:Option Addr) (c:Nat) (F':AJ) (Ao:Option Addr) (co:Nat) (st:List PL) (dn:List (Int×Int)) (uY:List Nat),s4= .slice Ao st.length co/\lK NN n0 ws B wr A c F'/\Sl 181 3 wr Ao st.length co (dA st)/\
  (∀x,ah Ao x->n0<=x/\x≠B.b/\x≠B.s/\x≠B.m/\¬ah A x/\¬ah B.W x)/\ND NN b L F t st dn uY F'/\st.length<=dn.length+1/\Ch (λx=>n0<=x) w wr
def Zak(NN n0:Nat)(ws:List Int)(B:Ob)(t:TT)(F:AJ)(w w':World):Prop:=
 ∃(A:Option Addr) (c:Nat) (F':AJ) (dn:List (Int×Int)) (uY:List Nat),lK NN n0 ws B w' A c F'/\Ch (λx=>n0<=x) w w'/\F'.es=F.es++dn/\dn.Perm t.aP/\F'.seen=dR F.seen uY/\uY.Perm t.ar/\(∀x,F'.ks x=true->F.ks x=true\/∃e∈t.aP,e.1=x)/\F'.nk=F.nk+dn.length/\F'.free=F.free
theorem Oz{d:Nat}(hd:d<=64):IntKind.u64.wrap ((2:Int)^d)=((2^d%2^64:Nat):Int)/\IntKind.u64.wrap (IntKind.u64.wrap ((2:Int)^d)-1)=((2^d-1:Nat):Int):=by
 have e:(2:Int)^d=((2^d:Nat):Int):=by simp
 rw[e];by_cases h:d<64
 . have h1:2^d<2^64:=Nat.pow_lt_pow_right ae h
   have h0:=KA d;rw[bY _ ae,Pz h1,bY _ ae];exact⟨rfl,by omega⟩
 . obtain rfl:d=64:=by omega
   exact⟨by decide+kernel,by decide+kernel⟩
section
variable{NN n0 c b:Nat}{ws:List Int}{B:Ob}{w w' W2 w4:World}{A A4:Option Addr}{c4:Nat}{F:AJ}{L:Nat->Int}{t:TT}
theorem lK.wlt(h:lK NN n0 ws B w A c F)(aG:ws≠[]){x:Nat}(hx:ah B.W x):x<w.heap.size:=by
 rcases h.rd with h1|⟨g,off,h1,h2,_⟩
 . exact absurd h1 aG
 . rw[h1]at hx
   have:g=x:=by simpa [ah]using hx
   rw[<-this];exact h2
theorem Rd.Qp{k:IntKind}{w w':World}{A:Option Addr}{xs:List Int}(h:Rd k w A xs)(hs:w.heap.size<=w'.heap.size)(hb:∀b,b<w.heap.size->ah A b->w'.heap[b]?=w.heap[b]?):Rd k w' A xs:=by
 rcases h with hx|⟨b,off,h1,h2,h3⟩
 . exact .inl hx
 . exact .inr ⟨b,off,h1,cD h2 hs,λi hi=>(Co (hb b h2 (by rw[h1];rfl))).trans (h3 i hi)⟩
theorem lK.grown{e:Int×Int}(h:lK NN n0 ws B w A c F)(aG:ws≠[])(hB:Below w.heap.size w W2)(hO:Sl 95 2 w4 A4 (F.es.length+1) c4 (az F.es++[.int .u64 e.1, .int .u64 e.2]))(hC:Ch (ah A) W2 w4)(hW:∀b,ah A4 b->ah A b\/b=W2.heap.size):
 lK NN n0 ws B (w4.setCell ⟨B.b,0,none⟩ (.slice A4 ((F.es.length+1:Nat)) c4)) A4 c4 {F with es:=F.es++[e]}/\Ch (λx=>n0<=x) w (w4.setCell ⟨B.b,0,none⟩ (.slice A4 ((F.es.length+1:Nat)) c4)):=by
 have h2:=h.bl hB;have hs:=hB.size;have YQ:=hC.size;have cz:Ch (At B.b) w4 (w4.setCell ⟨B.b,0,none⟩ (.slice A4 ((F.es.length+1:Nat)) c4)):=(Ch.refl _ _).bj _ _;have nA:∀{x:Nat},(x=B.b\/x=B.s\/x=B.m)->¬ah A x:=λhx ho=>by have:=h.oA _ ho;omega
 have k1:∀{x:Nat},x<W2.heap.size->¬ah A x->x≠B.b->(w4.setCell ⟨B.b,0,none⟩ (.slice A4 ((F.es.length+1:Nat)) c4)).heap[x]?=W2.heap[x]?:=λhx ho hb=>(cz.block _ ae hb).trans (hC.block _ hx ho)
 have gi:CB w4 B.b 149 (lW NN B ws.length A c F):=h2.cb.keep (hC.block _ h2.cb.lt (nA (.inl rfl)));refine⟨⟨?_,h2.sn.keep (k1 h2.sn.lt (nA (.inr (.inl rfl))) (cC h.d1.1)),h.ls,h2.mp.keep (k1 h2.mp.lt (nA (.inr (.inr rfl))) (cC h.d1.2.1)),?_,h2.rd.Qp (by simpa using YQ) (λb hb ho=>k1 hb (h.oW b ho).2.2.2.2 (h.oW b ho).2.1),h.d1,λx hx=> ?_,λx hx=>⟨(h.oW x hx).1,(h.oW x hx).2.1,(h.oW x hx).2.2.1,(h.oW x hx).2.2.2.1,λho=> ?_⟩,h.ge,?_⟩,?_⟩
 . have:=gi.set 0 (.slice A4 ((F.es.length+1:Nat)) c4)
   have e2:(lW NN B ws.length A c F).setIfInBounds 0 (.slice A4 ((F.es.length+1:Nat)) c4)=lW NN B ws.length A4 c4 {F with es:=F.es++[e]}:=by
    unfold lW;simp
   rw[e2]at this;exact this
 . have e1:az (F.es++[e])=az F.es++[.int .u64 e.1, .int .u64 e.2]:=jS _ _ _
   show Sl 95 2 _ A4 (F.es++[e]).length c4 (az (F.es++[e]))
   rw[e1,dO,List.length_singleton];refine hO.keep (λb hb=>cz.block b (hO.lt hb) (λhx=> ?_));have hx:b=B.b:=hx;rcases hW b hb with h3|h3
   . exact nA (.inl hx) h3
   . have:=h2.cb.lt;omega
 . rcases hW x hx with h3|h3
   . exact h.oA x h3
   . have g1:=h2.cb.lt;have g2:=h2.sn.lt;have g3:=h2.mp.lt;have:=h.n0
     exact⟨by omega,by omega,by omega,by omega⟩
 . rcases hW x ho with h3|h3
   . exact(h.oW x hx).2.2.2.2 h3
   . have:=h.wlt aG hx;omega
 . have:=h.n0;simp;omega
 . refine((Ch.au (S:=λx=>n0<=x) hB).trans hC (λb hb _=>(h.oA b hb).1)).trans cz (λb hb _=> ?_)
   rw[show b=B.b from hb];exact h.ge.1
theorem lK.keyed{k:Int}(h:lK NN n0 ws B w A c F)(hM:rL w' B.m (λx=>if k=x then true else F.ks x) (F.nk+1))(hC:Ch (λy=>y=B.m) w w'):lK NN n0 ws B w' A c {F with ks:=λx=>if k=x then true else F.ks x,nk:=F.nk+1}:=
 ⟨h.cb.keep (hC.block _ h.cb.lt h.d1.2.1),h.sn.keep (hC.block _ h.sn.lt h.d1.2.2),h.ls,hM,h.sl.keep (λb hb=>hC.block b (h.sl.lt hb) (h.oA b hb).2.2.2),h.rd.Qp hC.size (λb hb ho=>hC.block b hb (h.oW b ho).2.2.2.1),h.d1,h.oA,h.oW,h.ge,f_ h.n0 hC.size⟩
theorem lK.oth{S:Nat->Prop}(h:lK NN n0 ws B w A c F)(hC:Ch S w w')(hS:∀x,S x->x≠B.b/\x≠B.s/\x≠B.m/\¬ah A x/\¬ah B.W x):lK NN n0 ws B w' A c F:=
 ⟨h.cb.keep (hC.block _ h.cb.lt (λhx=>(hS _ hx).1 rfl)),h.sn.keep (hC.block _ h.sn.lt (λhx=>(hS _ hx).2.1 rfl)),h.ls,h.mp.keep (hC.block _ h.mp.lt (λhx=>(hS _ hx).2.2.1 rfl)),h.sl.keep (λb hb=>hC.block b (h.sl.lt hb) (λhx=>(hS _ hx).2.2.2.1 hb)),h.rd.Qp hC.size (λb hb ho=>hC.block b hb (λhx=>(hS _ hx).2.2.2.2 ho)),h.d1,h.oA,h.oW,h.ge,f_ h.n0 hC.size⟩
theorem XO(hb:b<8)(h:lK NN n0 ws B w A c F)(hw:VH ws L NN)(hT:gU L (aQ 256 8) NN t (bu L (eJ 256 b)))(QD:t.Wf cr 0 (λk=>KR k/\N_ k=b))(hH:TrH F t)(lT:∀x y,KR x->KR y->cr x=cr y->x=y)(Bp:F.es.length+t.aP.length<=1000/\F.nk+t.aP.length<=1000):
 Calls prog 70 #[.pointer (some ⟨B.b,0,none⟩), .int .u64 (b:Int)] w λe w'=>e= .returned (.tuple #[])/\Zak NN n0 ws B t F w w':=by
 have DI:=hw.nn;have HNN:=ag DI;have HWN:Hid (ws≠[]):=λhx=>by have:=hw.len;rw[hx]at this;simp at this;omega
 have HV:=ag (λ(W:World) (A':Option Addr) (c':Nat) (F':AJ) (hR:lK NN n0 ws B W A' c' F') (k:Nat) (h1:256<=k) (h2:k<272+4*NN)=>C3 hR hw k h1 h2);have HVI:=ag (λ(W:World) (A':Option Addr) (c':Nat) (F':AJ) (hR:lK NN n0 ws B W A' c' F') (n:Nat) (hn:n<=NN) (hs:F'.seen[n]?=some false)=>Kf hR DI n hn hs);have jQ:=ag (λ(W:World) (x j:Nat) (h1:1<=x) (h2:x<=NN) (hj:j<4)=>dI W x j NN h1 ae hj);have HR:=ag h;have BC:=ag (λ(W:World)=>C4 W NN b ae);have fX:Hid (ND NN b L F t [(t,0,0)] [] [] F):=ND.start (Al.start hT QD);have HH:=ag hH;have V0:=ag lT;have NP:=ag Bp;have mJ:bu L (eJ 256 b)=t.root:=hT.root
 have Oe:Hid (∀W,Below w.heap.size w W->Calls prog 97 #[.pointer (some ⟨B.b,0,none⟩), .int .u64 (8*((eJ 256 b:Nat):Int))] W λe w'=>e= .returned (.int .u64 t.root)/\∃n,w'=W.drewN n):=λW hW=>by
  have:=HV.out W A c F (h.bl hW) (eJ 256 b) (by unfold eJ;omega) (by unfold eJ;omega);rw[mJ]at this;exact this
 obtain⟨c0,c1,c2,c3,c4,c5,c6,c7,c8,cl,cf⟩:=h.rc;clear c0 c1 c2 c6 c7 c8 cf h hw hT QD hH lT Bp DI mJ;unfold uo at jQ BC;generalize 8*((eJ 256 b:Nat):Int)=ofr at*;go_enter func70,ntmps70
 go_wp2_with (first
  |(go_at_call 60;(with_reducible refine(BC.out _).mono ?_);rintro e w1 ⟨rfl,hb⟩;obtain⟨y,rfl⟩:=aE hb;clear hb)
  |(go_at_call 97;(with_reducible refine(Oe.out _ aC).mono ?_);rintro e w1 ⟨rfl,nq,rfl⟩))
 have jc:Hid (TrR NN n0 b ws B L t F w (.slice (some ⟨y.w.heap.size,0,none⟩) 1 1) ((y.w.drewN nq).alloc (.cells #[.int .u64 t.root, .int .i64 0, .int .u64 0] 181))):=by
  have hB:Below w.heap.size w (y.w.drewN nq):=by exact aC
  have wQ:Below w.heap.size w ((y.w.drewN nq).alloc (.cells #[.int .u64 t.root, .int .i64 0, .int .u64 0] 181)):=ai hB _;have hR:=HR.out.bl wQ;have hs:=hB.size;have h0:=HR.out.n0;have hnb:∀{x:Nat},x<w.heap.size->(y.w.drewN nq).heap.size≠x:=λhx=>by omega
  refine⟨A,c,F,_,1,[(t,0,0)],[],[],rfl,hR,⟨rfl, .inr ⟨y.w.heap.size,0,_,rfl,CB.br _ _ _ smQ,a_ 1,by show 1<=maxLen;unfold maxLen;omega,by simp,by simp[dA]⟩⟩,λx hx=> ?_,fX.out,a_ 1,Ch.au wQ⟩;have hx:x=(y.w.drewN nq).heap.size:=by simpa [ah,wm]using hx
  subst hx
  exact⟨by omega,hnb HR.out.cb.lt,hnb HR.out.sn.lt,hnb HR.out.mp.lt,λh=>hnb (HR.out.sl.lt h) rfl,λh=>by
   rcases HR.out.rd with h1|⟨g,off,h1,h2,_⟩
   . exact absurd h1 HWN.out
   . rw[h1]at h
     have:g=(y.w.drewN nq).heap.size:=by simpa [ah]using h
     exact hnb h2 this.symm⟩
 obtain⟨W0,nR⟩:=aH (((y.w.drewN nq).alloc (.cells #[.int .u64 t.root, .int .i64 0, .int .u64 0] 181)));obtain⟨s0,K7⟩:∃s0:Value,(.slice (some ⟨y.w.heap.size,0,none⟩) 1 1)=s0:=⟨_,rfl⟩;rw[nR,K7]at jc;rw[nR,K7];clear nR K7 c3 c4 c5 cl;go_loopw [4,5,6,7,18,19,20,21,22,23,24,25,26,27,28,29,30,31,32,33,34,35,36,37,38,39,40,41,42,43,44,45,46,47,48,49,50,51,52,53,54,55,56,57,58,59,60,61,62,63,64,65,66,67,68,69,70,71,72,73,74,75,76,77,78,79,80,81,82,83,84,85,86,87,88,89,90,91,92,93,94,95,96,97,98,99,100,101,102,103,104,105,106,107,108,109,110,111,112,113,114,115,116,117,118,119,120,121,122,123,124,125,126,127,128,129,130,131,132,133,134,135,136,137,138,139,140,141,142,143,144,145,146,147,148,149,150,151,152,153] (λs4 _ _ _ _ _ _ _ _ _ _ _ _ _ _ _ _ _ _ _ _ _ _ _ _ _ _ _ _ _ _ _ _ _ _ _ _ _ _ _ _ _ _ _ _ _ _ _ _ _ _ _ _ _ _ _ _ _ _ _ _ _ _ _ _ _ _ _ _ _ _ _ _ _ _ _ _ _ _ _ _ _ _ _ _ _ _ _ _ _ _ _ _ _ _ _ _ _ _ _ _ _ _ _ _ _ _ _ _ _ _ _ _ _ _ _ _ _ _ _ _ _ _ _ _ _ _ _ _ _ _ _ _ _ _ _ _ _ _ _ wr=>TrR NN n0 b ws B L t F w s4 wr) (λs4 _ _ _ _ _ _ _ _ _ _ _ _ _ _ _ _ _ _ _ _ _ _ _ _ _ _ _ _ _ _ _ _ _ _ _ _ _ _ _ _ _ _ _ _ _ _ _ _ _ _ _ _ _ _ _ _ _ _ _ _ _ _ _ _ _ _ _ _ _ _ _ _ _ _ _ _ _ _ _ _ _ _ _ _ _ _ _ _ _ _ _ _ _ _ _ _ _ _ _ _ _ _ _ _ _ _ _ _ _ _ _ _ _ _ _ _ _ _ _ _ _ _ _ _ _ _ _ _ _ _ _ _ _ _ _ _ _ _ _ wr=>2*(F.es.length+t.aP.length-lenV ((wr.cell? ⟨B.b,0,none⟩).getD (.bool false)))+lenV s4)
 case atStart=>exact jc.out
 case round=>
  obtain⟨A1,c1,F1,Ao,co,st,dn,uY,rfl,hR,hS,hO,hP,hsd,py⟩:=hrel;have Hn:=ag hR;have HS:=ag hS;have HO:=ag hO;have HP:=ag hP;have Ec:=ag py;clear jc HR BC fX Oe;rcases List.eq_nil_or_concat st with rfl|⟨su,pl,rfl⟩
  . clear hR hS hO hP py
    go_wp2;go_end0
    refine⟨rfl,A1,c1,F1,dn,uY,Hn.out,Ec.out,HP.out.es,by have:=HP.out.pe;simpa [Wq]using this,HP.out.se,by have:=HP.out.pn;simpa [XY]using this,λx hx=> ?_,HP.out.nk,HP.out.fr⟩;rcases HP.out.ks x hx with h1|⟨e,he,h1⟩
    . exact .inl h1
    . exact .inr ⟨e,HP.out.pe.mem_iff.1 (iu _ he),h1⟩
  . obtain⟨T,d,pa⟩:=pl
    rw[List.concat_eq_append]at*;obtain⟨g,off,rfl,hg,z0,z1,z2⟩:=Ya hS;dsimp only at z0 z1 z2;obtain⟨M,hM⟩:=aH ((su++[(T,d,pa)]).length);have oK:su.length+1=M:=by rw[<-hM];simp
    obtain⟨j,hj⟩:=aH su.length;rw[hj]at z0 z1 z2 oK
    have U2:dn.length<=1000:=by
     have h1:=hP.pe.length_eq;rw[dO]at h1;have:=NP.out.1;omega
    have V4:=ag U2;have hMb:M<100000:=by rw[hM]at hsd;omega
    have e1:IntKind.i64.wrap ((M:Int)-1)=(j:Int):=by rw[b9 _ ae];omega
    have hM0:(0:Int)<(M:Int):=by omega
    have hjM:(j:Int)<(M:Int):=by omega
    have hco:M<=co:=by have:=hS.Zaf;omega
    have ZbL:(M:Int)<=(co:Int):=by omega
    have HSD:=ag hsd;have HMS:=ag (And.intro hM (And.intro hj oK));rw[hM];clear hM hj hR hS hO hP py hsd U2;cases T with
    |nil=>
     have z0':wr.cell? ⟨g,off+j*3,none⟩=some (.int .u64 0):=z0;clear z0;go_wp2;obtain⟨m1,m2,m3⟩:=HMS.out;have hB:Below wr.heap.size wr (wr.alloc (.cells #[.int .u64 0, .int .i64 (d:Int), .int .u64 (pa:Int)] 181)):=ai (bZ _ _) _;have wO:=Hn.out.bl hB;have Xf:=(HS.out.take j ae).keep (λb hb=>hB.block b (HS.out.lt hb))
     have uT:(dA (su++[(TT.nil,d,pa)])).take (j*3)=dA su:=by
      rw[lX,KT (by rw[eB];omega),fR (by rw[eB];omega)]
     rw[uT]at Xf;refine⟨⟨A1,c1,F1,_,co,su,dn,uY,by rw[m2],wO,by rw[m2];exact Xf,HO.out,HP.out.skip,by have:=HSD.out;rw[m1]at this;omega,Ec.out.trans (Ch.au hB) (λb hb _=>hb)⟩,?_⟩;rw[wO.rc.c0,Hn.out.rc.c0];simp only[Option.getD_some,lenV];omega
    |node n k v z o=>
     obtain⟨hd,⟨qm,dS⟩,G4,SE,UA,hv3,Jh,eO,WR,hz,ho⟩:=(HP.out.pl _ (i_ _ (gH.2 rfl))).node V0.out;obtain⟨AE,UQ⟩:=HP.out.new HH.out;have z0':wr.cell? ⟨g,off+j*3,none⟩=some (.int .u64 (n:Int)):=z0;clear z0;have F2:((n:Int)==0)=false:=by simp;omega
     have HN:=ag (And.intro qm dS);obtain⟨a5,ha5⟩:=aH wr.heap.size;have HVX:=ag (HVI.out (wr.alloc (.cells #[.int .u64 (n:Int), .int .i64 (d:Int), .int .u64 (pa:Int)] 181)) A1 c1 F1 (Hn.out.bl (ai (bZ _ _) _)) n dS AE);have SR:CB (wr.alloc (.cells #[.int .u64 (n:Int), .int .i64 (d:Int), .int .u64 (pa:Int)] 181)) a5 181 #[.int .u64 (n:Int), .int .i64 (d:Int), .int .u64 (pa:Int)]:=CB.br _ _ _ ha5.symm;have NQ:=ag SR;have ZbR:a5≠B.s:=by have:=Hn.out.sn.lt;omega
     have Oe:=ag G4;have HV1:=ag SE;have HV2:=ag UA;have HV3:=ag hv3;have HPA:Hid (pa<18446744073709551616):=(HP.out.pl _ (i_ _ (gH.2 rfl))).l.2;have HZO:=ag (And.intro hz ho);have HKR:=ag Jh;have HMK:=ag WR;have HD:=ag hd;clear qm dS AE SR G4 SE UA hv3 hz ho WR Jh hd;go_upto_region 5 with(go_at_call 98;(with_reducible refine HVX.out.mono ?_);rintro e w1 ⟨rfl,M9,iA⟩;have S_:=ag M9;have tN:=ag iA;clear M9 iA)
     have N7:Ch (At B.s) (wr.alloc (.cells #[.int .u64 (n:Int), .int .i64 (d:Int), .int .u64 (pa:Int)] 181)) w1:=tN.out;have M5:CB w1 a5 181 #[.int .u64 (n:Int), .int .i64 (d:Int), .int .u64 (pa:Int)]:=NQ.out.keep (N7.block a5 NQ.out.lt ZbR);have Wb:=ag M5;have a0:w1.cell? ⟨a5,0,none⟩=some (.int .u64 (n:Int)):=M5.cell 0;have a1:w1.cell? ⟨a5,1,none⟩=some (.int .i64 (d:Int)):=M5.cell 1;have a2:w1.cell? ⟨a5,2,none⟩=some (.int .u64 (pa:Int)):=M5.cell 2;have al:=M5.lt;obtain⟨_,_,_,k3,k4,k5,_,_,k8,kl,_⟩:=S_.out.rc;have jP:=ag (λW=>jQ.out W n 0 HN.out.1 HN.out.2 ae);rw[show((0:Nat):Int)=0 from rfl]at jP
     have NG:Hid (∀W,Below w1.heap.size w1 W->Calls prog 97 #[.pointer (some ⟨B.b,0,none⟩), .int .u64 (8*((aQ 256 8 n 0:Nat):Int))] W λe w'=>e= .returned (.int .u64 k)/\∃n,w'=W.drewN n):=λW hW=>by
      have h1:=HN.out.1;have h2:=HN.out.2;have:=HV.out W A1 c1 _ (S_.out.bl hW) (aQ 256 8 n 0) (by unfold aQ;omega) (by unfold aQ;omega);rw[Oe.out]at this;exact this
     have HHS:=ag (λW=>OT W k (by have:=HKR.out;unfold KR at this;omega))
     have Sm:Hid (∀W,Calls prog 67 #[uo NN, .int .u64 ((cr k:Nat):Int)] W λe w'=>e= .returned (.int .u64 (b:Int))/\Below W.heap.size W w'):=λW=>by
      have:=ET W NN (cr k);rw[show(cr k>>>32)%8=b from eO]at this;exact this
     have VZ:=HMK.out;have Ej:=qW k;obtain⟨h,hh⟩:=aH (cr k);rw[hh]at HHS Sm VZ Ej;have HHH:=ag hh;unfold uo at Sm;clear M5 N7 ZbR hh eO;go_upto_region 5 with(fail)
     refine cy krQ krQ ?_;repeat(go_big_quiet_step (first|(go_at_call 61;exact bK (jP.out _))|(go_at_call 97;exact RO (NG.out _ aC))))
     refine cE ?_;rintro _ ⟨x5,rfl⟩;go_upto_region 7 with(go_at_call 66;(with_reducible refine(HHS.out _).mono ?_);rintro e w3 ⟨rfl,rfl⟩)
     have Zy:¬(64:Int)<(d:Int):=by have:=HD.out;omega
     have jt:∀y:BX x5.w,(Instr.lookup 147 (.map (some B.m)) (.int .u64 k) false).run prog y.w= .ok (.bool false) y.w:=λy=>by
      have hmp:=S_.out.mp.keep ((ji x5.below y:Below w1.heap.size w1 y.w).block B.m S_.out.mp.lt);have:=hmp.look k (by have:=HKR.out;unfold KR at this;exact Ez .u64 k (by show(0:Int)<=k;omega) (by show k<=(18446744073709551615:Int);omega));rw[UQ]at this;exact this
     have HEW:=ag (Oz HD.out)
     have Zb2:bits .and .u64 (bits .xor .u64 (h:Int) (pa:Int)) (IntKind.u64.wrap (IntKind.u64.wrap ((2:Int)^d)-1))=0:=by
      have lS:=HPA.out
      have h2d:2^d-1<18446744073709551616:=by
       have:2^d<=2^64:=yN ae HD.out;omega
      rw[HEW.out.2,bits_xor_u64_nat _ _ Ej lS,bits_and_u64_nat _ _ (Dg (n:=64) Ej lS) h2d,VZ];rfl
     have Z4:(bits .and .u64 (bits .xor .u64 (h:Int) (pa:Int)) (IntKind.u64.wrap (IntKind.u64.wrap ((2:Int)^d)-1)) !=0)=false:=by rw[Zb2];rfl
     refine cy krQ krQ ?_;repeat(go_big_quiet_step (first|(go_at_call 67;exact bK (Sm.out _))))
     refine cE ?_;rintro _ ⟨x7,rfl⟩;have hB7:Below w1.heap.size w1 x7.w:=by exact aC
     have hR7:=S_.out.bl hB7;have HR7:=ag hR7;have AM:=ag hB7;have k8':=hR7.rc.c8;have kl':=hR7.rc.lt;have Zbv:F1.nk<maxLen:=by have:=HP.out.nk;have:=V4.out;have:=NP.out.2;unfold maxLen;omega
     have QD:(Lit.int .u64 k).wf=true:=by have:=HKR.out;unfold KR at this;exact Ez .u64 k (by show(0:Int)<=k;omega) (by show k<=(18446744073709551615:Int);omega)
     clear hB7 hR7 k3 k4 k5 k8 kl;go_upto_region 10 with(at_mapUpdate;refine CY rfl (.tmp 93) (.tmp 94) (.const (.bool true)) rfl B.m _ _ rfl HR7.out.mp Zbv k rfl rfl QD ?_;intro w3 hM3 o7;have HM3:=ag hM3;have fo:=ag o7;clear hM3 o7)
     have r9:=HR7.out.keyed HM3.out fo.out;have R9:=ag r9;have ham:a5≠B.m:=by have:=Hn.out.mp.lt;omega
     have Br:a5≠B.b:=by have:=Hn.out.cb.lt;omega
     have haA:¬ah A1 a5:=λhx=>by have:=Hn.out.sl.lt hx;omega
     have HAN:=ag (And.intro ham (And.intro Br haA));have M4:CB w3 a5 181 #[.int .u64 (n:Int), .int .i64 (d:Int), .int .u64 (pa:Int)]:=(Wb.out.below AM.out).keep (fo.out.block a5 (Wb.out.below AM.out).lt ham);have Wa:=ag M4;clear a0 a1 a2 al k8' kl' Z4 jt QD Zbv ham Br haA;have a0:w3.cell? ⟨a5,0,none⟩=some (.int .u64 (n:Int)):=M4.cell 0;have a1:w3.cell? ⟨a5,1,none⟩=some (.int .i64 (d:Int)):=M4.cell 1;have a2:w3.cell? ⟨a5,2,none⟩=some (.int .u64 (pa:Int)):=M4.cell 2;have al:=M4.lt;obtain⟨k0,_,_,k3,k4,k5,_,_,_,kl,kf⟩:=r9.rc;have kf0:=kf 0;obtain⟨E1,Rc⟩:=aH F1.es.length;have V3:=ag Rc;have Ze9:E1<10000:=by have h1:=HP.out.es;have h2:=V4.out;have h3:=NP.out.1;rw[h1,dO]at Rc;omega
     have pk:Hid (Sl 95 2 w3 A1 E1 c1 (az F1.es)):=by show Sl _ _ _ _ _ _ _;rw[<-Rc];exact r9.sl
     change w3.cell? ⟨B.b,0,none⟩=some (.slice A1 F1.es.length c1)at k0;rw[Rc]at k0;have HNV:=ag (λW=>jQ.out W n 1 HN.out.1 HN.out.2 ae);rw[show((1:Nat):Int)=1 from rfl]at HNV
     have Zb9:Hid (∀W,Below w3.heap.size w3 W->Calls prog 97 #[.pointer (some ⟨B.b,0,none⟩), .int .u64 (8*((aQ 256 8 n 1:Nat):Int))] W λe w'=>e= .returned (.int .u64 v)/\∃n,w'=W.drewN n):=λW hW=>by
      have h1:=HN.out.1;have h2:=HN.out.2;have:=HV.out W A1 c1 _ (R9.out.bl hW) (aQ 256 8 n 1) (by unfold aQ;omega) (by unfold aQ;omega);rw[HV1.out]at this;exact this
     clear M4 r9 kf Rc;dsimp only[Act.put];have HNA:Hid (¬ah A1 B.b):=λhx=>(Hn.out.oA _ hx).2.1 rfl
     go_cut []from 95 to 116 (λwx=>∃A4 c4,lK NN n0 ws B wx A4 c4 {seen:=F1.seen.set n true,ks:=λx=>if k=x then true else F1.ks x,nk:=F1.nk+1,es:=F1.es++[(k,v)],free:=F1.free}/\Ch (λx=>n0<=x) w3 wx/\(∀x,x<w3.heap.size->x≠B.b->¬ah A1 x->wx.heap[x]?=w3.heap[x]?)/\∀x,ah A4 x->ah A1 x\/w3.heap.size<=x)
     case first=>
      clear HV HVI jQ HH V0 NP HP HS HO Ec HSD HMS S_ tN NQ Wb HM3 fo Oe HV1 HV2 HV3 HZO HKR HMK HD HPA V4 HHS Sm HHH jP HVX NG AM HR7 Hn VZ Ej Zy HEW z0' z1 z2 hg F2 e1 hM0 hjM ZbL UQ oK hMb hco HN Wa a1 a2;have AK:Hid (∀W',Below w3.heap.size w3 W'->W'.cell? ⟨B.b,0,none⟩=some (.slice A1 E1 c1)/\W'.cell? ⟨B.b,3,none⟩=some (.int .u64 2048)/\W'.cell? ⟨B.b,4,none⟩=some (.int .u64 8)/\W'.cell? ⟨B.b,5,none⟩=some (.int .u64 NN)/\W'.cell? ⟨a5,0,none⟩=some (.int .u64 (n:Int))/\a5<W'.heap.size/\B.b<W'.heap.size):=λW' hB=>⟨(hB.cell (p:=⟨B.b,0,none⟩) kl).trans k0,(hB.cell (p:=⟨B.b,3,none⟩) kl).trans k3,(hB.cell (p:=⟨B.b,4,none⟩) kl).trans k4,(hB.cell (p:=⟨B.b,5,none⟩) kl).trans k5,(hB.cell (p:=⟨a5,0,none⟩) al).trans a0,cD al hB.size,cD kl hB.size⟩
      refine gQ 22 (λw'=>w'.cell? ⟨B.b,0,none⟩=some (.slice A1 E1 c1)/\w'.cell? ⟨B.b,3,none⟩=some (.int .u64 2048)/\w'.cell? ⟨B.b,4,none⟩=some (.int .u64 8)/\w'.cell? ⟨B.b,5,none⟩=some (.int .u64 NN)/\w'.cell? ⟨a5,0,none⟩=some (.int .u64 (n:Int))/\a5<w'.heap.size/\B.b<w'.heap.size) krQ (by(first|(with_reducible refine AK.out _ ?_;(repeat(first|with_reducible(first|exact bZ _ _|refine ai ?_ _|refine ru ?_|refine iT ?_ _|refine ji ?_ _|exact BX.below _|refine gZ ?_ (by first|(exact a_ _)|(simp;done)|(simp;omega)) _)|assumption));done)|(refine⟨?_,?_,?_,?_,?_,?_,?_⟩<;>first|assumption|(go_simp;done)|(simp;omega)))) (λhHeld=> ?_)
      refine aw.tk 0 ?_;try simp only[puQ]
      refine aw.tk 1 ?_;try simp only[puQ]
      refine aw.tk 2 ?_;try simp only[puQ]
      refine aw.tk 3 ?_;try simp only[puQ]
      refine aw.tk 4 ?_;try simp only[puQ]
      refine aw.tk 5 ?_;try simp only[puQ]
      refine aw.tk 6 ?_;try simp only[puQ]
      refine aw.tk 7 ?_;try simp only[puQ]
      refine aw.tk 8 ?_;try simp only[puQ]
      refine aw.tk 9 ?_;try simp only[puQ]
      refine aw.tk 10 ?_;try simp only[puQ]
      refine aw.tk 11 ?_;try simp only[puQ]
      refine aw.tk 12 ?_;try simp only[puQ]
      refine aw.tk 13 ?_;try simp only[puQ]
      refine aw.one (i:=14) krQ rfl (λK hK=> ?_)
      (go_simp;go_at_call 61;(with_reducible refine(HNV.out _).mono ?_);rintro e w5 ⟨rfl,hb⟩;obtain⟨y5,rfl⟩:=aE hb;have yl:B.b<y5.w.heap.size:=cD kl hb.size;have ya:a5<y5.w.heap.size:=cD al hb.size;clear hb)
      refine hK.out _ _ (λ_=> ?_) (λhHeld0=> ?_)
      . (try dsimp only)
        (first|(with_reducible refine AK.out _ ?_;(repeat(first|with_reducible(first|exact bZ _ _|refine ai ?_ _|refine ru ?_|refine iT ?_ _|refine ji ?_ _|exact BX.below _|refine gZ ?_ (by first|(exact a_ _)|(simp;done)|(simp;omega)) _)|assumption));done)|(refine⟨?_,?_,?_,?_,?_,?_,?_⟩<;>first|assumption|(go_simp;done)|(simp;omega)))
      have hHeld:=hHeld0 (by decide);clear hK K hHeld0;try simp only[puQ]
      refine aw.one (i:=15) krQ rfl (λK hK=> ?_)
      (go_simp;go_at_call 97;(with_reducible refine(Zb9.out _ aC).mono ?_);rintro e w6 ⟨rfl,nq6,rfl⟩)
      refine hK.out _ _ (λ_=> ?_) (λhHeld0=> ?_)
      . (try dsimp only)
        (first|(with_reducible refine AK.out _ ?_;(repeat(first|with_reducible(first|exact bZ _ _|refine ai ?_ _|refine ru ?_|refine iT ?_ _|refine ji ?_ _|exact BX.below _|refine gZ ?_ (by first|(exact a_ _)|(simp;done)|(simp;omega)) _)|assumption));done)|(refine⟨?_,?_,?_,?_,?_,?_,?_⟩<;>first|assumption|(go_simp;done)|(simp;omega)))
      have hHeld:=hHeld0 (by decide);clear hK K hHeld0;try simp only[puQ]
      refine aw.one (i:=16) krQ rfl (λK hK=> ?_);go_simp;refine hK.out _ _ (λ_=> ?_) (λhHeld0=> ?_)
      . (try dsimp only)
        (first|(with_reducible refine AK.out _ ?_;(repeat(first|with_reducible(first|exact bZ _ _|refine ai ?_ _|refine ru ?_|refine iT ?_ _|refine ji ?_ _|exact BX.below _|refine gZ ?_ (by first|(exact a_ _)|(simp;done)|(simp;omega)) _)|assumption));done)|(refine⟨?_,?_,?_,?_,?_,?_,?_⟩<;>first|assumption|(go_simp;done)|(simp;omega)))
      have hHeld:=hHeld0 (by decide);clear hK K hHeld0;try simp only[puQ]
      refine aw.one (i:=17) krQ rfl (λK hK=> ?_);go_simp;refine hK.out _ _ (λ_=> ?_) (λhHeld0=> ?_)
      . (try dsimp only)
        (first|(with_reducible refine AK.out _ ?_;(repeat(first|with_reducible(first|exact bZ _ _|refine ai ?_ _|refine ru ?_|refine iT ?_ _|refine ji ?_ _|exact BX.below _|refine gZ ?_ (by first|(exact a_ _)|(simp;done)|(simp;omega)) _)|assumption));done)|(refine⟨?_,?_,?_,?_,?_,?_,?_⟩<;>first|assumption|(go_simp;done)|(simp;omega)))
      have hHeld:=hHeld0 (by decide);clear hK K hHeld0;try simp only[puQ]
      refine aw.one (i:=18) krQ rfl (λK hK=> ?_)
      (refine dJ rfl (.tmp 100) (.tmp 112) 92 rfl 95 (.agg #[.int .u64 0, .int .u64 0]) 2 16 rfl ae underlying92 eT ae A1 E1 c1 (az F1.es) ⟨_,0,none⟩ 1 1 [.int .u64 k, .int .u64 v] (by go_simp) (by go_simp) (pk.out.keep (λb hb=>(show Below w3.heap.size w3 _ by exact aC).block b (pk.out.lt hb))) rfl ae (jw _ 95 _ _) (ir.1 rfl) ae ?_;intro A4 c4 w4 lU eW mU uM;have mA:=ag (RF eW.out (show Below w3.heap.size w3 _ by exact aC));have q0:w4.cell? ⟨B.b,0,none⟩=some (.slice A1 E1 c1):=(eW.out.cells B.b 0 (cD kl mA.out.size) HNA.out).trans ((mA.out.cell (p:=⟨B.b,0,none⟩) kl).trans k0);have q3:=(eW.out.cells B.b 3 (cD kl mA.out.size) HNA.out).trans ((mA.out.cell (p:=⟨B.b,3,none⟩) kl).trans k3);have q4:=(eW.out.cells B.b 4 (cD kl mA.out.size) HNA.out).trans ((mA.out.cell (p:=⟨B.b,4,none⟩) kl).trans k4);have q5:=(eW.out.cells B.b 5 (cD kl mA.out.size) HNA.out).trans ((mA.out.cell (p:=⟨B.b,5,none⟩) kl).trans k5);have q6:=(eW.out.cells a5 0 (cD al mA.out.size) HAN.out.2.2).trans ((mA.out.cell (p:=⟨a5,0,none⟩) al).trans a0);have q7:w4.frozen? ⟨B.b,0,none⟩=false:=(eW.out.jE B.b 0 (cD kl mA.out.size) HNA.out).trans ((mA.out.frozen (p:=⟨B.b,0,none⟩) kl).trans kf0);have q8:B.b<w4.heap.size:=cD (cD kl mA.out.size) eW.out.size;have q9:a5<w4.heap.size:=cD (cD al mA.out.size) eW.out.size;have q10:¬a5=B.b:=HAN.out.2.1)
      refine hK.out _ _ (λ_=> ?_) (λhHeld0=> ?_)
      . (try dsimp only)
        (first|(with_reducible refine AK.out _ ?_;(repeat(first|with_reducible(first|exact bZ _ _|refine ai ?_ _|refine ru ?_|refine iT ?_ _|refine ji ?_ _|exact BX.below _|refine gZ ?_ (by first|(exact a_ _)|(simp;done)|(simp;omega)) _)|assumption));done)|(refine⟨?_,?_,?_,?_,?_,?_,?_⟩<;>first|assumption|(go_simp;done)|(simp;omega)))
      have hHeld:=hHeld0 (by decide);clear hK K hHeld0;try simp only[puQ]
      refine aw.one (i:=19) krQ rfl (λK hK=> ?_);go_simp;refine hK.out _ _ (λ_=> ?_) (λhHeld0=> ?_)
      . (try dsimp only)
        (first|(with_reducible refine AK.out _ ?_;(repeat(first|with_reducible(first|exact bZ _ _|refine ai ?_ _|refine ru ?_|refine iT ?_ _|refine ji ?_ _|exact BX.below _|refine gZ ?_ (by first|(exact a_ _)|(simp;done)|(simp;omega)) _)|assumption));done)|(refine⟨?_,?_,?_,?_,?_,?_,?_⟩<;>first|assumption|(go_simp;done)|(simp;omega)))
      have hHeld:=hHeld0 (by decide);clear hK K hHeld0;try simp only[puQ]
      refine aw.one (i:=20) krQ rfl (λK hK=> ?_);go_simp;refine hK.out _ _ (λ_=> ?_) (λhHeld0=> ?_)
      . (try dsimp only)
        (first|(with_reducible refine AK.out _ ?_;(repeat(first|with_reducible(first|exact bZ _ _|refine ai ?_ _|refine ru ?_|refine iT ?_ _|refine ji ?_ _|exact BX.below _|refine gZ ?_ (by first|(exact a_ _)|(simp;done)|(simp;omega)) _)|assumption));done)|(refine⟨?_,?_,?_,?_,?_,?_,?_⟩<;>first|assumption|(go_simp;done)|(simp;omega)))
      have hHeld:=hHeld0 (by decide);clear hK K hHeld0;try simp only[puQ]
      refine aw.one (i:=21) krQ rfl (λK hK=> ?_);go_simp;refine hK.out _ _ (λ_=> ?_) (λhHeld0=> ?_)
      . (try dsimp only)
        (first|(with_reducible refine AK.out _ ?_;(repeat(first|with_reducible(first|exact bZ _ _|refine ai ?_ _|refine ru ?_|refine iT ?_ _|refine ji ?_ _|exact BX.below _|refine gZ ?_ (by first|(exact a_ _)|(simp;done)|(simp;omega)) _)|assumption));done)|(refine⟨?_,?_,?_,?_,?_,?_,?_⟩<;>first|assumption|(go_simp;done)|(simp;omega)))
      have hHeld:=hHeld0 (by decide);clear hK K hHeld0;try simp only[puQ]
      refine aw.one (i:=22) krQ rfl (λK hK=> ?_);go_simp;refine hK.out _ _ (λhx=>absurd rfl hx) (λhHeld=> ?_);clear hK K hHeld;try simp only[puQ]
      refine aw.done krQ ?_ _;go_wp2;go_meet;have ie:=R9.out.grown (e:=(k,v)) HWN.out mA.out (show Sl 95 2 w4 A4 (F1.es.length+1) c4 _ by rw[V3.out];exact lU.out) eW.out mU.out;change lK _ _ _ _ (w4.setCell ⟨B.b,0,none⟩ (.slice A4 (F1.es.length+1:Nat) c4)) _ _ _/\_ at ie;rw[V3.out]at ie;refine⟨A4,c4,ie.1,ie.2,λx hx hxb hxa=> ?_,λx hx=> ?_⟩
      . exact(ft _ _ _ _ hxb).trans ((eW.out.block x (cD hx mA.out.size) hxa).trans (mA.out.block x hx))
      . rcases mU.out x hx with h3|h3
        . exact .inl h3
        . exact .inr (by rw[h3];exact mA.out.size)
     case rest=>
      obtain⟨A4,c4,r10,U6,Zn,uB⟩:=hcut;have VL:=ag r10;have Zfd:=ag U6;have uQ:=ag uB;obtain⟨m1,m2,m3⟩:=HMS.out
      have nJ:∀x,x<wr.heap.size->x≠B.b->x≠B.s->x≠B.m->¬ah A1 x->wc.heap[x]?=wr.heap[x]?:=λx hx h1 h2 h3 h4=>by
       have vI:wr.heap.size<=w1.heap.size:=f_ smQ tN.out.size;have hs7:=AM.out.size;have hs3:=fo.out.size;exact(Zn x ae h1 h4).trans ((fo.out.block x ae h3).trans ((AM.out.block x ae).trans ((tN.out.block x (by simp;omega) h2).trans (d_ _ _ _ hx))))
      have xb:=ag nJ
      have lR:wr.heap.size<=wc.heap.size:=by
       have vI:wr.heap.size<=w1.heap.size:=f_ smQ tN.out.size;have hs7:=AM.out.size;have hs3:=fo.out.size;have:=U6.size;omega
      have hCw:Ch (λx=>n0<=x) wr wc:=by
       have t0:Ch (λx=>n0<=x) wr (wr.alloc (.cells #[.int .u64 (n:Int), .int .i64 (d:Int), .int .u64 (pa:Int)] 181)):=Ch.au (ai (bZ _ _) _);have t1:Ch (λx=>n0<=x) _ w1:=tN.out.mono (λb hb _=>by rw[show b=B.s from hb];exact Hn.out.ge.2.1);have t3:Ch (λx=>n0<=x) x7.w w3:=fo.out.mono (λb hb _=>by rw[show b=B.m from hb];exact Hn.out.ge.2.2);exact(((t0.trans t1 (λb hb _=>hb)).trans (Ch.au AM.out) (λb hb _=>hb)).trans t3 (λb hb _=>hb)).trans U6 (λb hb _=>hb)
      have HCW:=ag hCw;have ZdQ:Hid (w1.heap.size<=w3.heap.size):=f_ AM.out.size fo.out.size
      have uT:(dA (su++[(TT.node n k v z o,d,pa)])).take (j*3)=dA su:=by
       rw[lX,KT (by rw[eB];omega),fR (by rw[eB];omega)]
      have K6:=(HS.out.take j ae).keep (w':=wc) (λb hb=>nJ b (HS.out.lt hb) (HO.out b hb).2.1 (HO.out b hb).2.2.1 (HO.out b hb).2.2.2.1 (HO.out b hb).2.2.2.2.1);rw[uT]at K6;have HSP:=ag K6;have Q6:CB wc a5 181 #[.int .u64 (n:Int), .int .i64 (d:Int), .int .u64 (pa:Int)]:=Wa.out.keep (Zn a5 Wa.out.lt HAN.out.2.1 HAN.out.2.2);clear k0 k3 k4 k5 kl kf0 a0 a1 a2 al;have a0:wc.cell? ⟨a5,0,none⟩=some (.int .u64 (n:Int)):=Q6.cell 0;have a1:wc.cell? ⟨a5,1,none⟩=some (.int .i64 (d:Int)):=Q6.cell 1;have a2:wc.cell? ⟨a5,2,none⟩=some (.int .u64 (pa:Int)):=Q6.cell 2;have al:=Q6.lt;obtain⟨_,_,_,k3,k4,k5,_,_,_,kl,_⟩:=r10.rc;have AK:Hid (∀W',Below wc.heap.size wc W'->W'.cell? ⟨B.b,3,none⟩=some (.int .u64 2048)/\W'.cell? ⟨B.b,4,none⟩=some (.int .u64 8)/\W'.cell? ⟨B.b,5,none⟩=some (.int .u64 NN)/\W'.cell? ⟨a5,0,none⟩=some (.int .u64 (n:Int))/\W'.cell? ⟨a5,1,none⟩=some (.int .i64 (d:Int))/\W'.cell? ⟨a5,2,none⟩=some (.int .u64 (pa:Int))/\a5<W'.heap.size/\B.b<W'.heap.size):=λW' hB=>⟨(hB.cell (p:=⟨B.b,3,none⟩) kl).trans k3,(hB.cell (p:=⟨B.b,4,none⟩) kl).trans k4,(hB.cell (p:=⟨B.b,5,none⟩) kl).trans k5,(hB.cell (p:=⟨a5,0,none⟩) al).trans a0,(hB.cell (p:=⟨a5,1,none⟩) al).trans a1,(hB.cell (p:=⟨a5,2,none⟩) al).trans a2,cD al hB.size,cD kl hB.size⟩
      have WY:g≠B.b:=(HO.out g rfl).2.1;have UX:g≠a5:=by omega
      have HKQ:Hid (∀(W' W6:World),Below wc.heap.size wc W'->Ch (ah (some ⟨g,off,none⟩)) W' W6->W6.cell? ⟨B.b,3,none⟩=some (.int .u64 2048)/\W6.cell? ⟨B.b,4,none⟩=some (.int .u64 8)/\W6.cell? ⟨B.b,5,none⟩=some (.int .u64 NN)/\W6.cell? ⟨a5,0,none⟩=some (.int .u64 (n:Int))/\W6.cell? ⟨a5,1,none⟩=some (.int .i64 (d:Int))/\W6.cell? ⟨a5,2,none⟩=some (.int .u64 (pa:Int))/\a5<W6.heap.size/\B.b<W6.heap.size):=λW' W6 hB hC=>by
       obtain⟨e1,e2,e3,e4,e5,e6,e7,e8⟩:=AK.out W' hB;have nb:¬ah (some ⟨g,off,none⟩) B.b:=λhx=>WY (by simpa [ah]using hx)
       have na:¬ah (some ⟨g,off,none⟩) a5:=λhx=>UX (by simpa [ah]using hx)
       exact⟨(hC.cells B.b 3 e8 nb).trans e1,(hC.cells B.b 4 e8 nb).trans e2,(hC.cells B.b 5 e8 nb).trans e3,(hC.cells a5 0 e7 na).trans e4,(hC.cells a5 1 e7 na).trans e5,(hC.cells a5 2 e7 na).trans e6,cD e7 hC.size,cD e8 hC.size⟩
      have Aw:=ag (λW=>jQ.out W n 2 HN.out.1 HN.out.2 ae);rw[show((2:Nat):Int)=2 from rfl]at Aw;have J2:=ag (λW=>jQ.out W n 3 HN.out.1 HN.out.2 ae);rw[show((3:Nat):Int)=3 from rfl]at J2
      have NG:Hid (∀W,Below wc.heap.size wc W->Calls prog 97 #[.pointer (some ⟨B.b,0,none⟩), .int .u64 (8*((aQ 256 8 n 2:Nat):Int))] W λe w'=>e= .returned (.int .u64 z.root)/\∃n,w'=W.drewN n):=λW hW=>by
       have h1:=HN.out.1;have h2:=HN.out.2;have:=HV.out W A4 c4 _ (VL.out.bl hW) (aQ 256 8 n 2) (by unfold aQ;omega) (by unfold aQ;omega);rw[HV2.out]at this;exact this
      have Zap:Hid (∀W,Below wc.heap.size wc W->Calls prog 97 #[.pointer (some ⟨B.b,0,none⟩), .int .u64 (8*((aQ 256 8 n 3:Nat):Int))] W λe w'=>e= .returned (.int .u64 o.root)/\∃n,w'=W.drewN n):=λW hW=>by
       have h1:=HN.out.1;have h2:=HN.out.2;have:=HV.out W A4 c4 _ (VL.out.bl hW) (aQ 256 8 n 3) (by unfold aQ;omega) (by unfold aQ;omega);rw[HV3.out]at this;exact this
      obtain⟨d1,kP⟩:=aH (d+1);obtain⟨pb,QG⟩:=aH (pa|||(2^d%2^64));have hdd:=HD.out;have ed:IntKind.i64.wrap ((d:Int)+1)=(d1:Int):=by rw[b9 _ ae];omega
      have epb:bits .or .u64 (pa:Int) (IntKind.u64.wrap ((2:Int)^(min d 64)))=(pb:Int):=by rw[vn hdd,HEW.out.1,bits_or_u64_nat _ _ HPA.out (yP _ (by decide)),QG]
      have HDP:=ag (And.intro kP QG);have UU:j<100000:=by omega
      clear kP QG hdd r10 U6 Zn uB nJ lR hCw uT K6 Q6 HV HVI jQ S_ NQ Wb HM3 Oe HV1 HHS Sm HHH jP HVX AM HR7 VZ Ej Zy z0' z1 z2 F2 e1 hM0 hjM ZbL UQ oK hMb Wa HNV Zb9 pk HNA m1 m2 m3 WY UX;go_upto_region 11 with(fail)
      refine gQ 37 (λw'=>w'.cell? ⟨B.b,3,none⟩=some (.int .u64 2048)/\w'.cell? ⟨B.b,4,none⟩=some (.int .u64 8)/\w'.cell? ⟨B.b,5,none⟩=some (.int .u64 NN)/\w'.cell? ⟨a5,0,none⟩=some (.int .u64 (n:Int))/\w'.cell? ⟨a5,1,none⟩=some (.int .i64 (d:Int))/\w'.cell? ⟨a5,2,none⟩=some (.int .u64 (pa:Int))/\a5<w'.heap.size/\B.b<w'.heap.size) krQ (by(first|(with_reducible refine AK.out _ ?_;(repeat(first|with_reducible(first|exact bZ _ _|refine ai ?_ _|refine ru ?_|refine iT ?_ _|refine ji ?_ _|exact BX.below _|refine gZ ?_ (by first|(exact a_ _)|(simp;done)|(simp;omega)) _)|assumption));done)|exact XA.out|(refine⟨?_,?_,?_,?_,?_,?_,?_,?_⟩<;>first|assumption|(go_simp;done)|(simp;omega)))) (λhHeld=> ?_)
      refine aw.tk 0 ?_;try simp only[puQ]
      refine aw.tk 1 ?_;try simp only[puQ]
      refine aw.tk 2 ?_;try simp only[puQ]
      refine aw.tk 3 ?_;try simp only[puQ]
      refine aw.tk 4 ?_;try simp only[puQ]
      refine aw.tk 5 ?_;try simp only[puQ]
      refine aw.tk 6 ?_;try simp only[puQ]
      refine aw.tk 7 ?_;try simp only[puQ]
      refine aw.tk 10 ?_;try simp only[puQ]
      refine aw.tk 11 ?_;try simp only[puQ]
      refine aw.tk 12 ?_;try simp only[puQ]
      refine aw.tk 13 ?_;try simp only[puQ]
      refine aw.tk 14 ?_;try simp only[puQ]
      refine aw.tk 16 ?_;try simp only[puQ]
      refine aw.tk 17 ?_;try simp only[puQ]
      refine aw.tk 18 ?_;try simp only[puQ]
      refine aw.tk 19 ?_;try simp only[puQ]
      refine aw.tk 20 ?_;try simp only[puQ]
      refine aw.tk 21 ?_;try simp only[puQ]
      refine aw.tk 22 ?_;try simp only[puQ]
      refine aw.tk 25 ?_;try simp only[puQ]
      refine aw.tk 26 ?_;try simp only[puQ]
      refine aw.tk 27 ?_;try simp only[puQ]
      refine aw.tk 28 ?_;try simp only[puQ]
      refine aw.tk 29 ?_;try simp only[puQ]
      refine aw.tk 30 ?_;try simp only[puQ]
      refine aw.tk 31 ?_;try simp only[puQ]
      refine aw.tk 32 ?_;try simp only[puQ]
      refine aw.tk 33 ?_;try simp only[puQ]
      refine aw.one (i:=8) krQ rfl (λK hK=> ?_)
      (go_simp;go_at_call 61;(first|(with_reducible refine(Aw.out _).mono ?_)|(with_reducible refine(J2.out _).mono ?_));rintro e w5 ⟨rfl,hb⟩;obtain⟨y8,rfl⟩:=aE hb;have yl8:B.b<y8.w.heap.size:=cD kl (show Below wc.heap.size wc _ by exact aC).size;have ya8:a5<y8.w.heap.size:=cD al (show Below wc.heap.size wc _ by exact aC).size;clear hb)
      refine hK.out _ _ (λ_=> ?_) (λhHeld0=> ?_)
      . (try dsimp only)
        (first|(with_reducible refine AK.out _ ?_;(repeat(first|with_reducible(first|exact bZ _ _|refine ai ?_ _|refine ru ?_|refine iT ?_ _|refine ji ?_ _|exact BX.below _|refine gZ ?_ (by first|(exact a_ _)|(simp;done)|(simp;omega)) _)|assumption));done)|exact XA.out|(refine⟨?_,?_,?_,?_,?_,?_,?_,?_⟩<;>first|assumption|(go_simp;done)|(simp;omega)))
      have hHeld:=hHeld0 (by decide);clear hK K hHeld0;try simp only[puQ]
      refine aw.one (i:=9) krQ rfl (λK hK=> ?_)
      (go_simp;go_at_call 97;(with_reducible refine(NG.out _ aC).mono ?_);rintro e w6 ⟨rfl,Ba,rfl⟩)
      refine hK.out _ _ (λ_=> ?_) (λhHeld0=> ?_)
      . (try dsimp only)
        (first|(with_reducible refine AK.out _ ?_;(repeat(first|with_reducible(first|exact bZ _ _|refine ai ?_ _|refine ru ?_|refine iT ?_ _|refine ji ?_ _|exact BX.below _|refine gZ ?_ (by first|(exact a_ _)|(simp;done)|(simp;omega)) _)|assumption));done)|exact XA.out|(refine⟨?_,?_,?_,?_,?_,?_,?_,?_⟩<;>first|assumption|(go_simp;done)|(simp;omega)))
      have hHeld:=hHeld0 (by decide);clear hK K hHeld0;try simp only[puQ]
      refine aw.tk 15 ?_;try simp only[puQ]
      refine aw.one (i:=23) krQ rfl (λK hK=> ?_)
      (go_simp;go_at_call 61;(first|(with_reducible refine(Aw.out _).mono ?_)|(with_reducible refine(J2.out _).mono ?_));rintro e w5 ⟨rfl,hb⟩;obtain⟨y9,rfl⟩:=aE hb;have yl9:B.b<y9.w.heap.size:=cD kl (show Below wc.heap.size wc _ by exact aC).size;have ya9:a5<y9.w.heap.size:=cD al (show Below wc.heap.size wc _ by exact aC).size;clear hb)
      refine hK.out _ _ (λ_=> ?_) (λhHeld0=> ?_)
      . (try dsimp only)
        (first|(with_reducible refine AK.out _ ?_;(repeat(first|with_reducible(first|exact bZ _ _|refine ai ?_ _|refine ru ?_|refine iT ?_ _|refine ji ?_ _|exact BX.below _|refine gZ ?_ (by first|(exact a_ _)|(simp;done)|(simp;omega)) _)|assumption));done)|exact XA.out|(refine⟨?_,?_,?_,?_,?_,?_,?_,?_⟩<;>first|assumption|(go_simp;done)|(simp;omega)))
      have hHeld:=hHeld0 (by decide);clear hK K hHeld0;try simp only[puQ]
      refine aw.one (i:=24) krQ rfl (λK hK=> ?_)
      (go_simp;go_at_call 97;(with_reducible refine(Zap.out _ aC).mono ?_);rintro e w6 ⟨rfl,nq3,rfl⟩)
      refine hK.out _ _ (λ_=> ?_) (λhHeld0=> ?_)
      . (try dsimp only)
        (first|(with_reducible refine AK.out _ ?_;(repeat(first|with_reducible(first|exact bZ _ _|refine ai ?_ _|refine ru ?_|refine iT ?_ _|refine ji ?_ _|exact BX.below _|refine gZ ?_ (by first|(exact a_ _)|(simp;done)|(simp;omega)) _)|assumption));done)|exact XA.out|(refine⟨?_,?_,?_,?_,?_,?_,?_,?_⟩<;>first|assumption|(go_simp;done)|(simp;omega)))
      have hHeld:=hHeld0 (by decide);clear hK K hHeld0;try simp only[puQ]
      refine aw.one (i:=34) krQ rfl (λK hK=> ?_);go_simp;refine hK.out _ _ (λ_=> ?_) (λhHeld0=> ?_)
      . (try dsimp only)
        (first|(with_reducible refine AK.out _ ?_;(repeat(first|with_reducible(first|exact bZ _ _|refine ai ?_ _|refine ru ?_|refine iT ?_ _|refine ji ?_ _|exact BX.below _|refine gZ ?_ (by first|(exact a_ _)|(simp;done)|(simp;omega)) _)|assumption));done)|exact XA.out|(refine⟨?_,?_,?_,?_,?_,?_,?_,?_⟩<;>first|assumption|(go_simp;done)|(simp;omega)))
      have hHeld:=hHeld0 (by decide);clear hK K hHeld0;try simp only[puQ]
      refine aw.one (i:=35) krQ rfl (λK hK=> ?_);go_simp;refine hK.out _ _ (λ_=> ?_) (λhHeld0=> ?_)
      . (try dsimp only)
        (first|(with_reducible refine AK.out _ ?_;(repeat(first|with_reducible(first|exact bZ _ _|refine ai ?_ _|refine ru ?_|refine iT ?_ _|refine ji ?_ _|exact BX.below _|refine gZ ?_ (by first|(exact a_ _)|(simp;done)|(simp;omega)) _)|assumption));done)|exact XA.out|(refine⟨?_,?_,?_,?_,?_,?_,?_,?_⟩<;>first|assumption|(go_simp;done)|(simp;omega)))
      have hHeld:=hHeld0 (by decide);clear hK K hHeld0;try simp only[puQ]
      refine aw.one (i:=36) krQ rfl (λK hK=> ?_)
      (refine dJ rfl (.tmp 117) (.tmp 152) 182 rfl 181 (.agg #[.int .u64 0, .int .i64 0, .int .u64 0]) 3 24 rfl ae underlying182 I4 ae (some ⟨g,off,none⟩) j co (dA su) ⟨y9.w.heap.size,0,none⟩ 2 2 [.int .u64 z.root, .int .i64 (d1:Int), .int .u64 (pa:Int), .int .u64 o.root, .int .i64 (d1:Int), .int .u64 (pb:Int)] (by go_simp) (by first|(go_simp;done)|(go_simp;rfl)) (HSP.out.keep (λb hb=>(show Below wc.heap.size wc _ by exact aC).block b (HSP.out.lt hb))) rfl ae (dT (y9.w.drewN nq3) 181 _) (ir.1 rfl) ae ?_;intro A6 c6 w6 HO6 Hs HW6 HG6;have Oq:=ag (RF Hs.out (show Below wc.heap.size wc _ by exact aC));have XA:=ag (HKQ.out _ _ Oq.out Hs.out))
      refine hK.out _ _ (λ_=> ?_) (λhHeld0=> ?_)
      . (try dsimp only)
        (first|(with_reducible refine AK.out _ ?_;(repeat(first|with_reducible(first|exact bZ _ _|refine ai ?_ _|refine ru ?_|refine iT ?_ _|refine ji ?_ _|exact BX.below _|refine gZ ?_ (by first|(exact a_ _)|(simp;done)|(simp;omega)) _)|assumption));done)|exact XA.out|(refine⟨?_,?_,?_,?_,?_,?_,?_,?_⟩<;>first|assumption|(go_simp;done)|(simp;omega)))
      have hHeld:=hHeld0 (by decide);clear hK K hHeld0;try simp only[puQ]
      refine aw.one (i:=37) krQ rfl (λK hK=> ?_);go_simp;refine hK.out _ _ (λhx=>absurd rfl hx) (λhHeld=> ?_);clear hK K hHeld;try simp only[puQ]
      refine aw.done krQ ?_ _;go_wp2;obtain⟨m1,m2,m3⟩:=HMS.out;obtain⟨kP,QG⟩:=HDP.out
      have hS6:Sl 181 3 w6 A6 (su++[(z,d+1,pa),(o,d+1,pa|||(2^d%2^64))]).length c6 (dA (su++[(z,d+1,pa),(o,d+1,pa|||(2^d%2^64))])):=by
       have e1:(su++[(z,d+1,pa),(o,d+1,pa|||(2^d%2^64))]).length=j+2:=by rw[dO];simp;omega
       rw[e1,lX,kP,QG];exact HO6.out
      have Zbs:∀y,ah (some ⟨g,off,none⟩) y->y≠B.b/\y≠B.s/\y≠B.m/\¬ah A4 y/\¬ah B.W y:=λy hy=>by
       obtain⟨q1,q2,q3,q4,q5,q6⟩:=HO.out y hy;refine⟨q2,q3,q4,λhx=> ?_,q6⟩;rcases uQ.out y hx with h1|h1
       . exact q5 h1
       . have hyg:g=y:=by simpa [ah]using hy
         have vI:wr.heap.size<=w1.heap.size:=f_ smQ tN.out.size;have hs7:w1.heap.size<=w3.heap.size:=ZdQ.out;omega
      have hR6:=(VL.out.bl Oq.out).oth Hs.out Zbs;have ZcI:=Oq.out.size;refine⟨⟨A4,c4,_,A6,c6,_,_,_,(show Value.slice A6 (j+2) c6=Value.slice A6 (su++[(z,d+1,pa),(o,d+1,pa|||(2^d%2^64))]).length c6 from by rw[show(su++[(z,d+1,pa),(o,d+1,pa|||(2^d%2^64))]).length=j+2 from by rw[dO];simp;omega]),hR6,hS6,λy hy=> ?_,HP.out.next V0.out,?_,(Ec.out.trans HCW.out (λb hb _=>hb)).trans ((Ch.au Oq.out).trans (Hs.out.mono (λb hb _=>(HO.out b hb).1)) (λb hb _=>hb)) (λb hb _=>hb)⟩,?_⟩
      . rcases HW6.out y hy with h1|h1
        . exact⟨(HO.out y h1).1,Zbs y h1⟩
        . have g0:=VL.out.n0;have g1:=VL.out.cb.lt;have g2:=VL.out.sn.lt;have g3:=VL.out.mp.lt
          have hy6:wc.heap.size<=y:=by rw[h1];exact ZcI
          exact⟨by omega,by omega,by omega,by omega,λhx=>by have:=VL.out.sl.lt hx;omega,λhx=>by have:=VL.out.wlt HWN.out hx;omega⟩
      . have h1:=HSD.out
        simp only[dO,List.length_cons,List.length_nil]at h1 |-;omega
      . rw[hR6.rc.c0,Hn.out.rc.c0]
        have h1:=HP.out.es;have h2:=(HP.out.next V0.out).pe.length_eq;simp only[Option.getD_some,lenV];simp only[dO,List.length_cons,List.length_nil]at h2 |-;rw[h1,dO];omega
end
def lF(T:Nat->TT)(j:Nat):List (Int×Int):=(List.range j).flatMap λb=>(T b).aP
def vx(T:Nat->TT)(j:Nat):List Nat:=(List.range j).flatMap λb=>(T b).ar
theorem j9(T:Nat->TT)(j:Nat):lF T (j+1)=lF T j++(T j).aP:=by unfold lF;rw[xf,Cl];simp
theorem Fw(T:Nat->TT)(j:Nat):vx T (j+1)=vx T j++(T j).ar:=by unfold vx;rw[xf,Cl];simp
theorem sW{T:Nat->TT}{j:Nat}{e:Int×Int}:e∈lF T j↔∃b,b<j/\e∈(T b).aP:=by simp[lF,Fj]
theorem IU{T:Nat->TT}{j n:Nat}:n∈vx T j↔∃b,b<j/\n∈(T b).ar:=by simp[vx,Fj]
structure nM(NN:Nat)(T:Nat->TT)(fl:List Nat)(j:Nat)(F:AJ):Prop where
 es:F.es.Perm (lF T j)
 sn:∃uY,F.seen=dR (dR (List.replicate (NN+1) false) fl) uY/\uY.Perm (vx T j)
 ks:∀x,F.ks x=true->∃e∈lF T j,e.1=x
 nk:F.nk=F.es.length
 fr:F.free=fl.length
section
variable{NN j:Nat}{T:Nat->TT}{fl:List Nat}{F F':AJ}{L:Nat->Int}{kv:List (Int×Int)}
theorem kQ.Us(h:kQ 256 8 NN cr N_ L T fl kv){b:Nat}(hb:b<8){e:Int×Int}(he:e∈(T b).aP):KR e.1/\N_ e.1=b:=(h.wf b hb).all e he
theorem nM.trH(h:kQ 256 8 NN cr N_ L T fl kv)(A:nM NN T fl j F)(hj:j<8):TrH F (T j):=by
 refine⟨h.n1 j hj,(h.wf j hj).uniq,λn hn=> ?_,λe he=> ?_⟩
 . obtain⟨uY,hv,hp⟩:=A.sn
   rw[hv,nW,nW]
   . have:=(h.tr j hj).num n hn
     rw[IA,aA ae]
   . exact h.n4 j n hj hn
   . intro hx
     obtain⟨b,hb,dy⟩:=IU.1 (hp.subset hx);have:=h.n2 b j n ae hj dy hn;omega
 . cases hk:F.ks e.1 with
   |false=>rfl
   |true=>
    obtain⟨e',h1,h2⟩:=A.ks _ hk;obtain⟨b,hb,dy⟩:=sW.1 h1;have k1:=(h.Us ae dy).2;have k2:=(h.Us hj he).2;rw[h2]at k1;omega
theorem nM.next{dn:List (Int×Int)}{uY:List Nat}(A:nM NN T fl j F)(h1:F'.es=F.es++dn)(h2:dn.Perm (T j).aP)(h3:F'.seen=dR F.seen uY)(h4:uY.Perm (T j).ar)(h5:∀x,F'.ks x=true->F.ks x=true\/∃e∈(T j).aP,e.1=x)(h6:F'.nk=F.nk+dn.length)(h7:F'.free=F.free):nM NN T fl (j+1) F':=by
 obtain⟨vs,g1,g2⟩:=A.sn;refine⟨?_,⟨vs++uY,?_,?_⟩,λx hx=> ?_,?_,by rw[h7];exact A.fr⟩
 . rw[h1,j9];exact A.es.append h2
 . rw[h3,g1,Iv (dR (List.replicate (NN+1) false) fl) vs uY]
 . rw[Fw];exact g2.append h4
 . rw[j9]
   rcases h5 x hx with hk|⟨e,he,hk⟩
   . obtain⟨e,he,hk⟩:=A.ks x hk
     exact⟨e,iu _ he,hk⟩
   . exact⟨e,i_ _ he,hk⟩
 . rw[h6,h1,A.nk,dO]
theorem kQ.Lp(h:kQ 256 8 NN cr N_ L T fl kv):(lF T 8).Perm kv:=by
 have WM:∀j,j<=8->(lF T j).Nodup:=by
  intro j;induction j with
  |zero=>intro _;exact List.nodup_nil
  |succ j ih=>
   intro hj;rw[j9,tW];refine⟨ih ae,?_,λa ha b hb Br=> ?_⟩
   . exact(h.wf j ae).uniq.imp (λaG he=>aG (by rw[he]))
   . subst Br
     obtain⟨c,hc,xo⟩:=sW.1 ha;have k1:=(h.Us (b:=c) ae xo).2;have k2:=(h.Us (b:=j) ae hb).2;omega
 have hkv:kv.Nodup:=h.so.imp (λaM he=>by rw[he]at aM;omega);rw[P4 (WM 8 ae) hkv];intro e;rw[h.me e,sW]
theorem Nj{T:Nat->TT}{i j:Nat}(xn:i<=j):(lF T i).length<=(lF T j).length:=by
 induction j with
 |zero=>have:i=0:=by omega
        subst this;exact a_ _
 |succ j ih=>
  by_cases h:i=j+1
  . subst h;exact a_ _
  . rw[j9,dO];have:=ih ae;omega
theorem nM.bound(h:kQ 256 8 NN cr N_ L T fl kv)(A:nM NN T fl j F)(hj:j<8):F.es.length+(T j).aP.length<=NN:=by
 have h1:=A.es.length_eq;have h2:=Nj (T:=T) (i:=j+1) (j:=8) ae;rw[j9,dO]at h2;have h3:=h.Lp.length_eq;have h4:=h.ct;omega
theorem nM.start:nM NN T fl 0 ⟨dR (List.replicate (NN+1) false) fl,λ_=>false,0,[],fl.length⟩:=
 ⟨wB _,⟨[],rfl,wB _⟩,λx hx=>(by cases hx),rfl,rfl⟩
theorem nM.Yc(h:kQ 256 8 NN cr N_ L T fl kv)(A:nM NN T fl 8 F):F.es.Perm kv:=A.es.trans h.Lp
end
def gP(w:World)(A:Option Addr)(kv:List (Int×Int)):Prop:=
 kv=[]\/∃g off,A=some ⟨g,off,none⟩/\g<w.heap.size/\∀(i:Nat) (e:Int×Int),kv[i]?=some e->w.cell? ⟨g,off+i*2,none⟩=some (.int .u64 e.1)/\w.cell? ⟨g,off+i*2+1,none⟩=some (.int .u64 e.2)
section
variable{w w':World}{A:Option Addr}{kv:List (Int×Int)}
theorem gP.nil:gP w A []:= .inl rfl
theorem gP.FL(h:gP w A kv)(hs:w.heap.size<=w'.heap.size)(hb:∀b,b<w.heap.size->ah A b->w'.heap[b]?=w.heap[b]?):gP w' A kv:=by
 rcases h with hx|⟨g,off,h1,h2,h3⟩
 . exact .inl hx
 . refine .inr ⟨g,off,h1,cD h2 hs,λi e he=> ?_⟩
   have hg:=hb g h2 (by rw[h1];rfl);exact⟨(Co hg).trans (h3 i e he).1,(Co hg).trans (h3 i e he).2⟩
theorem gP.below(h:gP w A kv)(hB:Below w.heap.size w w'):gP w' A kv:=h.FL hB.size (λb hb _=>hB.block b hb)
theorem gP.at_(h:gP w A kv){i:Nat}{e:Int×Int}(he:kv[i]?=some e):∃g off,A=some ⟨g,off,none⟩/\g<w.heap.size/\w.cell? ⟨g,off+i*2,none⟩=some (.int .u64 e.1)/\w.cell? ⟨g,off+i*2+1,none⟩=some (.int .u64 e.2):=by
 rcases h with hx|⟨g,off,h1,h2,h3⟩
 . rw[hx]at he;simp at he
 . exact⟨g,off,h1,h2,h3 i e he⟩
theorem L9(kv:List (Int×Int))(key:Int):∀(j:Nat),(∀(i:Nat) (e:Int×Int),i<j->kv[i]?=some e->e.1≠key)->∀e,kv[j]?=some e->e.1=key->bJ kv key=some e.2:=by
 induction kv with
 |nil=>intro j _ e he;simp at he
 |cons x kv ih=>
  intro j aS e he hk;cases j with
  |zero=>
   simp at he;subst he;unfold bJ;simp[hk]
  |succ j=>
   have hx:x.1≠key:=aS 0 x ae rfl;have:=ih j (λi e hi hg=>aS (i+1) e ae (by simpa using hg)) e (by simpa using he) hk;unfold bJ at this |-;simp only[List.find?_cons];rw[show(x.1==key)=false by simpa using hx];exact this
theorem L_(kv:List (Int×Int))(key:Int)(h:∀(i:Nat)(e:Int×Int),kv[i]?=some e->e.1≠key):bJ kv key=none:=by
 unfold bJ
 rw[yW.2 (λe he=>by
  obtain⟨i,hi⟩:=ze.1 he;simpa using h i e hi)]
 rfl
def ZU(r:Option Int):Value:= .tuple #[.int .u64 (r.getD 0), .bool r.isSome]
theorem Pj(n c:Nat)(key:Int)(hn:kv.length=n)(dS:n<=100000)(hR:gP w A kv):
 Calls prog 43 #[.slice A n c, .int .u64 key] w λr w'=>r= .returned (ZU (bJ kv key))/\Below w.heap.size w w':=by
 have HR:=ag hR;have HN:=ag hn;clear hR hn;go_enter func43,ntmps43
 go_wp2;go_loopw [10,7,11,12,13,14,15,16,17,18,19,20] (λi _ _ _ _ _ _ _ _ _ _ _ wr=>∃j:Nat,j<=n/\i= .int .i64 j/\(∀(i:Nat) (e:Int×Int),i<j->kv[i]?=some e->e.1≠key)/\Below w.heap.size w wr) (λi _ _ _ _ _ _ _ _ _ _ _ _=>n-(intOf i).toNat)
 case atStart=>exact⟨0,by omega,rfl,λi e hi=>by omega,bZ _ _⟩
 case round=>
  obtain⟨j,hj,rfl,aS,hB⟩:=hrel;have iV:=ag aS;have HB:=ag hB;by_cases aM:j<n
  . have dx:(j:Int)<(n:Int):=by omega
    have MU:(0:Int)<=(j:Int):=by omega
    obtain⟨e,he⟩:∃e,kv[j]?=some e:=⟨_,dG (by rw[HN.out];exact aM)⟩;obtain⟨g,off,hA,hl,wN,xo⟩:=(HR.out.below hB).at_ he;have HE:=ag he;obtain⟨k,v⟩:=e;dsimp only at wN xo;subst hA;clear aS hB he;by_cases hq:k=key
    . have HQ:Hid (bJ kv key=some v):=L9 kv key j iV.out _ HE.out hq
      have hd:decide (k=key)=true:=kx hq;go_wp2;exact bH (v:=ZU (some v)) (by simp[ZU,results,results43,go_sem]) rfl ⟨by rw[HQ.out],HB.out.trans ((by exact aC:Below wr.heap.size wr _).mono HB.out.size)⟩
    . have hd:decide (k=key)=false:=oX hq
      go_wp2;refine⟨⟨j+1,by omega,by go_num,λi e hi he=> ?_,HB.out.trans ((by exact aC:Below wr.heap.size wr _).mono HB.out.size)⟩,by simp[intOf];omega⟩;by_cases xn:i=j
      . rw[xn,HE.out]at he
        injection he with he;rw[<-he];exact hq
      . exact iV.out i e ae he
  . obtain rfl:j=n:=by omega
    have dx:¬(j:Int)<(j:Int):=by omega
    have HQ:Hid (bJ kv key=none):=L_ kv key (λi e he=>iV.out i e (by have:=(ki.1 he).1;have:=HN.out;omega) he);clear aS hB;go_wp2;exact bH (v:=ZU none) (by simp[ZU,results,results43,go_sem]) rfl ⟨by rw[HQ.out],HB.out⟩
theorem Yo(a b c d:Int)(w:World):(binOp .neq 45 (.agg #[.int .u64 a, .int .u64 b]) (.agg #[.int .u64 c, .int .u64 d])).run prog w= .ok (.bool (!(decide (a=c/\b=d)))) w:=by
 have u30:=underlying22;have a30:=isAgg22;have z30:=sizeOf22;have hS:prog.underlying 45=some (.struct (prog.fieldsOf 45)):=by kernel_rfl
 have hp:prog.stoodInHeld 45=false:=by kernel_rfl
 rw[run_neq_struct,show(10000:Nat)=9999+1 from rfl,run_equalIn_agg w 9999 45 _ _ hS hp];simp only[Program.fieldsOf,underlying45];go_simp;by_cases h1:a=c<;>by_cases h2:b=d<;>simp[h1,h2]
theorem Mt{vs ws:List (Int×Int)}{n:Nat}(h1:vs.length=n)(h2:ws.length=n)(h:∀q,q<n->vs[q]?=ws[q]?):vs=ws:=by
 apply yV
 intro i;by_cases hi:i<n
 . exact h i hi
 . rw[oY ae,oY ae]
theorem kT(A B:Option Addr)(n1 c1 n2 c2:Nat)(vs ws:List (Int×Int))(h1:vs.length=n1)(h2:ws.length=n2)(hm:n1<=100000/\n2<=100000)(hR:gP w A vs)(hS:gP w B ws):
 Calls prog 13 #[.slice A n1 c1, .slice B n2 c2] w λr w'=>r= .returned (.bool (decide (vs=ws)))/\Below w.heap.size w w':=by
 by_cases DI:n1=n2
 . subst DI
   have HR:=ag hR;have HS:=ag hS;have H1:=ag h1;have H2:=ag h2;have DJ:=Yo;have ZeV:prog.eqGuardType prog.depth 45=false:=by kernel_rfl
   clear hR hS h1 h2;go_enter func13,ntmps13
   go_wp2;go_loopw [13,4,5,14,15,16,17,18,19,20,21,22,23,24,25] (λi _ _ _ _ _ _ _ _ _ _ _ _ _ _ wr=>∃j:Nat,j<=n1/\i= .int .i64 j/\(∀q,q<j->vs[q]?=ws[q]?)/\Below w.heap.size w wr) (λi _ _ _ _ _ _ _ _ _ _ _ _ _ _ _=>n1-(intOf i).toNat)
   case atStart=>exact⟨0,by omega,rfl,λq hq=>by omega,bZ _ _⟩
   case round=>
    obtain⟨j,hj,rfl,aS,hB⟩:=hrel;have iV:=ag aS;have HB:=ag hB;by_cases aM:j<n1
    . have dx:(j:Int)<(n1:Int):=by omega
      have MU:(0:Int)<=(j:Int):=by omega
      obtain⟨e1,M0⟩:∃e,vs[j]?=some e:=⟨_,dG (by rw[H1.out];exact aM)⟩;obtain⟨e2,U1⟩:∃e,ws[j]?=some e:=⟨_,dG (by rw[H2.out];exact aM)⟩;obtain⟨g1,o1,Vg,jB,wN,Zdr⟩:=(HR.out.below hB).at_ M0;obtain⟨g2,o2,o8,ju,xo,Zdq⟩:=(HS.out.below hB).at_ U1;have V3:=ag M0;have HE2:=ag U1;obtain⟨k1,v1⟩:=e1;obtain⟨k2,v2⟩:=e2;dsimp only at wN Zdr xo Zdq;subst Vg o8;clear aS hB M0 U1;by_cases hq:k1=k2/\v1=v2
      . obtain⟨rfl,rfl⟩:=hq
        go_wp2;go_quiet (fail)
        go_wp2;refine⟨⟨j+1,by omega,by go_num,λq hq=> ?_,HB.out.trans ((by exact aC:Below wr.heap.size wr _).mono HB.out.size)⟩,by simp[intOf];omega⟩;by_cases Ja:q=j
        . rw[Ja,V3.out,HE2.out]
        . exact iV.out q ae
      . have hqd:decide (k1=k2/\v1=v2)=false:=oX hq
        have HQ:Hid (decide (vs=ws)=false):=by
         show _=_
         refine oX (λhe=>hq ?_);have h3:=V3.out;rw[he,HE2.out]at h3;injection h3 with h3;injection h3 with h3 h4;exact⟨h3.symm,h4.symm⟩
        go_wp2;go_quiet (fail)
        go_wp2;exact bH (v:= .bool false) (by simp[results,results13,go_sem]) rfl ⟨by rw[HQ.out],HB.out.trans ((by exact aC:Below wr.heap.size wr _).mono HB.out.size)⟩
    . obtain rfl:j=n1:=by omega
      have dx:¬(j:Int)<(j:Int):=by omega
      have HQ:Hid (decide (vs=ws)=true):=kx (Mt H1.out H2.out iV.out);clear aS hB;go_wp2;exact bH (v:= .bool true) (by simp[results,results13,go_sem]) rfl ⟨by rw[HQ.out],HB.out⟩
 . have HQ:Hid (decide (vs=ws)=false):=by
    show _=_
    refine oX (λhe=>DI ?_);rw[<-h1,<-h2,he]
   have hd:((n1:Int)=(n2:Int))=False:=by simp;omega
   have Zz:decide ((n1:Int)=(n2:Int))=false:=by simp;omega
   clear hR hS h1 h2;go_enter func13,ntmps13
   go_wp2;exact bH (v:= .bool false) (by simp[results,results13,go_sem]) rfl ⟨by rw[HQ.out],bZ _ _⟩
end
theorem dX:(prog.info? 45).map (λi=>(i.zero,i.size,i.bytes))=some (some (.agg #[.int .u64 0, .int .u64 0]),2,16):=by kernel_rfl
theorem EC:∀(kv:List (Int×Int)) (i:Nat) (e:Int×Int),kv[i]?=some e->(az kv)[i*2]?=some (.int .u64 e.1)/\(az kv)[i*2+1]?=some (.int .u64 e.2):=by
 intro kv;induction kv with
 |nil=>intro i e h;simp at h
 |cons x kv ih=>
  intro i e h;cases i with
  |zero=>simp at h;subst h;simp[az]
  |succ i=>
   have:=ih i e (by simpa using h);rw[show az (x::kv)= .int .u64 x.1:: .int .u64 x.2::az kv from rfl,show(i+1)*2=i*2+1+1 by omega];simpa using this
theorem Sl.X5{w:World}{A:Option Addr}{n c:Nat}{kv:List (Int×Int)}(h:Sl 45 2 w A n c (az kv)):gP w A kv:=by
 by_cases h0:kv=[]
 . exact .inl h0
 . have hp:0<(az kv).length:=by cases kv with
    |nil=>exact absurd rfl h0
    |cons x kv=>simp[az]
   obtain⟨g,off,hA,hg,_⟩:=h.at_ (j:=0) hp;have had:∀x,(⟨g,off,none⟩:Addr).add x=⟨g,off+x,none⟩:=λx=>by unfold Addr.add;split<;>simp_all
   refine .inr ⟨g,off,hA,hg,λi e he=> ?_⟩;obtain⟨e1,e2⟩:=EC kv i e he;have h1:=h.cells _ hA _ _ e1;have h2:=h.cells _ hA _ _ e2;rw[had]at h1 h2;exact⟨h1,h2⟩
section
variable{w w':World}{A:Option Addr}{kv:List (Int×Int)}
def WoP(w:World)(r:List (Int×Int))(e:Ending)(w':World):Prop:=
 ∃A' m c',e= .returned (.slice A' m c')/\r.length=m/\Sl 45 2 w' A' m c' (az r)/\(∀b,ah A' b->w.heap.size<=b)/\Below w.heap.size w w'
theorem C6{key:Int}{j:Nat}{e:Int×Int}(he:kv[j]?=some e):eK (kv.take (j+1)) key=eK (kv.take j) key++if e.1=key then []else [e]:=by
 obtain⟨hl,h2⟩:=ki.1 he;rw[iw hl,h2];unfold eK;rw[KL];congr 1;by_cases h:e.1=key
 . simp[h]
 . simp[h]
theorem tT(n c:Nat)(key:Int)(hn:kv.length=n)(dS:n<=1000)(hR:gP w A kv):
 Calls prog 45 #[.slice A n c, .int .u64 key] w (WoP w (eK kv key)):=by
 have HR:=ag hR;have HN:=ag hn;have XG:Hid (Sl 45 2 (w.alloc (.cells #[] 45)) (some ⟨w.heap.size,0,none⟩) 0 0 (az (eK (kv.take 0) key))):=⟨by simp[eK,az], .inr ⟨w.heap.size,0, #[],rfl,CB.new _ _ _,a_ _,by omega,by simp,by simp[eK,az]⟩⟩;clear hR hn;go_enter func45,ntmps45
 go_wp2;go_loopw [11,5,7,12,13,14,15,16,17,18,19,20,21,22,23] (λi s _ _ _ _ _ _ _ _ _ _ _ _ _ wr=>∃(j:Nat) (A':Option Addr) (m c':Nat),j<=n/\i= .int .i64 j/\s= .slice A' m c'/\(eK (kv.take j) key).length=m/\Sl 45 2 wr A' m c' (az (eK (kv.take j) key))/\(∀b,ah A' b->w.heap.size<=b)/\Below w.heap.size w wr) (λi _ _ _ _ _ _ _ _ _ _ _ _ _ _ _=>n-(intOf i).toNat)
 case atStart=>exact⟨0,some ⟨w.heap.size,0,none⟩,0,0,by omega,rfl,rfl,rfl,XG.out,λb hb=>by simp[ah]at hb;omega,ai (bZ _ _) _⟩
 case round=>
  clear XG;obtain⟨j,A',m,c',hj,rfl,rfl,hm,hS,hO,hB⟩:=hrel;have HS:=ag hS;have HM:=ag hm;have HO:=ag hO;have HB:=ag hB
  have oM:m<=1000:=by
   have h1:=PT (λe:Int×Int=>decide (e.1≠key)) (kv.take j);unfold eK at hm;rw[hm,gf]at h1;omega
  by_cases aM:j<n
  . have dx:(j:Int)<(n:Int):=by omega
    have MU:(0:Int)<=(j:Int):=by omega
    obtain⟨e,he⟩:∃e,kv[j]?=some e:=⟨_,dG (by rw[HN.out];exact aM)⟩;obtain⟨g,off,hA,hl,wN,xo⟩:=(HR.out.below hB).at_ he;have HT:=ag (C6 (key:=key) he);obtain⟨k,v⟩:=e;dsimp only at wN xo;subst hA;clear hm hS hO hB he;by_cases hq:k=key
    . have hd:decide (k=key)=true:=kx hq
      have Og:Hid (eK (kv.take (j+1)) key=eK (kv.take j) key):=by have:=HT.out;rw[aA hq,vh]at this;exact this
      go_wp2;refine⟨⟨j+1,A',m,c',by omega,by go_num,rfl,by rw[Og.out];exact HM.out,by rw[Og.out];exact HS.out.keep (λb hb=>d_ _ _ b (HS.out.lt hb)),HO.out,HB.out.trans ((by exact aC:Below wr.heap.size wr _).mono HB.out.size)⟩,by simp[intOf];omega⟩
    . have hd:decide (k=key)=false:=oX hq
      have Og:Hid (eK (kv.take (j+1)) key=eK (kv.take j) key++[(k,v)]):=by have:=HT.out;rw[ax hq]at this;exact this
      go_wp2_with (at_builtin;refine ay rfl (.tmp 19) (.tmp 21) 42 rfl 45 (.agg #[.int .u64 0, .int .u64 0]) 2 16 rfl ae underlying42 dX ae A' m c' (az (eK (kv.take j) key)) ⟨wr.heap.size+1,0,none⟩ 1 1 [.int .u64 k, .int .u64 v] rfl rfl (HS.out.keep (λb hb=>(d_ _ _ b (by have:=HS.out.lt hb;simp;omega)).trans (d_ _ _ b (HS.out.lt hb)))) rfl ae (λj' u hu=>by have h7:=dT (wr.alloc (.cells #[.int .u64 k, .int .u64 v] 45)) 45 [.int .u64 k, .int .u64 v] j' u hu;rw[show(wr.alloc (.cells #[.int .u64 k, .int .u64 v] 45)).heap.size=wr.heap.size+1 by simp]at h7;exact h7) (ir.1 rfl) ae ?_;intro A4 c4 w4 lU eW mU uM)
      have Ve:Below w.heap.size w w4:=bM (HB.out.trans ((by exact aC:Below wr.heap.size wr ((wr.alloc (.cells #[.int .u64 k, .int .u64 v] 45)).alloc (.cells #[.int .u64 k, .int .u64 v] 45))).mono HB.out.size)) eW.out (λb hb=>HO.out b hb);have lR:=HB.out.size;refine⟨⟨j+1,A4,m+1,c4,by omega,by go_num,rfl,by rw[Og.out];simp;exact HM.out,by rw[Og.out,show az (eK (kv.take j) key++[(k,v)])=az (eK (kv.take j) key)++[.int .u64 k, .int .u64 v] by simp[az]];exact lU.out,λb hb=> ?_,Ve⟩,by simp[intOf];omega⟩;rcases mU.out b hb with hx|hx
      . exact HO.out b hx
      . simp at hx;omega
  . obtain rfl:j=n:=by omega
    have dx:¬(j:Int)<(j:Int):=by omega
    have Og:Hid (kv.take j=kv):=fR (by rw[HN.out];exact a_ _);clear hm hS hO hB;go_wp2;have hs:=HS.out;have NV:=HM.out;rw[Og.out]at hs NV;exact bH (v:= .slice A' m c') (by simp[results,results45,go_sem]) rfl ⟨A',m,c',rfl,NV,hs,HO.out,HB.out⟩
end
open Go.Shelf
def Me:Go.Shelf.Ren:=⟨fun|6=>71|15=>100|14=>99|28=>135|29=>136|20=>127|21=>128|22=>129|23=>130|24=>131|25=>132|26=>133|27=>134|46=>165|47=>166|48=>167|49=>168|50=>169|57=>181|n=>n,fun|22=>92|24=>95|25=>154|3=>3|39=>150|0=>0|53=>215|55=>22|4=>4|46=>208|45=>207|50=>212|5=>5|9=>9|66=>238|70=>241|76=>250|77=>63|n=>n,fun|n=>n⟩
theorem Wr:Go.Proofs.SlLaysF0.n6 prog Me:={
 mixed:=by kernel_rfl
 f6:=⟨Tryz.f71.name,by decide,func71.trans (bP some krQ)⟩
 f14:=⟨Tryz.f99.name,by decide,func99.trans (bP some krQ)⟩
 f15:=func100.trans (bP some krQ)
 f20:=⟨Tryz.f127.name,by decide,func127.trans (bP some krQ)⟩
 f21:=⟨Tryz.f128.name,by decide,func128.trans (bP some krQ)⟩
 f22:=⟨Tryz.f129.name,by decide,func129.trans (bP some krQ)⟩
 f23:=⟨Tryz.f130.name,by decide,func130.trans (bP some krQ)⟩
 f24:=⟨Tryz.f131.name,by decide,func131.trans (bP some krQ)⟩
 f25:=⟨Tryz.f132.name,by decide,func132.trans (bP some krQ)⟩
 f26:=⟨Tryz.f133.name,by decide,func133.trans (bP some krQ)⟩
 f27:=⟨Tryz.f134.name,by decide,func134.trans (bP some krQ)⟩
 f28:=func135.trans (bP some krQ)
 f29:=func136.trans (bP some krQ)
 f46:=⟨Tryz.f165.name,by decide,func165.trans (bP some krQ)⟩
 f47:=func166.trans (bP some krQ)
 f48:=func167.trans (bP some krQ)
 f49:=⟨Tryz.f168.name,by decide,func168.trans (bP some krQ)⟩
 f50:=⟨Tryz.f169.name,by decide,func169.trans (bP some krQ)⟩
 f57:=⟨Tryz.f181.name,by decide,func181.trans (bP some krQ)⟩
 t0:=underlying0
 a0:=isAgg0
 z0:=sizeOf0
 v0:=zeroValue0
 t3:=underlying3
 a3:=isAgg3
 z3:=sizeOf3
 v3:=zeroValue3
 t4:=underlying4
 a4:=isAgg4
 z4:=sizeOf4
 v4:=zeroValue4
 t5:=underlying5
 a5:=isAgg5
 z5:=sizeOf5
 v5:=zeroValue5
 t9:=underlying9
 a9:=isAgg9
 z9:=sizeOf9
 v9:=zeroValue9
 t22:=underlying92
 a22:=isAgg92
 z22:=sizeOf92
 v22:=zeroValue92
 t25:=underlying154
 a25:=isAgg154
 z25:=sizeOf154
 v25:=zeroValue154
 t39:=underlying150
 a39:=isAgg150
 z39:=sizeOf150
 v39:=zeroValue150
 t45:=underlying207
 a45:=isAgg207
 z45:=sizeOf207
 v45:=zeroValue207
 t46:=underlying208
 a46:=isAgg208
 z46:=sizeOf208
 v46:=zeroValue208
 t50:=underlying212
 a50:=isAgg212
 z50:=sizeOf212
 v50:=zeroValue212
 t53:=underlying215
 a53:=isAgg215
 z53:=sizeOf215
 v53:=zeroValue215
 t55:=underlying22
 a55:=isAgg22
 z55:=sizeOf22
 v55:=zeroValue22
 t66:=underlying238
 a66:=isAgg238
 z66:=sizeOf238
 v66:=zeroValue238
 t70:=underlying241
 a70:=isAgg241
 z70:=sizeOf241
 v70:=zeroValue241
 t76:=underlying250
 a76:=isAgg250
 z76:=sizeOf250
 v76:=zeroValue250
 t77:=underlying63
 a77:=isAgg63
 z77:=sizeOf63
 v77:=zeroValue63}
end Go.Proofs.YtjkpjakodomnmaaGreatDoor
