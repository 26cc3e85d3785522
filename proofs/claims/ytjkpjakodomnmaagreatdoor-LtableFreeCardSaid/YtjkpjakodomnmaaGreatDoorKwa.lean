/- The law LtableFree, first part (merged). -/
import Derived.Test.YtjkpjakodomnmaaGreatDoorKtau
import Derived.Deep.SlicePairs
import Derived.WideShapes
set_option linter.unusedVariables false
set_option linter.unusedSimpArgs false
set_option maxRecDepth 100000
set_option maxHeartbeats 16000000
namespace Go.Proofs.YtjkpjakodomnmaaGreatDoor
open Go.RowKit Go.Proofs.Tryz
abbrev sq(q:List (Int×Int)):Prop:=q.Pairwise (λa b=>a.1<b.1)
section
variable{q:List (Int×Int)}{key key' v:Int}{NN:Nat}{c:TC}
theorem yz(h:sq q):sq (cI NN q c).1:=by
 unfold cI eu;cases bJ q c.key with
 |none=>
  dsimp only;split
  . split
    . exact h
    . exact cU h
  . exact h
 |some v=>
  dsimp only;split
  . exact h
  . split
    . exact cU h
    . split
      . exact hJ h
      . split
        . exact h
        . exact cU h
theorem Ii(h:sq q)(hl:q.length<=NN):(cI NN q c).1.length<=NN:=by
 have h1:=nh (key:=c.key) (v:=c.val) h;have h2:=pK (key:=c.key) h;unfold cI eu;cases hg:bJ q c.key with
 |none=>
  rw[hg]at h1;simp at h1;dsimp only;split
  . split
    . exact hl
    . dsimp only;omega
  . exact hl
 |some v=>
  rw[hg]at h1;simp at h1;dsimp only;split
  . exact hl
  . split
    . dsimp only;omega
    . split
      . dsimp only;omega
      . split
        . exact hl
        . dsimp only;omega
end
def aY(n:Nat):List (Int×Int):=(List.range n).map λ(i:Nat)=>((i:Int),(i:Int)%3)
theorem iM(n:Nat):(aY n).length=n:=by simp[aY]
theorem gX(n:Nat):aY (n+1)=aY n++[((n:Int),(n:Int)%3)]:=by simp[aY,xf]
theorem fT{n:Nat}{e:Int×Int}(h:e∈aY n):0<=e.1/\e.1<n:=by
 obtain⟨i,hi,rfl⟩:=iJ.1 h;have:i<n:=by simpa using hi
 dsimp only;omega
theorem qx(n:Nat):sq (aY n):=by
 induction n with
 |zero=>exact List.Pairwise.nil
 |succ n ih=>
  rw[gX];unfold sq;rw[Fo];refine⟨ih,by simp,λa ha b hb=> ?_⟩;have:=fT ha;rw[gH.1 hb];dsimp only;omega
theorem vR(n:Nat):bJ (aY n) (n:Int)=none:=by
 cases h:bJ (aY n) (n:Int)with
 |none=>rfl
 |some v=>
  have:=fT ((dV (qx n)).1 h);dsimp only at this;omega
theorem vQ(n:Nat):il (aY n) (n:Int) ((n:Int)%3)=aY (n+1):=by
 rw[gX];unfold il
 have h1:(aY n).filter (λe=>decide (e.1<(n:Int)))=aY n:=by
  rw[yZ];intro e he;have:=fT he;simp;omega
 have h2:(aY n).filter (λe=>decide ((n:Int)<e.1))=[]:=by
  rw[Cr];intro e he;have:=fT he;simp;omega
 rw[h1,h2]
theorem zO{NN n:Nat}(h:n<NN):cI NN (aY n) ⟨1,(n:Int),(n:Int)%3,0⟩=(aY (n+1),0,0):=by
 unfold cI eu;dsimp only;rw[vR];simp[iM,E_.2 h,vQ]
theorem sX{α:Type}:∀{l:List α},l.length=3->∃a b c,l=[a,b,c]
 |[a,b,c],_=>⟨a,b,c,rfl⟩
theorem mP{K:TK}{ms:List TM}{ord:List Nat}(h:fe K [] [(⟨1,7,1,0⟩,0),(⟨1,7,2,0⟩,0),(⟨3,7,3,1⟩,0)] ms ord)(hN:2<K.NN):∃a b c,ms=[a,b,c]/\dY K.NN ms [] ord=[(7,2)]/\b.ph= .fin 1 0/\c.ph= .fin 2 6:=by
 obtain⟨h1,h2⟩:=h.O_ (t:=0) ae (λc hc=>by
  simp only[dr,fH,gF]at hc;rcases hc with rfl|rfl|rfl<;>rfl)
 obtain⟨σ,Tm,L,T,fl,N,lf,now,g1,_,_,g4,_⟩:=h;have hl:ms.length=3:=by have:=bP List.length h1;simpa using this
 obtain⟨a,b,c,rfl⟩:=sX hl;simp only[oV,wu,tV,mF]at h1;obtain⟨a1,b1,c1⟩:=h1;have ho:ord=[0,1,2]:=h2;subst ho;have hn:¬K.NN<=0:=by omega
 have e1:dY K.NN [a,b,c] [] [0]=[(7,1)]:=by
  show(cI K.NN [] a.c).1=_
  rw[a1];simp[cI,eu,bJ,il,hn]
 have e2:dY K.NN [a,b,c] [] [0,1]=[(7,2)]:=by
  show(cI K.NN (dY K.NN [a,b,c] [] [0]) b.c).1=_
  rw[e1,b1];simp[cI,eu,bJ,il]
 have e3:dY K.NN [a,b,c] [] [0,1,2]=[(7,2)]:=by
  show(cI K.NN (dY K.NN [a,b,c] [] [0,1]) c.c).1=_
  rw[e2,c1];simp[cI,eu,bJ]
 refine⟨a,b,c,rfl,e3,?_,?_⟩
 . have hf:=g1.fin g4 (p:=1) (i:=1) (m:=b) rfl rfl
   rw[show [0,1,2].take 1=[0]from rfl,e1,b1]at hf;simpa [cI,eu,bJ]using hf
 . have hf:=g1.fin g4 (p:=2) (i:=2) (m:=c) rfl rfl
   rw[show [0,1,2].take 2=[0,1]from rfl,e2,c1]at hf;simpa [cI,eu,bJ]using hf
def CS3:List aW:=[⟨1,0,7,1,0⟩,⟨1,0,7,2,0⟩,⟨3,0,7,3,1⟩]
def NR:Array Value:= #[.int .i64 1, .int .i64 0, .int .u64 7, .int .u64 1, .int .u64 0, .int .i64 1, .int .i64 0, .int .u64 7, .int .u64 2, .int .u64 0, .int .i64 3, .int .i64 0, .int .u64 7, .int .u64 3, .int .u64 1]
theorem Yz{κ:Nat->Nat}{w:World}{g:Nat}(h:CB w g 33 NR)(hk:κ g=1):Hm κ w (some ⟨g,0,none⟩) 3 3 CS3:=by
 refine⟨rfl,a_ _,λ_=>⟨g,0,rfl,hk,h.lt,λk hk=> ?_⟩⟩;have wL:k=0\/k=1\/k=2:=by omega
 rcases wL with rfl|rfl|rfl
 . exact⟨h.cell 0,h.cell 1,h.cell 2,h.cell 3,h.cell 4⟩
 . exact⟨h.cell 5,h.cell 6,h.cell 7,h.cell 8,h.cell 9⟩
 . exact⟨h.cell 10,h.cell 11,h.cell 12,h.cell 13,h.cell 14⟩
def AwP(q:Nat)(w:World)(e:Ending)(w':World):Prop:=
 ∃gA oA cm g2 g3,e= .returned (.tuple #[.slice (some ⟨gA,oA,none⟩) 3 cm, .bool true])/\w'.cell? ⟨gA,oA+1,none⟩=some (.pointer (some ⟨g2,0,none⟩))/\w'.cell? ⟨gA,oA+2,none⟩=some (.pointer (some ⟨g3,0,none⟩))/\gA<w'.heap.size/\w'.cell? ⟨g2,8,none⟩=some (.int .u64 1)/\w'.cell? ⟨g3,8,none⟩=some (.int .u64 2)/\w'.cell? ⟨g3,9,none⟩=some (.int .i64 6)/\g2<w'.heap.size/\g3<w'.heap.size/\
  (∀W,Below w'.heap.size w' W->Calls prog 14 #[.pointer (some ⟨q,0,none⟩)] W (nN [(7,2)] W))/\Below w.heap.size w w'
theorem Af{w w1:World}{p d q n lines NN N:Nat}{t:Nat->Nat}{σ:PwS}{xs:List Int}{L:Nat->Int}{Tr:Nat->TT}{fl:List Nat}(hq:w.heap.size<=q)(ZI:o_ (mC w q) p d q n lines NN t w1 [] N σ xs L Tr fl)(hN:N<=600)(hb:Below w.heap.size w w1):
 Calls prog 12 #[.pointer (some ⟨q,0,none⟩), .slice (some ⟨w1.heap.size,0,none⟩) 3 3, .slice none 0 0, .bool true] (w1.alloc (.cells NR 33)) (AwP q w):=by
 have vI:=hb.size;have dy:Below w1.heap.size w1 (w1.alloc (.cells NR 33)):=ai (bZ _ _) _;have hR:=ZI.ch dy;have hP:=ZI.qu.hP;have hL:=Yz (κ:=iY (mC w q) w1 (w1.alloc (.cells NR 33)) 1) (CB.new w1 33 NR) (gD (a_ _) smQ);refine(uD hR _ 3 3 CS3 ae hL (λc hc=> ?_) none 0 0 [] rfl ae Rd.nil (λb hb=>by simp[ah]at hb) (λz hz=>by simp at hz) (by show N+6778*3<1000000;omega)).mono ?_
 . simp only[CS3,dr,fH,gF]at hc
   rcases hc with rfl|rfl|rfl<;>exact⟨⟨by decide,by decide⟩,⟨by decide,by decide⟩,⟨by decide,by decide⟩,⟨by decide,by decide⟩,⟨by decide,by decide⟩⟩
 . rintro e w3 ⟨Am,cm,ms,ord,dL,N',σ',dz,L',wY,eG,rfl,Q9,hM,hO,hk,hC,hN'⟩
   obtain⟨a,b,c,rfl,SH,QG,oo⟩:=mP (K:=aF NN) hO (by show 2<NN;omega);have ZN:(aF NN).NN=NN:=rfl;rw[ZN]at SH;rw[SH]at Q9;have hV:=Q9.Ef;obtain⟨gs,oz,hS,hg,_,hm⟩:=hM;obtain⟨gA,oA,hA,eh,wN⟩:=hS.at_ (j:=1) (by simp[hg]);obtain⟨gA',oA',fL,_,xo⟩:=hS.at_ (j:=2) (by simp[hg]);rw[hA]at fL;simp only[sP,Addr.mk.injEq]at fL;obtain⟨rfl,rfl,_⟩:=fL;obtain⟨fv,_⟩:=hm 1 b rfl;obtain⟨oM,_⟩:=hm 2 c rfl
   have hx:∀i (hi:i<3),(gs.map xF)[i]'(by simp[hg];omega)= .pointer (some ⟨gs.getD i 0,0,none⟩):=λi hi=>by
    rw[vo,eY,dG (by rw[hg];simpa using hi)];rfl
   rw[hx 1 ae]at wN;rw[hx 2 ae]at xo;have Ld:w3.cell? ⟨gs.getD 1 0,8,none⟩=some (.int .u64 b.ph.got):=fv.cell 8;have hc8:w3.cell? ⟨gs.getD 2 0,8,none⟩=some (.int .u64 c.ph.got):=oM.cell 8;have Q2:w3.cell? ⟨gs.getD 2 0,9,none⟩=some (.int .i64 c.ph.er):=oM.cell 9;rw[QG]at Ld;rw[oo]at hc8 Q2;subst hA;refine⟨gA,oA,cm,gs.getD 1 0,gs.getD 2 0,rfl,wN,xo,eh,Ld,hc8,Q2,fv.lt,oM.lt,λW hW=>CN (hV.bl hW),?_⟩;refine bM (hb.trans (dy.mono vI)) hC (λb hb=> ?_);by_cases aM:b<w1.heap.size
   . rw[bc aM]at hb
     exact Kn hq hb
   . omega
theorem qO(w:World)(k v:Int):gP (w.alloc (.cells #[.int .u64 k, .int .u64 v] 45)) (some ⟨w.heap.size,0,none⟩) [(k,v)]:=by
 refine .inr ⟨_,0,rfl,by simp,λi e hi=> ?_⟩
 have h0:i=0:=by
  by_cases h:i=0
  . exact h
  . rw[oY (by simp;omega)]at hi;cases hi
 subst h0;simp at hi;subst hi;exact⟨(CB.new w 45 #[.int .u64 k, .int .u64 v]).cell 0,(CB.new w 45 #[.int .u64 k, .int .u64 v]).cell 1⟩
theorem lD(w:World)(hT:Tab w):Calls prog 11 #[] w λe w'=>e= .returned (.bool true)/\Below w.heap.size w w':=by
 have BH:Hid (Calls prog 10 #[.int .i64 0] w (Kc 0 w)):=j8 w hT 0 ae;clear hT;have HAR:=ag (λ(w1:World) (p d q n lines NN N:Nat) (t:Nat->Nat) (σ:PwS) (xs:List Int) (L:Nat->Int) (Tr:Nat->TT) (fl:List Nat)=>Af (w:=w) (w1:=w1) (p:=p) (d:=d) (q:=q) (n:=n) (lines:=lines) (NN:=NN) (N:=N) (t:=t) (σ:=σ) (xs:=xs) (L:=L) (Tr:=Tr) (fl:=fl));unfold NR at HAR;go_enter func11,ntmps11
 go_wp2_with (first
  |(go_at_call 10;(with_reducible refine BH.out.mono ?_);rintro e w1 ⟨d,p,q,n,lines,NN,t,σ,N,xs,L,Tr,fl,rfl,hl,oL,nP,hR,hN,eD⟩;have Av:=ag (HAR.out _ _ _ _ _ _ _ _ _ _ _ _ _ _ oL hR hN eD);clear hl oL nP hR hN eD)
  |(go_at_call 12;(with_reducible refine Av.out.mono ?_);rintro e w3 ⟨gA,oA,cm,g2,g3,rfl,z1,z2,z3,z4,z5,z6,z7,z8,aS,xO⟩;have iV:=ag aS;have Hu:=ag xO;clear aS xO)
  |(go_at_call 14;(with_reducible refine(iV.out _ aC).mono ?_);rintro e w4 ⟨A4,c4,rfl,nI,_,kH⟩;have HR4:=ag nI;have mA:=ag kH;obtain⟨x,rfl⟩:=aE kH;clear nI kH)
  |(go_at_call 13;have G5:=kT (w:=x.w.alloc (.cells #[.int .u64 7, .int .u64 2] 45)) A4 (some ⟨x.w.heap.size,0,none⟩) 1 c4 1 1 [(7,2)] [(7,2)] rfl rfl ⟨by omega,by omega⟩ (HR4.out.below (ai (bZ _ _) _)) (qO _ _ _);rw[kx rfl]at G5;(with_reducible refine G5.mono ?_);rintro e w5 ⟨rfl,AH⟩;clear G5;have lJ:=ag AH;clear AH))
 exact bH (v:= .bool true) (by simp[results,results11,go_sem]) rfl ⟨rfl,Hu.out.trans ((mA.out.trans (((ai (bZ _ _) _:Below x.w.heap.size x.w _).trans (lJ.out.mono smQ)).mono mA.out.size)).mono Hu.out.size)⟩
def uL(k:IntKind)(w:World)(a:Option Addr)(len cap:Nat)(zs:List Int):Prop:=
 (a=none/\len=0/\cap=0/\zs=[])\/
 ∃x,a=some x/\len<=cap/\cap<=maxLen/\zs.length=cap/\(∀i,i<zs.length->w.cell? (x.add i)=some (.int k (zs.getD i 0)))/\∀n∈zs,(Lit.int k n).wf=true
theorem uu{k:IntKind}{w:World}{a:Option Addr}{len cap:Nat}{zs:List Int}(h:uL k w a len cap zs):
 ∃xs:List Int,xs.length=len/\len<=cap/\cap<=9223372036854775807/\Rd k w a xs/\∀n∈xs,(Lit.int k n).wf=true:=by
 rcases h with⟨rfl,rfl,rfl,rfl⟩|⟨x,rfl,hl,hm,hz,hc,hw⟩
 . exact⟨[],rfl,a_ _,by omega, .inl rfl,by simp⟩
 . refine⟨zs.take len,by simp;omega,hl,by unfold maxLen at hm;omega,?_,λn hn=>hw n (za hn)⟩
   by_cases h0:zs.length=0
   . left
     have:zs=[]:=E9 h0;simp[this]
   . have h1:=hc 0 ae
     have hx:x.add 0=x:=by simp[Addr.add]
     rw[hx]at h1;have aM:=sR w x h1;obtain⟨b,off,sp⟩:=x
     have K6:sp=none:=by
      cases sp with
      |none=>rfl
      |some s=>
       unfold World.cell? at h1;split at h1<;>simp at h1
     subst K6;refine .inr ⟨b,off,rfl,aM,λi hi=> ?_⟩;have Jl:i<zs.length:=by simp at hi;omega
     have h2:=hc i Jl;have h3:(⟨b,off,none⟩:Addr).add i=⟨b,off+i,none⟩:=by unfold Addr.add;split<;>simp_all
     rw[h3]at h2;rw[h2];simp[Jl]
theorem wf_u64{a:Int}(h:(Lit.int .u64 a).wf=true):0<=a/\a<18446744073709551616:=by
 simp[Lit.wf,IntKind.min,IntKind.max,IntKind.signed,IntKind.bits]at h;omega
theorem wf_i64{a:Int}(h:(Lit.int .i64 a).wf=true): -9223372036854775808<=a/\a<9223372036854775808:=by
 simp[Lit.wf,IntKind.min,IntKind.max,IntKind.signed,IntKind.bits]at h;omega
def RqC(w:World)(g o:Nat)(t:RQ):Prop:=w.cell? ⟨g,o,none⟩=some (.int .i64 (t.c.kind:Int))/\w.cell? ⟨g,o+1,none⟩=some (.int .u64 t.c.key)/\w.cell? ⟨g,o+2,none⟩=some (.int .u64 t.c.val)/\w.cell? ⟨g,o+3,none⟩=some (.int .u64 t.c.old)/\w.cell? ⟨g,o+4,none⟩=some (.int .i64 t.bg)/\w.cell? ⟨g,o+5,none⟩=some (.int .i64 t.en)/\
 w.cell? ⟨g,o+6,none⟩=some (.bool t.ended)/\w.cell? ⟨g,o+7,none⟩=some (.int .u64 t.got)/\w.cell? ⟨g,o+8,none⟩=some (.int .i64 t.err)
def Bz(w:World)(g off m:Nat)(l:List RQ):Prop:=
 g<w.heap.size/\∀k,k<m->RqC w g (off+k*9) (l.getD k du)
theorem Bz.bl{w w':World}{g off m:Nat}{l:List RQ}(h:Bz w g off m l)(hB:Below w.heap.size w w'):Bz w' g off m l:=by
 refine⟨cD h.1 hB.size,λk hk=> ?_⟩;have hc:∀o,w'.cell? ⟨g,o,none⟩=w.cell? ⟨g,o,none⟩:=λo=>hB.cell (p:=⟨g,o,none⟩) h.1
 unfold RqC;simp only[hc];exact h.2 k hk
def xz(w:World)(g off m:Nat)(bs:List Bool):Prop:=g<w.heap.size/\∀k,k<m->w.cell? ⟨g,off+k,none⟩=some (.bool (bs.getD k true))
theorem xz.bl{w w':World}{g off m:Nat}{l:List Bool}(h:xz w g off m l)(hB:Below w.heap.size w w'):xz w' g off m l:=
 ⟨cD h.1 hB.size,λk hk=>(hB.cell (p:=⟨g,off+k,none⟩) h.1).trans (h.2 k hk)⟩
def Qh(l:List RQ)(used:List Bool)(i k:Nat):Bool:= !(decide (k≠i)&&(!used.getD k true&&yK (l.getD k du) (l.getD i du)))
theorem fG(f:Nat->Bool)(j:Nat):(List.range (j+1)).all f=((List.range j).all f&&f j):=by simp[xf]
theorem ku(f:Nat->Bool){j m:Nat}(h:j<m)(hf:f j=false):(List.range m).all f=false:=by
 rw[PD];intro ha;rw[ir]at ha;rw[ha j (by simpa using h)]at hf;cases hf
theorem vg(w:World)(g off m c:Nat)(l:List RQ)(hl:l.length=m)(hm:m<=1000)(hP:Bz w g off m l)(gu ou cu:Nat)(used:List Bool)(hU:xz w gu ou m used)(i:Nat)(hi:i<m):
 Calls prog 74 #[.slice (some ⟨g,off,none⟩) m c, .slice (some ⟨gu,ou,none⟩) m cu, .int .i64 (i:Int)] w λr w'=>r= .returned (.bool (eR l used i))/\Below w.heap.size w w':=by
 have HP:=ag hP;have HU:=ag hU;have eh:=hP.1;have hgu:=hU.1;have cu0:=hU.2 i hi;have hiI:(i:Int)<(m:Int):=by omega
 have Eb:Hid (eR l used i=(!used.getD i true&&(List.range m).all (Qh l used i))):=by show _=_;rw[<-hl];rfl
 obtain⟨ui,YM⟩:∃b,used.getD i true=b:=⟨_,rfl⟩;rw[YM]at cu0 Eb;cases ui with
 |true=>
  clear hP hU YM;go_enter func74,ntmps74
  go_wp2;exact bH (v:= .bool false) (by simp[results,results74,go_sem]) rfl ⟨by rw[Eb.out];rfl,by exact aC⟩
 |false=>
  clear hP hU YM;go_enter func74,ntmps74
  go_wp2;go_loopw [14,6,7,15,16,17,18,19,20,21,22,23,24,25,26,27,28,29,30,31,32,33,34,35,36,37,38,39,40,41,42,43,44,45,46,47] (λi' _ _ _ _ _ _ _ _ _ _ _ _ _ _ _ _ _ _ _ _ _ _ _ _ _ _ _ _ _ _ _ _ _ _ _ wr=>∃j:Nat,j<=m/\i'= .int .i64 j/\(List.range j).all (Qh l used i)=true/\Below w.heap.size w wr) (λi' _ _ _ _ _ _ _ _ _ _ _ _ _ _ _ _ _ _ _ _ _ _ _ _ _ _ _ _ _ _ _ _ _ _ _ _=>m-(intOf i').toNat)
  case atStart=>exact⟨0,by omega,rfl,by simp,bZ _ _⟩
  case round=>
   obtain⟨j,hj,rfl,aS,hB⟩:=hrel;have iV:=ag aS;have HB:=ag hB;by_cases aM:j<m
   . have dx:(j:Int)<(m:Int):=by omega
     have uy:=fG (Qh l used i) j;rw[aS,B5]at uy;have HNF:=ag (ku (Qh l used i) aM);have fX:=ag uy;have fK:g<wr.heap.size:=cD eh hB.size;have QW:gu<wr.heap.size:=cD hgu hB.size;have cuj:=(HU.out.bl hB).2 j aM;obtain⟨_,_,_,_,_,a3,a4,_,_⟩:=(HP.out.bl hB).2 j aM;obtain⟨_,_,_,_,b2,_,_,_,_⟩:=(HP.out.bl hB).2 i hi;have fx:Hid (Qh l used i j= !(decide (j≠i)&&(!used.getD j true&&((l.getD j du).ended&&decide ((l.getD j du).en<(l.getD i du).bg))))):=rfl;generalize used.getD j true=uj at cuj fx;generalize (l.getD j du).ended=ed at a4 fx;generalize (l.getD j du).en=en at a3 fx;generalize (l.getD i du).bg=bg at b2 fx;clear aS hB uy;by_cases eb:j=i
     . have hd:((j:Int) !=(i:Int))=false:=by simp;omega
       go_wp2;go_quiet (fail)
       go_wp2;exact⟨⟨j+1,by omega,by go_num,by rw[fX.out,fx.out];simp[eb],HB.out.trans ((by exact aC:Below wr.heap.size wr _).mono HB.out.size)⟩,by simp[intOf];omega⟩
     . have hd:((j:Int) !=(i:Int))=true:=by simp;omega
       cases uj with
       |true=>
        go_wp2;go_quiet (fail)
        go_wp2;exact⟨⟨j+1,by omega,by go_num,by rw[fX.out,fx.out];simp,HB.out.trans ((by exact aC:Below wr.heap.size wr _).mono HB.out.size)⟩,by simp[intOf];omega⟩
       |false=>
        cases ed with
        |false=>
         go_wp2;go_quiet (fail)
         go_wp2;exact⟨⟨j+1,by omega,by go_num,by rw[fX.out,fx.out];simp,HB.out.trans ((by exact aC:Below wr.heap.size wr _).mono HB.out.size)⟩,by simp[intOf];omega⟩
        |true=>
         by_cases G_:en<bg
         . have Hb:decide (en<bg)=true:=kx G_
           go_wp2;go_quiet (fail)
           go_wp2;exact bH (v:= .bool false) (by simp[results,results74,go_sem]) rfl ⟨by rw[Eb.out,HNF.out (by rw[fx.out];simp[eb,G_])];rfl,HB.out.trans ((by exact aC:Below wr.heap.size wr _).mono HB.out.size)⟩
         . have Hb:decide (en<bg)=false:=oX G_
           go_wp2;go_quiet (fail)
           go_wp2;exact⟨⟨j+1,by omega,by go_num,by rw[fX.out,fx.out];simp[G_],HB.out.trans ((by exact aC:Below wr.heap.size wr _).mono HB.out.size)⟩,by simp[intOf];omega⟩
   . obtain rfl:j=m:=by omega
     clear aS hB;go_wp2;exact bH (v:= .bool true) (by simp[results,results74,go_sem]) rfl ⟨by rw[Eb.out,iV.out];rfl,HB.out⟩
theorem RS{w w1 w2:World}{d p q n lines NN N:Nat}{t:Nat->Nat}{σ:PwS}{xs:List Int}{L:Nat->Int}{Tr:Nat->TT}{fl:List Nat}(oL:w.heap.size<=q)(hR:o_ (mC w q) p d q n lines NN t w1 [] N σ xs L Tr fl)(eD:Below w.heap.size w w1)(dy:Below w1.heap.size w1 w2):
 ∃κ,o_ κ p d q n lines NN t w2 [] N σ xs L Tr fl/\Below w.heap.size w w2/\∀b,b<w.heap.size->κ b=1:=by
 refine⟨_,hR.ch dy,eD.trans (dy.mono eD.size),λb hb=> ?_⟩;rw[bc (cD hb eD.size)];unfold mC;rw[ax ae,aA hb]
theorem JK{κ:Nat->Nat}{w w2 w3:World}(hb:Below w.heap.size w w2)(hk:∀b,b<w.heap.size->κ b=1)(hC:Ch (λb=>κ b=0\/κ b=2) w2 w3):Below w.heap.size w w3:=
 bM hb hC (λb h=>by
  by_cases aM:b<w.heap.size
  . have:=hk b aM;omega
  . omega)
def Ui(t:RQ)(a:Nat):Array Value:=
 #[.pointer (some ⟨a,0,none⟩), .int .i64 (t.c.kind:Int), .int .u64 t.c.key, .int .u64 t.c.val, .int .u64 t.c.old, .int .i64 t.bg, .int .i64 t.en, .bool t.ended, .int .u64 t.got, .int .i64 t.err, .bool true, .bool true]
def Od(w:World)(A:Option Addr)(M:Nat)(ts:List RQ):Prop:=
 ∀i,i<M->(ts.getD i du).err≠7/\∃gS oS g a,A=some ⟨gS,oS,none⟩/\gS<w.heap.size/\w.cell? ⟨gS,oS+i,none⟩=some (.pointer (some ⟨g,0,none⟩))/\CB w g 40 (Ui (ts.getD i du) a)
theorem Od.bl{w w':World}{A:Option Addr}{M:Nat}{ts:List RQ}(h:Od w A M ts)(hB:Below w.heap.size w w'):Od w' A M ts:=by
 intro i hi;obtain⟨h0,gS,oS,g,a,h1,h2,h3,h4⟩:=h i hi;exact⟨h0,gS,oS,g,a,h1,cD h2 hB.size,(hB.cell (p:=⟨gS,oS+i,none⟩) h2).trans h3,h4.keep (hB.block g h4.lt)⟩
theorem VO.Yv{κ:Nat->Nat}{w:World}{A:Option Addr}{c:Nat}{ms:List TM}(h:VO κ w A c ms)(cM:∀m∈ms,∃v e,m.ph= .fin v e/\(e=0\/e=4\/e=5\/e=6)):Od w A ms.length (ms.map fp):=by
 obtain⟨gs,oz,hS,hg,_,hm⟩:=h;intro i hi;have QX:ms[i]?=some ms[i]:=dG hi;obtain⟨v,e,hf,he⟩:=cM _ (fq hi);obtain⟨oM,_⟩:=hm i _ QX;obtain⟨gS,oS,hA,eh,hc⟩:=hS.at_ (j:=i) (by simp[hg,hi])
 have hx:(gs.map xF)[i]'(by simp[hg,hi])= .pointer (some ⟨gs.getD i 0,0,none⟩):=by
  rw[vo,eY,dG (by rw[hg];exact hi)];rfl
 rw[hx]at hc;have hq:fp ms[i]=⟨ms[i].c,ms[i].bg,ms[i].en,true,v,e⟩:=by unfold fp;rw[hf]
 rw[jU QX,hq];refine⟨by show e≠7;omega,gS,oS,gs.getD i 0,oz.getD i 0,hA,eh,hc,?_⟩
 have Zd:zi ms[i] (oz.getD i 0)=Ui ⟨ms[i].c,ms[i].bg,ms[i].en,true,v,e⟩ (oz.getD i 0):=by
  unfold zi Ui;rw[hf];rfl
 rw[Zd]at oM;exact oM
theorem eZ.kd{K:TK}{q0:List (Int×Int)}{σ:PwS}{ms:List TM}{Tm:Nat}{L:Nat->Int}{T:Nat->TT}{fl:List Nat}{ord:List Nat}{N:Nat}(h:eZ K q0 σ ms Tm L T fl ord N)(k:Nat):((ms.map fp).getD k du).c.kind<=3:=by
 by_cases hk:k<ms.length
 . have hg:ms[k]?=some ms[k]:=dG hk
   rw[jU hg,(kS ms[k]).1];exact(h.ok k _ hg).vl.2.2.2.2
 . rw[eY,oY (by simp;omega)]
   exact im 3
def rQ(w:World)(A:Option Addr)(len cap:Nat)(cs:List aW):Prop:=
 cs.length=len/\len<=cap/\cap<=9223372036854775807/\(0<len->∃g off,A=some ⟨g,off,none⟩/\g<w.heap.size/\∀k,k<len->JV w g (off+k*5) (cs.getD k fP))/\
 ∀c∈cs,oF c
theorem xI{P:Program}{H:Type}{enc:TypeId×Value->H}{W:World}{fuel:Nat}{A:Option Addr}{len cap:Nat}{x:DataW H×List MemPlace}{t e:TypeId}{f0 f1 f2 f3 f4:Field}
 (ht:P.underlying t=some (.slice e)) (he:P.underlying e=some (.struct #[f0,f1,f2,f3,f4])) (ce:P.cellsOf e=5) (o0:f0.offset=0) (o1:f1.offset=1) (o2:f2.offset=2) (o3:f3.offset=3) (o4:f4.offset=4)
 (c0:P.cellsOf f0.type=1) (c1:P.cellsOf f1.type=1) (c2:P.cellsOf f2.type=1) (c3:P.cellsOf f3.type=1) (c4:P.cellsOf f4.type=1) (u0:P.underlying f0.type=some (.int .i64)) (u1:P.underlying f1.type=some (.int .i64)) (u2:P.underlying f2.type=some (.int .u64)) (u3:P.underlying f3.type=some (.int .u64)) (u4:P.underlying f4.type=some (.int .u64))
 (h:DataW.trod enc P W 0 (λ_=>true) true fuel t [.slice A len cap]=some x):∃cs,rQ W A len cap cs:=by
 rcases Go.Deep.open_slice ht h with⟨hcs,_⟩|⟨a,l,c,m,n,D,Pl,hcs,hb,hl,hm,NV,_,hx⟩
 . simp only[tV,KJ,mF]at hcs
   obtain⟨rfl,rfl,rfl⟩:=hcs;exact⟨[],rfl,a_ _,by omega,λh=>by omega,λe he=>by simp at he⟩
 . simp only[tV,KJ,mF]at hcs
   obtain⟨rfl,rfl,rfl⟩:=hcs;simp only[cR]at NV
   have each:∀i,i<m->∃p:aW,W.cell? (a.add (i*5))=some (.int .i64 p.kind)/\W.cell? (a.add (i*5+1))=some (.int .i64 p.a8)/\W.cell? (a.add (i*5+2))=some (.int .u64 p.key)/\W.cell? (a.add (i*5+3))=some (.int .u64 p.val)/\W.cell? (a.add (i*5+4))=some (.int .u64 p.old)/\oF p:=by
    intro i hi;obtain⟨cs',h1,h2⟩:=hx i hi;rw[ce]at h1;obtain⟨_,hlen,hcell⟩:=World.cells?_some h1;obtain⟨xs,k,hk,Ux,_,SC,hf⟩:=KG he h2;match xs,SC,cs',hlen with
    |[y0,y1,y2,y3,y4],_,[v0,v1,v2,v3,v4],_=>
     have g0:=hf 0 f0 rfl;have g1:=hf 1 f1 rfl;have g2:=hf 2 f2 rfl;have g3:=hf 3 f3 rfl;have g4:=hf 4 f4 rfl;simp[o0,o1,o2,o3,o4,c0,c1,c2,c3,c4]at g0 g1 g2 g3 g4;have e0:=hcell 0 ae;have e1:=hcell 1 ae;have e2:=hcell 2 ae;have e3:=hcell 3 ae;have e4:=hcell 4 ae;rw[Go.Deep.add_add]at e0 e1 e2 e3 e4;obtain⟨z0,q0,_,r0⟩:=mG u0 g0;obtain⟨z1,q1,_,r1⟩:=mG u1 g1;obtain⟨z2,q2,_,r2⟩:=mG u2 g2;obtain⟨z3,q3,_,r3⟩:=mG u3 g3;obtain⟨z4,q4,_,r4⟩:=mG u4 g4;simp only[tV,mF]at q0 q1 q2 q3 q4;subst q0 q1 q2 q3 q4;exact⟨⟨z0,z1,z2,z3,z4⟩,by simpa using e0,by simpa using e1,by simpa using e2,by simpa using e3,by simpa using e4,⟨wf_i64 r0,wf_i64 r1,wf_u64 r2,wf_u64 r3,wf_u64 r4⟩⟩
   have:Inhabited aW:=⟨fP⟩;obtain⟨q,hq⟩:=Go.Deep.choose_lt each;refine⟨(List.range len).map q,by simp,hl,by unfold maxLen at hm;omega,λBh=> ?_,λe he=> ?_⟩
   . have Gh:=(hq 0 ae).1
     have ux:a.add (0*5)=a:=by simp[Addr.add]
     rw[ux]at Gh;have aM:=sR W a Gh;obtain⟨b,off,sp⟩:=a
     have K6:sp=none:=by
      cases sp with
      |none=>rfl
      |some s=>
       unfold World.cell? at Gh;split at Gh<;>simp at Gh
     subst K6;have h3:∀i,(⟨b,off,none⟩:Addr).add i=⟨b,off+i,none⟩:=by intro i;unfold Addr.add;split<;>simp_all
     refine⟨b,off,rfl,aM,λk hk=> ?_⟩;obtain⟨e0,e1,e2,e3,e4,r1⟩:=hq k ae;rw[h3]at e0 e1 e2 e3 e4
     have hg:((List.range len).map q).getD k fP=q k:=by
      rw[eY,AX,KN hk];rfl
     rw[hg];refine⟨e0,?_,?_,?_,?_⟩
     . rw[<-sL]at e1;exact e1
     . rw[<-sL]at e2;exact e2
     . rw[<-sL]at e3;exact e3
     . rw[<-sL]at e4;exact e4
   . obtain⟨k,hk,rfl⟩:=iJ.1 he
     have jC:k<len:=by simpa using hk
     obtain⟨_,_,_,_,_,r1⟩:=hq k ae;exact r1
theorem JL{α:Type}{cs:Array α}(h:cs.size=5):∃c0 c1 c2 c3 c4,cs= #[c0,c1,c2,c3,c4]:=by
 obtain⟨l⟩:=cs;match l,h with
 |[c0,c1,c2,c3,c4],_=>exact⟨c0,c1,c2,c3,c4,rfl⟩
theorem vw{P:Program}{H:Type}{enc:TypeId×Value->H}{W:World}{base:Nat}{spare:Nat->Bool}{held:Bool}{r:Reach}{b0:Nat}{t:TypeId}{f0 f1 f2 f3 f4:Field}{v:Value}{d:DataW H}{p:List MemPlace}
 (he:P.underlying t=some (.struct #[f0,f1,f2,f3,f4])) (ce:P.cellsOf t=5) (o0:f0.offset=0) (o1:f1.offset=1) (o2:f2.offset=2) (o3:f3.offset=3) (o4:f4.offset=4)
 (c0:P.cellsOf f0.type=1) (c1:P.cellsOf f1.type=1) (c2:P.cellsOf f2.type=1) (c3:P.cellsOf f3.type=1) (c4:P.cellsOf f4.type=1) (u0:P.underlying f0.type=some (.int .i64)) (u1:P.underlying f1.type=some (.int .i64)) (u2:P.underlying f2.type=some (.int .u64)) (u3:P.underlying f3.type=some (.int .u64)) (u4:P.underlying f4.type=some (.int .u64))
 (hv:Value.okWide P W r b0 t v) (h:DataW.Trod enc P W base spare held t v d p):∃c:aW,v=Pq c/\oF c:=by
 obtain⟨cs,rfl,lR⟩:=Wv he hv;obtain⟨v0,v1,v2,v3,v4,rfl⟩:=JL (lR.trans ce);obtain⟨fuel,hf⟩:=h;obtain⟨xs,k,hk,Ux,_,SC,hf⟩:=KG he hf;match xs,SC with
 |[y0,y1,y2,y3,y4],_=>
  have g0:=hf 0 f0 rfl;have g1:=hf 1 f1 rfl;have g2:=hf 2 f2 rfl;have g3:=hf 3 f3 rfl;have g4:=hf 4 f4 rfl;simp[Value.cells,o0,o1,o2,o3,o4,c0,c1,c2,c3,c4]at g0 g1 g2 g3 g4;obtain⟨z0,q0,_,r0⟩:=mG u0 g0;obtain⟨z1,q1,_,r1⟩:=mG u1 g1;obtain⟨z2,q2,_,r2⟩:=mG u2 g2;obtain⟨z3,q3,_,r3⟩:=mG u3 g3;obtain⟨z4,q4,_,r4⟩:=mG u4 g4;simp only[tV,mF]at q0 q1 q2 q3 q4;subst q0 q1 q2 q3 q4;exact⟨⟨z0,z1,z2,z3,z4⟩,rfl,⟨wf_i64 r0,wf_i64 r1,wf_u64 r2,wf_u64 r3,wf_u64 r4⟩⟩
theorem rQ.lf{κ:Nat->Nat}{w w':World}{A:Option Addr}{len cap:Nat}{cs:List aW}(h:rQ w A len cap cs)(hs:w.heap.size<=w'.heap.size)(hk:∀b,b<w.heap.size->κ b=1/\w'.heap[b]?=w.heap[b]?):Hm κ w' A len cap cs:=by
 refine⟨h.1,h.2.1,λhp=> ?_⟩;obtain⟨g,off,e1,e2,e3⟩:=h.2.2.2.1 hp;obtain⟨f1,f2⟩:=hk g e2;have hc:∀o,w'.cell? ⟨g,o,none⟩=w.cell? ⟨g,o,none⟩:=λo=>by unfold World.cell?;dsimp only;rw[f2]
 exact⟨g,off,e1,f1,cD e2 hs,λk hk=>by unfold JV;rw[hc,hc,hc,hc,hc];exact e3 k hk⟩
section
variable{κ:Nat->Nat}{p d q n lines NN N:Nat}{t:Nat->Nat}{vs:List (Int×Int)}{w w':World}{σ:PwS}{xs:List Int}{L:Nat->Int}{Tr:Nat->TT}{fl:List Nat}
theorem o_.RG{S:Nat->Prop}(h:o_ κ p d q n lines NN t w vs N σ xs L Tr fl)(hC:Ch S w w')(hS:∀b,b<w.heap.size->S b->κ b=1/\b≠0):o_ (iY κ w w' 1) p d q n lines NN t w' vs N σ xs L Tr fl:=by
 have gg:=h.qu.hq.lt;have h0:=h.qu.tab.1;refine⟨⟨(h.qu.pm.chQ hC (λb hb hs=>by have:=(hS b hb hs).1;omega)).iY,h.qu.hq.keep (hC.block q gg (λhs=>by have:=(hS q gg hs).1;have:=h.qu.kq;omega)),by rw[bc gg];exact h.qu.kq,h.qu.tab.ch hC (λhs=>(hS 0 h0 hs).2 rfl),by rw[bc h0];exact h.qu.k0,h.qu.hn,h.qu.hP,h.qu.dS⟩,h.qw,λb bG=> ?_,h.xG⟩;unfold iY;split
 . omega
 . exact h.k2 b ae
def FlQ(κ:Nat->Nat)(p d q n lines NN:Nat)(t:Nat->Nat)(N:Nat)(w:World)(j:Nat)(A:Option Addr)(c:Nat)(wr:World):Prop:=
 ∃(dL:Nat->Nat) (N':Nat) (σ:PwS) (xs:List Int) (L:Nat->Int) (Tr:Nat->TT) (fl:List Nat),o_ dL p d q n lines NN t wr (aY j) N' σ xs L Tr fl/\N'<=N+6778*j/\Sl 45 2 wr A j c (az (aY j))/\(∀b,ah A b->dL b=1/\w.heap.size<=b)/\(∀b,b<w.heap.size->dL b=κ b)/\Ch (λb=>κ b=0\/κ b=2) w wr
def ZaD(κ:Nat->Nat)(p d q n lines NN:Nat)(t:Nat->Nat)(N:Nat)(w:World)(m:Nat)(e:Ending)(w':World):Prop:=
 ∃A c,e= .returned (.tuple #[.slice A m c, .bool true])/\FlQ κ p d q n lines NN t N w m A c w'
theorem Un{κ:Nat->Nat}{W:World}{g:Nat}{c1 c2 c3 c4 c5:Int}(h:CB W g 33 #[.int .i64 c1, .int .i64 c2, .int .u64 c3, .int .u64 c4, .int .u64 c5])(hk:κ g=1):Hm κ W (some ⟨g,0,none⟩) 1 1 [⟨c1,c2,c3,c4,c5⟩]:=by
 refine⟨rfl,a_ _,λ_=>⟨g,0,rfl,hk,h.lt,λk hk=> ?_⟩⟩;obtain rfl:k=0:=by omega
 exact⟨h.cell 0,h.cell 1,h.cell 2,h.cell 3,h.cell 4⟩
theorem DT(h:o_ κ p d q n lines NN t w [] N σ xs L Tr fl)(m:Nat)(hm:m<=NN)(hN:N+6778*NN<1000000):Calls prog 28 #[.pointer (some ⟨q,0,none⟩), .int .i64 (m:Int)] w (ZaD κ p d q n lines NN t N w m):=by
 have hP:=h.qu.hP;have rS:=ag (kZ h.Ef);have jc:Hid (FlQ κ p d q n lines NN t N w 0 none 0 w):=⟨κ,N,σ,xs,L,Tr,fl,h,by omega,Sl.nil,λb hb=>by simp[ah]at hb,λb hb=>rfl,Ch.refl _ _⟩;have HW0:=ag h.qu.tab.1;have UN:Qz (m:Int) (NN:Int)=(m:Int):=by unfold Qz;split<;>omega
 have hNb:NN<=26:=by omega
 clear h hP;go_enter func28,ntmps28
 go_wp2_with (go_at_call 25;(with_reducible refine rS.out.mono ?_);rintro e w' ⟨rfl,rfl⟩)
 go_loopw [14,6,4,5,7,8,9,15,16,17,18,19,20,21,22,23,24,25,26,27,28,29,30,31,32,33,34,35,36,37,38,39,40,41,42,43,44,45,46,47,48,49,50] (λi l _ _ _ _ _ _ _ _ _ _ _ _ _ _ _ _ _ _ _ _ _ _ _ _ _ _ _ _ _ _ _ _ _ _ _ _ _ _ _ _ _ wr=>∃(j:Nat) (A:Option Addr) (c:Nat),j<=m/\i= .int .i64 j/\l= .slice A j c/\FlQ κ p d q n lines NN t N w j A c wr) (λi _ _ _ _ _ _ _ _ _ _ _ _ _ _ _ _ _ _ _ _ _ _ _ _ _ _ _ _ _ _ _ _ _ _ _ _ _ _ _ _ _ _ _=>m-(intOf i).toNat)
 case atStart=>exact⟨0,none,0,by omega,rfl,rfl,jc.out⟩
 case round=>
  clear jc;obtain⟨j,A,c,hj,rfl,rfl,hI⟩:=hrel;by_cases aM:j<m
  . have dx:(j:Int)<(m:Int):=by omega
    obtain⟨r3,DF⟩:∃r3:Int,(j:Int)%3=r3:=⟨_,rfl⟩;have e0:(j:Int).tmod 3=r3:=by rw[ID ae];exact DF
    have e1:IntKind.u64.wrap (j:Int)=(j:Int):=bY _ ae;have e2:IntKind.u64.wrap r3=r3:=bY _ ae;have e3:IntKind.i64.wrap ((j:Int)+1)=(j:Int)+1:=b9 _ ae;obtain⟨dL,N',σ',dz,L',wY,eG,hR,wP,hO,hA,hk,hC⟩:=hI;have SN:Below wr.heap.size wr (wr.alloc (.cells #[.int .i64 1, .int .i64 0, .int .u64 (j:Int), .int .u64 r3, .int .u64 0] 33)):=ai (bZ _ _) _;have M9:=hR.ch SN;have Hh:=Un (κ:=iY dL wr (wr.alloc (.cells #[.int .i64 1, .int .i64 0, .int .u64 (j:Int), .int .u64 r3, .int .u64 0] 33)) 1) (CB.new wr 33 #[.int .i64 1, .int .i64 0, .int .u64 (j:Int), .int .u64 r3, .int .u64 0]) (gD (a_ _) smQ);have SQ:N'+6778<1000000:=by omega
    have gq:(⟨1,0,(j:Int),r3,0⟩:aW).c=⟨1,(j:Int),r3,0⟩:=by
     show(⟨((1:Int)%4).toNat,(j:Int)%1099511627776,r3%1099511627776,(0:Int)%1099511627776⟩:TC)=_
     congr 1<;>omega
    have DE:=xR M9 (some ⟨wr.heap.size,0,none⟩) 1 ⟨1,0,(j:Int),r3,0⟩ Hh ⟨by show -9223372036854775808<=(1:Int)/\(1:Int)<9223372036854775808;omega,by show -9223372036854775808<=(0:Int)/\(0:Int)<9223372036854775808;omega,by show 0<=(j:Int)/\(j:Int)<18446744073709551616;omega,by show 0<=r3/\r3<18446744073709551616;omega,by show 0<=(0:Int)/\(0:Int)<18446744073709551616;omega⟩ SQ;rw[gq]at DE;have Av:=ag DE;have hq:cI NN (aY j) ⟨1,(j:Int),r3,0⟩=(aY (j+1),0,0):=by rw[<-DF];exact zO ae
    have HF:=ag (And.intro wP (And.intro hO (And.intro hA (And.intro hk hC))));have HQ:=ag hq;have Xy:Hid (az (aY (j+1))=az (aY j)++[.int .u64 (j:Int), .int .u64 r3]):=by show _=_;rw[gX,DF];simp[az]
    clear hR wP hO hA hk hC SN M9 Hh hq DE gq DF
    go_wp2_with (first
     |(go_at_call 12;(with_reducible refine Av.out.mono ?_);rintro e w2 ⟨gA,oA,cm,g1,a,bg,en,Ex,N2,Ed,XJ,L2,Tr2,ZX,rfl,x1,x2,xP,wO,Ra,fC,cz⟩;have pA:=ag wO;have Hq:=ag (And.intro Ra (And.intro fC cz));have m6:=xP.cell 9;rw[HQ.out]at m6;have ml:=xP.lt;have w_:Hid (Sl 45 2 w2 A j c (az (aY j))):=(HF.out.2.1).keep (λb hb=>(cz.block b (by have h9:=HF.out.2.1.lt hb;simp;omega) (λhx=>by rw[bc (HF.out.2.1.lt hb)]at hx;have h9:=(HF.out.2.2.1 b hb).1;omega)).trans (d_ wr _ b (HF.out.2.1.lt hb)));have Sk:Hid (w.heap.size<=w2.heap.size):=(by have h7:=HF.out.2.2.2.2.size;have h8:=cz.size;simp at h8;show _<=_;omega);clear xP wO Ra fC cz)
     |(at_builtin;refine ay rfl (.tmp 41) (.tmp 48) 42 rfl 45 (.agg #[.int .u64 0, .int .u64 0]) 2 16 rfl ae underlying42 dX ae A j c (az (aY j)) ⟨w2.heap.size,0,none⟩ 1 1 [.int .u64 (j:Int), .int .u64 r3] rfl rfl (w_.out.keep (λb hb=>d_ _ _ b (w_.out.lt hb))) rfl ae (dT w2 45 _) (ir.1 rfl) ae ?_;intro A3 c3 w3 GK fo R0 V2))
    refine⟨⟨j+1,A3,c3,by omega,by go_num,rfl,?_⟩,by simp[intOf];omega⟩;obtain⟨wP,hO,hA,hk,hC⟩:=HF.out;obtain⟨Ra,fC,cz⟩:=Hq.out;have wO:=pA.out;rw[HQ.out]at wO;have s1:=hC.size;have s2:wr.heap.size+1<=w2.heap.size:=by have:=cz.size;simpa using this
    have o7:Ch (ah A) w2 w3:=(Ch.au (S:=ah A) (ai (bZ _ _) _)).trans fo.out (λb hb _=>hb)
    have cL:∀b,ah A b->Ex b=1/\w.heap.size<=b/\b<wr.heap.size:=λb hb=>by
     have h2:=hO.lt hb;refine⟨?_,(hA b hb).2,h2⟩;rw[fC b (by simp;omega),bc h2];exact(hA b hb).1
    have h0:=HW0.out;have Va:=wO.RG o7 (λb _ hb=>⟨(cL b hb).1,by have:=(cL b hb).2.1;omega⟩);refine⟨_,N2,Ed,XJ,L2,Tr2,ZX,Va,by omega,by rw[Xy.out];exact GK.out,λb hb=> ?_,λb hb=> ?_,?_⟩
    . rcases R0.out b hb with h1|h1
      . obtain⟨g1,g2,g3⟩:=cL b h1
        rw[bc ae];exact⟨g1,g2⟩
      . exact⟨gD (by rw[h1];simp) (GK.out.lt hb),by rw[h1];simp;omega⟩
    . rw[bc ae,fC b (by simp;omega),bc ae];exact hk b hb
    . refine(hC.trans ((Ch.au (S:=λb=>iY dL wr _ 1 b=0\/iY dL wr _ 1 b=2) (ai (bZ _ _) _)).trans cz (λb hb _=>hb)) (λb hb xm=> ?_)).trans o7 (λb hb xm=> ?_)
      . rw[bc ae,hk b xm]at hb;exact hb
      . have:=(cL b hb).2.1;omega
  . obtain rfl:j=m:=by omega
    have HI:=ag hI;clear hI;go_wp2;exact bH (v:= .tuple #[.slice A j c, .bool true]) (by simp[results,results28,go_sem]) rfl ⟨A,c,rfl,HI.out⟩
end
end Go.Proofs.YtjkpjakodomnmaaGreatDoor
