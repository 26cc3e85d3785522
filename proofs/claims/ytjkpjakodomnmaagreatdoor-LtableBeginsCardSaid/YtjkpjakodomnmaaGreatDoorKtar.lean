/- The base, part 18 (merged). -/
import Derived.Test.YtjkpjakodomnmaaGreatDoorKtaq
set_option linter.unusedVariables false
set_option linter.unusedSimpArgs false
set_option maxRecDepth 100000
set_option maxHeartbeats 16000000
namespace Go.Proofs.YtjkpjakodomnmaaGreatDoor
open Go.RowKit Go.Proofs.Tryz
def fP:aW:=⟨0,0,0,0,0⟩
def JV(w:World)(g o:Nat)(c:aW):Prop:=w.cell? ⟨g,o,none⟩=some (.int .i64 c.kind)/\w.cell? ⟨g,o+1,none⟩=some (.int .i64 c.a8)/\w.cell? ⟨g,o+2,none⟩=some (.int .u64 c.key)/\w.cell? ⟨g,o+3,none⟩=some (.int .u64 c.val)/\w.cell? ⟨g,o+4,none⟩=some (.int .u64 c.old)
def Hm(κ:Nat->Nat)(w:World)(A:Option Addr)(n c:Nat)(l:List aW):Prop:=
 l.length=n/\n<=c/\(0<n->∃g off,A=some ⟨g,off,none⟩/\κ g=1/\g<w.heap.size/\∀k,k<n->JV w g (off+k*5) (l.getD k fP))
def jo(now:Nat->Option Nat)(gs:List Nat)(t:Nat):Value:=fu ((now t).map λi=>gs.getD i 0)
def xF(g:Nat):Value:= .pointer (some ⟨g,0,none⟩)
structure Eu where
 bn:Nat
 bl:Nat
 bq:Nat
 bm:Nat
 bt:Nat
 an:Nat
 al:Nat
structure Eu.Ok(B:Eu)(κ:Nat->Nat)(Am:Option Addr):Prop where
 kn:κ B.bn=1
 kl:κ B.bl=1
 kq:κ B.bq=1
 km:κ B.bm=3
 kt:κ B.bt=3
 ka:κ B.an=3
 kc:κ B.al=3
 n1:B.bm≠B.bt
 n2:B.bm≠B.an
 n3:B.bm≠B.al
 n4:B.bt≠B.an
 n5:B.bt≠B.al
 n6:B.an≠B.al
 am:∀b,ah Am b->κ b=3/\b≠B.bm/\b≠B.bt/\b≠B.an/\b≠B.al
structure Hl(κ:Nat->Nat)(p d q n lines NN:Nat)(t:Nat->Nat)(B:Eu)(rl:Nat->List aW)(A:Nat->Option Addr)(cp:Nat->Nat)(now:Nat->Option Nat)(ms:List TM)(gs oz:List Nat)(Am:Option Addr)(cm:Nat)(bs:Nat->Option Nat)(w:World)(σ:PwS)(T:Nat):Prop where
 qu:Hk κ p d q n lines NN t bs w σ
 bi:∀(i:Nat) (m:TM),ms[i]?=some m->m.ph.over=false->bs m.th=some (oz.getD i 0)
 bo:∀th,(∀(i:Nat) (m:TM),ms[i]?=some m->m.ph.over=false->m.th≠th)->bs th=none
 mm:∀(i:Nat) (m:TM),ms[i]?=some m->Xv NN κ i p q t w (gs.getD i 0) (oz.getD i 0) m
 lg:gs.length=ms.length
 la:oz.length=ms.length
 cn:CB w B.bn 29 #[.slice (some ⟨B.an,0,none⟩) 3 3]
 cl:CB w B.bl 90 #[.slice (some ⟨B.al,0,none⟩) 3 3]
 cq:CB w B.bq 25 #[.pointer (some ⟨q,0,none⟩)]
 Bt:CB w B.bm 29 #[.slice Am ms.length cm]
 ct:CB w B.bt 3 #[.int .i64 T]
 ca:CB w B.an 35 #[jo now gs 0,jo now gs 1,jo now gs 2]
 cc:CB w B.al 34 #[.slice (A 0) (rl 0).length (cp 0), .slice (A 1) (rl 1).length (cp 1), .slice (A 2) (rl 2).length (cp 2)]
 sl:Sl 35 1 w Am ms.length cm (gs.map xF)
 bk:B.Ok κ Am
 lv:∀s,s<3->Hm κ w (A s) (rl s).length (cp s) (rl s)
section
variable{κ dL:Nat->Nat}{p d q n lines NN N T i s:Nat}{t:Nat->Nat}{B:Eu}{rl uR:Nat->List aW}{A:Nat->Option Addr}{cp:Nat->Nat}{now:Nat->Option Nat}{ms:List TM}{gs oz:List Nat}{Am:Option Addr}{cm:Nat}{bs:Nat->Option Nat}{w w':World}{σ σ':PwS}{m m':TM}
theorem Hm.keep{A:Option Addr}{n c:Nat}{l:List aW}(h:Hm κ w A n c l)(hs:w.heap.size<=w'.heap.size)(hb:∀b,b<w.heap.size->κ b=1->w'.heap[b]?=w.heap[b]?/\dL b=1):Hm dL w' A n c l:=by
 refine⟨h.1,h.2.1,λhn=> ?_⟩;obtain⟨g,off,e1,e2,e3,e4⟩:=h.2.2 hn;obtain⟨f1,f2⟩:=hb g e3 e2;have hc:∀o,w'.cell? ⟨g,o,none⟩=w.cell? ⟨g,o,none⟩:=λo=>by unfold World.cell?;dsimp only;rw[f1]
 exact⟨g,off,e1,f2,cD e3 hs,λk hk=>by unfold JV;rw[hc,hc,hc,hc,hc];exact e4 k hk⟩
theorem kV{i:Nat}{m:TM}(h:ms[i]?=some m):i<ms.length:=(ki.1 h).1
theorem Hl.Kj(h:Hl κ p d q n lines NN t B rl A cp now ms gs oz Am cm bs w σ T)(hi:ms[i]?=some m)(bU:m.ph.over=false)(bQ:m'.th=m.th)(Jc:∀(j:Nat)(mj:TM),ms[j]?=some mj->mj.ph.over=false->mj.th=m.th->j=i)
 (hk:∀b,b<w.heap.size->dL b=κ b) (hP:bB (λb=>dL b≠0) p d t 0 32 ((n:Int)*64) w' σ') (hM:Xv NN dL i p q t w' (gs.getD i 0) (oz.getD i 0) m') (hq:CB w' q 117 (aK d p NN lines (N9 m' bs))) (hC:Ch (λb=>κ b=0\/κ b=2*i+4\/κ b=2*i+5\/κ b=2) w w'):
 Hl dL p d q n lines NN t B rl A cp now (ms.set i m') gs oz Am cm (N9 m' bs) w' σ' T:=by
 have fU:=kV hi;have keep:∀{b:Nat} {ty:TypeId} {vs:Array Value},CB w b ty vs->(κ b=1\/κ b=3)->CB w' b ty vs:=λ{b ty vs} hb hr=>hb.keep (hC.block b hb.lt (λhs=>by omega))
 have Ek:∀{b:Nat} {ty:TypeId} {vs:Array Value},CB w b ty vs->dL b=κ b:=λ{b ty vs} hb=>hk b hb.lt
 have tj:∀(j:Nat) (mj:TM),(ms.set i m')[j]?=some mj->(j=i/\mj=m')\/(j≠i/\ms[j]?=some mj):=λj mj hj=>aJ hi hj
 have h0:(0:Nat)<w.heap.size:=h.qu.tab.1;refine⟨⟨hP,hq,by rw[Ek h.qu.hq];exact h.qu.kq,h.qu.tab.ch hC (λhx=>by have:=h.qu.k0;omega),by rw[hk 0 h0];exact h.qu.k0,h.qu.hn,h.qu.hP,h.qu.dS⟩,λj mj hj ho=> ?_,λth aS=> ?_,λj mj hj=> ?_,by rw[lO];exact h.lg,by rw[lO];exact h.la,keep h.cn (.inl h.bk.kn),keep h.cl (.inl h.bk.kl),keep h.cq (.inl h.bk.kq),by rw[lO];exact keep h.Bt (.inr h.bk.km),keep h.ct (.inr h.bk.kt),keep h.ca (.inr h.bk.ka),keep h.cc (.inr h.bk.kc),?_,?_,λs hs=>(h.lv s hs).keep hC.size (λb hb eD=>⟨hC.block b hb (λhx=>by omega),by rw[hk b hb];exact eD⟩)⟩
 . rcases tj j mj hj with⟨e1,e2⟩|⟨e1,e2⟩
   . subst e1 e2
     unfold N9;rw[ho];simp only[eS,dF];rw[bQ];exact h.bi j m hi bU
   . have hb:=h.bi j mj e2 ho
     unfold N9;split
     . have aG:mj.th≠m'.th:=λhx=>e1 (Jc j mj e2 ho (by rw[hx,bQ]))
       exact(ax aG).trans hb
     . exact hb
 . unfold N9
   have QH:∀(hx:m'.th≠th),bs th=none:=λhx=>h.bo th (λj mj hj ho=>by
    by_cases eb:j=i
    . subst eb
      rw[hi]at hj;injection hj with hj;rw[<-hj,<-bQ];exact hx
    . exact aS j mj (by rw[rE (cC eb)];exact hj) ho)
   split
   . rename_i DH
     by_cases hx:th=m'.th
     . exact aA hx
     . exact(ax hx).trans (QH (cC hx))
   . rename_i DH
     exact QH (aS i m' (nX fU) (by simpa using DH))
 . rcases tj j mj hj with⟨e1,e2⟩|⟨e1,e2⟩
   . rw[e1,e2];exact hM
   . exact(h.mm j mj e2).ch hC (λb _ hb=>by omega) hk
 . rw[lO]
   exact h.sl.keep (λb hb=>hC.block b (h.sl.lt hb) (λhx=>by have:=(h.bk.am b hb).1;omega))
 . exact⟨by rw[Ek h.cn];exact h.bk.kn,by rw[Ek h.cl];exact h.bk.kl,by rw[Ek h.cq];exact h.bk.kq,by rw[Ek h.Bt];exact h.bk.km,by rw[Ek h.ct];exact h.bk.kt,by rw[Ek h.ca];exact h.bk.ka,by rw[Ek h.cc];exact h.bk.kc,h.bk.n1,h.bk.n2,h.bk.n3,h.bk.n4,h.bk.n5,h.bk.n6,λb hb=>⟨by rw[hk b (h.sl.lt hb)];exact(h.bk.am b hb).1,(h.bk.am b hb).2⟩⟩
theorem Hl.tick(h:Hl κ p d q n lines NN t B rl A cp now ms gs oz Am cm bs w σ T):Hl κ p d q n lines NN t B rl A cp now ms gs oz Am cm bs (w.setCell ⟨B.bt,0,none⟩ (.int .i64 ((T+1:Nat):Int))) σ (T+1):=by
 have hC:Ch (At B.bt) w (w.setCell ⟨B.bt,0,none⟩ (.int .i64 ((T+1:Nat):Int))):=(Ch.refl _ _).bj _ _;have hkt:=h.bk.kt;have keep:∀{b:Nat} {ty:TypeId} {vs:Array Value},CB w b ty vs->b≠B.bt->CB (w.setCell ⟨B.bt,0,none⟩ (.int .i64 ((T+1:Nat):Int))) b ty vs:=λ{b ty vs} hb hr=>hb.keep (hC.block b hb.lt hr)
 have aG:∀{b:Nat},κ b≠3->b≠B.bt:=λ{b} hb he=>hb (by rw[he];exact hkt)
 refine⟨⟨h.qu.pm.SZ hC (λb _ hb=>by rw[show b=B.bt from hb];omega),keep h.qu.hq (aG (by have:=h.qu.kq;omega)),h.qu.kq,h.qu.tab.ch hC (λhx=>aG (b:=0) (by have:=h.qu.k0;omega) hx),h.qu.k0,h.qu.hn,h.qu.hP,h.qu.dS⟩,h.bi,h.bo,λj mj hj=>(h.mm j mj hj).ch hC (λb _ hb=>by rw[show b=B.bt from hb];omega) (λ_ _=>rfl),h.lg,h.la,keep h.cn (aG (by have:=h.bk.kn;omega)),keep h.cl (aG (by have:=h.bk.kl;omega)),keep h.cq (aG (by have:=h.bk.kq;omega)),keep h.Bt h.bk.n1,?_,keep h.ca (cC h.bk.n4),keep h.cc (cC h.bk.n5),h.sl.keep (λb hb=>hC.block b (h.sl.lt hb) (h.bk.am b hb).2.2.1),h.bk,λs hs=>(h.lv s hs).keep hC.size (λb hb eD=>⟨hC.block b hb (aG ae),eD⟩)⟩;exact h.ct.set 0 _
end
theorem bB.chQ{K T:Nat->Prop}{p d line lines:Nat}{t:Nat->Nat}{size:Int}{w w':World}{σ:PwS}(h:bB K p d t line lines size w σ)(hc:Ch T w w')(hT:∀b,b<w.heap.size->T b->K b):bB (λb=>K b\/(w.heap.size<=b/\b<w'.heap.size)) p d t line lines size w' σ:=by
 obtain⟨role,bb,h,hK⟩:=h;have hs:=hc.size;have aG:∀b,b<w.heap.size->role b≠0->w'.heap[b]?=w.heap[b]?:=λb hb hr=>hc.block b hb (λhx=>hr (hK b (hT b hb hx)).1)
 refine⟨λb=>if w.heap.size<=b then 0 else role b,bb,⟨?_,h.pl.keep (aG p h.pl.lt (by rw[h.rp];omega)),h.bz.keep (λb bG=> ?_),?_,?_,h.pb,λa o ho=>(h.op a o ho).keep (λb hl hr=>by rw[ax ae];exact hr) (λb hl hr=>aG b hl (by rw[hr];omega))⟩,λb hk=> ?_⟩
 . refine(h.dv.Ab hc (X:=λb=>w.heap.size<=b/\b<w'.heap.size) (λb hb hf hx=> ?_) (λb hx=>hx)).mono (λb hf=> ?_)
   . have:=(hK b (hT b hb hx)).1
     rcases hf with hf|hf
     . omega
     . omega
   . by_cases hl:w.heap.size<=b
     . right
       have:=hf.2;omega
     . left
       rw[ax hl];exact hf.1.resolve_right hl
 . have:b=bb:=by simpa [ah,wm]using bG
   rw[this];exact aG bb (h.bz.lt (b:=bb) (by simp[ah])) (by rw[h.rb];omega)
 . rw[ax (by have:=h.pl.lt;omega)];exact h.rp
 . rw[ax (by have:=h.bz.lt (b:=bb) (by simp[ah]);omega)];exact h.rb
 . rcases hk with hk|hk
   . obtain⟨h1,h2⟩:=hK b hk
     exact⟨by show(if _ then _ else role b)=0;rw[ax ae];exact h1,by omega⟩
   . exact⟨aA hk.1,hk.2⟩
def Ot(B:Eu)(Am:Option Addr)(b:Nat):Prop:=b=B.al\/b=B.an\/b=B.bm\/ah Am b
def jV(κ:Nat->Nat)(w w5:World)(i gm a:Nat)(Am:Option Addr):Nat->Nat:=λb=>if b<w.heap.size then κ b else if b=gm then 2*i+5 else if b=a then 2*i+4 else if Am.map (·.block)=some b then 3 else if b<w5.heap.size then 1 else 0
section
variable{κ dL:Nat->Nat}{p d q n lines NN N T i s gm a c5 cA:Nat}{t:Nat->Nat}{B:Eu}{rl:Nat->List aW}{A:Nat->Option Addr}{cp:Nat->Nat}{now:Nat->Option Nat}{ms:List TM}{gs oz:List Nat}{Am AO A':Option Addr}{cm:Nat}{bs:Nat->Option Nat}{w w1 w5:World}{σ σ':PwS}{m m':TM}{c:aW}{rest:List aW}
theorem ny{b:Nat}(h:b<w.heap.size):jV κ w w5 i gm a Am b=κ b:=aA h
theorem jv{gs:List Nat}{x:Nat}{j:Nat}(h:j<gs.length):(gs++[x]).getD j 0=gs.getD j 0:=by
 rw[eY,nY h,<-eY]
theorem eE{gs:List Nat}{x:Nat}:(gs++[x]).getD gs.length 0=x:=by simp[eY]
theorem k_{ms:List TM}{m mj:TM}{j:Nat}(h:(ms++[m])[j]?=some mj):(j<ms.length/\ms[j]?=some mj)\/(j=ms.length/\mj=m):=by
 by_cases hj:j<ms.length
 . rw[nY hj]at h;exact .inl ⟨hj,h⟩
 . rw[nZ ae]at h
   have hl:=(ki.1 h).1;have:j=ms.length:=by simp at hl;omega
   subst this;simp at h;exact .inr ⟨rfl,h.symm⟩
theorem Hl.Yl(h:Hl κ p d q n lines NN t B rl A cp now ms gs oz Am cm bs w σ T)(hs:s<3)(bU:∀(i:Nat)(m:TM),ms[i]?=some m->m.th=s->m.ph.over=true)(K9:∀u i,now u=some i->i<ms.length)
 (g1:w.heap.size<=gm) (g2:w.heap.size<=a) (g3:a≠gm) (g4:CB w1 gm 40 (zi (tF c.c s) a)) (g5:CB w1 a 107 (iH q s NN c.c)) (g6:CB w1 q 117 (aK d p NN lines (λi=>if i=s then some a else bs i))) (g7:Ch (At q) w w1)
 (uA:Ch (Ot B Am) w1 w5) (Le:CB w5 B.al 34 #[if s=0 then .slice A' rest.length cA else .slice (A 0) (rl 0).length (cp 0),if s=1 then .slice A' rest.length cA else .slice (A 1) (rl 1).length (cp 1),if s=2 then .slice A' rest.length cA else .slice (A 2) (rl 2).length (cp 2)])
 (han:CB w5 B.an 35 #[if s=0 then xF gm else jo now gs 0,if s=1 then xF gm else jo now gs 1,if s=2 then xF gm else jo now gs 2]) (hbm:CB w5 B.bm 29 #[.slice AO (ms.length+1) c5]) (vN:Sl 35 1 w5 AO (ms.length+1) c5 ((gs++[gm]).map xF))
 (hW:∀b,ah AO b->ah Am b\/w1.heap.size<=b) (mM:Hm κ w A' rest.length cA rest):
 Hl (jV κ w w5 ms.length gm a AO) p d q n lines NN t B (λu=>if u=s then rest else rl u) (λu=>if u=s then A' else A u) (λu=>if u=s then cA else cp u) (λu=>if u=s then some ms.length else now u) (ms++[tF c.c s]) (gs++[gm]) (oz++[a]) AO c5 (λi=>if i=s then some a else bs i) w5 σ T/\Ch (λb=>κ b=2\/κ b=3) w w5:=by
 have eO:=h.bk;have hkt:=h.bk.kt;have vI:=g7.size;have Zdd:=g4.lt;have Zdv:=g5.lt
 have SY:∀b,Ot B Am b->κ b=3:=λb hb=>by
  rcases hb with rfl|rfl|rfl|hb
  . exact eO.kc
  . exact eO.ka
  . exact eO.km
  . exact(eO.am b hb).1
 have Nc:∀b,Ot B Am b->b<w.heap.size:=λb hb=>by
  rcases hb with rfl|rfl|rfl|hb
  . exact h.cc.lt
  . exact h.ca.lt
  . exact h.Bt.lt
  . exact h.sl.lt hb
 have hC:Ch (λb=>κ b=2\/κ b=3) w w5:=(g7.mono (λb hb _=> .inl (by rw[show b=q from hb];exact h.qu.kq))).trans uA (λb hb hl=> .inr (SY b hb));have lR:=hC.size;have ZcJ:=uA.size;have old:∀{b:Nat},b<w.heap.size->jV κ w w5 ms.length gm a AO b=κ b:=λhb=>ny hb
 have kk:∀{b:Nat} {ty:TypeId} {vs:Array Value},CB w b ty vs->jV κ w w5 ms.length gm a AO b=κ b:=λhb=>old hb.lt
 have keep:∀{b:Nat} {ty:TypeId} {vs:Array Value},CB w b ty vs->κ b≠2->¬Ot B Am b->CB w5 b ty vs:=λ{b ty vs} hb h1 h2=>(hb.keep (g7.block b hb.lt (λhx=>h1 (by rw[show b=q from hx];exact h.qu.kq)))).keep (uA.block b (cD hb.lt vI) h2)
 have zw:∀{b:Nat} {ty:TypeId} {vs:Array Value},CB w1 b ty vs->¬Ot B Am b->CB w5 b ty vs:=λ{b ty vs} hb h2=>hb.keep (uA.block b hb.lt h2)
 have nq:¬Ot B Am q:=λhx=>by have:=SY q hx;have:=h.qu.kq;omega
 have ngm:¬Ot B Am gm:=λhx=>by have:=Nc gm hx;omega
 have na:¬Ot B Am a:=λhx=>by have:=Nc a hx;omega
 have n1:∀{b:Nat},κ b=1->¬Ot B Am b:=λ{b} hb hx=>by have:=SY b hx;omega
 have nt:¬Ot B Am B.bt:=λhx=>by
  rcases hx with hx|hx|hx|hx
  . exact eO.n5 hx
  . exact eO.n4 hx
  . exact eO.n1 hx.symm
  . exact(eO.am _ hx).2.2.1 rfl
 have Gh:(0:Nat)<w.heap.size:=h.qu.tab.1;have xK:jV κ w w5 ms.length gm a AO gm=2*ms.length+5:=by unfold jV;rw[ax ae,aA rfl]
 have zA:jV κ w w5 ms.length gm a AO a=2*ms.length+4:=by unfold jV;rw[ax ae,ax g3,aA rfl]
 refine⟨⟨⟨?_,zw g6 nq,by rw[kk h.qu.hq];exact h.qu.kq,h.qu.tab.ch hC (λhx=>by have:=h.qu.k0;omega),by rw[old Gh];exact h.qu.k0,h.qu.hn,h.qu.hP,h.qu.dS⟩,λj mj hj ho=> ?_,λth aS=> ?_,λj mj hj=> ?_,by simp[h.lg],by simp[h.la],keep h.cn (by have:=eO.kn;omega) (n1 eO.kn),keep h.cl (by have:=eO.kl;omega) (n1 eO.kl),keep h.cq (by have:=eO.kq;omega) (n1 eO.kq),?_,keep h.ct ae nt,?_,?_,?_,?_,λu hu=> ?_⟩,hC⟩
 . refine(h.qu.pm.chQ hC (λb _ hb=>by omega)).less (λb hb=> ?_)
   by_cases hl:b<w.heap.size
   . left;rw[old hl]at hb;exact hb
   . right
     refine⟨by omega,?_⟩;unfold jV at hb;rw[ax hl]at hb;split at hb
     . rename_i hx;rw[hx];omega
     . split at hb
       . rename_i hx;rw[hx];omega
       . split at hb
         . rename_i hx;exact vN.lt hx
         . split at hb
           . assumption
           . omega
 . rcases k_ hj with⟨hl,e⟩|⟨hl,e⟩
   . have aG:mj.th≠s:=λhx=>by rw[bU j mj e hx]at ho;cases ho
     rw[jv (by rw[h.la];exact hl)];exact(ax aG).trans (h.bi j mj e ho)
   . rw[hl,<-h.la,eE,e]
     exact aA rfl
 . have aG:th≠s:=λhx=>(aS ms.length (tF c.c s) smQ rfl) (by show s=th;exact hx.symm)
   exact(ax aG).trans (h.bo th (λj mj hj ho=>aS j mj (by rw[nY (kV hj)];exact hj) ho))
 . rcases k_ hj with⟨hl,e⟩|⟨hl,e⟩
   . rw[jv (by rw[h.lg];exact hl),jv (by rw[h.la];exact hl)]
     exact(h.mm j mj e).ch hC (λb _ hb=>by omega) (λb hb=>old hb)
   . subst e
     subst hl;have e1:(gs++[gm]).getD ms.length 0=gm:=by rw[<-h.lg];exact eE
     have e2:(oz++[a]).getD ms.length 0=a:=by rw[<-h.la];exact eE
     rw[e1,e2];exact⟨xK,zw g4 ngm,zA,zw g5 na⟩
 . rw[dO];exact hbm
 . have key:∀u,(if s=u then xF gm else jo now gs u)=jo (λv=>if v=s then some ms.length else now v) (gs++[gm]) u:=λu=>by
    unfold jo;by_cases hu:s=u
    . subst hu
      simp only[cR,Option.map_some,<-h.lg,eE];rfl
    . rw[ax hu]
      simp only[ax (cC hu)];cases hn:now u with
      |none=>rfl
      |some i=>simp only[Option.map_some];rw[jv (by rw[h.lg];exact K9 u i hn)]
   rw[key 0,key 1,key 2]at han;exact han
 . have key:∀u,(if s=u then Value.slice A' rest.length cA else .slice (A u) (rl u).length (cp u))= .slice (if u=s then A' else A u) (if u=s then rest else rl u).length (if u=s then cA else cp u):=λu=>by
    by_cases hu:s=u
    . subst hu;simp
    . rw[ax hu,ax (cC hu),ax (cC hu),ax (cC hu)]
   rw[key 0,key 1,key 2]at Le;exact Le
 . rw[dO];exact vN
 . refine⟨by rw[kk h.cn];exact eO.kn,by rw[kk h.cl];exact eO.kl,by rw[kk h.cq];exact eO.kq,by rw[kk h.Bt];exact eO.km,by rw[kk h.ct];exact eO.kt,by rw[kk h.ca];exact eO.ka,by rw[kk h.cc];exact eO.kc,eO.n1,eO.n2,eO.n3,eO.n4,eO.n5,eO.n6,λb hb=> ?_⟩
   rcases hW b hb with bG|bG
   . obtain⟨e1,e2⟩:=eO.am b bG
     exact⟨by rw[old (h.sl.lt bG)];exact e1,e2⟩
   . have Hf:b≠gm:=by omega
     have jg:b≠a:=by omega
     refine⟨?_,by have:=h.Bt.lt;omega,by have:=h.ct.lt;omega,by have:=h.ca.lt;omega,by have:=h.cc.lt;omega⟩;unfold jV;rw[ax ae,ax Hf,ax jg];exact aA hb
 . have hkp:∀b,b<w.heap.size->κ b=1->w5.heap[b]?=w.heap[b]?/\jV κ w w5 ms.length gm a AO b=1:=λb hb eD=>⟨hC.block b hb (λhx=>by omega),by rw[old hb];exact eD⟩
   by_cases hu':u=s
   . simp only[aA hu']
     exact mM.keep lR hkp
   . simp only[ax hu']
     exact(h.lv u hu).keep lR hkp
end
def tt:Nat->Bool:=λ_=>true
noncomputable def Yp (NN:Nat) (σ:PwS) (L:Nat->Int) (ms:List TM) (rl:Nat->List aW):Nat:=uS 5100 tt tt (aF NN) σ L ms+6778*((rl 0).length+(rl 1).length+(rl 2).length)
structure Oa where
 rA:Nat->Nat
 w0:World
 p:Nat
 d:Nat
 q:Nat
 n:Nat
 lines:Nat
 NN:Nat
 t:Nat->Nat
 q0:List (Int×Int)
 cs:List (TC×Nat)
 Bd:Nat
 B:Eu
structure Bx(k:Oa)(rl:Nat->List aW)(now:Nat->Option Nat)(ms:List TM)(gs:List Nat)(T mu:Nat)(w:World)(κ:Nat->Nat)(A:Nat->Option Addr)(cp:Nat->Nat)(oz:List Nat)(Am:Option Addr)(cm:Nat)(bs:Nat->Option Nat)(σ:PwS)(xs:List Int)(L:Nat->Int)(Tr:Nat->TT)(fl:List Nat)(ord:List Nat)(N:Nat):Prop where
 mem:Hl κ k.p k.d k.q k.n k.lines k.NN k.t k.B rl A cp now ms gs oz Am cm bs w σ T
 qw:TW aR (cP 0) k.n (aF k.NN) k.q0 σ ms N T xs L Tr fl ord
 rn:GF k.cs (λs=>(rl s).map aW.c) now ms
 me:Yp k.NN σ L ms rl<=mu
 bd:N+mu<=k.Bd
 old:∀b,b<k.w0.heap.size->κ b=k.rA b
 ch:Ch (λb=>k.rA b=0\/k.rA b=2) k.w0 w
 rv:∀s,∀c∈rl s,oF c
 seven:ms.length+((rl 0).length+(rl 1).length+(rl 2).length)<=7
 Dx:∀b,b<k.w0.heap.size->k.rA b<=2
 Xn:k.Bd<1000000
 p24:k.NN<1000000
 tb:T+mu<=k.Bd
 xG:xr k.lines L
def D8(k:Oa)(rl:Nat->List aW)(now:Nat->Option Nat)(ms:List TM)(gs:List Nat)(T mu:Nat)(w:World):Prop:=∃κ A cp oz Am cm bs σ xs L Tr fl ord N,Bx k rl now ms gs T mu w κ A cp oz Am cm bs σ xs L Tr fl ord N
theorem aW.cOk(c:aW):KR c.c.key/\(aF 0).bk c.c.key<8/\KR c.c.val/\KR c.c.old/\c.c.kind<=3:=
 ⟨⟨by show 0<=c.key%1099511627776;omega,by show c.key%1099511627776<1099511627776;omega⟩,yP _ (by decide),⟨by show 0<=c.val%1099511627776;omega,by show c.val%1099511627776<1099511627776;omega⟩,⟨by show 0<=c.old%1099511627776;omega,by show c.old%1099511627776<1099511627776;omega⟩,by show(c.kind%4).toNat<=3;omega⟩
section
variable{k:Oa}{rl:Nat->List aW}{now:Nat->Option Nat}{ms:List TM}{gs:List Nat}{T mu:Nat}{w w':World}{κ:Nat->Nat}{A:Nat->Option Addr}{cp:Nat->Nat}{oz:List Nat}{Am:Option Addr}{cm:Nat}{bs:Nat->Option Nat}{σ:PwS}{xs:List Int}{L:Nat->Int}{Tr:Nat->TT}{fl:List Nat}{ord:List Nat}{N s i:Nat}{m:TM}
theorem GF.lt(h:GF k.cs (λs=>(rl s).map aW.c) now ms):∀u i,now u=some i->i<ms.length:=λu i hu=>by
 obtain⟨m,h1,_⟩:=h.nw u i hu;exact kV h1
theorem GF.uniq(h:GF k.cs (λs=>(rl s).map aW.c) now ms)(hi:ms[i]?=some m)(bU:m.ph.over=false):now m.th=some i/\∀(j:Nat) (mj:TM),ms[j]?=some mj->mj.ph.over=false->mj.th=m.th->j=i:=by
 obtain⟨a,a1,a2,a3⟩:=h.Sy i m hi
 have e:i=a:=by
  by_cases hx:i=a
  . exact hx
  . have:=a3 hx;rw[bU]at this;cases this
 subst e;refine⟨a1,λj mj hj ho ht=> ?_⟩;obtain⟨b,b1,b2,b3⟩:=h.Sy j mj hj;rw[ht,a1]at b1;injection b1 with b1;by_cases hx:j=i
 . exact hx
 . have:=b3 ae;rw[ho]at this;cases this
theorem Bx.step(h:Bx k rl now ms gs T mu w κ A cp oz Am cm bs σ xs L Tr fl ord N)(hi:ms[i]?=some m)(bU:m.ph.over=false):
 Calls prog 32 #[.pointer (some ⟨gs.getD i 0,0,none⟩), .int .i64 (T:Int)] w λe w'=>e= .returned (.tuple #[])/\1<=mu/\∃m' dL,m'.c=m.c/\m'.th=m.th/\(m.ph.fresh=false->m'.bg=m.bg)/\(m.ph.fresh=true->m'.bg=T)/\m'.ph.fresh=false/\∃VE σ' dz L' wY eG aZ,
  Hl dL k.p k.d k.q k.n k.lines k.NN k.t k.B rl A cp now (ms.set i m') gs oz Am cm VE w' σ' T/\TW aR (cP 0) k.n (aF k.NN) k.q0 σ' (ms.set i m') (N+1) (T+1) dz L' wY eG aZ/\Yp k.NN σ' L' (ms.set i m') rl<=mu-1/\(∀b,b<w.heap.size->dL b=κ b)/\Ch (λb=>κ b≠1) w w'/\xr k.lines L':=by
 have hN:N<1000000:=by have:=h.bd;have:=h.Xn;omega
 obtain⟨hu1,hu2⟩:=h.rn.uniq hi bU;refine(IQ h.mem.qu h.qw hN hi (h.mem.mm i m hi) (h.mem.bi i m hi bU) bU).mono ?_;rintro e w' ⟨bl,b1,b2,rfl,dL,c1,c2,c3,c4,c5⟩;obtain⟨dz,L',wY,eG,aZ,d1,dk,d2⟩:=h.qw.O6 (BS (n:=k.n) (P:=8+4*k.NN) (by have:=h.mem.qu.dS;omega)) hN (by have:=h.mem.qu.nn.2;exact this) h.p24 (MS k.NN) hi bU b1 b2;obtain⟨_,d3⟩:=d2 5100 3 tt tt rfl rfl (λ_ _ _ _ _ _=>rfl) h.qw.sb.th.st3 ae;have WO:=h.me;unfold Yp at WO;refine⟨rfl,by omega,m.next T (aV aR (cP 0) (aF k.NN) σ m bl).2,dL,rfl,rfl,λhf=> ?_,λhf=> ?_,(pI bU),N9 (m.next T (aV aR (cP 0) (aF k.NN) σ m bl).2) bs,_,dz,L',wY,eG,aZ,?_,d1,?_,c1,c5.mono (λb hb _=>by omega),h.xG.keep dk⟩
 . show(if m.ph.fresh then T else m.bg)=m.bg
   rw[hf];rfl
 . show(if m.ph.fresh then T else m.bg)=T
   rw[hf];rfl
 . exact h.mem.Kj hi bU rfl hu2 c1 c2 c3 c4 c5
 . unfold Yp;omega
theorem Bx.stepT(h:Bx k rl now ms gs T mu w κ A cp oz Am cm bs σ xs L Tr fl ord N)(hi:ms[i]?=some m)(bU:m.ph.over=false)(gW:m.ph.fresh=false):
 Calls prog 32 #[.pointer (some ⟨gs.getD i 0,0,none⟩), .int .i64 (T:Int)] w λe w'=>e= .returned (.tuple #[])/\w'.cell? ⟨k.B.bt,0,none⟩=some (.int .i64 (T:Int))/\w'.frozen? ⟨k.B.bt,0,none⟩=false/\k.B.bt<w'.heap.size/\1<=mu/\∃oI,D8 k rl now oI gs (T+1) (mu-1) (w'.setCell ⟨k.B.bt,0,none⟩ (.int .i64 ((T+1:Nat):Int))):=by
 refine(h.step hi bU).mono ?_;rintro e w' ⟨rfl,h1,m',dL,e1,e3,e4,_,e6,VE,σ',dz,L',wY,eG,aZ,f1,f2,f3,f4,f5,f6⟩;refine⟨rfl,f1.ct.cell 0,f1.ct.frozen 0,f1.ct.lt,h1,ms.set i m',dL,A,cp,oz,Am,cm,VE,σ',dz,L',wY,eG,aZ,N+1,f1.tick,f2,h.rn.again hi bU e1 e3 (e4 gW) e6,f3,by have:=h.bd;omega,λb hb=>(f4 b (cD hb h.ch.size)).trans (h.old b hb),?_,h.rv,by rw[lO];exact h.seven,h.Dx,h.Xn,h.p24,by have:=h.tb;omega,f6⟩;refine(h.ch.trans f5 (λb hb hl=> ?_)).trans ((Ch.refl (At k.B.bt) w').bj _ _) (λb hb hl=> ?_)
 . have:=h.old b hl
   have:=h.Dx b hl;omega
 . have h2:=f1.bk.kt
   have h3:b=k.B.bt:=hb;rw[<-h3,f4 b (cD hl h.ch.size),h.old b hl]at h2;have:=h.Dx b hl;omega
theorem Bx.Zba{A':Nat->Option Addr}{cp':Nat->Nat}{AO:Option Addr}{cm':Nat}{VE:Nat->Option Nat}{w5:World}{Ou:Nat->Nat}{c:aW}{rest:List aW}{gm a:Nat}(h:Bx k rl now ms gs T mu w κ A cp oz Am cm bs σ xs L Tr fl ord N)(hs:s<3)(tq:rl s=c::rest)(hd:∀i m,now s=some i->ms[i]?=some m->m.ph.over=true)
 (hM:Hl Ou k.p k.d k.q k.n k.lines k.NN k.t k.B (λu=>if u=s then rest else rl u) A' cp' (λu=>if u=s then some ms.length else now u) (ms++[tF c.c s]) (gs++[gm]) (oz++[a]) AO cm' VE w5 σ T) (hk:∀b,b<w.heap.size->Ou b=κ b) (hC:Ch (λb=>κ b=2\/κ b=3) w w5):
 Calls prog 32 #[.pointer (some ⟨gm,0,none⟩), .int .i64 (T:Int)] w5 λe w'=>e= .returned (.tuple #[])/\w'.cell? ⟨k.B.bt,0,none⟩=some (.int .i64 (T:Int))/\w'.frozen? ⟨k.B.bt,0,none⟩=false/\k.B.bt<w'.heap.size/\1<=mu/\∃uR now' oI,D8 k uR now' oI (gs++[gm]) (T+1) (mu-1) (w'.setCell ⟨k.B.bt,0,none⟩ (.int .i64 ((T+1:Nat):Int))):=by
 have hN:N<1000000:=by have:=h.bd;have:=h.Xn;omega
 have bU:∀(j:Nat) (mj:TM),ms[j]?=some mj->mj.th=s->mj.ph.over=true:=λj mj hj he=>by
  obtain⟨b,b1,b2,b3⟩:=h.rn.Sy j mj hj;by_cases UU:j=b
  . rw[he]at b1
    exact hd j mj (by rw[UU];exact b1) hj
  . exact b3 UU
 have hW:=h.qw.add (m:=tF c.c s) rfl c.cOk (by show s=0\/s=1\/s=2\/s=5;omega) (λj mj hj ho he=>by rw[bU j mj hj he]at ho;cases ho);have hi:(ms++[tF c.c s])[ms.length]?=some (tF c.c s):=by simp
 have DL:(gs++[gm]).getD ms.length 0=gm:=by rw[<-h.mem.lg];exact eE
 have Zey:(oz++[a]).getD ms.length 0=a:=by rw[<-h.mem.la];exact eE
 have bh:=IQ hM.qu hW hN hi (hM.mm _ _ hi) (hM.bi _ _ hi rfl) rfl;rw[DL]at bh;refine bh.mono ?_;rintro e w' ⟨bl,b1,b2,rfl,dL,c1,c2,c3,c4,c5⟩;obtain⟨dz,L',wY,eG,aZ,d1,dk,d2⟩:=hW.O6 (BS (n:=k.n) (P:=8+4*k.NN) (by have:=hM.qu.dS;omega)) hN (by have:=hM.qu.nn.2;exact this) h.p24 (MS k.NN) hi rfl b1 b2;obtain⟨_,d3⟩:=d2 5100 3 tt tt rfl rfl (λ_ _ _ _ _ _=>rfl) hW.sb.th.st3 ae;have Zdw:=Ue (w:=5100) (st:=tt) (lv:=tt) (K:=aF k.NN) (σ:=σ) (L:=L) (ms:=ms) (m:=tF c.c s) rfl;have WO:=h.me;unfold Yp at WO
 have Jc:∀(j:Nat) (mj:TM),(ms++[tF c.c s])[j]?=some mj->mj.ph.over=false->mj.th=(tF c.c s).th->j=ms.length:=λj mj hj ho he=>by
  rcases k_ hj with⟨hl,e⟩|⟨hl,e⟩
  . rw[bU j mj e he]at ho;cases ho
  . exact hl
 have f1:=hM.Kj (m':=(tF c.c s).next T (aV aR (cP 0) (aF k.NN) σ (tF c.c s) bl).2) hi rfl rfl Jc c1 c2 (by rw[DL];exact c3) c4 c5
 have hlen:(rl 0).length+(rl 1).length+(rl 2).length=((if(0:Nat)=s then rest else rl 0).length+(if(1:Nat)=s then rest else rl 1).length+(if(2:Nat)=s then rest else rl 2).length)+1:=by
  rcases(by omega:s=0\/s=1\/s=2)with rfl|rfl|rfl<;>(simp[tq];try omega)
 have htt:(if tt ms.length then 1678 else 0)+(if tt ms.length then 5100 else 0)=6778:=rfl;rw[htt]at Zdw
 have tj:(ms++[tF c.c s]).set ms.length ((tF c.c s).next T (aV aR (cP 0) (aF k.NN) σ (tF c.c s) bl).2)=ms++[(tF c.c s).next T (aV aR (cP 0) (aF k.NN) σ (tF c.c s) bl).2]:=by
  rw[PU _ _ (a_ _)];simp
 rw[tj]at d1 d3 f1;refine⟨rfl,f1.ct.cell 0,f1.ct.frozen 0,f1.ct.lt,by omega,_,_,_,dL,A',cp',oz++[a],AO,cm',_,_,dz,L',wY,eG,aZ,N+1,f1.tick,d1,?_,?_,by have:=h.bd;omega,λb hb=> ?_,?_,λu cc gh=> ?_,?_,h.Dx,h.Xn,h.p24,by have:=h.tb;omega,h.xG.keep dk⟩
 . have:=h.rn.new (t:=s) (c:=c.c) (rest:=rest.map aW.c) (m':=(tF c.c s).next T (aV aR (cP 0) (aF k.NN) σ (tF c.c s) bl).2) hs (by show(rl s).map aW.c=_;rw[tq];rfl) hd rfl rfl (pI rfl) (λj mj hj ho=>((h.qw.ls.tm j mj hj).2 ho))
   have e:(λu=>if u=s then rest.map aW.c else(rl u).map aW.c)=λu=>((λu=>if u=s then rest else rl u) u).map aW.c:=by
    funext u
    by_cases hu:u=s
    . simp[hu]
    . simp[hu]
   rw[e]at this;exact this
 . unfold Yp
   show _+6778*((if(0:Nat)=s then rest else rl 0).length+(if(1:Nat)=s then rest else rl 1).length+(if(2:Nat)=s then rest else rl 2).length)<=mu-1
   omega
 . have hl:=cD hb h.ch.size
   rw[c1 b (cD hl hC.size),hk b hl];exact h.old b hb
 . refine((h.ch.trans hC (λb hb hl=> ?_)).trans c5 (λb hb hl=> ?_)).trans ((Ch.refl (At k.B.bt) w').bj _ _) (λb hb hl=> ?_)
   . have:=h.old b hl;have:=h.Dx b hl;omega
   . have:=h.old b hl;have:=h.Dx b hl;have:=hk b (cD hl h.ch.size);omega
   . have h2:=hM.bk.kt
     rw[<-show b=k.B.bt from hb,hk b (cD hl h.ch.size)]at h2;have:=h.old b hl;have:=h.Dx b hl;omega
 . by_cases hu:u=s
   . simp only[aA hu]at gh
     exact h.rv s cc (by rw[tq];exact pV _ gh)
   . simp only[ax hu]at gh
     exact h.rv u cc gh
 . have:=h.seven
   rw[dO];show _+1+((if(0:Nat)=s then rest else rl 0).length+(if(1:Nat)=s then rest else rl 1).length+(if(2:Nat)=s then rest else rl 2).length)<=7
   omega
end
section
variable{k:Oa}{rl:Nat->List aW}{now:Nat->Option Nat}{ms:List TM}{gs:List Nat}{T mu:Nat}{w w':World}{κ:Nat->Nat}{A:Nat->Option Addr}{cp:Nat->Nat}{oz:List Nat}{Am:Option Addr}{cm:Nat}{bs:Nat->Option Nat}{σ:PwS}{xs:List Int}{L:Nat->Int}{Tr:Nat->TT}{fl:List Nat}{ord:List Nat}{N s i:Nat}{m:TM}
theorem Hl.bl{p d q n lines NN:Nat}{t:Nat->Nat}{B:Eu}(m:Hl κ p d q n lines NN t B rl A cp now ms gs oz Am cm bs w σ T)(hB:Below w.heap.size w w'):Hl κ p d q n lines NN t B rl A cp now ms gs oz Am cm bs w' σ T:=by
 have hC:Ch (λ_=>False) w w':=Ch.au hB;exact⟨⟨m.qu.pm.ko hB,m.qu.hq.below hB,m.qu.kq,m.qu.tab.ch hC (λhx=>hx),m.qu.k0,m.qu.hn,m.qu.hP,m.qu.dS⟩,m.bi,m.bo,λj mj hj=>(m.mm j mj hj).ch hC (λ_ _ hx=>hx.elim) (λ_ _=>rfl),m.lg,m.la,m.cn.below hB,m.cl.below hB,m.cq.below hB,m.Bt.below hB,m.ct.below hB,m.ca.below hB,m.cc.below hB,m.sl.keep (λb hb=>hB.block b (m.sl.lt hb)),m.bk,λs hs=>(m.lv s hs).keep hB.size (λb hb eD=>⟨hB.block b hb,eD⟩)⟩
theorem Bx.bl(h:Bx k rl now ms gs T mu w κ A cp oz Am cm bs σ xs L Tr fl ord N)(hB:Below w.heap.size w w'):Bx k rl now ms gs T mu w' κ A cp oz Am cm bs σ xs L Tr fl ord N:=
 ⟨h.mem.bl hB,h.qw,h.rn,h.me,h.bd,h.old,h.ch.trans (Ch.au (S:=λ_=>False) hB) (λ_ hx _=>hx.elim),h.rv,h.seven,h.Dx,h.Xn,h.p24,h.tb,h.xG⟩
def VK(k:Oa)(rl:Nat->List aW)(now:Nat->Option Nat)(ms:List TM)(gs:List Nat)(T mu s:Nat)(e:Ending)(w':World):Prop:=
 e= .returned (.bool true)/\((rl s=[]/\(∀i m,now s=some i->ms[i]?=some m->m.ph.over=true)/\D8 k rl now ms gs T mu w')\/(1<=mu/\∃uR now' oI Bs,D8 k uR now' oI Bs (T+1) (mu-1) w'))
theorem qV{i:Nat}(h:now s=some i):jo now gs s= .pointer (some ⟨gs.getD i 0,0,none⟩):=by unfold jo;rw[h];rfl
theorem vy(h:now s=none):jo now gs s= .pointer none:=by unfold jo;rw[h];rfl
theorem CB.Bb{a b c:Value}{g:Nat}{ty:TypeId}{f:Nat->Value}(h:CB w g ty #[f 0,f 1,f 2])(hs:s<3):w.cell? ⟨g,s,none⟩=some (f s):=by
 rcases(by omega:s=0\/s=1\/s=2)with rfl|rfl|rfl
 . exact h.cell 0
 . exact h.cell 1
 . exact h.cell 2
theorem T5(h:Bx k rl now ms gs T mu w κ A cp oz Am cm bs σ xs L Tr fl ord N)(hs:s<3)(MO:now s=some i)(hi:ms[i]?=some m)(bU:m.ph.over=false):
 Calls prog 40 #[.int .i64 (s:Int), .pointer (some ⟨k.B.bn,0,none⟩), .pointer (some ⟨k.B.bl,0,none⟩), .pointer (some ⟨k.B.bq,0,none⟩), .pointer (some ⟨k.B.bm,0,none⟩), .pointer (some ⟨k.B.bt,0,none⟩)] w (VK k rl now ms gs T mu s):=by
 have gW:=(h.rn.a8 i m hi).2
 have bQ:m.th=s:=by
  obtain⟨m2,e1,e2⟩:=h.rn.nw s i MO;rw[hi]at e1;injection e1 with e1;rw[e1];exact e2
 have c1:w.cell? ⟨k.B.bn,0,none⟩=some (.slice (some ⟨k.B.an,0,none⟩) 3 3):=h.mem.cn.cell 0;have hn:=CB.Bb (s:=s) (f:=jo now gs) (a:= .pointer none) (b:= .pointer none) (c:= .pointer none) h.mem.ca hs;rw[qV MO]at hn
 have c9:w.cell? ⟨gs.getD i 0,11,none⟩=some (.bool false):=by
  have:=(h.mem.mm i m hi).cb.cell 11;rw[this];show some (Value.bool m.ph.over)=_
  rw[bU]
 have ct:w.cell? ⟨k.B.bt,0,none⟩=some (.int .i64 (T:Int)):=h.mem.ct.cell 0;have l1:=h.mem.cn.lt;have l2:=h.mem.ca.lt;have l3:=(h.mem.mm i m hi).cb.lt;have l4:=h.mem.ct.lt;have fX:=ag (λ(W:World) (hW:Below w.heap.size w W)=>(h.bl hW).stepT hi bU gW);have hs3:(s:Int)<3:=by omega
 have K7:(0:Int)<=(s:Int):=by omega
 have hT:T<1000000:=by have:=h.tb;have:=h.Xn;omega
 have e1:IntKind.i64.wrap ((T:Int)+1)=((T+1:Nat):Int):=by rw[b9 _ ae];omega
 obtain⟨gm,DL⟩:=aH (gs.getD i 0);rw[DL]at hn c9 l3 fX;obtain⟨T1,Hg⟩:=aH (T+1);rw[Hg]at fX e1;unfold VK;rw[Hg];generalize k.B.bn=bn at*;generalize k.B.an=an at*;generalize NZ:k.B.bt=bt at*;generalize k.B.bl=bl at*;generalize k.B.bm=bm at*;generalize k.B.bq=bq at*;clear h MO hi bU gW bQ hs hT Hg DL NZ;go_enter func40,ntmps40
 go_upto_region 12 with(fail)
 refine kU [0,1,2,3,4] [.h [5]] krQ (λ_ _ d _ _ h=>by cases d<;>exact h) krQ ?_
 dsimp only[pick,List.filterMap,List.getElem?_cons_zero,List.getElem?_cons_succ]
 (repeat(go_big_quiet_step (fail)));refine cE ?_
 rintro _ ⟨nq,rfl⟩;with_reducible refine fj ?_
 dsimp only[pick,List.filterMap,List.getElem?_cons_zero,List.getElem?_cons_succ];go_wp2_with (go_at_call 32;(with_reducible refine(fX.out _ aC).mono ?_);rintro e w2 ⟨rfl,z1,z2,z3,z4,oI,hx⟩;have HX:=ag hx;have HMU:=ag z4;clear hx z4)
 with_reducible refine gz ?_
 with_reducible refine gI ?_
 go_wp2;exact bH (v:= .bool true) (by simp[results,results40,go_sem]) rfl ⟨rfl, .inr ⟨HMU.out,rl,now,oI,gs,HX.out⟩⟩
theorem Mi(h:Bx k rl now ms gs T mu w κ A cp oz Am cm bs σ xs L Tr fl ord N)(hs:s<3)(hd:∀i m,now s=some i->ms[i]?=some m->m.ph.over=true)(tq:rl s=[]):
 Calls prog 40 #[.int .i64 (s:Int), .pointer (some ⟨k.B.bn,0,none⟩), .pointer (some ⟨k.B.bl,0,none⟩), .pointer (some ⟨k.B.bq,0,none⟩), .pointer (some ⟨k.B.bm,0,none⟩), .pointer (some ⟨k.B.bt,0,none⟩)] w (VK k rl now ms gs T mu s):=by
 have HX:Hid (D8 k rl now ms gs T mu w):=⟨κ,A,cp,oz,Am,cm,bs,σ,xs,L,Tr,fl,ord,N,h⟩;have c1:w.cell? ⟨k.B.bn,0,none⟩=some (.slice (some ⟨k.B.an,0,none⟩) 3 3):=h.mem.cn.cell 0;have c2:w.cell? ⟨k.B.bl,0,none⟩=some (.slice (some ⟨k.B.al,0,none⟩) 3 3):=h.mem.cl.cell 0;have hn:=CB.Bb (s:=s) (f:=jo now gs) (a:= .pointer none) (b:= .pointer none) (c:= .pointer none) h.mem.ca hs;have hc:=CB.Bb (s:=s) (f:=λs=> .slice (A s) (rl s).length (cp s)) (a:= .pointer none) (b:= .pointer none) (c:= .pointer none) h.mem.cc hs;simp only[tq,List.length_nil]at hc;have l1:=h.mem.cn.lt;have l2:=h.mem.ca.lt;have l3:=h.mem.cl.lt;have l4:=h.mem.cc.lt;have hs3:(s:Int)<3:=by omega
 have K7:(0:Int)<=(s:Int):=by omega
 have iU:Hid (VK k rl now ms gs T mu s (.returned (.bool true)) w):=⟨rfl, .inl ⟨tq,hd,HX.out⟩⟩
 have ig:jo now gs s= .pointer none\/∃gm,jo now gs s= .pointer (some ⟨gm,0,none⟩)/\w.cell? ⟨gm,11,none⟩=some (.bool true)/\gm<w.heap.size:=by
  cases FW:now s with
  |none=>exact .inl (vy FW)
  |some i=>
   obtain⟨m,e1,e2⟩:=h.rn.nw s i FW;have hm:=h.mem.mm i m e1;refine .inr ⟨_,qV FW,?_,hm.cb.lt⟩;have:=hm.cb.cell 11;rw[this];show some (Value.bool m.ph.over)=_
   rw[hd i m FW e1]
 generalize k.B.bn=bn at*;generalize k.B.an=an at*;generalize k.B.al=al at*;generalize k.B.bt=bt at*;generalize k.B.bl=bl at*;generalize k.B.bm=bm at*;generalize k.B.bq=bq at*;clear h hd tq HX hs;rcases ig with hx|⟨gm,hx,z9,zl⟩
 . rw[hx]at hn
   clear hx;go_enter func40,ntmps40
   go_wp2;exact bH (v:= .bool true) (by simp[results,results40,go_sem]) rfl iU.out
 . rw[hx]at hn
   clear hx;go_enter func40,ntmps40
   go_wp2;exact bH (v:= .bool true) (by simp[results,results40,go_sem]) rfl iU.out
end
theorem FP:(prog.info? 33).map (λi=>(i.zero,i.size,i.bytes))=some (some (.agg #[.int .i64 0, .int .i64 0, .int .u64 0, .int .u64 0, .int .u64 0]),5,40):=by kernel_rfl
theorem FE(W:World):(Instr.makeSlice 29 (.int .i64 3) (.int .i64 3)).run prog W= .ok (.slice (some ⟨W.heap.size,0,none⟩) 3 3) (W.alloc (.cells #[.pointer none, .pointer none, .pointer none] 35)):=by kernel_rfl
theorem FF(W:World):(Instr.makeSlice 90 (.int .i64 3) (.int .i64 3)).run prog W= .ok (.slice (some ⟨W.heap.size,0,none⟩) 3 3) (W.alloc (.cells #[.slice none 0 0, .slice none 0 0, .slice none 0 0] 34)):=by kernel_rfl
def cX(l:List aW)(s:Nat):List aW:=l.filter λc=>decide (c.a8%3=(s:Int))
theorem Mj(l:List aW)(c:aW)(s:Nat):cX (l++[c]) s=if c.a8%3=(s:Int)then cX l s++[c]else cX l s:=by
 unfold cX;rw[KL];by_cases h:c.a8%3=(s:Int)
 . simp[h]
 . simp[h]
def Lr(c:aW):List Value:=[.int .i64 c.kind, .int .i64 c.a8, .int .u64 c.key, .int .u64 c.val, .int .u64 c.old]
def eI(l:List aW):List Value:=l.flatMap Lr
theorem Gx(l:List aW)(c:aW):eI (l++[c])=eI l++[.int .i64 c.kind, .int .i64 c.a8, .int .u64 c.key, .int .u64 c.val, .int .u64 c.old]:=by simp[eI,Lr]
theorem Be(l:List aW):(eI l).length=l.length*5:=by
 induction l with
 |nil=>rfl
 |cons c l ih=>rw[eI,yM,dO];change _+(eI l).length=_;rw[ih];simp[Lr];omega
theorem JI(l:List aW):∀(k:Nat),k<l.length->(eI l)[k*5]?=some (.int .i64 (l.getD k fP).kind)/\(eI l)[k*5+1]?=some (.int .i64 (l.getD k fP).a8)/\(eI l)[k*5+2]?=some (.int .u64 (l.getD k fP).key)/\(eI l)[k*5+3]?=some (.int .u64 (l.getD k fP).val)/\(eI l)[k*5+4]?=some (.int .u64 (l.getD k fP).old):=by
 induction l with
 |nil=>intro k h;simp at h
 |cons p l ih=>
  intro k h;cases k with
  |zero=>simp[eI,Lr]
  |succ k=>
   have:=ih k (by simpa using h);rw[show eI (p::l)= .int .i64 p.kind:: .int .i64 p.a8:: .int .u64 p.key:: .int .u64 p.val:: .int .u64 p.old::eI l from rfl,show(k+1)*5=k*5+1+1+1+1+1 by omega];simpa using this
def F1(cs:List aW)(W0:World)(al j:Nat)(wr:World):Prop:=
 ∃(A:Nat->Option Addr) (cp:Nat->Nat),CB wr al 34 #[.slice (A 0) (cX (cs.take j) 0).length (cp 0), .slice (A 1) (cX (cs.take j) 1).length (cp 1), .slice (A 2) (cX (cs.take j) 2).length (cp 2)]/\
  (∀s,s<3->Sl 33 5 wr (A s) (cX (cs.take j) s).length (cp s) (eI (cX (cs.take j) s))/\∀b,ah (A s) b->W0.heap.size<=b)/\(∀s u,s<3->u<3->s≠u->∀b,ah (A s) b->¬ah (A u) b)/\Ch (At al) W0 wr
theorem X1(f:Nat->Value)(s:Nat)(hs:s<3)(v:Value):(#[f 0,f 1,f 2]:Array Value).setIfInBounds s v= #[if 0=s then v else f 0,if 1=s then v else f 1,if 2=s then v else f 2]:=by
 rcases(by omega:s=0\/s=1\/s=2)with rfl|rfl|rfl<;>simp
theorem F1.next{cs:List aW}{W0 wr w4:World}{al j s c4:Nat}{o:Obj}{A:Nat->Option Addr}{cp:Nat->Nat}{A4:Option Addr}{c:aW}(hj:j<cs.length)(SM:cs.getD j fP=c)(hs:s<3)(bQ:c.a8%3=(s:Int))(Le:al<W0.heap.size)
 (h1:CB wr al 34 #[.slice (A 0) (cX (cs.take j) 0).length (cp 0), .slice (A 1) (cX (cs.take j) 1).length (cp 1), .slice (A 2) (cX (cs.take j) 2).length (cp 2)]) (h2:∀s,s<3->Sl 33 5 wr (A s) (cX (cs.take j) s).length (cp s) (eI (cX (cs.take j) s))/\∀b,ah (A s) b->W0.heap.size<=b) (h3:∀s u,s<3->u<3->s≠u->∀b,ah (A s) b->¬ah (A u) b) (h4:Ch (At al) W0 wr)
 (o4:Sl 33 5 w4 A4 ((cX (cs.take j) s).length+1) c4 (eI (cX (cs.take j) s)++[.int .i64 c.kind, .int .i64 c.a8, .int .u64 c.key, .int .u64 c.val, .int .u64 c.old])) (ch:Ch (ah (A s)) (wr.alloc o) w4) (hW:∀b,ah A4 b->ah (A s) b\/b=(wr.alloc o).heap.size):
 F1 cs W0 al (j+1) (w4.setCell ⟨al,s,none⟩ (.slice A4 ((cX (cs.take j) s).length+1) c4)):=by
 have lR:(wr.alloc o).heap.size=wr.heap.size+1:=by simp
 have K7:=h4.size;have wN:=ch.size
 have bh:cs.take (j+1)=cs.take j++[c]:=by
  rw[iw hj];rw[eY,dG hj]at SM;rw[<-SM];rfl
 have aM:∀u,u<3->∀b,ah (A u) b->b<wr.heap.size:=λu hu b hb=>(h2 u hu).1.lt hb
 have tq:∀u:Nat,u<3->cX (cs.take (j+1)) u=if u=s then cX (cs.take j) s++[c]else cX (cs.take j) u:=λu hu=>by
  rw[bh,Mj];by_cases K5:u=s
  . subst K5;rw[aA bQ,aA rfl]
  . rw[ax ae,ax K5]
 have ZcV:∀b,ah A4 b->b≠al:=λb hb=>by
  rcases hW b hb with hx|hx
  . have:=(h2 s hs).2 b hx;omega
  . omega
 have gi:CB w4 al 34 #[.slice (A 0) (cX (cs.take j) 0).length (cp 0), .slice (A 1) (cX (cs.take j) 1).length (cp 1), .slice (A 2) (cX (cs.take j) 2).length (cp 2)]:=(h1.below (ai (bZ _ _) _)).keep (ch.block al (by have:=h1.lt;omega) (λhx=>by have:=(h2 s hs).2 al hx;omega));have ZD:=gi.set s (.slice A4 ((cX (cs.take j) s).length+1) c4);rw[X1 (λu=> .slice (A u) (cX (cs.take j) u).length (cp u)) s hs]at ZD;refine⟨λu=>if u=s then A4 else A u,λu=>if u=s then c4 else cp u,?_,λu hu=> ?_,λu v hu hv huv b hb=> ?_,?_⟩
 . have key:∀u:Nat,u<3->(if u=s then Value.slice A4 ((cX (cs.take j) s).length+1) c4 else .slice (A u) (cX (cs.take j) u).length (cp u))= .slice (if u=s then A4 else A u) (cX (cs.take (j+1)) u).length (if u=s then c4 else cp u):=λu hu=>by
    rw[tq u hu];by_cases K5:u=s
    . simp[K5]
    . simp[K5]
   rw[key 0 ae,key 1 ae,key 2 ae]at ZD;exact ZD
 . rw[tq u hu]
   by_cases K5:u=s
   . simp only[aA K5,dO,List.length_singleton,Gx]
     exact⟨o4.keep (λb hb=>ft _ _ _ _ (ZcV b hb)),λb hb=>by
      rcases hW b hb with hx|hx
      . exact(h2 s hs).2 b hx
      . omega⟩
   . simp only[ax K5]
     refine⟨(h2 u hu).1.keep (λb hb=> ?_),(h2 u hu).2⟩;have px:=aM u hu b hb;have jg:b≠al:=by have:=(h2 u hu).2 b hb;omega
     exact((ft _ _ _ _ jg).trans (ch.block b ae (h3 u s hu hs K5 b hb))).trans (d_ _ _ _ px)
 . by_cases K5:u=s
   . have hvs:v≠s:=λhx=>huv (by rw[K5,hx])
     simp only[aA K5]at hb;simp only[ax hvs];rcases hW b hb with hx|hx
     . exact h3 s v hs hv (cC hvs) b hx
     . intro uw;have:=aM v hv b uw;omega
   . simp only[ax K5]at hb
     by_cases hvs:v=s
     . simp only[aA hvs]
       intro uw;rcases hW b uw with hx|hx
       . exact h3 u s hu hs K5 b hb hx
       . have:=aM u hu b hb;omega
     . simp only[ax hvs]
       exact h3 u v hu hv huv b hb
 . refine((h4.trans (Ch.au (S:=λ_=>False) (ai (bZ _ _) _)) (λb hb _=>hb.elim)).trans ch (λb hb hl=> ?_)).trans ((Ch.refl (At al) w4).bj _ _) (λb hb _=>hb)
   have:=(h2 s hs).2 b hb;omega
theorem vF:(prog.info? 35).map (λi=>(i.zero,i.size,i.bytes))=some (some (.pointer none),1,8):=by kernel_rfl
def Aq(B:Eu)(s gm n c:Nat)(A':Option Addr)(W1 wx:World):Prop:=
 (∀vs,CB W1 B.al 34 vs->CB wx B.al 34 (vs.setIfInBounds s (.slice A' n c)))/\(∀vs,CB W1 B.an 35 vs->CB wx B.an 35 (vs.setIfInBounds s (.pointer (some ⟨gm,0,none⟩))))/\Ch (λb=>b=B.al\/b=B.an) W1 wx
theorem KZ{B:Eu}{s gm n c:Nat}{A':Option Addr}{W1:World}(h:B.al≠B.an):Aq B s gm n c A' W1 ((W1.setCell ⟨B.al,s,none⟩ (.slice A' n c)).setCell ⟨B.an,s,none⟩ (.pointer (some ⟨gm,0,none⟩))).drew:=
 ⟨λvs hc=>((hc.set s _).far (p:=⟨B.an,s,none⟩) h _).drew,λvs hc=>((hc.far (p:=⟨B.al,s,none⟩) (cC h) _).set s _).drew,((((Ch.refl (At B.al) W1).bj _ _).mono (λb hb _=> .inl hb)).trans ((Ch.refl (At B.an) _).bj _ _) (λb hb _=> .inr hb)).drew⟩
theorem KY{B:Eu}{s gm n c:Nat}{A':Option Addr}{W1:World}(h:B.al≠B.an):Aq B s gm n c A' W1 ((W1.setCell ⟨B.an,s,none⟩ (.pointer (some ⟨gm,0,none⟩))).setCell ⟨B.al,s,none⟩ (.slice A' n c)).drew:=
 ⟨λvs hc=>((hc.far (p:=⟨B.an,s,none⟩) h _).set s _).drew,λvs hc=>((hc.set s _).far (p:=⟨B.al,s,none⟩) (cC h) _).drew,((((Ch.refl (At B.an) W1).bj _ _).mono (λb hb _=> .inr hb)).trans ((Ch.refl (At B.al) _).bj _ _) (λb hb _=> .inl hb)).drew⟩
section
variable{k:Oa}{rl:Nat->List aW}{now:Nat->Option Nat}{ms:List TM}{gs:List Nat}{T mu:Nat}{w w':World}{κ:Nat->Nat}{A:Nat->Option Addr}{cp:Nat->Nat}{oz:List Nat}{Am:Option Addr}{cm:Nat}{bs:Nat->Option Nat}{σ:PwS}{xs:List Int}{L:Nat->Int}{Tr:Nat->TT}{fl:List Nat}{ord:List Nat}{N s i:Nat}{m:TM}{c:aW}{rest:List aW}
theorem Qk{g off n1 n2 Hj gm a c4:Nat}{A' A4:Option Addr}{B:Eu}{q:Nat}{W1 wc w4:World}(h:Bx k rl now ms gs T mu w κ A cp oz Am cm bs σ xs L Tr fl ord N)(hs:s<3)(hd:∀i m,now s=some i->ms[i]?=some m->m.ph.over=true)(tq:rl s=c::rest)(hA:A s=some ⟨g,off,none⟩)
 (qm:rest.length=n1) (dS:n1+1=n2) (U4:cp s=Hj) (Hd:n2<=Hj) (fL:A'=if Hj=1 then some ⟨g,off,none⟩else some ⟨g,off+5,none⟩) (hB:k.B=B) (hq:k.q=q)
 (y1:w.heap.size<=gm) (y2:w.heap.size<=a) (y3:a≠gm) (y4:CB W1 gm 40 (zi (tF c.c s) a)) (y5:CB W1 a 107 (iH q s k.NN c.c)) (y6:CB W1 q 117 (aK k.d k.p k.NN k.lines (λi=>if i=s then some a else bs i))) (y7:Ch (At q) w W1)
 (r:Aq B s gm (n2-1) (Hj-1) A' W1 wc) (o4:Sl 35 1 w4 A4 (ms.length+1) c4 (gs.map xF++[.pointer (some ⟨gm,0,none⟩)])) (c4_:Ch (ah Am) (wc.alloc (.cells #[.pointer (some ⟨gm,0,none⟩)] 35)) w4) (w4_:∀b,ah A4 b->ah Am b\/b=(wc.alloc (.cells #[.pointer (some ⟨gm,0,none⟩)] 35)).heap.size) (m4:CB w4 B.bm 29 #[.slice Am ms.length cm]):
 Hl (jV κ w (w4.setCell ⟨B.bm,0,none⟩ (.slice A4 (ms.length+1) c4)) ms.length gm a A4) k.p k.d k.q k.n k.lines k.NN k.t k.B (λu=>if u=s then rest else rl u) (λu=>if u=s then A' else A u) (λu=>if u=s then Hj-1 else cp u) (λu=>if u=s then some ms.length else now u) (ms++[tF c.c s]) (gs++[gm]) (oz++[a]) A4 c4 (λi=>if i=s then some a else bs i) (w4.setCell ⟨B.bm,0,none⟩ (.slice A4 (ms.length+1) c4)) σ T/\Ch (λb=>κ b=2\/κ b=3) w (w4.setCell ⟨B.bm,0,none⟩ (.slice A4 (ms.length+1) c4)):=by
 subst hB hq qm dS U4;obtain⟨r1,r2,r3⟩:=r;have hM:=h.mem;have eO:=hM.bk;have La:=hM.qu.kq
 have bU:∀(j:Nat) (mj:TM),ms[j]?=some mj->mj.th=s->mj.ph.over=true:=λj mj hj he=>by
  obtain⟨b,b1,b2,b3⟩:=h.rn.Sy j mj hj;by_cases UU:j=b
  . rw[he]at b1
    exact hd j mj (by rw[UU];exact b1) hj
  . exact b3 UU
 have nk:∀b,κ b=3->b≠k.q:=λb hb he=>by rw[he]at hb;omega
 have k1:∀{b:Nat} {ty:TypeId} {vs:Array Value},CB w b ty vs->κ b=3->CB W1 b ty vs:=λhb hk=>hb.keep (y7.block _ hb.lt (nk _ hk))
 have kA:∀{b:Nat} {ty:TypeId} {vs:Array Value},CB wc b ty vs->¬ah Am b->b≠k.B.bm->CB (w4.setCell ⟨k.B.bm,0,none⟩ (.slice A4 (ms.length+1) c4)) b ty vs:=λ{b ty vs} hb h1 h2=>((hb.below (ai (bZ _ _) _)).keep (c4_.block b (hb.below (ai (bZ _ _) _)).lt h1)).far (p:=⟨k.B.bm,0,none⟩) h2 _
 have Le:=r1 _ (k1 hM.cc eO.kc);have han:=r2 _ (k1 hM.ca eO.ka);have nal:¬ah Am k.B.al:=λhx=>(eO.am _ hx).2.2.2.2 rfl
 have nan:¬ah Am k.B.an:=λhx=>(eO.am _ hx).2.2.2.1 rfl
 have uA:Ch (Ot k.B Am) W1 (w4.setCell ⟨k.B.bm,0,none⟩ (.slice A4 (ms.length+1) c4)):=by
  refine(((r3.mono (T:=Ot k.B Am) (λb hb _=>hb.elim (λhx=> .inl hx) (λhx=> .inr (.inl hx)))).trans (Ch.au (S:=λ_=>False) (ai (bZ _ _) _)) (λb hb _=>hb.elim)).trans c4_ (λb hb _=> .inr (.inr (.inr hb)))).trans ((Ch.refl (At k.B.bm) w4).bj _ _) (λb hb _=> .inr (.inr (.inl hb)))
 have ZeY:rest.length+1<=cp s:=Hd;refine hM.Yl (c:=c) (rest:=rest) (A':=A') (cA:=cp s-1) hs bU h.rn.lt y1 y2 y3 y4 y5 y6 y7 uA ?_ ?_ (m4.set 0 _) ?_ (λb hb=> ?_) ?_
 . have:=kA Le nal (cC eO.n3)
   rcases(by omega:s=0\/s=1\/s=2)with rfl|rfl|rfl<;>simpa [PK]using this
 . have:=kA han nan (cC eO.n2)
   rcases(by omega:s=0\/s=1\/s=2)with rfl|rfl|rfl<;>simpa [xF]using this
 . rw[yL]
   have aG:∀b,ah A4 b->b≠k.B.bm:=λb hb he=>by
    rcases w4_ b hb with hx|hx
    . exact(eO.am b hx).2.1 he
    . have h1:=(k1 hM.Bt eO.km).lt
      have h2:=r3.size;simp at hx;omega
   exact o4.keep (λb hb=>ft _ _ _ _ (aG b hb))
 . rcases w4_ b hb with hx|hx
   . exact .inl hx
   . have:=r3.size
     simp at hx;exact .inr ae
 . obtain⟨e1,e2,e3⟩:=hM.lv s hs
   rw[tq]at e1 e2 e3;refine⟨rfl,by omega,λhp=> ?_⟩;obtain⟨g',zh,f1,f2,f3,f4⟩:=e3 smQ;rw[hA]at f1;injection f1 with f1;injection f1 with f1 f1';subst f1 f1';have wN:¬cp s=1:=by omega
   rw[ax wN]at fL;refine⟨g,off+5,fL,f2,f3,λj hj=> ?_⟩;have:=f4 (j+1) (by simp;omega);rw[List.getD_cons_succ]at this;have e:off+(j+1)*5=off+5+j*5:=by omega
   rw[e]at this;exact this
theorem Pe(h:Bx k rl now ms gs T mu w κ A cp oz Am cm bs σ xs L Tr fl ord N)(hs:s<3)(hd:∀i m,now s=some i->ms[i]?=some m->m.ph.over=true)(tq:rl s=c::rest):
 Calls prog 40 #[.int .i64 (s:Int), .pointer (some ⟨k.B.bn,0,none⟩), .pointer (some ⟨k.B.bl,0,none⟩), .pointer (some ⟨k.B.bq,0,none⟩), .pointer (some ⟨k.B.bm,0,none⟩), .pointer (some ⟨k.B.bt,0,none⟩)] w (VK k rl now ms gs T mu s):=by
 have HH:=ag h;have HD:=ag hd;have HRL:=ag tq;have c1:w.cell? ⟨k.B.bn,0,none⟩=some (.slice (some ⟨k.B.an,0,none⟩) 3 3):=h.mem.cn.cell 0;have c2:w.cell? ⟨k.B.bl,0,none⟩=some (.slice (some ⟨k.B.al,0,none⟩) 3 3):=h.mem.cl.cell 0;have c3:w.cell? ⟨k.B.bq,0,none⟩=some (.pointer (some ⟨k.q,0,none⟩)):=h.mem.cq.cell 0;have hn:=CB.Bb (s:=s) (f:=jo now gs) (a:= .pointer none) (b:= .pointer none) (c:= .pointer none) h.mem.ca hs;have hc:=CB.Bb (s:=s) (f:=λs=> .slice (A s) (rl s).length (cp s)) (a:= .pointer none) (b:= .pointer none) (c:= .pointer none) h.mem.cc hs;obtain⟨_,Hd,SD⟩:=h.mem.lv s hs;rw[tq]at Hd SD;obtain⟨g,off,hA,QX,eh,F_⟩:=SD smQ;have Xb:=F_ 0 smQ;simp only[Nat.zero_mul,Nat.add_zero,List.getD_cons_zero]at Xb;obtain⟨z0,z1,z2,z3,z4⟩:=Xb;simp only[tq,hA,List.length_cons]at hc Hd;have l1:=h.mem.cn.lt;have l2:=h.mem.ca.lt;have l3:=h.mem.cl.lt;have l4:=h.mem.cc.lt;have l5:=h.mem.cq.lt;have hs3:(s:Int)<3:=by omega
 have K7:(0:Int)<=(s:Int):=by omega
 have ig:jo now gs s= .pointer none\/∃gm,jo now gs s= .pointer (some ⟨gm,0,none⟩)/\w.cell? ⟨gm,11,none⟩=some (.bool true)/\gm<w.heap.size:=by
  cases FW:now s with
  |none=>exact .inl (vy FW)
  |some i=>
   obtain⟨m,e1,e2⟩:=h.rn.nw s i FW;have hm:=h.mem.mm i m e1;refine .inr ⟨_,qV FW,?_,hm.cb.lt⟩;have:=hm.cb.cell 11;rw[this];show some (Value.bool m.ph.over)=_
   rw[hd i m FW e1]
 have bU:∀(j:Nat) (mj:TM),ms[j]?=some mj->mj.th=s->mj.ph.over=true:=λj mj hj he=>by
  obtain⟨b,b1,b2,b3⟩:=h.rn.Sy j mj hj;by_cases UU:j=b
  . rw[he]at b1
    exact hd j mj (by rw[UU];exact b1) hj
  . exact b3 UU
 have jf:bs s=none:=h.mem.bo s (λj mj hj ho he=>by rw[bU j mj hj he]at ho;cases ho);have hv:=h.rv s c (by rw[tq];simp);have Hf:=(λ(W:World) (hW:Below w.heap.size w W)=>Gk (h.mem.qu.pm.ko hW) (h.mem.qu.hq.below hW) s ae jf (h.qw.inv.on.err s) c hv);unfold Pq at Hf;have Ht:=ag Hf;clear Hf;obtain⟨B,hB⟩:=aH k.B;obtain⟨q,hq⟩:=aH k.q;have tJ:=ag (And.intro hB hq);have DJ:∀b,κ b≠2->b≠k.q:=λb hb he=>hb (by rw[he];exact h.mem.qu.kq)
 have GL:Hid (k.B.bn≠k.q/\k.B.an≠k.q/\k.B.bl≠k.q/\k.B.al≠k.q/\k.B.bm≠k.q/\k.B.bt≠k.q):=⟨DJ _ (by have:=h.mem.bk.kn;omega),DJ _ (by have:=h.mem.bk.ka;omega),DJ _ (by have:=h.mem.bk.kl;omega),DJ _ (by have:=h.mem.bk.kc;omega),DJ _ (by have:=h.mem.bk.km;omega),DJ _ (by have:=h.mem.bk.kt;omega)⟩;have HGQ:Hid (g≠k.q):=DJ g ae;have HA:=ag hA;rw[hB,hq]at GL;rw[hq]at Ht c3;rw[hB]at c1 c2 c3 hn hc l1 l2 l3 l4 l5 |-;obtain⟨n1,qm⟩:=aH rest.length;have J3:=ag qm;rw[qm]at hc Hd;generalize U4:cp s=Hj at*;have ZcX:(0:Int)<((n1+1:Nat):Int):=by omega
 obtain⟨n2,dS⟩:=aH (n1+1);rw[dS]at hc Hd ZcX;have ZeB:¬n2=0:=by omega
 clear h hd bU jf hv hA QX F_ SD hB hq DJ tq;have GQ:=ag ig;clear ig;rcases GQ.out with hx|⟨g9,hx,z9,zl⟩
 . rw[hx]at hn
   go_enter func40,ntmps40
   go_upto_region 4 with(fail)
   refine kU [0,1,2,3,4,5,6,7] [.h [8,9], .q [10,11,12,13]] krQ (λ_ _ d _ _ h=>by cases d<;>exact h) krQ ?_
   dsimp only[pick,List.filterMap,List.getElem?_cons_zero,List.getElem?_cons_succ]
   (repeat(go_big_quiet_step (fail)));refine cE ?_
   rintro _ ⟨nq,rfl⟩;with_reducible refine fj ?_
   dsimp only[pick,List.filterMap,List.getElem?_cons_zero,List.getElem?_cons_succ];go_wp2_with (go_at_call 31;(with_reducible refine(Ht.out _ aC).mono ?_);rintro e w1 ⟨gm,a,rfl,y1,y2,y3,y4,y5,y6,y7⟩;have Y1:=ag y1;have Y2:=ag y2;have Y3:=ag y3;have Y4:=ag y4;have Y5:=ag y5;have Y6:=ag y6;have Y7:=ag y7;clear y1 y2 y3 y4 y5 y6 y7)
   with_reducible refine gz ?_
   with_reducible refine sS ?_
   dsimp only[pick,List.filterMap,List.getElem?_cons_zero,List.getElem?_cons_succ]
   (repeat(go_big_quiet_step (fail)));refine cE ?_
   rintro _ ⟨Ba,rfl⟩;with_reducible refine gI ?_
   go_upto_region 10 with(fail)
   have dZ:Hid (Ch (At q) w (w1.drewN Ba)):=((Ch.au (S:=At q) (iT (bZ _ _) nq)).trans Y7.out (λb hb _=>hb)).trans (Ch.au (S:=At q) (iT (bZ _ _) Ba)) (λb hb _=>hb);obtain⟨W1,fV⟩:=aH (w1.drewN Ba)
   have Au:Hid (CB W1 gm 40 (zi (tF c.c s) a)/\CB W1 a 107 (iH q s k.NN c.c)/\CB W1 q 117 (aK k.d k.p k.NN k.lines (λi=>if i=s then some a else bs i))):=by
    rw[<-fV];exact⟨Y4.out.drewN Ba,Y5.out.drewN Ba,Y6.out.drewN Ba⟩
   rw[fV]at dZ |-;clear fV;have x1:W1.cell? ⟨B.bn,0,none⟩=_:=(dZ.out.cells B.bn 0 l1 GL.out.1).trans c1;have x2:W1.cell? ⟨B.bl,0,none⟩=_:=(dZ.out.cells B.bl 0 l3 GL.out.2.2.1).trans c2;have x3:W1.cell? ⟨B.an,s,none⟩=_:=(dZ.out.cells B.an s l2 GL.out.2.1).trans hn;have x4:W1.cell? ⟨B.al,s,none⟩=_:=(dZ.out.cells B.al s l4 GL.out.2.2.2.1).trans hc;have x5:W1.frozen? ⟨B.an,s,none⟩=false:=(dZ.out.jE B.an s l2 GL.out.2.1).trans (HH.out.mem.ca|>λh=>by rw[tJ.out.1]at h;exact h.frozen s);have x6:W1.frozen? ⟨B.al,s,none⟩=false:=(dZ.out.jE B.al s l4 GL.out.2.2.2.1).trans (HH.out.mem.cc|>λh=>by rw[tJ.out.1]at h;exact h.frozen s);have v1:=cD l1 dZ.out.size;have v2:=cD l2 dZ.out.size;have v3:=cD l3 dZ.out.size;have v4:=cD l4 dZ.out.size;have eO:=HH.out.mem.bk;rw[tJ.out.1]at eO;have kP:B.al≠B.an:=cC eO.n6;have Zz:B.bl≠B.al:=λhx=>by have h1:=eO.kl;have h2:=eO.kc;rw[hx]at h1;omega
   have hd3:B.bl≠B.an:=λhx=>by have h1:=eO.kl;have h2:=eO.ka;rw[hx]at h1;omega
   have W_:B.bn≠B.al:=λhx=>by have h1:=eO.kn;have h2:=eO.kc;rw[hx]at h1;omega
   have hd5:B.bn≠B.an:=λhx=>by have h1:=eO.kn;have h2:=eO.ka;rw[hx]at h1;omega
   clear c1 c2 c3 hn hc l1 l2 l3 l4 l5 z0 z1 z2 z3 z4 eh;have ZcW:(1:Int)<=((n2:Nat):Int):=by omega
   have Zbt:((n2:Nat):Int)<=((Hj:Nat):Int):=by omega
   obtain⟨A',fL⟩:∃A':Option Addr,A'=if Hj=1 then some ⟨g,off,none⟩else some ⟨g,off+5,none⟩:=⟨_,rfl⟩
   have HA':=ag fL;clear fL;go_cut []from 49 to 60 (λwx=>Aq B s gm (n2-1) (Hj-1) A' W1 wx)
   case first=>
    go_region_with (fail)
    all_goals rw[<-HA'.out]
    all_goals go_wp2
    all_goals go_meet
    all_goals first|exact KZ kP|exact KY kP
   case rest=>
    obtain⟨r1,r2,r3⟩:=hcut;have R1:=ag r1;have R2:=ag r2;have R3:=ag r3;clear r1 r2 r3 x1 x2 x3 x4 x5 x6 v1 v2 v3 v4;have hM:=HH.out.mem;rw[tJ.out.1]at hM;have eD:W1.heap[B.bm]?=w.heap[B.bm]?:=dZ.out.block B.bm hM.Bt.lt GL.out.2.2.2.2.1;have Jf:CB wc B.bm 29 #[.slice Am ms.length cm]:=(hM.Bt.keep eD).keep (R3.out.block B.bm (hM.Bt.keep eD).lt (λhx=>hx.elim eO.n3 eO.n2));have HMC:=ag Jf
    have vN:Sl 35 1 wc Am ms.length cm (gs.map xF):=by
     refine hM.sl.keep (λb hb=> ?_);have e:=eO.am b hb;have px:=hM.sl.lt hb;refine(R3.out.block b (cD px dZ.out.size) (λhx=>hx.elim e.2.2.2.2 e.2.2.2.1)).trans (dZ.out.block b px (λhx=> ?_));have e1:=e.1;have e2:=hM.qu.kq;rw[tJ.out.2]at e2;rw[show b=q from hx]at e1;omega
    have xt:=ag vN;have m0:wc.cell? ⟨B.bm,0,none⟩=some (.slice Am ms.length cm):=Jf.cell 0;have mf:=Jf.frozen 0;have ml:=Jf.lt;have h7:ms.length<=7:=by have:=HH.out.seven;omega
    clear hM Jf vN eD eO kP Zz hd3 W_ hd5;go_upto_region 12 with(at_builtin;refine ay rfl (.tmp 61) (.tmp 63) 29 rfl 35 (.pointer none) 1 8 rfl ae underlying29 vF ae Am ms.length cm (gs.map xF) ⟨wc.heap.size,0,none⟩ 1 1 [.pointer (some ⟨gm,0,none⟩)] rfl rfl (xt.out.keep (λb hb=>d_ _ _ _ (xt.out.lt hb))) rfl ae (mh wc 35 _) (by simp;rfl) ae ?_;intro A4 c4 w4 lU eW mU uM;have Q3:¬ah Am B.bm:=(λhx=>(HH.out.mem.bk|>λh=>(by rw[tJ.out.1]at h;exact(h.am _ hx).2.1 rfl)));have QN:CB w4 B.bm 29 #[.slice Am ms.length cm]:=(HMC.out.below (ai (bZ _ _) _)).keep (eW.out.block _ (HMC.out.below (ai (bZ _ _) _)).lt Q3);have HM4:=ag QN;have n0:w4.cell? ⟨B.bm,0,none⟩=some (.slice Am ms.length cm):=QN.cell 0;have nf:=QN.frozen 0;have nl:=QN.lt;clear QN Q3)
    have Q_:=Qk HH.out hs HD.out HRL.out HA.out J3.out dS U4 Hd HA'.out tJ.out.1 tJ.out.2 Y1.out Y2.out Y3.out Au.out.1 Au.out.2.1 Au.out.2.2 dZ.out ⟨R1.out,R2.out,R3.out⟩ lU.out eW.out mU.out HM4.out;obtain⟨W5,Q7⟩:=aH (w4.setCell ⟨B.bm,0,none⟩ (.slice A4 (ms.length+1) c4));rw[Q7]at Q_ |-;clear Q7 n0 nf nl m0 mf ml;obtain⟨Ge,wP⟩:=Q_;have fX:=ag (λ(W:World) (hW:Below W5.heap.size W5 W)=>HH.out.Zba hs HRL.out HD.out (Ge.bl hW) (λb hb=>ny hb) (wP.trans (Ch.au (S:=λ_=>False) hW) (λ_ hx _=>hx.elim)));rw[tJ.out.1]at fX;have hT:T<1000000:=by have:=HH.out.tb;have:=HH.out.Xn;omega
    have DI:jo (λu=>if u=s then some ms.length else now u) (gs++[gm]) s= .pointer (some ⟨gm,0,none⟩):=by
     unfold jo;simp only[cR,Option.map_some,<-HH.out.mem.lg,eE];rfl
    have u1:W5.cell? ⟨B.bn,0,none⟩=some (.slice (some ⟨B.an,0,none⟩) 3 3):=by have:=Ge.cn.cell 0;rw[tJ.out.1]at this;exact this
    have u2:=CB.Bb (s:=s) (f:=jo (λu=>if u=s then some ms.length else now u) (gs++[gm])) (a:= .pointer none) (b:= .pointer none) (c:= .pointer none) Ge.ca hs;rw[DI,tJ.out.1]at u2;have u3:W5.cell? ⟨B.bt,0,none⟩=some (.int .i64 (T:Int)):=by have:=Ge.ct.cell 0;rw[tJ.out.1]at this;exact this
    have v1:B.bn<W5.heap.size:=by have:=Ge.cn.lt;rw[tJ.out.1]at this;exact this
    have v2:B.an<W5.heap.size:=by have:=Ge.ca.lt;rw[tJ.out.1]at this;exact this
    have v3:B.bt<W5.heap.size:=by have:=Ge.ct.lt;rw[tJ.out.1]at this;exact this
    have e1:IntKind.i64.wrap ((T:Int)+1)=((T+1:Nat):Int):=by rw[b9 _ ae];omega
    obtain⟨T1,Hg⟩:=aH (T+1);rw[Hg]at fX e1;have S1:=ag Hg;clear Ge wP hT DI Hg;refine kU [0,1,2,3,4] [.h [5]] krQ (λ_ _ d _ _ h=>by cases d<;>exact h) krQ ?_
    dsimp only[pick,List.filterMap,List.getElem?_cons_zero,List.getElem?_cons_succ]
    (repeat(go_big_quiet_step (fail)));refine cE ?_
    rintro _ ⟨nq5,rfl⟩;with_reducible refine fj ?_
    dsimp only[pick,List.filterMap,List.getElem?_cons_zero,List.getElem?_cons_succ];go_wp2_with (go_at_call 32;(with_reducible refine(fX.out _ aC).mono ?_);rintro e w2 ⟨rfl,z1,z2,z3,z4,uR,now',oI,hx⟩;have HX:=ag hx;have HMU:=ag z4;clear hx z4)
    with_reducible refine gz ?_
    with_reducible refine gI ?_
    go_wp2;exact bH (v:= .bool true) (by simp[results,results40,go_sem]) rfl ⟨rfl, .inr ⟨HMU.out,uR,now',oI,_,by rw[S1.out];exact HX.out⟩⟩
 . rw[hx]at hn
   go_enter func40,ntmps40
   go_upto_region 4 with(fail)
   refine kU [0,1,2,3,4,5,6,7] [.h [8,9], .q [10,11,12,13]] krQ (λ_ _ d _ _ h=>by cases d<;>exact h) krQ ?_
   dsimp only[pick,List.filterMap,List.getElem?_cons_zero,List.getElem?_cons_succ]
   (repeat(go_big_quiet_step (fail)));refine cE ?_
   rintro _ ⟨nq,rfl⟩;with_reducible refine fj ?_
   dsimp only[pick,List.filterMap,List.getElem?_cons_zero,List.getElem?_cons_succ];go_wp2_with (go_at_call 31;(with_reducible refine(Ht.out _ aC).mono ?_);rintro e w1 ⟨gm,a,rfl,y1,y2,y3,y4,y5,y6,y7⟩;have Y1:=ag y1;have Y2:=ag y2;have Y3:=ag y3;have Y4:=ag y4;have Y5:=ag y5;have Y6:=ag y6;have Y7:=ag y7;clear y1 y2 y3 y4 y5 y6 y7)
   with_reducible refine gz ?_
   with_reducible refine sS ?_
   dsimp only[pick,List.filterMap,List.getElem?_cons_zero,List.getElem?_cons_succ]
   (repeat(go_big_quiet_step (fail)));refine cE ?_
   rintro _ ⟨Ba,rfl⟩;with_reducible refine gI ?_
   go_upto_region 10 with(fail)
   have dZ:Hid (Ch (At q) w (w1.drewN Ba)):=((Ch.au (S:=At q) (iT (bZ _ _) nq)).trans Y7.out (λb hb _=>hb)).trans (Ch.au (S:=At q) (iT (bZ _ _) Ba)) (λb hb _=>hb);obtain⟨W1,fV⟩:=aH (w1.drewN Ba)
   have Au:Hid (CB W1 gm 40 (zi (tF c.c s) a)/\CB W1 a 107 (iH q s k.NN c.c)/\CB W1 q 117 (aK k.d k.p k.NN k.lines (λi=>if i=s then some a else bs i))):=by
    rw[<-fV];exact⟨Y4.out.drewN Ba,Y5.out.drewN Ba,Y6.out.drewN Ba⟩
   rw[fV]at dZ |-;clear fV;have x1:W1.cell? ⟨B.bn,0,none⟩=_:=(dZ.out.cells B.bn 0 l1 GL.out.1).trans c1;have x2:W1.cell? ⟨B.bl,0,none⟩=_:=(dZ.out.cells B.bl 0 l3 GL.out.2.2.1).trans c2;have x3:W1.cell? ⟨B.an,s,none⟩=_:=(dZ.out.cells B.an s l2 GL.out.2.1).trans hn;have x4:W1.cell? ⟨B.al,s,none⟩=_:=(dZ.out.cells B.al s l4 GL.out.2.2.2.1).trans hc;have x5:W1.frozen? ⟨B.an,s,none⟩=false:=(dZ.out.jE B.an s l2 GL.out.2.1).trans (HH.out.mem.ca|>λh=>by rw[tJ.out.1]at h;exact h.frozen s);have x6:W1.frozen? ⟨B.al,s,none⟩=false:=(dZ.out.jE B.al s l4 GL.out.2.2.2.1).trans (HH.out.mem.cc|>λh=>by rw[tJ.out.1]at h;exact h.frozen s);have v1:=cD l1 dZ.out.size;have v2:=cD l2 dZ.out.size;have v3:=cD l3 dZ.out.size;have v4:=cD l4 dZ.out.size;have eO:=HH.out.mem.bk;rw[tJ.out.1]at eO;have kP:B.al≠B.an:=cC eO.n6;have Zz:B.bl≠B.al:=λhx=>by have h1:=eO.kl;have h2:=eO.kc;rw[hx]at h1;omega
   have hd3:B.bl≠B.an:=λhx=>by have h1:=eO.kl;have h2:=eO.ka;rw[hx]at h1;omega
   have W_:B.bn≠B.al:=λhx=>by have h1:=eO.kn;have h2:=eO.kc;rw[hx]at h1;omega
   have hd5:B.bn≠B.an:=λhx=>by have h1:=eO.kn;have h2:=eO.ka;rw[hx]at h1;omega
   clear c1 c2 c3 hn hc l1 l2 l3 l4 l5 z0 z1 z2 z3 z4 eh z9 zl;have ZcW:(1:Int)<=((n2:Nat):Int):=by omega
   have Zbt:((n2:Nat):Int)<=((Hj:Nat):Int):=by omega
   obtain⟨A',fL⟩:∃A':Option Addr,A'=if Hj=1 then some ⟨g,off,none⟩else some ⟨g,off+5,none⟩:=⟨_,rfl⟩
   have HA':=ag fL;clear fL;go_cut []from 49 to 60 (λwx=>Aq B s gm (n2-1) (Hj-1) A' W1 wx)
   case first=>
    go_region_with (fail)
    all_goals rw[<-HA'.out]
    all_goals go_wp2
    all_goals go_meet
    all_goals first|exact KZ kP|exact KY kP
   case rest=>
    obtain⟨r1,r2,r3⟩:=hcut;have R1:=ag r1;have R2:=ag r2;have R3:=ag r3;clear r1 r2 r3 x1 x2 x3 x4 x5 x6 v1 v2 v3 v4;have hM:=HH.out.mem;rw[tJ.out.1]at hM;have eD:W1.heap[B.bm]?=w.heap[B.bm]?:=dZ.out.block B.bm hM.Bt.lt GL.out.2.2.2.2.1;have Jf:CB wc B.bm 29 #[.slice Am ms.length cm]:=(hM.Bt.keep eD).keep (R3.out.block B.bm (hM.Bt.keep eD).lt (λhx=>hx.elim eO.n3 eO.n2));have HMC:=ag Jf
    have vN:Sl 35 1 wc Am ms.length cm (gs.map xF):=by
     refine hM.sl.keep (λb hb=> ?_);have e:=eO.am b hb;have px:=hM.sl.lt hb;refine(R3.out.block b (cD px dZ.out.size) (λhx=>hx.elim e.2.2.2.2 e.2.2.2.1)).trans (dZ.out.block b px (λhx=> ?_));have e1:=e.1;have e2:=hM.qu.kq;rw[tJ.out.2]at e2;rw[show b=q from hx]at e1;omega
    have xt:=ag vN;have m0:wc.cell? ⟨B.bm,0,none⟩=some (.slice Am ms.length cm):=Jf.cell 0;have mf:=Jf.frozen 0;have ml:=Jf.lt;have h7:ms.length<=7:=by have:=HH.out.seven;omega
    clear hM Jf vN eD eO kP Zz hd3 W_ hd5;go_upto_region 12 with(at_builtin;refine ay rfl (.tmp 61) (.tmp 63) 29 rfl 35 (.pointer none) 1 8 rfl ae underlying29 vF ae Am ms.length cm (gs.map xF) ⟨wc.heap.size,0,none⟩ 1 1 [.pointer (some ⟨gm,0,none⟩)] rfl rfl (xt.out.keep (λb hb=>d_ _ _ _ (xt.out.lt hb))) rfl ae (mh wc 35 _) (by simp;rfl) ae ?_;intro A4 c4 w4 lU eW mU uM;have Q3:¬ah Am B.bm:=(λhx=>(HH.out.mem.bk|>λh=>(by rw[tJ.out.1]at h;exact(h.am _ hx).2.1 rfl)));have QN:CB w4 B.bm 29 #[.slice Am ms.length cm]:=(HMC.out.below (ai (bZ _ _) _)).keep (eW.out.block _ (HMC.out.below (ai (bZ _ _) _)).lt Q3);have HM4:=ag QN;have n0:w4.cell? ⟨B.bm,0,none⟩=some (.slice Am ms.length cm):=QN.cell 0;have nf:=QN.frozen 0;have nl:=QN.lt;clear QN Q3)
    have Q_:=Qk HH.out hs HD.out HRL.out HA.out J3.out dS U4 Hd HA'.out tJ.out.1 tJ.out.2 Y1.out Y2.out Y3.out Au.out.1 Au.out.2.1 Au.out.2.2 dZ.out ⟨R1.out,R2.out,R3.out⟩ lU.out eW.out mU.out HM4.out;obtain⟨W5,Q7⟩:=aH (w4.setCell ⟨B.bm,0,none⟩ (.slice A4 (ms.length+1) c4));rw[Q7]at Q_ |-;clear Q7 n0 nf nl m0 mf ml;obtain⟨Ge,wP⟩:=Q_;have fX:=ag (λ(W:World) (hW:Below W5.heap.size W5 W)=>HH.out.Zba hs HRL.out HD.out (Ge.bl hW) (λb hb=>ny hb) (wP.trans (Ch.au (S:=λ_=>False) hW) (λ_ hx _=>hx.elim)));rw[tJ.out.1]at fX;have hT:T<1000000:=by have:=HH.out.tb;have:=HH.out.Xn;omega
    have DI:jo (λu=>if u=s then some ms.length else now u) (gs++[gm]) s= .pointer (some ⟨gm,0,none⟩):=by
     unfold jo;simp only[cR,Option.map_some,<-HH.out.mem.lg,eE];rfl
    have u1:W5.cell? ⟨B.bn,0,none⟩=some (.slice (some ⟨B.an,0,none⟩) 3 3):=by have:=Ge.cn.cell 0;rw[tJ.out.1]at this;exact this
    have u2:=CB.Bb (s:=s) (f:=jo (λu=>if u=s then some ms.length else now u) (gs++[gm])) (a:= .pointer none) (b:= .pointer none) (c:= .pointer none) Ge.ca hs;rw[DI,tJ.out.1]at u2;have u3:W5.cell? ⟨B.bt,0,none⟩=some (.int .i64 (T:Int)):=by have:=Ge.ct.cell 0;rw[tJ.out.1]at this;exact this
    have v1:B.bn<W5.heap.size:=by have:=Ge.cn.lt;rw[tJ.out.1]at this;exact this
    have v2:B.an<W5.heap.size:=by have:=Ge.ca.lt;rw[tJ.out.1]at this;exact this
    have v3:B.bt<W5.heap.size:=by have:=Ge.ct.lt;rw[tJ.out.1]at this;exact this
    have e1:IntKind.i64.wrap ((T:Int)+1)=((T+1:Nat):Int):=by rw[b9 _ ae];omega
    obtain⟨T1,Hg⟩:=aH (T+1);rw[Hg]at fX e1;have S1:=ag Hg;clear Ge wP hT DI Hg;refine kU [0,1,2,3,4] [.h [5]] krQ (λ_ _ d _ _ h=>by cases d<;>exact h) krQ ?_
    dsimp only[pick,List.filterMap,List.getElem?_cons_zero,List.getElem?_cons_succ]
    (repeat(go_big_quiet_step (fail)));refine cE ?_
    rintro _ ⟨nq5,rfl⟩;with_reducible refine fj ?_
    dsimp only[pick,List.filterMap,List.getElem?_cons_zero,List.getElem?_cons_succ];go_wp2_with (go_at_call 32;(with_reducible refine(fX.out _ aC).mono ?_);rintro e w2 ⟨rfl,z1,z2,z3,z4,uR,now',oI,hx⟩;have HX:=ag hx;have HMU:=ag z4;clear hx z4)
    with_reducible refine gz ?_
    with_reducible refine gI ?_
    go_wp2;exact bH (v:= .bool true) (by simp[results,results40,go_sem]) rfl ⟨rfl, .inr ⟨HMU.out,uR,now',oI,_,by rw[S1.out];exact HX.out⟩⟩
end
def uI(l:List aW):List (TC×Nat):=l.map λc=>(c.c,(c.a8%3).toNat)
theorem Uo(l:List aW)(s:Nat):eL (uI l) s=(cX l s).map aW.c:=by
 induction l with
 |nil=>rfl
 |cons c l ih=>
  unfold eL uI cX at ih |-;simp only[oV,sN];by_cases h:c.a8%3=(s:Int)
  . have h2:((c.a8%3).toNat==s)=true:=by simp;omega
    rw[h2];simp only[cR,oV,sQ,h];rw[ih]
  . have h2:((c.a8%3).toNat==s)=false:=by simp;omega
    rw[h2];simp only[eS,dF,sQ,h];exact ih
theorem Pf(l:List aW):(cX l 0).length+(cX l 1).length+(cX l 2).length=l.length:=by
 induction l with
 |nil=>rfl
 |cons c l ih=>
  unfold cX at ih |-;simp only[sN,List.length_cons];have h:c.a8%3=0\/c.a8%3=1\/c.a8%3=2:=by omega
  rcases h with h|h|h<;>(simp[h];simp at ih;omega)
def Iw(rA:Nat->Nat)(w W:World)(B:Eu):Nat->Nat:=λb=>if b<w.heap.size then rA b else if b=B.bm\/b=B.bt\/b=B.an\/b=B.al then 3 else if b<W.heap.size then 1 else 0
section
variable{k:Oa}{rl:Nat->List aW}{now:Nat->Option Nat}{ms:List TM}{gs:List Nat}{T mu:Nat}{w w' W:World}{κ:Nat->Nat}{A:Nat->Option Addr}{cp:Nat->Nat}{oz:List Nat}{Am:Option Addr}{cm:Nat}{bs:Nat->Option Nat}{σ:PwS}{xs:List Int}{L:Nat->Int}{Tr:Nat->TT}{fl:List Nat}{ord:List Nat}{N s i:Nat}{m:TM}
structure Eu.New(B:Eu)(n0:Nat):Prop where
 gn:n0<=B.bn/\n0<=B.bl/\n0<=B.bq/\n0<=B.bm/\n0<=B.bt/\n0<=B.an/\n0<=B.al
 n1:B.bm≠B.bt
 n2:B.bm≠B.an
 n3:B.bm≠B.al
 n4:B.bt≠B.an
 n5:B.bt≠B.al
 n6:B.an≠B.al
 o1:B.bn≠B.bm/\B.bn≠B.bt/\B.bn≠B.an/\B.bn≠B.al
 o2:B.bl≠B.bm/\B.bl≠B.bt/\B.bl≠B.an/\B.bl≠B.al
 o3:B.bq≠B.bm/\B.bq≠B.bt/\B.bq≠B.an/\B.bq≠B.al
theorem X2{cs:List aW}(H:Hk k.rA k.p k.d k.q k.n k.lines k.NN k.t (λ_=>none) k.w0 σ)(Q:TW aR (cP 0) k.n (aF k.NN) k.q0 σ [] N 0 xs L Tr fl [])(hB:Below k.w0.heap.size k.w0 W)(hN:k.B.New k.w0.heap.size)(Nf:∀b,b<k.w0.heap.size->k.rA b<=2)
 (cn:CB W k.B.bn 29 #[.slice (some ⟨k.B.an,0,none⟩) 3 3]) (cl:CB W k.B.bl 90 #[.slice (some ⟨k.B.al,0,none⟩) 3 3]) (cq:CB W k.B.bq 25 #[.pointer (some ⟨k.q,0,none⟩)]) (Bt:CB W k.B.bm 29 #[.slice none 0 0]) (ct:CB W k.B.bt 3 #[.int .i64 0]) (ca:CB W k.B.an 35 #[.pointer none, .pointer none, .pointer none])
 (cc:CB W k.B.al 34 #[.slice (A 0) (cX cs 0).length (cp 0), .slice (A 1) (cX cs 1).length (cp 1), .slice (A 2) (cX cs 2).length (cp 2)]) (hA:∀s,s<3->Sl 33 5 W (A s) (cX cs s).length (cp s) (eI (cX cs s))/\∀b,ah (A s) b->k.w0.heap.size<=b/\b≠k.B.bm/\b≠k.B.bt/\b≠k.B.an/\b≠k.B.al)
 (hcs:k.cs=uI cs) (hl7:cs.length<=7) (hv:∀c∈cs,oF c) (Bp:N+6778*cs.length<=k.Bd) (U9:k.Bd<1000000) (hP:k.NN<1000000) (zE:xr k.lines L):
 Bx k (cX cs) (λ_=>none) [] [] 0 (6778*cs.length) W (Iw k.rA k.w0 W k.B) A cp [] none 0 (λ_=>none) σ xs L Tr fl [] N:=by
 obtain⟨n1,n2,n3,n4,n5,n6,n7⟩:=hN.gn;have old:∀{b:Nat},b<k.w0.heap.size->Iw k.rA k.w0 W k.B b=k.rA b:=λhb=>aA hb
 have r3:∀{b:Nat},k.w0.heap.size<=b->(b=k.B.bm\/b=k.B.bt\/b=k.B.an\/b=k.B.al)->Iw k.rA k.w0 W k.B b=3:=λh1 h2=>by unfold Iw;rw[ax ae,aA h2]
 have r1:∀{b:Nat},k.w0.heap.size<=b->¬(b=k.B.bm\/b=k.B.bt\/b=k.B.an\/b=k.B.al)->b<W.heap.size->Iw k.rA k.w0 W k.B b=1:=λh1 h2 h3=>by unfold Iw;rw[ax ae,ax h2,aA h3]
 have Gh:(0:Nat)<k.w0.heap.size:=H.tab.1;have ZcL:=Pf cs;refine⟨⟨⟨?_,H.hq.below hB,by rw[old H.hq.lt];exact H.kq,H.tab.ch (Ch.au (S:=λ_=>False) hB) (λhx=>hx),by rw[old Gh];exact H.k0,H.hn,H.hP,H.dS⟩,λj mj hj=>by simp at hj,λth _=>rfl,λj mj hj=>by simp at hj,rfl,rfl,cn,cl,cq,Bt,ct,ca,cc,Sl.nil,?_,λs hs=> ?_⟩,Q,?_,?_,?_,λb hb=>old hb,Ch.au hB,λs c hc=>hv c (xe.1 hc).1,by simp;omega,Nf,U9,hP,by omega,zE⟩
 . refine(H.pm.bl hB).less (λb hb=> ?_)
   by_cases hl:b<k.w0.heap.size
   . left;rw[old hl]at hb;exact hb
   . right
     refine⟨by omega,?_⟩;unfold Iw at hb;rw[ax hl]at hb;split at hb
     . rename_i hx
       rcases hx with hx|hx|hx|hx
       . rw[hx];exact Bt.lt
       . rw[hx];exact ct.lt
       . rw[hx];exact ca.lt
       . rw[hx];exact cc.lt
     . split at hb
       . assumption
       . omega
 . have q1:=hN.o1
   have q2:=hN.o2;have q3:=hN.o3;exact⟨r1 n1 ae cn.lt,r1 n2 ae cl.lt,r1 n3 ae cq.lt,r3 n4 (.inl rfl),r3 n5 (.inr (.inl rfl)),r3 n6 (.inr (.inr (.inl rfl))),r3 n7 (.inr (.inr (.inr rfl))),hN.n1,hN.n2,hN.n3,hN.n4,hN.n5,hN.n6,λb hb=>by simp[ah]at hb⟩
 . obtain⟨hS,hO⟩:=hA s hs
   refine⟨rfl,?_,λhp=> ?_⟩
   . rcases hS.2 with⟨_,h1,h2⟩|⟨g,off,cur,h1,h2,h3,_⟩
     . omega
     . exact h3
   . have hlen:=Be (cX cs s)
     obtain⟨g,off,hAe,eh,_⟩:=hS.at_ (j:=0) ae;obtain⟨o1,o2,o3,o4,o5⟩:=hO g (by rw[hAe];rfl);refine⟨g,off,hAe,r1 o1 ae eh,eh,λj hj=> ?_⟩;obtain⟨e1,e2,e3,e4,e5⟩:=JI (cX cs s) j hj;have hc:=hS.cells _ hAe;have had:∀x,(⟨g,off,none⟩:Addr).add x=⟨g,off+x,none⟩:=λx=>by unfold Addr.add;split<;>simp_all
     have h1:=hc _ _ e1;have h2:=hc _ _ e2;have h3:=hc _ _ e3;have h4:=hc _ _ e4;have h5:=hc _ _ e5;rw[had]at h1 h2 h3 h4 h5;exact⟨h1,h2,h3,h4,h5⟩
 . rw[hcs]
   have:=GF.start (uI cs);have e:eL (uI cs)=λs=>(cX cs s).map aW.c:=by funext s;exact Uo cs s
   rw[e]at this;exact this
 . unfold Yp uS
   simp only[sumF];omega
 . omega
def Active(rl:Nat->List aW)(now:Nat->Option Nat)(ms:List TM)(s:Nat):Bool:=(match now s with
 |some i=>match ms[i]? with
  |some m=> !m.ph.over
  |none=>false
 |none=>false)||decide (0<(rl s).length)
theorem Uw(h:Active rl now ms s=false):rl s=[]/\∀i m,now s=some i->ms[i]?=some m->m.ph.over=true:=by
 unfold Active at h;rw[AY]at h;obtain⟨h1,h2⟩:=h;refine⟨by have:=PO h2;exact E9 ae,λi m e1 e2=> ?_⟩;rw[e1]at h1;simp only[e2]at h1;simpa using h1
theorem Qi(h:Active rl now ms s=true):¬(rl s=[]/\∀i m,now s=some i->ms[i]?=some m->m.ph.over=true):=by
 rintro⟨h1,h2⟩;unfold Active at h;rw[h1]at h;simp only[List.length_nil,Nat.lt_irrefl,B3,tY]at h;split at h
 . rename_i i hi
   split at h
   . rename_i m hm
     rw[h2 i m hi hm]at h;simp at h
   . simp at h
 . simp at h
theorem D8.look(h:D8 k rl now ms gs T mu w)(hs:s<3):w.cell? ⟨k.B.bn,0,none⟩=some (.slice (some ⟨k.B.an,0,none⟩) 3 3)/\w.cell? ⟨k.B.bl,0,none⟩=some (.slice (some ⟨k.B.al,0,none⟩) 3 3)/\k.B.bn<w.heap.size/\k.B.bl<w.heap.size/\k.B.an<w.heap.size/\k.B.al<w.heap.size/\
 (∃A' c',w.cell? ⟨k.B.al,s,none⟩=some (.slice A' (rl s).length c'))/\((w.cell? ⟨k.B.an,s,none⟩=some (.pointer none)/\Active rl now ms s=decide (0<(rl s).length))\/∃gm dn,w.cell? ⟨k.B.an,s,none⟩=some (.pointer (some ⟨gm,0,none⟩))/\w.cell? ⟨gm,11,none⟩=some (.bool dn)/\gm<w.heap.size/\Active rl now ms s=(!dn||decide (0<(rl s).length))):=by
 obtain⟨κ,A,cp,oz,Am,cm,bs,σ,xs,L,Tr,fl,ord,N,h⟩:=h;have hn:=CB.Bb (s:=s) (f:=jo now gs) (a:= .pointer none) (b:= .pointer none) (c:= .pointer none) h.mem.ca hs;have hc:=CB.Bb (s:=s) (f:=λs=> .slice (A s) (rl s).length (cp s)) (a:= .pointer none) (b:= .pointer none) (c:= .pointer none) h.mem.cc hs;refine⟨h.mem.cn.cell 0,h.mem.cl.cell 0,h.mem.cn.lt,h.mem.cl.lt,h.mem.ca.lt,h.mem.cc.lt,⟨_,_,hc⟩,?_⟩;cases FW:now s with
 |none=>
  left;refine⟨by rw[hn,vy FW],?_⟩;unfold Active;rw[FW];rfl
 |some i=>
  right;obtain⟨m,e1,e2⟩:=h.rn.nw s i FW;have hm:=h.mem.mm i m e1;refine⟨gs.getD i 0,m.ph.over,by rw[hn,qV FW],?_,hm.cb.lt,?_⟩
  . exact hm.cb.cell 11
  . unfold Active
    rw[FW];simp only[e1]
theorem Ri(h:D8 k rl now ms gs T mu w)(hs:s<3):
 Calls prog 40 #[.int .i64 (s:Int), .pointer (some ⟨k.B.bn,0,none⟩), .pointer (some ⟨k.B.bl,0,none⟩), .pointer (some ⟨k.B.bq,0,none⟩), .pointer (some ⟨k.B.bm,0,none⟩), .pointer (some ⟨k.B.bt,0,none⟩)] w (VK k rl now ms gs T mu s):=by
 obtain⟨κ,A,cp,oz,Am,cm,bs,σ,xs,L,Tr,fl,ord,N,h⟩:=h;by_cases hd:∀i m,now s=some i->ms[i]?=some m->m.ph.over=true
 . cases tq:rl s with
   |nil=>exact Mi h hs hd tq
   |cons c rest=>exact Pe h hs hd tq
 . have:∃i m,now s=some i/\ms[i]?=some m/\m.ph.over=false:=by
    apply Classical.byContradiction
    intro js;apply hd
    intro i m h1 h2;cases ho:m.ph.over with
    |true=>rfl
    |false=>exact absurd ⟨i,m,h1,h2,ho⟩ js
   obtain⟨i,m,h1,h2,h3⟩:=this;exact T5 h hs h1 h2 h3
end
def xh(κ:Nat->Nat):Nat->Nat:=λb=>if κ b<=2 then κ b else 1
theorem KW(κ:Nat->Nat)(b:Nat):xh κ b<=2:=by unfold xh;split<;>omega
theorem KV{κ:Nat->Nat}{b:Nat}(h:xh κ b≠0):κ b≠0:=λh0=>h (by unfold xh;rw[aA ae];exact h0)
theorem ud{κ:Nat->Nat}{b:Nat}(h:κ b<=2):xh κ b=κ b:=aA h
theorem ue{κ:Nat->Nat}{b:Nat}(h:2<κ b):xh κ b=1:=ax ae
structure o_(κ:Nat->Nat)(p d q n lines NN:Nat)(t:Nat->Nat)(w:World)(vs:List (Int×Int))(N:Nat)(σ:PwS)(xs:List Int)(L:Nat->Int)(Tr:Nat->TT)(fl:List Nat):Prop where
 qu:Hk κ p d q n lines NN t (λ_=>none) w σ
 qw:TW aR (cP 0) n (aF NN) vs σ [] N 0 xs L Tr fl []
 k2:∀b,b<w.heap.size->κ b<=2
 xG:xr lines L
def VO(κ:Nat->Nat)(w:World)(A:Option Addr)(c:Nat)(ms:List TM):Prop:=
 ∃gs oz:List Nat,Sl 35 1 w A ms.length c (gs.map xF)/\gs.length=ms.length/\(∀b,ah A b->κ b=1)/\∀(i:Nat) (m:TM),ms[i]?=some m->CB w (gs.getD i 0) 40 (zi m (oz.getD i 0))/\κ (gs.getD i 0)=1
section
variable{k:Oa}{rl:Nat->List aW}{now:Nat->Option Nat}{ms:List TM}{gs:List Nat}{T mu:Nat}{w w':World}{κ:Nat->Nat}{A:Nat->Option Addr}{cp:Nat->Nat}{oz:List Nat}{Am:Option Addr}{cm:Nat}{bs:Nat->Option Nat}{σ:PwS}{xs:List Int}{L:Nat->Int}{Tr:Nat->TT}{fl:List Nat}{ord:List Nat}{N s i:Nat}{m:TM}
theorem wZ.none(h:wZ σ ms)(aS:∀(i:Nat)(m:TM),ms[i]?=some m->m.ph.over=true):wZ σ []:=by
 refine⟨⟨λi m h=>(by simp at h),λi j mi mj h=>(by simp at h)⟩,λi m d r h=>(by simp at h),λi m d a h=>(by simp at h),h.len,λk hk=> ?_,λi j mi mj a a' o o' h=>(by simp at h)⟩;constructor
 . intro hb
   obtain⟨i,m,a,o,h1,h2,_⟩:=(h.bt k hk).1 hb;have:=aS i m h1;rw[fJ h2]at this;cases this
 . rintro⟨i,m,a,o,h,_⟩;simp at h
theorem Bx.rest(h:Bx k rl now ms gs T mu w κ A cp oz Am cm bs σ xs L Tr fl ord N)(aS:∀(i:Nat)(m:TM),ms[i]?=some m->m.ph.over=true):
 o_ (xh κ) k.p k.d k.q k.n k.lines k.NN k.t w (dY k.NN ms k.q0 ord) N σ xs L Tr fl/\VO (xh κ) w Am cm ms/\(∀b,b<k.w0.heap.size->xh κ b=k.rA b)/\Ch (λb=>k.rA b=0\/k.rA b=2) k.w0 w/\N+mu<=k.Bd:=by
 have hq:=h.mem.qu
 have jf:bs=λ_=>none:=by
  funext th
  exact h.mem.bo th (λi m hi ho=>by rw[aS i m hi]at ho;cases ho)
 rw[jf]at hq;refine⟨⟨⟨hq.pm.less (λb hb=>KV hb),hq.hq,by rw[ud (by rw[hq.kq];omega)];exact hq.kq,hq.tab,by rw[ud (by rw[hq.k0];omega)];exact hq.k0,hq.hn,hq.hP,hq.dS⟩,⟨h.qw.inv,eZ.start h.qw.ls.ab h.qw.ls.cn (h.qw.ls.quiet aS),h.qw.sb.none aS⟩,λb _=>KW κ b,h.xG⟩,⟨gs,oz,h.mem.sl,h.mem.lg,λb hb=>ue (by have:=(h.mem.bk.am b hb).1;omega),λi m hi=> ?_⟩,λb hb=> ?_,h.ch,h.bd⟩
 . have hm:=h.mem.mm i m hi
   exact⟨hm.cb,ue (by have:=hm.kg;omega)⟩
 . have h1:=h.old b hb
   have h2:=h.Dx b hb;rw[ud ae];exact h1
theorem o_.ch{p d q n lines NN:Nat}{t:Nat->Nat}{vs:List (Int×Int)}(h:o_ κ p d q n lines NN t w vs N σ xs L Tr fl)(hb:Below w.heap.size w w'):o_ (iY κ w w' 1) p d q n lines NN t w' vs N σ xs L Tr fl:=by
 have gg:=h.qu.hq.lt;have h0:=h.qu.tab.1;refine⟨⟨(h.qu.pm.bl hb).iY,h.qu.hq.below hb,by rw[bc gg];exact h.qu.kq,h.qu.tab.below hb,by rw[bc h0];exact h.qu.k0,h.qu.hn,h.qu.hP,h.qu.dS⟩,h.qw,λb bG=> ?_,h.xG⟩;unfold iY;split
 . omega
 . exact h.k2 b ae
end
end Go.Proofs.YtjkpjakodomnmaaGreatDoor
