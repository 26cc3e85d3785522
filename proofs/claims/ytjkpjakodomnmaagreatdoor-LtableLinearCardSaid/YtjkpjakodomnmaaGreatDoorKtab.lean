/- The base, part 2 (merged). -/
import Derived.Test.YtjkpjakodomnmaaGreatDoorKtaa
import Derived.Test.YtjkpjakodomnmaaGreatDoorRows
import Derived.Test.YtjkpjakodomnmaaGreatDoorTie
import Derived.Lib.LaidTab
import Derived.LaidMore
import Derived.StillTail
import Derived.Deep.Quiet
import Derived.Shelf.Bits.Mul64
import Derived.Deep.RegionHeld3
import Derived.WalkSpells
import Derived.Deep.Cut
import Derived.Maps.RangeWalk
set_option linter.unusedVariables false
set_option linter.unusedSimpArgs false
set_option maxRecDepth 100000
set_option maxHeartbeats 16000000
namespace Go.Proofs.YtjkpjakodomnmaaGreatDoor
open Go.RowKit Go.Proofs.Tryz
abbrev Mm:=@ChangeSpec.witness_shaped
abbrev Cp:=@World.shaped_of_RefB
abbrev BV:=@getD_both
abbrev Ck:=@laidMetH_of_parts3
abbrev Ce:=@laidMet_of_run'
theorem Sl.set{e:TypeId}{size:Nat}{w:World}{g off n c:Nat}{xs:List Value}(h:Sl e size w (some ⟨g,off,none⟩) n c xs){j:Nat}(hj:j<xs.length)(v:Value):Sl e size (w.setCell ⟨g,off+j,none⟩ v) (some ⟨g,off,none⟩) n c (xs.set j v):=by
 refine⟨by rw[lO];exact h.1,?_⟩;rcases h.2 with⟨hA,_⟩|⟨g',zh,cur,hA,hC,hn,hm,vM,ht⟩
 . cases hA
 . injection hA with hA
   injection hA with hA fL;subst hA fL;refine .inr ⟨g,off,_,rfl,hC.set (off+j) v,hn,hm,by simpa using vM,?_⟩;rw[Array.toList_setIfInBounds,<-ht];rw[List.drop_set,ax ae,show off+j-off=j by omega,List.take_set]
theorem Sl.frozen{e:TypeId}{size:Nat}{w:World}{g off n c:Nat}{xs:List Value}(h:Sl e size w (some ⟨g,off,none⟩) n c xs)(j:Nat):w.frozen? ⟨g,j,none⟩=false:=by
 rcases h.2 with⟨hA,_⟩|⟨g',zh,cur,hA,hC,_⟩
 . cases hA
 . injection hA with hA
   injection hA with hA fL;subst hA;exact hC.frozen j
def aq.write(S:aq)(k:Nat)(v:Int):aq:=
 {S with cur:=S.cur.set k v,bA:=S.bA.modify (k/8) λl=>{l with bL:=l.bL++[(8*(k:Int),v)]}}
theorem jS(ws:List (Int×Int))(a b:Int):az (ws++[(a,b)])=az ws++[.int .u64 a, .int .u64 b]:=by simp[az]
theorem sa(ws:List (Int×Int)):(az ws).length=ws.length*2:=by
 induction ws with
 |nil=>rfl
 |cons p ws ih=>simp only[az,yM,dO,List.length_cons,List.length_nil]at*;omega
theorem eT:(prog.info? 95).map (λi=>(i.zero,i.size,i.bytes))=some (some (.agg #[.int .u64 0, .int .u64 0]),2,16):=by kernel_rfl
def Lay.move(L:Lay)(q:Nat)(A:Option Addr)(c:Nat):Lay:=
 {L with ha:=λj=>if j=q then A else L.ha j,hc:=λj=>if j=q then c else L.hc j,role:=λb=>if A.map (·.block)=some b then 21+q else L.role b}
section
variable{w w':World}{d:Nat}{L:Lay}{S:aq}
theorem dw.Pa(h:dw w d L S){k q:Nat}(hk:k<8*S.bA.length)(hq:k/8=q)(v:Int)(A:Option Addr)(c:Nat)
 (hb:∀b,Fp L b->b≠L.lb->b≠L.cb->L.role b≠21+q->w'.heap[b]?=w.heap[b]?) (hs:w.heap.size<=w'.heap.size)
 (hA:∀b,ah A b->ah (L.ha q) b\/w.heap.size<=b)
 (cS:Sl 22 1 w' (some ⟨L.cb,0,none⟩) S.cur.length L.cc (bE (S.cur.set k v)))
 (gg:q<S.bA.length)
 (kF:∀cs,CB w L.lb 197 cs->CB w' L.lb 197 (cs.setIfInBounds (2*q+1) (.slice A (S.bA[q].bL.length+1) c)))
 (MV:Sl 95 2 w' A (S.bA[q].bL.length+1) c (az (S.bA[q].bL++[(8*(k:Int),v)]))):
 dw w' d (L.move q A c) (S.write k v):=by
 have hlen:(S.write k v).bA.length=S.bA.length:=by simp[aq.write]
 have hr:∀b,L.role b≠0->L.role b≠21+q->(L.move q A c).role b=L.role b:=by
  intro b N0 hbq;show(if A.map (·.block)=some b then 21+q else L.role b)=_
  rw[ax];intro fL;rcases hA b fL with h1|h1
  . exact hbq (h.rh q gg b h1)
  . have:=h.fr b N0;omega
 have iy:∀b,Fp L b->L.role b≠4->L.role b≠3->L.role b≠21+q->w'.heap[b]?=w.heap[b]?:=λb hf h4 h3 wJ=>hb b hf (by rintro rfl;exact h4 h.rl) (by rintro rfl;exact h3 h.rc) wJ
 have hg:∀j (hj:j<S.bA.length),(S.write k v).bA[j]'(by rw[hlen];exact hj)=if j=q then{S.bA[q]with bL:=S.bA[q].bL++[(8*(k:Int),v)]}else S.bA[j]:=by
  intro j hj;simp only[aq.write,hq];rw[List.getElem_modify];by_cases mT:q=j
  . subst mT;simp
  . rw[ax mT,ax (λh=>mT h.symm)]
 constructor
 case dev=>
  have:=h.dev.keep (iy d (by unfold Fp;rw[h.rd];omega) (by rw[h.rd];omega) (by rw[h.rd];omega) (by rw[h.rd];omega));simpa [qy,Lay.move,aq.write]using this
 case cg=>exact h.cg.keep λb bG=>by
           have:L.pb=b:=by simpa [ah]using bG
           subst this;exact iy _ (by unfold Fp;rw[h.rp];omega) (by rw[h.rp];omega) (by rw[h.rp];omega) (by rw[h.rp];omega)
 case cur=>simpa [aq.write,Lay.move]using cS
 case np=>rw[hlen];exact h.np
 case nc=>rw[hlen];simpa [aq.write]using h.nc
 case nl=>rw[hlen];exact h.nl
 case lf=>exact h.lf
 case ex=>exact h.ex
 case FG=>
  obtain⟨cs,h1,h2,h3⟩:=h.FG;refine⟨_,kF cs h1,by rw[hlen];simpa using h2,λj hj=> ?_⟩;rw[hlen]at hj;rw[hg j hj];obtain⟨h4,h5⟩:=h3 j hj;by_cases mT:j=q
  . subst mT
    rw[aA rfl];refine⟨?_,?_⟩
    . rw[xg,ax ae];exact h4
    . rw[xg,aA rfl,aA ae]
      simp[Lay.move]
  . rw[ax mT]
    refine⟨?_,?_⟩
    . rw[xg,ax ae];exact h4
    . rw[xg,ax ae,h5]
      simp[Lay.move,mT]
 case Jk=>
  intro j hj;rw[hlen]at hj;rw[hg j hj];by_cases mT:j=q
  . subst mT
    rw[aA rfl];simpa [Lay.move]using MV
  . rw[ax mT]
    have:=(h.Jk j hj).keep (w':=w') λb bG=>iy b (by unfold Fp;rw[h.rh j hj b bG];omega) (by rw[h.rh j hj b bG];omega) (by rw[h.rh j hj b bG];omega) (by rw[h.rh j hj b bG];omega)
    simpa [Lay.move,mT]using this
 case a8=>
  intro j hj;have:=(h.a8 j hj).keep (iy _ (by unfold Fp;rw[h.rt j hj];omega) (by rw[h.rt j hj];omega) (by rw[h.rt j hj];omega) (by rw[h.rt j hj];omega));exact this
 case IL=>
  intro j hj;exact(h.IL j hj).keep (iy _ (by unfold Fp;rw[h.rm j hj];omega) (by rw[h.rm j hj];omega) (by rw[h.rm j hj];omega) (by rw[h.rm j hj];omega))
 case rd=>rw[hr d (by rw[h.rd];omega) (by rw[h.rd];omega)];exact h.rd
 case rp=>exact(hr L.pb (by rw[h.rp];omega) (by rw[h.rp];omega)).trans h.rp
 case rc=>exact(hr L.cb (by rw[h.rc];omega) (by rw[h.rc];omega)).trans h.rc
 case rl=>exact(hr L.lb (by rw[h.rl];omega) (by rw[h.rl];omega)).trans h.rl
 case rt=>intro j hj;exact(hr (L.t j) (by rw[h.rt j hj];omega) (by rw[h.rt j hj];omega)).trans (h.rt j hj)
 case rm=>intro j hj;exact(hr (L.m j) (by rw[h.rm j hj];omega) (by rw[h.rm j hj];omega)).trans (h.rm j hj)
 case rh=>
  intro j hj b bG;rw[hlen]at hj;by_cases mT:j=q
  . subst mT
    have dy:ah A b:=by simpa [Lay.move]using bG
    show(if A.map (·.block)=some b then 21+j else L.role b)=_
    exact aA dy
  . have dy:ah (L.ha j) b:=by simpa [Lay.move,mT]using bG
    have h1:=h.rh j hj b dy;exact(hr b (by rw[h1];omega) (by rw[h1];omega)).trans h1
 case fr=>
  intro b bG;by_cases fL:A.map (·.block)=some b
  . exact MV.lt fL
  . have:L.role b≠0:=by
     intro h0;apply bG
     show(if A.map (·.block)=some b then 21+q else L.role b)=0
     rw[ax fL,h0]
    exact cD (h.fr b this) hs
end
theorem ay{P:Program}{w:World}{ops:Array Oper}{rest:List Oper}{o:Oper}{a:Act}{Q:Exit->Act->World->Prop}(DM:o.guard=none)(s x:Operand)(t:TypeId)
 (ho:o.op= .call {callee:= .builtin .append,args:= #[s,x],argTypes:= #[t,t]}) (e:TypeId) (zv:Value) (size oP:Nat) (I7:zv.cells.size=size) (lR:0<size) (ht:P.underlying t=some (.slice e)) (bp:(P.info? e).map (λi=>(i.zero,i.size,i.bytes))=some (some zv,size,oP)) (AG:oP<=64)
 (A:Option Addr) (n c:Nat) (xs:List Value) (ad:Addr) (m d:Nat) (ys:List Value) (AE:a.eval s= .slice A n c) (MK:a.eval x= .slice (some ad) m d) (cL:Sl e size w A n c xs) (hm:ys.length=m*size) (DK:0<m) (hr:∀j u,ys[j]?=some u->w.cell? (ad.add j)=some u) (hf:∀u∈ys,u.oneCell'=true)
 (hbound:n+m<=1000000000)
 (h:∀A' c' w',Hid (Sl e size w' A' (n+m) c' (xs++ys))->Hid (Ch (ah A) w w')->Hid (∀b,ah A' b->ah A b\/b=w.heap.size)->Hid (c<n+m->A'=some ⟨w.heap.size,0,none⟩)->wpList P ops Q rest (a.put o.dst (.slice A' (n+m) c')) w'):wpList P ops Q (o::rest) a w:=by
 refine Kv DM λK hK=> ?_
 obtain⟨A',c',w',gL,h1,h2,h3,h4⟩:=mB (P:=P) w t o.type e zv size oP I7 lR ht bp AG A n c xs cL ad m d ys hm DK hr hf hbound;unfold Oper.wp execOp;simp only[ho,resolve,invoke,builtin,Ku,Sem.run_pure,Result.andThen_ok,KD,oV,wu,AE,MK,gL];exact hK _ _ (h A' c' w' h1 h2 h3 h4)
theorem jw(w:World)(e:TypeId)(a b:Value):∀(j:Nat) (u:Value),[a,b][j]?=some u->(w.alloc (.cells #[a,b] e)).cell? ((⟨w.heap.size,0,none⟩:Addr).add j)=some u:=by
 intro j u hu;have h1:(⟨w.heap.size,0,none⟩:Addr).add j=⟨w.heap.size,j,none⟩:=by unfold Addr.add;split<;>simp_all
 rw[h1,(CB.new w e #[a,b]).cell j];simpa using hu
def Ah(w:World)(d:Nat)(L:Lay)(S:aq)(w':World):Prop:=
 ∃L',L'.t=L.t/\dw w' d L' S/\Ch (Fp L) w w'/\∀b,Fp L' b->Fp L b\/w.heap.size<=b
theorem TG(w:World)(d:Nat)(L:Lay)(S:aq)(h:dw w d L S)(i:Nat)(hi:i<8)(k:Nat)(hk:k<8*S.bA.length)(v:Int)(hh:∀l∈S.bA,l.bL.length<1000000):
 Calls prog 182 #[.pointer (some ⟨L.t i,0,none⟩), .int .u64 (8*(k:Int)), .int .u64 v] w λe w'=>e= .returned (.tuple #[])/\Ah w d L (S.write k v) w':=by
 have h0:=h.t0 hi;have hl:=h.AR hi;have hd:=h.lt;have h2:=h.FI;have h1:=h.Lu;obtain⟨cs,hcs,Zdk,hcell⟩:=h.FG;obtain⟨q,hq⟩:=aH (k/8);have gg:q<S.bA.length:=by omega
 have G_:=hcs.lt;have wN:=hcs.ik (hcell q gg).2;have Em:=hcs.frozen (2*q+1);rw[Kt 2 q]at wN Em;have hkc:k<S.cur.length:=by rw[h.nc];exact hk
 have hcw:=h.Rv hkc;have gi:=h.Zae;have Zdn:w.frozen? ⟨L.cb,k,none⟩=false:=h.cur.frozen k;have Zy:8*(k:Int)/64=(q:Int):=by omega
 have hd8:8*(k:Int)/8=(k:Int):=by omega
 have K9:=h.nl;have hlen:=hh S.bA[q] (fq gg);have VQ:=ag (h.Jk q gg);have H:=ag h;have Ax:=ag hcs;have HQ:=ag hq;clear h hcs hcell hh Zdk hq;obtain⟨n,hn⟩:=aH (S.bA[q].bL.length);rw[hn]at wN hlen VQ;have HN:=ag hn;clear hn;go_enter func182,ntmps182
 go_wp2_with (at_builtin;refine ay rfl (.tmp 21) (.tmp 25) 92 rfl 95 (.agg #[.int .u64 0, .int .u64 0]) 2 16 rfl ae underlying92 eT ae (L.ha q) n (L.hc q) (az S.bA[q].bL) ⟨w.heap.size,0,none⟩ 1 1 [.int .u64 (8*(k:Int)), .int .u64 v] rfl rfl (VQ.out.keep (λb hb=>d_ w _ b (VQ.out.lt hb))) rfl ae (jw w 95 _ _) (by simp;exact⟨rfl,rfl⟩) ae ?_;intro A2 c2 w2 HO HC HW HG;have KC:Hid (∀b o,b<w.heap.size->L.role b≠21+q->w2.cell? ⟨b,o,none⟩=w.cell? ⟨b,o,none⟩/\w2.frozen? ⟨b,o,none⟩=w.frozen? ⟨b,o,none⟩):=(λb o hb hr=>⟨(HC.out.cells b o (by simp;omega) (λho=>hr (H.out.rh q gg b ho))).trans (World.cell?_alloc_past _ _ _ hb),(HC.out.jE b o (by simp;omega) (λho=>hr (H.out.rh q gg b ho))).trans (World.frozen?_alloc_past _ _ _ hb)⟩);have m0:w2.cell? ⟨L.t i,0,none⟩=some (.pointer (some ⟨d,0,none⟩)):=(KC.out _ _ hl (by rw[H.out.rt i hi];omega)).1.trans h0;have m1:w2.cell? ⟨d,1,none⟩=some (.slice (some ⟨L.cb,0,none⟩) S.cur.length L.cc):=(KC.out _ _ hd (by rw[H.out.rd];omega)).1.trans h1;have m2:w2.cell? ⟨L.lb,q*2+1,none⟩=some (.slice (L.ha q) n (L.hc q)):=(KC.out _ _ G_ (by rw[H.out.rl];omega)).1.trans wN;have m3:w2.frozen? ⟨L.lb,q*2+1,none⟩=false:=(KC.out _ _ G_ (by rw[H.out.rl];omega)).2.trans Em;have m4:w2.cell? ⟨L.cb,k,none⟩=some (.int .u64 S.cur[k]):=(KC.out _ _ gi (by rw[H.out.rc];omega)).1.trans hcw;have m5:w2.frozen? ⟨L.cb,k,none⟩=false:=(KC.out _ _ gi (by rw[H.out.rc];omega)).2.trans Zdn;have r1:¬L.t i=L.lb:=(λhe=>by have a:=H.out.rt i hi;have b:=H.out.rl;rw[he]at a;omega);have r2:¬d=L.lb:=(λhe=>by have a:=H.out.rd;have b:=H.out.rl;rw[he]at a;omega);have r3:¬L.cb=L.lb:=(λhe=>by have a:=H.out.rc;have b:=H.out.rl;rw[he]at a;omega))
 go_end0
 have hC:=HC.out;have lR:w.heap.size+1<=w2.heap.size:=by have:=hC.size;simpa using this
 have js:∀b,L.role b≠21+q->¬ah (L.ha q) b:=λb hr ho=>hr (H.out.rh q gg b ho)
 have hw2:∀b,b<w.heap.size->L.role b≠21+q->w2.heap[b]?=w.heap[b]?:=λb hb hr=>(hC.block b (by simp;omega) (js b hr)).trans (d_ w _ b hb)
 have o8:∀b,ah A2 b->ah (L.ha q) b\/w.heap.size<=b:=λb hb=>(HW.out b hb).imp id (λhe=>by rw[he];simp)
 have SY:∀b,ah A2 b->b≠L.lb/\b≠L.cb:=by
  intro b hb;rcases o8 b hb with h1|h1
  . have h2:=H.out.rh q gg b h1
    exact⟨λhe=>by have:=H.out.rl;rw[<-he]at this;omega,λhe=>by have:=H.out.rc;rw[<-he]at this;omega⟩
  . exact⟨by omega,by omega⟩
 refine⟨rfl,L.move q A2 c2,rfl,H.out.Pa hk HQ.out v A2 c2 ?_ ?_ o8 ?_ gg ?_ ?_,?_,?_⟩
 . intro b hf eD dy xO
   exact(ft _ ⟨L.cb,k,none⟩ _ b dy).trans ((ft _ ⟨L.lb,q*2+1,none⟩ _ b eD).trans (hw2 b (H.out.fr b hf) xO))
 . simp;omega
 . have e1:=(H.out.cur.keep (w':=w2.setCell ⟨L.lb,q*2+1,none⟩ (.slice A2 (n+1) c2)) λb hb=>by
    have qp:L.cb=b:=by simpa [ah]using hb
    subst qp;exact(ft _ ⟨L.lb,q*2+1,none⟩ _ _ r3).trans (hw2 _ gi (by rw[H.out.rc];omega))).set (j:=k) (by rw[dW];exact hkc) (.int .u64 v)
   rw[cY]at e1;have e2:bE (S.cur.set k v)=(bE S.cur).set k (.int .u64 v):=by simp[bE,yR]
   rw[e2];exact e1
 . intro cs' Zdl
   have e1:CB w2 L.lb 197 cs':=Zdl.keep (hw2 _ G_ (by rw[H.out.rl];omega));have e2:=(e1.set (q*2+1) (.slice A2 (n+1) c2)).far (p:=⟨L.cb,k,none⟩) (λhe=>r3 he.symm) (.int .u64 v);rw[HN.out,Kt 2 q];exact e2
 . have e1:=HO.out.keep (w':=(w2.setCell ⟨L.lb,q*2+1,none⟩ (.slice A2 (n+1) c2)).setCell ⟨L.cb,k,none⟩ (.int .u64 v)) λb hb=>
    (ft _ ⟨L.cb,k,none⟩ _ b (SY b hb).2).trans (ft _ ⟨L.lb,q*2+1,none⟩ _ b (SY b hb).1)
   rw[jS,HN.out];exact e1
 . have e1:Ch (Fp L) w w2:=((Ch.refl (Fp L) w).alloc _).trans hC (λb hb _=>by unfold Fp;rw[H.out.rh q gg b hb];omega)
   exact(e1.setCell (a:=⟨L.lb,q*2+1,none⟩) (.inl (by show Fp L L.lb;unfold Fp;rw[H.out.rl];omega)) _).setCell (a:=⟨L.cb,k,none⟩) (.inl (by show Fp L L.cb;unfold Fp;rw[H.out.rc];omega)) _
 . intro b hb
   by_cases fL:ah A2 b
   . rcases o8 b fL with h1|h1
     . left;unfold Fp;rw[H.out.rh q gg b h1];omega
     . exact .inr h1
   . left
     intro h0;apply hb
     exact(ax fL).trans h0
def aq.store(S:aq)(i:Nat)(off v:Int):aq:=if S.lG (S.cQ off)then(S.cnt i (S.cQ off)).write (off/8).toNat v else S.cnt i (S.cQ off)
theorem Ah.refl{w:World}{d:Nat}{L:Lay}{S:aq}{w':World}(h:dw w' d L S)(hc:Ch (Fp L) w w'):Ah w d L S w':=⟨L,rfl,h,hc,λ_ h=> .inl h⟩
theorem zR(S:aq)(i:Nat)(e:Int):(S.fail i e).bA=S.bA/\(S.fail i e).cur=S.cur:=by
 unfold aq.fail;split<;>exact⟨rfl,rfl⟩
theorem Yj(S:aq)(i:Nat)(b:Bool):(S.on i b).bA=S.bA/\(S.on i b).cur=S.cur:=by
 unfold aq.on;split
 . exact zR _ _ _
 . split
   . exact⟨rfl,rfl⟩
   . exact zR _ _ _
theorem xU(S:aq)(i:Nat)(b:Bool):(S.cnt i b).bA=S.bA/\(S.cnt i b).cur=S.cur:=by
 unfold aq.cnt;split
 . exact Yj _ _ _
 . split
   . split
     . exact zR _ _ _
     . exact⟨rfl,rfl⟩
   . exact⟨rfl,rfl⟩
theorem oC{S:aq}{b:Bool}(h:S.lG b=true):b=true:=by
 unfold aq.lG aq.Dn at h;simp only[kz]at h;exact h.1.2
theorem TH(w:World)(d:Nat)(L:Lay)(S:aq)(h:dw w d L S)(i:Nat)(hi:i<8)(off:Int)(mL:0<=off/\off<18446744073709551616)(v:Int)(hh:∀l∈S.bA,l.bL.length<1000000):
 Calls prog 172 #[.pointer (some ⟨L.t i,0,none⟩), .int .u64 off, .int .u64 v] w λe w'=>e= .returned (.tuple #[])/\Ah w d L (S.store i off v) w':=by
 have h0:=h.t0 hi;have hl:=h.AR hi;have H:=ag h;have J0:=ag mL;have HH:=ag hh;obtain⟨o1,o2⟩:=mL;clear h hh;obtain⟨b,hb⟩:=aH (S.cQ off)
 have CT:Hid (Calls prog 96 #[.pointer (some ⟨L.t i,0,none⟩), .int .u64 off] w λe w'=>e= .returned (.bool b)/\w=w'):=by
  have:=Ia w d L S H.out i hi off J0.out;rwa[hb]at this
 cases dP:S.lG b
 . have HE:Hid (S.store i off v=S.cnt i b):=by show _=_;simp[aq.store,hb,dP]
   have BD:Hid (Calls prog 143 #[.pointer (some ⟨L.t i,0,none⟩), .bool b] w λe w'=>e= .returned (.bool false)/\dw w' d L (S.cnt i b)/\Ch (Fp L) w w'):=by
    have:=kR w d L S H.out i hi b;rwa[dP]at this
   clear hb dP;go_enter func172,ntmps172
   go_wp2_with (first|(go_at_call 96;refine CT.out.mono ?_;rintro e w' ⟨rfl,rfl⟩)|(go_at_call 143;refine BD.out.mono ?_;rintro e w1 ⟨rfl,hD,hC⟩;have HD:=ag hD;have HC:=ag hC;clear hD hC))
   exact bH (v:= .tuple #[]) (by simp[results,results172,go_sem]) rfl (by rw[HE.out];exact⟨rfl,Ah.refl HD.out HC.out⟩)
 . obtain rfl:=oC dP
   obtain⟨k,iy,fC,wL⟩:=sC hb o1
   have HE:Hid (S.store i off v=(S.cnt i true).write k v):=by
    show _=_
    unfold aq.store;rw[hb,dP,aA rfl,fC,Int.toNat_natCast]
   have BD:Hid (Calls prog 143 #[.pointer (some ⟨L.t i,0,none⟩), .bool true] w λe w'=>e= .returned (.bool true)/\dw w' d L (S.cnt i true)/\Ch (Fp L) w w'):=by
    have:=kR w d L S H.out i hi true;rwa[dP]at this
   have x8:=ag (xU S i true).1;subst iy;clear hb dP fC;go_enter func172,ntmps172
   go_wp2_with (first|(go_at_call 96;refine CT.out.mono ?_;rintro e w' ⟨rfl,rfl⟩)|(go_at_call 143;refine BD.out.mono ?_;rintro e w1 ⟨rfl,hD,hC⟩;have HD:=ag hD;have HC:=ag hC;clear hD hC))
   refine(TG _ d L (S.cnt i true) HD.out i hi k (by rw[x8.out];exact wL) v (by rw[x8.out];exact HH.out)).mono ?_;rintro e w2 ⟨rfl,L',hL,o6,cz,Xj⟩;have LH:=ag o6;have dh:=ag cz;have Hq:=ag Xj;have HL:=ag hL;clear hL o6 cz Xj;go_wp2;go_end0
   rw[HE.out];exact⟨rfl,L',HL.out,LH.out,HC.out.trans dh.out (λ_ h _=>h),λb hb=>(Hq.out b hb).imp id (λh=>f_ HC.out.size h)⟩
def Tab(w:World):Prop:=0<w.heap.size/\∀j,j<16->w.cell? ⟨0,j,none⟩=some (.int .u32 (nibT.getD j 0:Nat))
theorem Tab.below{w w':World}(h:Tab w)(hb:Below w.heap.size w w'):Tab w':=⟨cD h.1 hb.size,λj hj=>(hb.cell (p:=⟨0,j,none⟩) h.1).trans (h.2 j hj)⟩
theorem Qj(j:Nat):nibT.getD j 0<4294967296:=by
 by_cases h:j<16
 . have:∀j,j<16->nibT.getD j 0<4294967296:=by decide
   exact this j h
 . rw[eY,oY (show nibT.length<=j by simp[nibT];omega)];decide
theorem Vu(w:World)(hT:Tab w)(r b:Nat)(hr:r<4294967296)(hb:b<256):
 Calls prog 190 #[.int .u32 (r:Int), .int .u8 (b:Int)] w λe w'=>e= .returned (.int .u32 ((crTi 8 (r^^^b):Nat):Int))/\w=w':=by
 obtain⟨x,hx⟩:=aH (r^^^b);have ZcD:x<4294967296:=by rw[<-hx];exact Dg (n:=32) ae ae
 have HE:Hid (crTi 8 x=(x/16^^^nibT.getD (x%16) 0)/16^^^nibT.getD ((x/16^^^nibT.getD (x%16) 0)%16) 0):=by
  show _=_
  rw[show(8:Nat)=4+4 from rfl,z_,CP,CP]
 rw[hx];have e1:IntKind.u32.wrap (b:Int)=(b:Int):=IntWalk.u32_in _ ae;have e2:bits .xor .u32 (r:Int) (b:Int)=((x:Nat):Int):=by rw[Ks _ _ hr ae,hx]
 have f1:=hT.2 (x%16) ae;obtain⟨n1,qm⟩:=aH (nibT.getD (x%16) 0);have jB:n1<4294967296:=by rw[<-qm];exact Qj _
 obtain⟨y,hy⟩:=aH (x/16^^^n1);have ZcC:y<4294967296:=by rw[<-hy];exact Dg (n:=32) ae ae
 have e3:bits .xor .u32 ((x:Int)/16) (n1:Int)=((y:Nat):Int):=by
  rw[show((x:Int)/16)=((x/16:Nat):Int) by omega,Ks _ _ ae jB,hy]
 have f2:=hT.2 (y%16) ae;obtain⟨n2,dS⟩:=aH (nibT.getD (y%16) 0);have ju:n2<4294967296:=by rw[<-dS];exact Qj _
 rw[qm]at f1;rw[dS]at f2
 have e4:bits .xor .u32 ((y:Int)/16) (n2:Int)=((y/16^^^n2:Nat):Int):=by
  rw[show((y:Int)/16)=((y/16:Nat):Int) by omega,Ks _ _ ae ju]
 have m1:bits .and .u32 (x:Int) 15=((x%16:Nat):Int):=by
  rw[show(15:Int)=((15:Nat):Int)from rfl,u32_and_nat _ _ ZcD ae,nat_mask4]
 have m2:bits .and .u32 (y:Int) 15=((y%16:Nat):Int):=by
  rw[show(15:Int)=((15:Nat):Int)from rfl,u32_and_nat _ _ ZcC ae,nat_mask4]
 have Zei:x%16<16:=by omega
 have Zeh:y%16<16:=by omega
 have HF:Hid (crTi 8 x=y/16^^^n2):=by
  show _=_
  rw[HE.out,qm,hy,dS]
 clear qm dS HE hx hy hT;go_enter func190,ntmps190
 go_wp2;go_ret;refine⟨?_,rfl⟩;rw[HF.out];rfl
theorem Vv(j r v:Nat)(hj:j<8):crTi (8*(8-j)) (r^^^v)=crTi (8*(8-(j+1))) (crTi 8 (r^^^v%256)^^^v/256):=by
 rw[show 8*(8-j)=8+8*(8-(j+1)) by omega,z_];congr 1;conv=>lhs;rw[BQ v 8]
 rw[Nat.xor_comm (v/2^8*2^8),<-yT,zX,zZ]
theorem LO(v:Nat)(hv:v<4294967296):bits .xor .u32 (if IntKind.u32.signed=true then -1 else IntKind.u32.max) (v:Int)=((4294967295^^^v:Nat):Int):=by
 show bits .xor .u32 ((4294967295:Nat):Int) (v:Int)=_
 rw[Ks _ _ ae hv]
theorem Rx(w:World)(hT:Tab w)(A:Option Addr)(n c:Nat)(xs:List Int)(hx:xs.length=n)(hn:n<=1000)(hR:Rd .u64 w A xs)(hF:Fits xs):
 Calls prog 180 #[.slice A n c] w λe w'=>e= .returned (.int .u32 (aR xs))/\w=w':=by
 have HT:=ag hT;have HR:=ag hR;have HX:=ag hx;have HF:=ag hF;obtain⟨F,hFF⟩:=aH (crW 4294967295 (My xs));have Ze8:F<4294967296:=by rw[<-hFF];exact JF _ _ (by decide) (K0 hF)
 have HS:Hid (aR xs=((4294967295^^^F:Nat):Int)):=by show _=_;unfold aR RA;rw[hFF]
 have HFF:=ag hFF;clear hT hR hx hF hFF;go_enter func180,ntmps180
 go_wp2;go_loopw [8,3,5,10,11,12,13,14,15,16,17,18,19,20,21,9] (λi r _ _ _ _ _ _ _ _ _ _ _ _ _ _ wr=>∃k r0:Nat,k<=n/\i= .int .i64 k/\r= .int .u32 (r0:Int)/\r0<4294967296/\crW r0 (My (xs.drop k))=F/\w=wr) (λi _ _ _ _ _ _ _ _ _ _ _ _ _ _ _ _=>n-(intOf i).toNat)
 case atStart=>exact⟨0,4294967295,by omega,rfl,rfl,by omega,HFF.out,rfl⟩
 case round=>
  obtain⟨k,r0,hk,rfl,rfl,NU,DN,rfl⟩:=hrel;have HCR:=ag DN;clear DN;by_cases aM:k<n
  . have dx:(k:Int)<(n:Int):=by omega
    have Jg:k<xs.length:=by rw[HX.out];exact aM
    obtain⟨b1,o1,rfl,eD,wN⟩:=HR.out.at_ Jg;have wT:=HF.out _ (fq Jg);obtain⟨v0,G4⟩:=vr wT.1;rw[G4]at wN wT;have Zem:v0<18446744073709551616:=by omega
    have HG:Hid (crW (crTi 64 (r0^^^v0)) (My (xs.drop (k+1)))=F):=by
     show _=_
     have:=HCR.out;rw[List.drop_eq_getElem_cons Jg]at this;unfold My at this;rw[oV,G4,Int.toNat_natCast]at this;exact this
    obtain⟨G,hG⟩:=aH (crTi 64 (r0^^^v0))
    have Ze7:G<4294967296:=by
     rw[<-hG];exact JF [v0] r0 ae (λw hw=>by rw[gH.1 hw];omega)
    have HGG:=ag hG;rw[hG]at HG;clear wT G4 hG HCR;go_wp2;go_loopw [12,3,5,13,14,15,16,17,18,19,20] (λi r v _ _ _ _ _ _ _ _ wr=>∃j r1 v1:Nat,j<=8/\i= .int .i64 j/\r= .int .u32 (r1:Int)/\r1<4294967296/\v= .int .u64 (v1:Int)/\v1<2^(64-8*j)/\crTi (8*(8-j)) (r1^^^v1)=G/\w=wr) (λi _ _ _ _ _ _ _ _ _ _ _=>8-(intOf i).toNat)
    case atStart=>exact⟨0,r0,v0,by omega,rfl,rfl,NU,rfl,by omega,HGG.out,rfl⟩
    case round=>
     obtain⟨j,r1,v1,hj,rfl,rfl,QF,rfl,SE,bh,rfl⟩:=hrel;have fX:=ag bh;have HV:=ag SE;have Zen:v1<18446744073709551616:=cD SE (yN ae (show 64-8*j<=64 by omega));clear bh SE;by_cases hj8:j<8
     . have ZeQ:(j:Int)<8:=by omega
       have e1:IntKind.u8.wrap (v1:Int)=((v1%256:Nat):Int):=by rw[IntKind.wrap_u8'];omega
       have CG:crTi 8 (r1^^^v1%256)<4294967296:=xT 8 (Dg (n:=32) ae ae);go_wp2_with (go_at_call 190;refine(Vu _ HT.out r1 (v1%256) QF ae).mono ?_;rintro e w' ⟨rfl,rfl⟩)
       go_roundw
       case rel=>
        refine⟨j+1,crTi 8 (r1^^^v1%256),v1/256,by omega,by go_num,rfl,CG,by congr 1,?_,?_,by first|rfl|trivial⟩
        . have:=HV.out
          rw[show 64-8*j=64-8*(j+1)+8 by omega,Nat.pow_add]at this;exact Nat.div_lt_of_lt_mul (by rw[Kt];exact this)
        . rw[<-Vv j r1 v1 hj8];exact fX.out
       case measure=>simp[intOf];omega
     . obtain rfl:j=8:=by omega
       have G4:v1=0:=by have:=HV.out;simpa using this
       have hrG:r1=G:=by have:=fX.out;rw[G4,B0]at this;exact this
       subst G4 hrG;go_wp2;go_roundw
       case rel=>exact⟨k+1,r1,by omega,by go_num,rfl,QF,HG.out,by first|rfl|trivial⟩
       case measure=>simp[intOf];omega
  . obtain rfl:k=n:=by omega
    have hrF:r0=F:=by
     have:=HCR.out;rwa[PW (by rw[HX.out];omega)]at this
    subst hrF;have aS:=LO r0 NU;go_wp2;go_ret;exact⟨by rw[HS.out];rfl,rfl⟩
theorem gTab:prog.globalNamed "bedrock/crc.nibbles" =some 0:=by kernel_rfl
theorem gTabT:(prog.globals[0]?).map (·.type)=some 259:=by kernel_rfl
theorem tab_of_laid{W:World}(h:laidMetH prog [("bedrock/crc.nibbles",Rows.laid_bedrock_crc_nibbles)] W):Tab W:=by
 rw[MakeChecks.laidMetH_plain _ _ _ krQ]at h;have h2:laidMet prog [("bedrock/crc.nibbles",Lib.tabData .u32 (nibT.map fun(n:Nat)=>(n:Int)))] W:=h;have h3:=Lib.tabIs_of_head gTab gTabT underlying259 underlying215 krQ krQ h2
 have hc:∀j,j<16->W.cell? ⟨0,j,none⟩=some (.int .u32 (nibT.getD j 0:Nat)):=by
  intro j hj;have:=h3.cell gTab j (by simpa [nibT]using hj);rw[this];congr 2;have iz:j<nibT.length:=hj;simp[List.getD,iz]
 exact⟨sR W _ (hc 0 (by decide)),hc⟩
section
variable{P:Program}{ops:Array Oper}{md:Region.Mode}{C:World->Prop}
def yg(P:Program)(md:Region.Mode)(ops:Array Oper)(C:World->Prop)(n:Nat)(L:Array Bool->Act->Prop):Nat->Array Bool->Act->Prop
 |0,listed,a=>L listed a
 |f+1,listed,a=>
  Region.ready md ops listed≠[]/\∀i∈Region.ready md ops listed,i<n/\qOp P ops C i (yg P md ops C n L f (listed.setIfInBounds i true)) a
theorem pC{n g:Nat}{L:Array Bool->Act->Prop}{Q':Exit->Act->World->Prop}(hL:∀listed a w,C w->L listed a->wpAny P md ops Q' g listed a w):
 ∀(f:Nat) (listed:Array Bool) (a:Act) (w:World),C w->yg P md ops C n L f listed a->wpAny P md ops Q' (f+g) listed a w
 |0,listed,a,w,hw,h=>by rw[cY];exact hL _ _ _ hw h
 |f+1,listed,a,w,hw,h=>by
  rw[show f+1+g=(f+g)+1 by omega];exact⟨λh0=>absurd h0 h.1,λi hi=>wpOp_of_qOp hw (λa' w' hw' h'=>pC hL f _ a' w' hw' h') (h.2 i hi).2⟩
theorem CZ{n i:Nat}{oi:Oper}{v:Value}{L:Array Bool->Act->Prop}(hi:ops[i]?=some oi)(ja:∀(j:Nat)(o:Oper) cs b,ops[j]?=some o->o.op≠ .select cs b)
 (hs:Region.sinkB md ops n=true) (hc:Region.chainB md ops n=true) (hn:n<ops.size) (nQ:i<n)
 (Q0:∀listed a,L listed a->∀j∈Region.ready md ops listed,n<=j):
 ∀(f:Nat) (listed:Array Bool) (a:Act),HeadInv md ops n listed->
  (∀j oj,ops[j]?=some oj->j≠i->listed.getD j true=false->(∀e∈oj.after,Region.binds md e=true->e.on≠i)->oi.apart ops oj=true)->
  i∈Region.ready md ops listed->YieldsIn P ops C oi v a->
  yg P md ops C n L f (listed.setIfInBounds i true) (a.put oi.dst v)->yg P md ops C n L (f+1) listed a:=by
 intro f;induction f with
 |zero=>
  intro listed a inv _ hr hy H;have Bf:=(lq.1 hr).1;refine⟨λh=>(by rw[h]at hr;cases hr),λj hj=> ?_⟩
  have El:j<n:=by
   rcases Nat.lt_or_ge j n with h|h
   . exact h
   . exact absurd hj (tail_waits hs hc hn inv _ i rfl nQ Bf j h)
  refine⟨El,?_⟩;by_cases eb:j=i
  . subst eb;exact hy.qOp hi H
  . have:=Q0 _ _ H j (tX hj eb)
    omega
 |succ f ih=>
  intro listed a inv oN hr hy H;have Bf:=(lq.1 hr).1;refine⟨λh=>(by rw[h]at hr;cases hr),λj hj=> ?_⟩
  have El:j<n:=by
   rcases Nat.lt_or_ge j n with h|h
   . exact h
   . exact absurd hj (tail_waits hs hc hn inv _ i rfl nQ Bf j h)
  refine⟨El,?_⟩;by_cases eb:j=i
  . subst eb;exact hy.qOp hi H
  . have h1:=(H.2 j (tX hj eb)).2
    obtain⟨F5,oj,xl,aS⟩:=lq.1 hj
    have Je:∀e∈oj.after,Region.binds md e=true->e.on≠i:=λe he hb heq=>by
     have h1:=aS e he hb;rw[heq,BV Bf]at h1;cases h1
    have h2:=qOp_put xl (oN j oj xl eb F5 Je) (λcs b=>ja i oi cs b hi) (λcs b=>ja j oj cs b xl) hy h1
    have Jm:∀k ok,ops[k]?=some ok->k≠i->(listed.setIfInBounds j true).getD k true=false->
     (∀e∈ok.after,Region.binds md e=true->e.on≠i)->oi.apart ops ok=true:=λk ok hk hki Bf js=>by
     refine oN k ok hk hki ?_ js;by_cases F6:j=k
     . subst F6;exact F5
     . rw[Fc true F6]at Bf;exact Bf
    refine qOp_mono (λa' h3=>ih (listed.setIfInBounds j true) a' (inv.set hj El) Jm (tX hr (cC eb)) h3.1 ?_) h2;rw[PY _ _ eb];exact h3.2
theorem ye{n g:Nat}{Lq:Act->Prop}(ja:Region.noSelect ops=true)(hs:Region.sinkB md ops n=true)(hc:Region.chainB md ops n=true)(hn:n<ops.size):
 ∀(l:List Oper) (k:Nat) (listed:Array Bool) (a:Act),(∀j,j<l.length->l[j]?=ops[k+j]?)->k+l.length=n->HeadInv md ops n listed->
 Region.lexHead md ops g l.length k listed=true->wpQuiet P ops C Lq l a->
 yg P md ops C n (λej a'=>Region.seqB md ops g n ej=true/\Lq a') l.length listed a
 |[],k,listed,a,_,hk,_,hB,h=>by
  have:k=n:=by simpa using hk
  subst this;exact⟨by simpa [Region.lexHead]using hB,h⟩
 |o::l,k,listed,a,hl,hk,inv,hB,h=>by
  have h0:ops[k]?=some o:=by simpa using(hl 0 smQ).symm
  simp only[List.length_cons,Region.lexHead,kz]at hB;obtain⟨⟨hr,hf⟩,hB'⟩:=hB;have zF:k<n:=by simp only[List.length_cons]at hk;omega
  have DG:k∈Region.ready md ops listed:=by simpa using hr
  have bh:qOp P ops C k (wpQuiet P ops C Lq l) a:=by unfold qOp;simp only[h0];exact h
  obtain⟨v,hy,hK⟩:=yieldsIn_of_qOp h0 bh
  exact CZ h0 (KO ja) hs hc hn zF (λej a' hL=>seqB_ready hL.1) l.length listed a inv (KF h0 hf) DG hy
   (ye ja hs hc hn l (k+1) _ _ (λj hj=>by have:=hl (j+1) (by simp;omega);simpa [sL,Nat.add_comm 1 j]using this) (by simp only[List.length_cons]at hk;omega) (inv.set DG zF) hB' hK)
theorem jR{id:Nat}{Q:Exit->Act->World->Prop}{a:Act}{w:World}{l:List Oper}(n:Nat)(hm:P.follows .mixedOrders=true)(hB:Region.lexTailB .any l.toArray n=true)(hC:C {w with drawn:=w.drawn+1})
 (h:wpQuiet P l.toArray C (λa'=>∀w',C w'->wpList P l.toArray Q (l.drop n) a' w') (l.take n) a):(Code.region id l.toArray true).wp P Q a w:=by
 simp only[Region.lexTailB,kz,sQ]at hB;obtain⟨⟨⟨⟨ja,hn⟩,hs⟩,hc⟩,Zc5⟩:=hB;have G8:n<l.length:=by simpa using hn
 have htl:(l.take n).length=n:=by simp;omega
 have U2:(l.drop n).length=l.toArray.size-n:=by simp
 have Zcz:HeadInv .any l.toArray n (Array.replicate l.toArray.size false):=
  ⟨by simp,λj oj _ hl=>(by rw[getD_replicate_false]at hl;cases hl),λt _ ht=>getD_in (by simpa using ht) (getD_replicate_false _ _)⟩
 have H:=ye (md:= .any) (C:=C) (g:=l.toArray.size-n) ja hs hc hn (l.take n) 0 _ a (λj hj=>by
  have iz:j<n:=by rw[htl]at hj;exact hj
  simp[iz]) (by simpa using htl) Zcz (by rw[htl];exact Zc5) h
 refine wp_region_any hm ?_
 have:=pC (Q':=Q) (g:=l.toArray.size-n) (λlisted a' w' hw' hL=>by
  have:=wpAny_of_seq (md:= .any) (Q':=Q) (l.drop n) n listed a' w' (λj=>by simp[Fk]) (by rw[U2];exact hL.1) (hL.2 w' hw');rwa[U2]at this) _ _ _ _ hC H
 rw[htl,show n+(l.toArray.size-n)=l.toArray.size by omega]at this;exact this
theorem aL{id:Nat}{Q:Exit->Act->World->Prop}{a:Act}{w:World}{l:List Oper}(n:Nat)(hm:P.follows .mixedOrders=true)(hB:Region.lexTailB .any l.toArray n=true)
 (h:wpQuiet P l.toArray (λw'=>∃x:BX w,w'=x.w) (λa'=>∀w',(∃x:BX w,w'=x.w)->wpList P l.toArray Q (l.drop n) a' w') (l.take n) a):(Code.region id l.toArray true).wp P Q a w:=
 jR (C:=λw'=>∃x:BX w,w'=x.w) n hm hB ⟨⟨w.drew,(bZ _ _).drew⟩,rfl⟩ h
theorem b_{id:Nat}{Q:Exit->Act->World->Prop}{a:Act}{w:World}{l:List Oper}(n:Nat)(hm:P.follows .mixedOrders=true)(hB:Region.lexTailB .any l.toArray n=true)
 (h:wpQuiet P l.toArray (λw'=>∃m,w'=w.drewN m) (λa'=>∀w',(∃m,w'=w.drewN m)->wpList P l.toArray Q (l.drop n) a' w') (l.take n) a):(Code.region id l.toArray true).wp P Q a w:=
 jR (C:=λw'=>∃m,w'=w.drewN m) n hm hB ⟨1,rfl⟩ h
end
theorem iO:(prog.info? 22).map (λi=>(i.zero,i.size,i.bytes))=some (some (.int .u64 0),1,8):=by kernel_rfl
theorem Pk{w:World}{g off:Nat}{xs:List Int}(h:Rd .u64 w (some ⟨g,off,none⟩) xs):∀(j:Nat) (u:Value),(bE xs)[j]?=some u->w.cell? ((⟨g,off,none⟩:Addr).add j)=some u:=by
 intro j u hu;have h1:(⟨g,off,none⟩:Addr).add j=⟨g,off+j,none⟩:=by unfold Addr.add;split<;>simp_all
 rw[h1];simp only[bE,AX,KS]at hu;obtain⟨y,hy,rfl⟩:=hu;obtain⟨hj,rfl⟩:=ki.1 hy;obtain⟨b',zh,h2,_,h3⟩:=h.at_ hj;injection h2 with h2;injection h2 with h2 Ju;subst h2 Ju;exact h3
theorem LU(xs:List Int):∀u∈bE xs,u.oneCell'=true:=by
 intro u hu;obtain⟨x,_,rfl⟩:=iJ.1 hu;rfl
theorem Zab(w:World)(g off n c:Nat)(xs:List Int)(hn:xs.length=n)(h0:0<n)(hb:n<=1000000)(hR:Rd .u64 w (some ⟨g,off,none⟩) xs):
 Calls prog 82 #[.slice (some ⟨g,off,none⟩) n c] w λe w'=>∃g' c',e= .returned (.slice (some ⟨g',0,none⟩) n c')/\Sl 22 1 w' (some ⟨g',0,none⟩) n c' (bE xs)/\w.heap.size<=g'/\Below w.heap.size w w':=by
 have HR:=ag (hR.alloc (.cells #[] 22));have HN:=ag hn;have HS:Hid (Sl 22 1 (w.alloc (.cells #[] 22)) (some ⟨w.heap.size,0,none⟩) 0 0 []):=⟨by simp, .inr ⟨w.heap.size,0, #[],rfl,CB.new w _ _,by omega,by unfold maxLen;omega,by simp,by simp⟩⟩;have hsn:=λ(W:World)=>Lib.run_eql_slice_nil (P:=prog) W 96 22 (some ⟨g,off,none⟩) n c 0 0 underlying96
 clear hR hn;go_enter func82,ntmps82
 go_wp2_with (at_builtin;refine ay rfl (.tmp 5) (.tmp 6) 96 rfl 22 (.int .u64 0) 1 8 rfl ae underlying96 iO ae (some ⟨w.heap.size,0,none⟩) 0 0 [] ⟨g,off,none⟩ n c (bE xs) rfl rfl HS.out (by rw[dW,HN.out];omega) h0 (Pk HR.out) (LU xs) ae ?_;intro A2 c2 w2 HO HC HW HG)
 go_ret;have h1:=HO.out;simp only[List.nil_append,cY]at h1;obtain rfl:=HG.out ae;refine⟨_,c2,rfl,h1,by simp,bM (ai (bZ _ _) _) HC.out (λb hb=>by simp[ah]at hb;omega)⟩
theorem MH:(prog.info? 197).map (λi=>(i.zero,i.size,i.bytes))=some (some (.agg #[.int .u64 0, .slice none 0 0]),2,32):=by kernel_rfl
def qc(n:Nat):Array Value:=madeCells #[.int .u64 0, .slice none 0 0] (n*2)
theorem Iq(n:Nat):(qc n).size=2*n:=by rw[qc,size_madeCells];omega
theorem MB(n i:Nat)(hi:i<n):(qc n)[2*i]?=some (.int .u64 0)/\(qc n)[2*i+1]?=some (.slice none 0 0):=by
 unfold qc madeCells;constructor
 . rw[Array.getElem?_map,Array.getElem?_range,aA ae]
   simp
 . rw[Array.getElem?_map,Array.getElem?_range,aA ae]
   simp[show(2*i+1)%2=1 by omega]
theorem yG{P:Program}(t e:TypeId)(n:Nat)(ht:P.underlying t=some (.slice e))(bp:(P.info? e).map (λi=>(i.zero,i.size,i.bytes))=some (some (.agg #[.int .u64 0, .slice none 0 0]),2,32))(hn:n<=1000000)(w:World):
 (Instr.makeSlice t (.int .i64 (n:Int)) (.int .i64 (n:Int))).run P w= .ok (.slice (some ⟨w.heap.size,0,none⟩) n n) (w.alloc (.cells (qc n) e)):=by
 cases hi:P.info? e with
 |none=>rw[hi]at bp;cases bp
 |some i=>
  rw[hi]at bp;simp only[Option.map_some,sP,rY]at bp;obtain⟨hz,hs,hb⟩:=bp;have hr:=run_make (P:=P) w t e i _ ht hi hz .i64 .i64 n n ae ae (by rw[hb];omega) ae;rw[hr,hs];rfl
def Rt(pb pn pc cb cn cc lb n:Nat)(th:Nat->Value)(off armed:Bool)(left exec:Int):Array Value:=
 #[.slice (some ⟨pb,0,none⟩) pn pc, .slice (some ⟨cb,0,none⟩) cn cc, .slice (some ⟨lb,0,none⟩) n n,th 0,th 1,th 2,th 3,th 4,th 5,th 6,th 7, .bool off, .bool armed, .int .i64 left, .int .u64 exec]
def Zb8(w:World)(g n:Nat)(xs:List Int)(s:Value)(wx:World):Prop:=
 ∃d cb cc lb,s= .pointer (some ⟨d,0,none⟩)/\CB wx d 100 (Rt g (8*n) (8*n) cb (8*n) cc lb n (λ_=> .pointer none) false false 0 0)/\
  Sl 22 1 wx (some ⟨cb,0,none⟩) (8*n) cc (bE xs)/\CB wx lb 197 (qc n)/\w.heap.size<=cb/\w.heap.size<=lb/\w.heap.size<=d/\cb≠lb/\cb≠d/\lb≠d/\Below w.heap.size w wx
def jW(xs:List Int)(n:Nat):aq:=⟨xs,xs,List.replicate n ⟨0,[]⟩,λ_=>⟨0,λ_=>none,0⟩,false,false,0,0⟩
def VN(w:World)(g:Nat)(S:aq)(e:Ending)(w':World):Prop:=
 ∃d L,e= .returned (.pointer (some ⟨d,0,none⟩))/\dw w' d L S/\Below w.heap.size w w'/\∀b,Fp L b->b=g\/w.heap.size<=b
def Xt(wr:World)(B d g n cb cc lb k:Nat):Prop:=
 wr.heap.size=B+2*k/\CB wr d 100 (Rt g (8*n) (8*n) cb (8*n) cc lb n (λj=>if j<k then .pointer (some ⟨B+2*j+1,0,none⟩)else .pointer none) false false 0 0)/\
  ∀j,j<k->CB wr (B+2*j+1) 161 #[.pointer (some ⟨d,0,none⟩), .int .i64 (j:Int), .int .i64 0, .map (some (B+2*j))]/\wr.heap[B+2*j]?=some (.map #[] 0)
theorem Za9{wr:World}{B d g n cb cc lb k:Nat}(h:CB wr d 100 (Rt g (8*n) (8*n) cb (8*n) cc lb n (λj=>if j<k then .pointer (some ⟨B+2*j+1,0,none⟩)else .pointer none) false false 0 0))
 (hz:wr.heap.size=B+2*k) (hk:k<8) (o o':Obj):
 CB (((wr.setCell ⟨d,3+k,none⟩ (.pointer (some ⟨wr.heap.size+1,0,none⟩))).alloc o).alloc o') d 100 (Rt g (8*n) (8*n) cb (8*n) cc lb n (λj=>if j<k+1 then .pointer (some ⟨B+2*j+1,0,none⟩)else .pointer none) false false 0 0):=by
 have h2:=((h.set (3+k) (.pointer (some ⟨wr.heap.size+1,0,none⟩))).alloc o).alloc o';rw[hz]at h2 |-;have:k=0\/k=1\/k=2\/k=3\/k=4\/k=5\/k=6\/k=7:=by omega
 rcases this with rfl|rfl|rfl|rfl|rfl|rfl|rfl|rfl<;>exact h2
theorem Za_{wr:World}{B d k:Nat}{v:Value}(hT:∀j,j<k->CB wr (B+2*j+1) 161 #[.pointer (some ⟨d,0,none⟩), .int .i64 (j:Int), .int .i64 0, .map (some (B+2*j))]/\wr.heap[B+2*j]?=some (.map #[] 0))
 (hz:wr.heap.size=B+2*k) (hd:d<B) (hk:k<8):
 ∀j,j<k+1->CB (((wr.setCell ⟨d,3+k,none⟩ v).alloc (.map #[] 0)).alloc (.cells #[.pointer (some ⟨d,0,none⟩), .int .i64 (k:Int), .int .i64 0, .map (some wr.heap.size)] 161)) (B+2*j+1) 161 #[.pointer (some ⟨d,0,none⟩), .int .i64 (j:Int), .int .i64 0, .map (some (B+2*j))]/\
  (((wr.setCell ⟨d,3+k,none⟩ v).alloc (.map #[] 0)).alloc (.cells #[.pointer (some ⟨d,0,none⟩), .int .i64 (k:Int), .int .i64 0, .map (some wr.heap.size)] 161)).heap[B+2*j]?=some (.map #[] 0):=by
 intro j hj;have vI:(wr.setCell ⟨d,3+k,none⟩ v).heap.size=B+2*k:=by simp[hz]
 have DD:((wr.setCell ⟨d,3+k,none⟩ v).alloc (.map #[] 0)).heap.size=B+2*k+1:=by simp[hz]
 by_cases F6:j=k
 . subst F6
   constructor
   . rw[hz]
     exact CB.br _ _ _ DD.symm
   . rw[d_ _ _ _ (by rw[DD];omega)]
     have:=Cb (wr.setCell ⟨d,3+j,none⟩ v) (.map #[] 0);rw[vI]at this;exact this
 . obtain⟨h1,h2⟩:=hT j ae
   refine⟨((h1.far (by show B+2*j+1≠d;omega) _).alloc _).alloc _,?_⟩;rw[d_ _ _ _ (by rw[DD];omega),d_ _ _ _ (by rw[vI];omega),ft _ _ _ _ (by show B+2*j≠d;omega)];exact h2
theorem IB.sl{w:World}{g:Nat}{xs:List Int}(h:IB .u64 22 w g xs)(hm:xs.length<=maxLen):Sl 22 1 w (some ⟨g,0,none⟩) xs.length xs.length (bE xs):=by
 refine⟨by simp[bE], .inr ⟨g,0,ia .u64 xs,rfl,h,a_ _,hm,by simp[ia],?_⟩⟩;have:(bE xs).length=xs.length:=by simp[bE]
 simp only[ia,iq,wo];exact fR smQ
def kN(B d g cb lb b:Nat):Nat:=
 if b=d then 1 else if b=g then 2 else if b=cb then 3 else if b=lb then 4 else if B<=b/\b<B+16 then(if(b-B)%2=0 then 13+(b-B)/2 else 5+(b-B)/2)else 0
def fI(B d g n cb cc lb:Nat):Lay:=⟨g,8*n,cb,cc,lb,λ_=>none,λ_=>0,λj=>B+2*j+1,λj=>B+2*j,kN B d g cb lb⟩
theorem Yn{wr:World}{B d g n cb cc lb:Nat}{xs:List Int}(hT:Xt wr B d g n cb cc lb 8)(hC:Sl 22 1 wr (some ⟨cb,0,none⟩) (8*n) cc (bE xs))(hL:CB wr lb 197 (qc n))(hI:IB .u64 22 wr g xs)
 (hx:xs.length=8*n) (h1:1<=n) (h2:n<=4096) (a1:g<B) (a2:cb<B) (a3:lb<B) (a4:d<B) (b1:g≠cb) (b2:g≠lb) (b3:g≠d) (b4:cb≠lb) (b5:cb≠d) (b6:lb≠d):
 dw wr d (fI B d g n cb cc lb) (jW xs n) where
 dev:=by
  have:=hT.2.1;unfold Rt at this;simp only[qy,fI,jW,hx,yO];exact this
 cg:=by
  have:=hI.sl (by rw[hx];unfold maxLen;omega);rw[hx]at this;simp only[fI,jW,hx];exact this
 cur:=by simp only[fI,jW,hx];exact hC
 np:=by simp[jW,hx]
 nc:=by simp[jW,hx]
 nl:=by simp[jW];omega
 lf:=by simp[jW]
 ex:=by simp[jW]
 FG:=⟨qc n,hL,by simp[jW,Iq],λi hi=>by
  have:=MB n i (by simpa [jW]using hi);simpa [jW,fI]using this⟩
 Jk:=λi hi=>by
  simp only[jW,fI,List.getElem_replicate];exact Sl.nil
 a8:=λi hi=>(hT.2.2 i hi).1
 IL:=λi hi=>⟨.map [],⟨#[],0,(hT.2.2 i hi).2,⟨by simp,Go.MapKept.stamped_empty 0,by simp⟩,a_ _,rfl⟩,λx hx=>⟨by rfl,λc hc=>by simp[jW]at hc⟩⟩
 rd:=by simp[fI,kN]
 rp:=by simp[fI,kN,b3]
 rc:=by simp[fI,kN,b5,b1.symm]
 rl:=by simp[fI,kN,b6,b2.symm,b4.symm]
 rt:=λi hi=>by
  simp only[fI,kN];rw[ax ae,ax ae,ax ae,ax ae,aA ae,ax ae];omega
 rm:=λi hi=>by
  simp only[fI,kN];rw[ax ae,ax ae,ax ae,ax ae,aA ae,aA ae];omega
 rh:=λi hi b hb=>by simp[fI,ah]at hb
 fr:=λb hb=>by
  have hz:=hT.1;simp only[fI,kN]at hb;repeat' split at hb
  all_goals omega
theorem Zbb{B d g n cb cc lb:Nat}(b:Nat)(h:Fp (fI B d g n cb cc lb) b):b=g\/b=d\/b=cb\/b=lb\/B<=b:=by
 simp only[Fp,fI,kN]at h;repeat' split at h
 all_goals omega
theorem devOf(w:World)(g n:Nat)(xs:List Int)(hI:IB .u64 22 w g xs)(hx:xs.length=8*n)(h1:1<=n)(h2:n<=4096):
 Calls prog 52 #[.slice (some ⟨g,0,none⟩) (8*n) (8*n)] w (VN w g (jW xs n)):=by
 have hR:=hI.eV;have HR:=ag hR;have HX:=ag hx;have hg:=hI.lt;have HI:=ag hI;have hq:(8*(n:Int))/8=(n:Int):=by omega
 have nP:((8*n:Nat):Int)/8=(n:Int):=by omega
 have hwn:IntKind.i64.wrap (n:Int)=(n:Int):=b9 _ ae;have zE:=λW=>yG (P:=prog) 97 197 n underlying97 MH ae W
 clear hR hI hx;go_enter func52,ntmps52
 go_upto_region 1 with(fail)
 go_cut [3]from 5 (λs wx=>Zb8 w g n xs s wx)
 case first=>
  go_region_held3 (λw'=>Below w.heap.size w w')
   ((first|(exact aC;done)))
   (first|(go_at_call 82;refine(Zab _ g 0 (8*n) (8*n) xs HX.out ae ae (HR.out.below asQ)).mono ?_;rintro e w' ⟨g',c',rfl,hS,W7,hb⟩;obtain⟨y,rfl⟩:=aE hb;clear hb;have HS:=ag hS;clear hS))
  . have aM:=HS.out.lt (b:=g') (by simp[ah])
    have MW:w.heap.size<=g':=W7;have NS:w.heap.size<=y.w.heap.size:=y.size;go_wp2;go_meet
    case rel=>
     refine⟨y.w.heap.size+1,g',c',y.w.heap.size,rfl,CB.br _ _ _ smQ,HS.out.keep (λb hb=> ?_),(CB.new y.w 197 (qc n)).alloc _,MW,NS,by omega,by omega,by omega,by omega,?_⟩
     . have qp:g'=b:=by simpa [ah]using hb
       subst qp;exact(d_ _ _ _ (by simp;omega)).trans (d_ _ _ _ aM)
     . exact ai (ai (ji (ru (bZ _ _)) y) _) _
  . have aM:=HS.out.lt (b:=g') (by simp[ah])
    have MW:w.heap.size+1<=g':=by simpa using W7
    have NS:w.heap.size+1<=y.w.heap.size:=by have:=y.size;simpa using this
    go_wp2;go_meet
    case rel=>
     refine⟨y.w.heap.size,g',c',w.heap.size,rfl,CB.new _ _ _,HS.out.keep (λb hb=> ?_),((CB.new w 197 (qc n)).drew.bx y).alloc _,by omega,a_ _,by omega,by omega,by omega,by omega,?_⟩
     . have qp:g'=b:=by simpa [ah]using hb
       subst qp;exact d_ _ _ _ aM
     . exact ai (ji (ru (ai (bZ _ _) _)) y) _
 case rest=>
  obtain⟨d,cb,cc,lb,rfl,hD,hS,hL,q1,q2,q3,q4,q5,q6,hB⟩:=hcut;have NV:= @run_makeMap prog;obtain⟨B,hBs⟩:=aH wc.heap.size;have HD:=ag hD;have HS:=ag hS;have HL:=ag hL;have HB:=ag hB;have HBs:=ag hBs;have hdB:d<B:=by have:=hD.lt;omega
  clear hD hS hL hB hBs;go_wp2;go_loopw [14,4,15,16,17,18,19,20,21,22,23,24,25,26,27] (λi _ _ _ _ _ _ _ _ _ _ _ _ _ _ wr=>∃k:Nat,k<=8/\i= .int .i64 k/\Xt wr B d g n cb cc lb k/\Ch (At d) wc wr) (λi _ _ _ _ _ _ _ _ _ _ _ _ _ _ _=>8-(intOf i).toNat)
  case atStart=>exact⟨0,by omega,rfl,⟨HBs.out,HD.out,λj hj=>by omega⟩,Ch.refl _ _⟩
  case round=>
   obtain⟨k,hk,rfl,⟨hz,Vb,hT⟩,py⟩:=hrel;have U2:=Vb.lt;have HZ:=ag hz;have HDk:=ag Vb;have HT:=ag hT;have yd:=ag py;by_cases aM:k<8
   . have He:wr.cell? ⟨d,3+k,none⟩=some (.pointer none):=by
      rw[Vb.cell];have:k=0\/k=1\/k=2\/k=3\/k=4\/k=5\/k=6\/k=7:=by omega
      rcases this with rfl|rfl|rfl|rfl|rfl|rfl|rfl|rfl<;>rfl
     have hf3:=Vb.frozen (3+k);clear hz Vb hT py;go_wp2;refine⟨⟨k+1,by omega,rfl,⟨by simp[HZ.out];omega,?_,?_⟩,?_⟩,?_⟩
     . exact Za9 HDk.out HZ.out aM _ _
     . exact Za_ HT.out HZ.out hdB aM
     . exact((yd.out.bj _ _).alloc _).alloc _
     . simp[intOf];omega
   . obtain rfl:k=8:=by omega
     clear hz Vb hT py;go_wp2;go_ret;have hwB:w.heap.size<=B:=by rw[<-HBs.out];exact HB.out.size
     have hcB:cb<B:=by rw[<-HBs.out];exact HS.out.lt (by simp[ah])
     have hlB:lb<B:=by rw[<-HBs.out];exact HL.out.lt
     refine⟨d,fI B d g n cb cc lb,rfl,Yn ⟨HZ.out,HDk.out,HT.out⟩ (HS.out.ch yd.out (λb hb=> ?_)) (HL.out.ch yd.out (λh=>q6 h)) ?_ HX.out h1 h2 ae hcB hlB hdB ae ae ae q4 q5 q6,?_,λb hb=> ?_⟩
     . have qp:cb=b:=by simpa [ah]using hb
       subst qp;exact λh=>q5 h
     . exact(yd.out.block g (by rw[HBs.out];omega) (λh=>by have:g=d:=h;omega)).trans ((HB.out.block g hg).trans HI.out)
     . exact HB.out.trans (yd.out.tP (by rw[HBs.out];omega) (λb hb=>by have:b=d:=hb;omega))
     . rcases Zbb b hb with h|h|h|h|h<;>omega
def GX(w:World)(S:aq)(e:Ending)(w':World):Prop:=
 ∃d L,e= .returned (.tuple #[.pointer (some ⟨d,0,none⟩), .int .i64 0])/\dw w' d L S/\Below w.heap.size w w'/\∀b,Fp L b->w.heap.size<=b
theorem Z_(w:World)(n:Nat)(h1:1<=n)(h2:n<=4096):
 Calls prog 35 #[.int .i64 (n:Int)] w (GX w (jW (List.replicate (8*n) 0) n)):=by
 have q1:¬((n:Int)<1):=by omega
 have q2:¬((n:Int)>4096):=by omega
 have hwn:IntKind.i64.wrap ((n:Int)*8)=(n:Int)*8:=b9 _ ae;have zE:=λW=>sG (P:=prog) 96 22 .u64 .i64 .i64 ((n:Int)*8) (8*n) ae underlying96 8 iO ae ae W
 have J0:=ag (devOf (w.alloc (.cells (ia .u64 (List.replicate (8*n) (0:Int))) 22)) w.heap.size n (List.replicate (8*n) 0) (IB.new w _) smQ h1 h2);go_enter func35,ntmps35
 go_wp2_with (first|(go_at_call 52;refine J0.out.mono ?_;rintro e w' ⟨d,L,rfl,hD,hB,hF⟩;have HD:=ag hD;have HB:=ag hB;have HF:=ag hF;clear hD hB hF))
 go_ret2
 refine⟨d,L,rfl,HD.out,?_,λb hb=> ?_⟩
 . exact(ai (bZ _ _) _).trans (HB.out.mono smQ)
 . rcases HF.out b hb with h|h
   . omega
   . simp at h;omega
def aO(xs:List Int)(ws:List (Int×Int)):List Int:=ws.foldl (λxs p=>xs.set (p.1/8).toNat p.2) xs
theorem bX(ws:List (Int×Int)):∀xs,(aO xs ws).length=xs.length:=by
 induction ws with
 |nil=>intro xs;rfl
 |cons p ws ih=>intro xs;rw[aO,List.foldl_cons];exact(ih _).trans smQ
theorem qE(xs:List Int)(ws:List (Int×Int))(p:Int×Int):aO xs (ws++[p])=(aO xs ws).set (p.1/8).toNat p.2:=by simp[aO]
theorem LS(xs:List Int)(j:Nat)(v:Int):bE (xs.set j v)=(bE xs).set j (.int .u64 v):=by simp[bE]
theorem yi(ws:List (Int×Int)):∀(k:Nat) (h:k<ws.length),(az ws)[2*k]?=some (.int .u64 ws[k].1)/\(az ws)[2*k+1]?=some (.int .u64 ws[k].2):=by
 induction ws with
 |nil=>intro k h;simp at h
 |cons p ws ih=>
  intro k h;cases k with
  |zero=>simp[az]
  |succ k=>
   have:=ih k (by simpa using h);have e:az (p::ws)= .int .u64 p.1:: .int .u64 p.2::az ws:=by simp[az]
   rw[e,show 2*(k+1)=2*k+1+1 by omega,show 2*k+1+1+1=2*k+1+1+1 from rfl];simpa using this
theorem Sl.mZ{e:TypeId}{size:Nat}{w:World}{g off n c:Nat}{xs:List Value}(h:Sl e size w (some ⟨g,off,none⟩) n c xs)(j:Nat):w.frozen? ⟨g,j,none⟩=false:=by
 rcases h.2 with⟨hA,_⟩|⟨g',zh,cur,hA,hC,_⟩
 . cases hA
 . injection hA with hA
   injection hA with hA fL;subst hA;exact hC.frozen j
theorem Sl.wr{w:World}{A:Option Addr}{m c:Nat}{ws:List (Int×Int)}(h:Sl 95 2 w A m c (az ws)){k:Nat}(hk:k<ws.length):
 ∃g off,A=some ⟨g,off,none⟩/\g<w.heap.size/\w.cell? ⟨g,off+2*k,none⟩=some (.int .u64 ws[k].1)/\w.cell? ⟨g,off+2*k+1,none⟩=some (.int .u64 ws[k].2):=by
 obtain⟨e1,e2⟩:=yi ws k hk;obtain⟨g,off,hA,hl,_⟩:=h.at_ (j:=2*k) (by rw[sa];omega);have c1:=h.cells _ hA _ _ e1;have c2:=h.cells _ hA _ _ e2;have h1:∀j,(⟨g,off,none⟩:Addr).add j=⟨g,off+j,none⟩:=by intro j;unfold Addr.add;split<;>simp_all
 rw[h1]at c1 c2;exact⟨g,off,hA,hl,c1,c2⟩
theorem Ru(w:World)(g n c m c':Nat)(xs:List Int)(A:Option Addr)(ws:List (Int×Int))(hX:Sl 22 1 w (some ⟨g,0,none⟩) n c (bE xs))(hn:xs.length=n)
 (hW:Sl 95 2 w A m c' (az ws)) (hm:ws.length=m) (hA:¬ah A g) (CE:∀p∈ws,0<=p.1/\p.1/8<(n:Int)) (hmb:m<=9223372036854775807) (hnb:n<=32768):
 Calls prog 120 #[.slice (some ⟨g,0,none⟩) n c, .slice A m c'] w λe w'=>e= .returned (.tuple #[])/\Sl 22 1 w' (some ⟨g,0,none⟩) n c (bE (aO xs ws))/\Ch (At g) w w':=by
 have eh:g<w.heap.size:=hX.lt (by simp[ah]);have HX:=ag hX;have HN:=ag hn;have HW:=ag hW;have HM:=ag hm;have HA:=ag hA;have HWS:=ag CE;clear hX hn hW hm hA CE;go_enter func120,ntmps120
 go_wp2;go_loopw [8,5,9,10,11,12,13,14,15,16,17,18,19] (λi _ _ _ _ _ _ _ _ _ _ _ _ wr=>∃k:Nat,k<=m/\i= .int .i64 k/\Sl 22 1 wr (some ⟨g,0,none⟩) n c (bE (aO xs (ws.take k)))/\Ch (At g) w wr) (λi _ _ _ _ _ _ _ _ _ _ _ _ _=>m-(intOf i).toNat)
 case atStart=>exact⟨0,by omega,rfl,by simpa [aO]using HX.out,Ch.refl _ _⟩
 case round=>
  obtain⟨k,hk,rfl,hS,py⟩:=hrel;have HS:=ag hS;have yd:=ag py;by_cases aM:k<m
  . have kG:k<ws.length:=by rw[HM.out];exact aM
    obtain⟨g',off,fL,hl,c1,c2⟩:=(HW.out.ch py (λb hb h=>HA.out (by have:b=g:=h;rw[<-this];exact hb))).wr kG
    have hgg:g'≠g:=by
     rintro rfl;exact HA.out (by rw[fL];simp[ah])
    subst fL;obtain⟨p1,p2⟩:=HWS.out ws[k] (fq kG);obtain⟨a,ha⟩:=aH (ws[k].1);obtain⟨v,hv⟩:=aH (ws[k].2);rw[ha]at c1 p1 p2;rw[hv]at c2;obtain⟨q,hq⟩:∃q:Nat,a/8=(q:Int):=⟨(a/8).toNat,by omega⟩;have UG:q<n:=by omega
    have hLn:(bE (aO xs (ws.take k))).length=n:=by rw[dW,bX];exact HN.out
    obtain⟨g2,o2,o8,_,c3⟩:=hS.at_ (j:=q) (by rw[hLn];exact UG);injection o8 with o8;injection o8 with o8 Zdy;subst o8 Zdy;rw[cY]at c3;have ie:g<wr.heap.size:=hS.lt (by simp[ah]);have MX:=hS.mZ q;have HAV:=ag (And.intro ha hv);rw[show 2*k=k*2 by omega]at c1 c2;clear hS py ha hv;go_wp2;refine⟨⟨k+1,by omega,rfl,?_,(yd.out.bj _ _).alloc _⟩,by simp[intOf];omega⟩
    have e1:aO xs (ws.take (k+1))=(aO xs (ws.take k)).set q v:=by
     rw[iw kG,qE,HAV.out.1,HAV.out.2,hq];rfl
    have h2:=HS.out.set (j:=q) (by rw[hLn];exact UG) (.int .u64 v);rw[cY]at h2;rw[e1,LS];exact h2.keep λb hb=>d_ _ _ _ (h2.lt hb)
  . obtain rfl:k=m:=by omega
    clear hS py;go_wp2;go_end0
    refine⟨rfl,?_,yd.out⟩;have:=HS.out;rwa[fR (by rw[HM.out];omega)]at this
def Lay.pO(L:Lay)(q:Nat)(A:Option Addr)(c:Nat):Lay:=
 {L with ha:=λj=>if j=q then A else L.ha j,hc:=λj=>if j=q then c else L.hc j}
def aq.fS(S:aq)(q k:Nat):aq:=
 {S with cg:=aO S.cg ((S.bA[q]?.map (·.bL)).getD []|>.take k),bA:=S.bA.modify q λl=>⟨IntKind.u64.wrap (l.done+k),l.bL.drop k⟩}
section
variable{w w':World}{d:Nat}{L:Lay}{S:aq}
theorem dw.Ir(h:dw w d L S){q k:Nat}(gg:q<S.bA.length)(A:Option Addr)(c:Nat)
 (hb:∀b,Fp L b->b≠L.pb->b≠L.lb->w'.heap[b]?=w.heap[b]?) (hs:w.heap.size<=w'.heap.size)
 (hA:∀b,ah A b->ah (L.ha q) b)
 (Zbp:Sl 22 1 w' (some ⟨L.pb,0,none⟩) S.cg.length L.pc (bE (aO S.cg (S.bA[q].bL.take k))))
 (kF:∀cs,CB w L.lb 197 cs->CB w' L.lb 197 ((cs.setIfInBounds (2*q) (.int .u64 (IntKind.u64.wrap (S.bA[q].done+k)))).setIfInBounds (2*q+1) (.slice A (S.bA[q].bL.length-k) c)))
 (MV:Sl 95 2 w' A (S.bA[q].bL.length-k) c (az (S.bA[q].bL.drop k))):
 dw w' d (L.pO q A c) (S.fS q k):=by
 have hlen:(S.fS q k).bA.length=S.bA.length:=by simp[aq.fS]
 have lS:(S.fS q k).cg.length=S.cg.length:=by simp[aq.fS,bX]
 have Ei:(S.fS q k).cg=aO S.cg (S.bA[q].bL.take k):=by simp[aq.fS,gg]
 have iy:∀b,Fp L b->L.role b≠4->L.role b≠2->w'.heap[b]?=w.heap[b]?:=λb hf h4 h3=>hb b hf (by rintro rfl;exact h3 h.rp) (by rintro rfl;exact h4 h.rl)
 have hg:∀j (hj:j<S.bA.length),(S.fS q k).bA[j]'(by rw[hlen];exact hj)=if j=q then⟨IntKind.u64.wrap (S.bA[q].done+k),S.bA[q].bL.drop k⟩else S.bA[j]:=by
  intro j hj;simp only[aq.fS];rw[List.getElem_modify];by_cases mT:q=j
  . subst mT;simp
  . rw[ax mT,ax (λh=>mT h.symm)]
 constructor
 case dev=>
  have:=h.dev.keep (iy d (by unfold Fp;rw[h.rd];omega) (by rw[h.rd];omega) (by rw[h.rd];omega));simp only[qy,lS,hlen];exact this
 case cg=>rw[lS,Ei];exact Zbp
 case cur=>exact h.cur.keep λb bG=>by
             have:L.cb=b:=by simpa [ah]using bG
             subst this;exact iy _ (by unfold Fp;rw[h.rc];omega) (by rw[h.rc];omega) (by rw[h.rc];omega)
 case np=>rw[hlen,lS];exact h.np
 case nc=>rw[hlen];exact h.nc
 case nl=>rw[hlen];exact h.nl
 case lf=>exact h.lf
 case ex=>exact h.ex
 case FG=>
  obtain⟨cs,h1,h2,h3⟩:=h.FG;refine⟨_,kF cs h1,by rw[hlen];simpa using h2,λj hj=> ?_⟩;rw[hlen]at hj;rw[hg j hj];obtain⟨h4,h5⟩:=h3 j hj;by_cases mT:j=q
  . subst mT
    rw[aA rfl];refine⟨?_,?_⟩
    . rw[xg,ax ae,xg,aA rfl,aA ae]
    . rw[xg,aA rfl,aA (by simp;omega)]
      simp[Lay.pO]
  . rw[ax mT]
    refine⟨?_,?_⟩
    . rw[xg,ax ae,xg,ax ae];exact h4
    . rw[xg,ax ae,xg,ax ae,h5]
      simp[Lay.pO,mT]
 case Jk=>
  intro j hj;rw[hlen]at hj;rw[hg j hj];by_cases mT:j=q
  . subst mT
    rw[aA rfl];simpa [Lay.pO]using MV
  . rw[ax mT]
    have:=(h.Jk j hj).keep (w':=w') λb bG=>iy b (by unfold Fp;rw[h.rh j hj b bG];omega) (by rw[h.rh j hj b bG];omega) (by rw[h.rh j hj b bG];omega)
    simpa [Lay.pO,mT]using this
 case a8=>
  intro j hj;exact(h.a8 j hj).keep (iy _ (by unfold Fp;rw[h.rt j hj];omega) (by rw[h.rt j hj];omega) (by rw[h.rt j hj];omega))
 case IL=>
  intro j hj;exact(h.IL j hj).keep (iy _ (by unfold Fp;rw[h.rm j hj];omega) (by rw[h.rm j hj];omega) (by rw[h.rm j hj];omega))
 case rd=>exact h.rd
 case rp=>exact h.rp
 case rc=>exact h.rc
 case rl=>exact h.rl
 case rt=>exact h.rt
 case rm=>exact h.rm
 case rh=>
  intro j hj b bG;rw[hlen]at hj;by_cases mT:j=q
  . subst mT
    exact h.rh j hj b (hA b (by simpa [Lay.pO]using bG))
  . exact h.rh j hj b (by simpa [Lay.pO,mT]using bG)
 case fr=>exact λb bG=>cD (h.fr b bG) hs
end
theorem CB.ZaU{w:World}{g:Nat}{e:TypeId}{cs:Array Value}(h:CB w g e cs)(i:Nat)(v:Value)(j:Nat)(x y:Value):
 CB (((w.setCell ⟨g,i,none⟩ v).setCell ⟨g,j,none⟩ x).setCell ⟨g,j,none⟩ y) g e ((cs.setIfInBounds i v).setIfInBounds j y):=by
 have h2:=((h.set i v).set j x).set j y;have e1:((cs.setIfInBounds i v).setIfInBounds j x).setIfInBounds j y=(cs.setIfInBounds i v).setIfInBounds j y:=by simp
 rwa[e1]at h2
theorem pD(p:Int×Int)(ws:List (Int×Int)):az (p::ws)= .int .u64 p.1:: .int .u64 p.2::az ws:=by simp[az]
theorem EA(ws:List (Int×Int)):∀k,(az ws).take (k*2)=az (ws.take k):=by
 induction ws with
 |nil=>intro k;simp[az]
 |cons p ws ih=>
  intro k;cases k with
  |zero=>simp[az]
  |succ k=>
   rw[List.take_succ_cons,pD,pD,show(k+1)*2=k*2+1+1 by omega,List.take_succ_cons,List.take_succ_cons,ih]
theorem EB(ws:List (Int×Int)):∀k,(az ws).drop (k*2)=az (ws.drop k):=by
 induction ws with
 |nil=>intro k;simp[az]
 |cons p ws ih=>
  intro k;cases k with
  |zero=>simp
  |succ k=>
   rw[jm,pD,show(k+1)*2=k*2+1+1 by omega,jm,jm,ih]
theorem JE(w:World)(d:Nat)(L:Lay)(S:aq)(h:dw w d L S)(q k:Nat)(hq:q<S.bA.length)(iy:1<=k)(hk:k<=S.bA[q].bL.length)
 (CE:∀p∈S.bA[q].bL,0<=p.1/\p.1/8<(S.cg.length:Int)):
 Calls prog 144 #[.pointer (some ⟨d,0,none⟩), .int .i64 (q:Int), .int .i64 (k:Int)] w λe w'=>e= .returned (.tuple #[])/\(∃A c,dw w' d (L.pO q A c) (S.fS q k))/\Ch (λb=>b=L.pb\/b=L.lb) w w':=by
 obtain⟨cs,hL,hLs,Xi⟩:=h.FG;obtain⟨l1,l2⟩:=Xi q hq;have hH:=h.Jk q hq;have d0:w.cell? ⟨d,0,none⟩=some (.slice (some ⟨L.pb,0,none⟩) S.cg.length L.pc):=h.dev.ik (i:=0) rfl;have d2:w.cell? ⟨d,2,none⟩=some (.slice (some ⟨L.lb,0,none⟩) S.bA.length S.bA.length):=h.dev.ik (i:=2) rfl;have U2:=h.dev.lt;have iW:=hL.lt;obtain⟨g',off,hA,eh,_⟩:=hH.at_ (j:=0) (by rw[sa];omega);have xK:=h.rh q hq g' (by rw[hA];simp[ah]);have hgp:L.pb≠g':=by rintro h';rw[<-h',h.rp]at xK;omega
 have Zdb:L.lb≠g':=by rintro h';rw[<-h',h.rl]at xK;omega
 have Zh:L.lb≠L.pb:=by rintro h';have:=h.rl;rw[h',h.rp]at this;omega
 obtain⟨m,hm⟩:=aH (S.bA[q].bL.length);obtain⟨dn,CH⟩:=aH (S.bA[q].done);obtain⟨c,hc⟩:=aH (L.hc q);obtain⟨N,hN⟩:=aH S.bA.length;have gq:=hL.ik l1;have rI:=hL.ik l2;have ZbG:=hL.frozen (2*q);have QY:=hL.frozen (2*q+1);have dS:=h.nl;rw[CH]at gq;rw[hA,hm,hc]at rI hH;rw[hm]at hk;rw[hN]at d2 dS
 have Jf:m<=c/\c<=maxLen:=by
  rcases hH.2 with⟨hx,_⟩|⟨_,_,_,_,_,h1,h2,_⟩
  . cases hx
  . exact⟨h1,h2⟩
 have hmx:c<=9223372036854775807:=by have:=Jf.2;unfold maxLen at this;omega
 have ZeE:=Jf.1;have hqN:q<N:=by omega
 have AA:Hid (∀W,Below w.heap.size w W->Calls prog 120 #[.slice (some ⟨L.pb,0,none⟩) S.cg.length L.pc, .slice (some ⟨g',off,none⟩) k c] W λe w'=>e= .returned (.tuple #[])/\Sl 22 1 w' (some ⟨L.pb,0,none⟩) S.cg.length L.pc (bE (aO S.cg (S.bA[q].bL.take k)))/\Ch (At L.pb) W w'):=λW hW=>(Ru W L.pb S.cg.length L.pc k c S.cg (some ⟨g',off,none⟩) (S.bA[q].bL.take k) ((h.below hW).cg) rfl (by
  have:=(hH.keep (λb hb=>hW.block b (hH.lt hb))).take k hk;have e:(az S.bA[q].bL).take (k*2)=az (S.bA[q].bL.take k):=EA _ _;rwa[e]at this) (by rw[gf,hm];omega) (by simp[ah];exact λh=>hgp h.symm) (λp hp=>CE p (za hp)) ae (by rw[h.np,hN];omega))
 have H:=ag h;have HH:=ag hH;have HL:=ag hL;have HE:=ag (And.intro hm (And.intro CH (And.intro hc (And.intro hN hA))));rw[show 2*q=q*2 by omega]at gq rI ZbG QY;clear CE hL hLs Xi l1 l2 hH hm CH hc hN Jf hA h;go_enter func144,ntmps144
 go_upto_region 1 with(fail)
 go_cut []from 13 (λwx=>Sl 22 1 wx (some ⟨L.pb,0,none⟩) S.cg.length L.pc (bE (aO S.cg (S.bA[q].bL.take k)))/\Ch (At L.pb) w wx)
 case first=>
  go_region_with (first|(go_at_call 120;refine(AA.out _ (ru (bZ _ _))).mono ?_;rintro e w1 ⟨rfl,hP,hC⟩;have HP:=ag hP;have HC:=ag hC;clear hP hC))
  all_goals
   go_wp2;go_meet
   case rel=>exact⟨HP.out,(Ch.refl _ _).drew.trans HC.out (λb h _=>h)⟩
 case rest=>
  obtain⟨hP,hC⟩:=hcut;have HP:=ag hP;have HC:=ag hC;clear hP;have Ze1:wc.cell? ⟨L.lb,q*2,none⟩=some (.int .u64 dn):=(hC.cells _ _ iW (λh=>Zh h)).trans gq;have Ze3:wc.cell? ⟨L.lb,q*2+1,none⟩=some (.slice (some ⟨g',off,none⟩) m c):=(hC.cells _ _ iW (λh=>Zh h)).trans rI;have ZeX:wc.frozen? ⟨L.lb,q*2,none⟩=false:=(hC.jE _ _ iW (λh=>Zh h)).trans ZbG;have ZeW:wc.frozen? ⟨L.lb,q*2+1,none⟩=false:=(hC.jE _ _ iW (λh=>Zh h)).trans QY;have WT:L.lb<wc.heap.size:=cD iW hC.size;clear hC;have hku:IntKind.u64.wrap (k:Int)=(k:Int):=bY _ ae
  have HF:Hid (∀W A c',Ch (λb=>b=L.pb\/b=L.lb) w W->(∀b,b≠L.lb->W.heap[b]?=wc.heap[b]?)->(∀b,ah A b->b=g')->(∀cs,CB wc L.lb 197 cs->CB W L.lb 197 ((cs.setIfInBounds (q*2) (.int .u64 (IntKind.u64.wrap (dn+k)))).setIfInBounds (q*2+1) (.slice A (m-k) c')))->
   (Sl 95 2 W (some ⟨g',off,none⟩) m c (az S.bA[q].bL)->Sl 95 2 W A (m-k) c' (az (S.bA[q].bL.drop k)))->(∃A c,dw W d (L.pO q A c) (S.fS q k))/\Ch (λb=>b=L.pb\/b=L.lb) w W):=by
   intro W A c' py hW hA kF MV;obtain⟨e1,e2,e3,e4,e5⟩:=HE.out;refine⟨⟨A,c',H.out.Ir hq A c' (λb hf h1 h2=>py.block b (H.out.fr b hf) (by rintro(h|h);exact h1 h;exact h2 h)) py.size (λb hb=>by rw[e5,hA b hb];simp[ah]) (HP.out.keep λb hb=>hW b ?_) (λcs hcs=> ?_) ?_⟩,py⟩
   . have:L.pb=b:=by simpa [ah]using hb
     subst this;exact λh=>Zh h.symm
   . rw[e1,e2,show 2*q=q*2 by omega]
     exact kF cs (hcs.ch HC.out (λh=>Zh h))
   . rw[e1]
     refine MV (HH.out.keep λb hb=>py.block b (HH.out.lt hb) ?_);have:g'=b:=by simpa [ah]using hb
     subst this;rintro(h|h)
     . exact hgp h.symm
     . exact Zdb h.symm
  by_cases zE:m=k
  . subst zE
    by_cases je:c=m
    . subst je
      go_wp2;go_end0
      refine⟨rfl,HF.out _ none 0 ?_ ?_ (by simp[ah]) ?_ ?_⟩
      . exact(((HC.out.mono (λb h _=> .inl h)).setCell (.inl (.inr rfl)) _).setCell (.inl (.inr rfl)) _).setCell (.inl (.inr rfl)) _
      . intro b hb
        rw[ft _ _ _ _ hb,ft _ _ _ _ hb,ft _ _ _ _ hb]
      . intro cs hcs
        rw[wA];exact hcs.ZaU _ _ _ _ _
      . intro _
        rw[wA,PW (by rw[HE.out.1];exact a_ _)];exact Sl.nil
    . have ZeZ:m<c:=by omega
      go_wp2;go_end0
      refine⟨rfl,HF.out _ none 0 ?_ ?_ (by simp[ah]) ?_ ?_⟩
      . exact(((HC.out.mono (λb h _=> .inl h)).setCell (.inl (.inr rfl)) _).setCell (.inl (.inr rfl)) _).setCell (.inl (.inr rfl)) _
      . intro b hb
        rw[ft _ _ _ _ hb,ft _ _ _ _ hb,ft _ _ _ _ hb]
      . intro cs hcs
        rw[wA];exact hcs.ZaU _ _ _ _ _
      . intro _
        rw[wA,PW (by rw[HE.out.1];exact a_ _)];exact Sl.nil
  . have ZeD:k<m:=by omega
    have Ze2:k<c:=by omega
    go_wp2;go_end0
    refine⟨rfl,HF.out _ (some ⟨g',off+k*2,none⟩) (c-k) ?_ ?_ (λb hb=> ?_) ?_ ?_⟩
    . exact((HC.out.mono (λb h _=> .inl h)).setCell (.inl (.inr rfl)) _).setCell (.inl (.inr rfl)) _
    . intro b hb
      rw[ft _ _ _ _ hb,ft _ _ _ _ hb]
    . have:g'=b:=by simpa [ah]using hb
      exact this.symm
    . intro cs hcs
      exact(hcs.set _ _).set _ _
    . intro hS
      have:=hS.drop k ae g' off rfl;rwa[EB]at this
theorem AW{P:Program}(w:World)(t ty k e:TypeId)(ht:P.underlying t=some (.map k e))(r:Nat)(es:Array MapEntry)(clock:Nat)(hr:w.heap[r]?=some (.map es clock)):
 (Builtin.clear_ #[t] ty #[.map (some r)]).run P w= .ok (.tuple #[]) {w with heap:=w.heap.setIfInBounds r (.map #[] clock)}:=by
 unfold Builtin.clear_;simp[Cc ht,Go.MapKept.run_getObj_map hr,Go.MapKept.run_setObj_map _ hr]
theorem Ar.VA(w:World)(r clock:Nat)(h:r<w.heap.size):Ar {w with heap:=w.heap.setIfInBounds r (.map #[] clock)} r (λ_=>none) 0:=
 ⟨.map [],⟨#[],clock,by simp[h],⟨by simp,Go.MapKept.stamped_empty clock,by simp⟩,a_ _,rfl⟩,λx hx=>⟨by rfl,λc hc=>by simp at hc⟩⟩
def aq.note(S:aq)(i q:Nat):aq:=
 {S with a8:=λj=>if j=i then{S.a8 i with notes:=λx=>if x=(q:Int)then some (IntKind.u64.wrap ((S.bA[q]?.map (λl=>l.done+(l.bL.length:Int))).getD 0))else(S.a8 i).notes x,Es:=(S.a8 i).Es+1}else S.a8 j}
def aq.Sz(S:aq)(off:Int):Bool:=decide (off<(S.bA.length:Int)*64)
def aq.flush(S:aq)(i:Nat)(off:Int):aq:=if S.lG (S.Sz off)then(S.cnt i (S.Sz off)).note i (off/64).toNat else S.cnt i (S.Sz off)
def aq.upto(S:aq)(K:Nat->Nat):aq:=
 {S with cg:=(List.range S.cg.length).map λj=>(aO S.cg (((S.bA[j/8]?.map (·.bL)).getD []).take (K (j/8))))[j]?.getD 0
         bA:=S.bA.mapIdx λq l=>⟨IntKind.u64.wrap (l.done+(K q:Int)),l.bL.drop (K q)⟩}
def aq.due(S:aq)(i q:Nat):Nat:=match(S.a8 i).notes (q:Int)with
 |some p=>(p-(S.bA[q]?.map (·.done)).getD 0).toNat
 |none=>0
def aq.fN(S:aq)(i:Nat):aq:={S with a8:=λj=>if j=i then{S.a8 i with notes:=λ_=>none,Es:=0}else S.a8 j}
def aq.fence(S:aq)(i:Nat):aq:=if S.lG true then(((S.cnt i true).upto ((S.cnt i true).due i))).fN i else S.cnt i true
structure Good(S:aq)(N:Nat):Prop where
 np:S.cg.length=8*S.bA.length
 nc:S.cur.length=8*S.bA.length
 ln:∀(q:Nat) (l:Ln),S.bA[q]?=some l->0<=l.done/\l.done+(l.bL.length:Int)<=(N:Int)/\∀p∈l.bL,∃k:Nat,p.1=8*(k:Int)/\k/8=q
 nt:∀i,i<8->(S.a8 i).Es<=N/\∀x c,(S.a8 i).notes x=some c->∃(q:Nat) (l:Ln),S.bA[q]?=some l/\x=(q:Int)/\0<=c/\c<=l.done+(l.bL.length:Int)
section
variable{S:aq}{N:Nat}
theorem Good.mono(h:Good S N){M:Nat}(hM:N<=M):Good S M:=
 ⟨h.np,h.nc,λq l hl=>⟨(h.ln q l hl).1,by have:=(h.ln q l hl).2.1;omega,(h.ln q l hl).2.2⟩,λi hi=>⟨f_ (h.nt i hi).1 hM,(h.nt i hi).2⟩⟩
theorem Good.same(h:Good S N){S':aq}(h1:S'.cg=S.cg)(h2:S'.cur=S.cur)(h3:S'.bA=S.bA)(h4:∀i,(S'.a8 i).notes=(S.a8 i).notes/\(S'.a8 i).Es=(S.a8 i).Es):Good S' N:=
 ⟨by rw[h1,h3];exact h.np,by rw[h2,h3];exact h.nc,by rw[h3];exact h.ln,λi hi=>by rw[(h4 i).1,(h4 i).2,h3];exact h.nt i hi⟩
theorem Good.fail(h:Good S N)(i:Nat)(e:Int):Good (S.fail i e) N:=by
 unfold aq.fail;split
 . refine h.same rfl rfl rfl (λj=> ?_)
   simp only[aq.Db];by_cases hj:j=i
   . subst hj;simp
   . simp[hj]
 . exact h
theorem Good.on(h:Good S N)(i:Nat)(b:Bool):Good (S.on i b) N:=by
 unfold aq.on;split
 . exact h.fail i 3
 . split
   . exact h
   . exact h.fail i 2
theorem Good.ctr(h:Good S N)(off armed:Bool)(left exec:Int):Good {S with off:=off,armed:=armed,left:=left,exec:=exec} N:=h.same rfl rfl rfl (λ_=>⟨rfl,rfl⟩)
theorem Good.cnt(h:Good S N)(i:Nat)(b:Bool):Good (S.cnt i b) N:=by
 unfold aq.cnt;split
 . exact h.on i b
 . split
   . split
     . exact Good.fail (S:={S with off:=true}) (h.ctr true S.armed S.left S.exec) i 3
     . exact h.ctr S.off S.armed _ _
   . exact h.ctr S.off S.armed S.left _
theorem Good.write(h:Good S N)(k:Nat)(hk:k<8*S.bA.length)(v:Int):Good (S.write k v) (N+1):=by
 have hg:∀(q:Nat) (l:Ln),S.bA[q]?=some l->(S.write k v).bA[q]?=some (if k/8=q then{l with bL:=l.bL++[(8*(k:Int),v)]}else l):=by
  intro q l hl;simp only[aq.write,PR,hl];by_cases hq:k/8=q<;>simp[hq]
 have hb:∀(q:Nat) (l:Ln),(S.write k v).bA[q]?=some l->∃l0,S.bA[q]?=some l0/\l=if k/8=q then{l0 with bL:=l0.bL++[(8*(k:Int),v)]}else l0:=by
  intro q l hl
  have aM:q<S.bA.length:=by
   have:=(ki.1 hl).1;simpa [aq.write]using this
  refine⟨S.bA[q],by simp[aM],?_⟩;have:=hg q S.bA[q] (by simp[aM]);rw[this]at hl;injection hl with hl;exact hl.symm
 refine⟨by simpa [aq.write]using h.np,by simpa [aq.write]using h.nc,?_,?_⟩
 . intro q l hl
   obtain⟨l0,h0,rfl⟩:=hb q l hl;obtain⟨a1,a2,a3⟩:=h.ln q l0 h0;by_cases hq:k/8=q
   . simp only[hq,cR]
     refine⟨a1,by simp;omega,?_⟩;intro p hp;rcases List.mem_append.1 hp with hp|hp
     . exact a3 p hp
     . simp at hp;subst hp;exact⟨k,rfl,hq⟩
   . simp only[hq,dF]
     exact⟨a1,by omega,a3⟩
 . intro i hi
   obtain⟨a1,a2⟩:=h.nt i hi;refine⟨Nat.le_succ_of_le a1,λx c hc=> ?_⟩;obtain⟨q,l,b1,b2,b3,b4⟩:=a2 x c hc;refine⟨q,_,hg q l b1,b2,b3,?_⟩;split
   . simp;omega
   . exact b4
theorem Good.store(h:Good S N)(i:Nat)(off v:Int)(ho:0<=off):Good (S.store i off v) (N+1):=by
 unfold aq.store;split
 . rename_i hc
   obtain⟨k,iy,fC,wL⟩:=sC (oC hc) ho;rw[fC,Int.toNat_natCast];exact(h.cnt i _).write k (by rw[(xU S i _).1];exact wL) v
 . exact(h.cnt i _).mono (lM _)
theorem Good.note(h:Good S N)(i q:Nat)(hq:q<S.bA.length)(hN:N<1000000000):Good (S.note i q) (N+1):=by
 obtain⟨a1,a2,_⟩:=h.ln q S.bA[q] (by simp[hq]);have hw:IntKind.u64.wrap (S.bA[q].done+(S.bA[q].bL.length:Int))=S.bA[q].done+(S.bA[q].bL.length:Int):=bY _ ae;refine⟨h.np,h.nc,λq l hl=> ?_,λj hj=> ?_⟩
 . obtain⟨b1,b2,b3⟩:=h.ln q l hl
   exact⟨b1,by omega,b3⟩
 . obtain⟨b1,b2⟩:=h.nt j hj
   by_cases eb:j=i
   . subst eb
     refine⟨by simp[aq.note];exact b1,λx c hc=> ?_⟩;simp only[aq.note,cR]at hc;by_cases hx:x=(q:Int)
     . simp only[hx,cR]at hc
       refine⟨q,S.bA[q],by simp[aq.note,hq],hx,?_⟩;simp[hq]at hc;rw[hw]at hc;omega
     . rw[ax hx]at hc
       exact b2 x c hc
   . simp only[aq.note,eb,dF]
     exact⟨by omega,b2⟩
theorem FQ{off:Int}(h:S.Sz off=true)(h0:0<=off):(off/64).toNat<S.bA.length/\off/64=((off/64).toNat:Int):=by
 unfold aq.Sz at h;simp only[sQ]at h;omega
theorem Good.flush(h:Good S N)(i:Nat)(off:Int)(ho:0<=off)(hN:N<1000000000):Good (S.flush i off) (N+1):=by
 unfold aq.flush;split
 . rename_i hc
   exact(h.cnt i _).note i _ (by rw[(xU S i _).1];exact(FQ (oC hc) ho).1) hN
 . exact(h.cnt i _).mono (lM _)
theorem mq(ws:List (Int×Int))(j:Nat)(h:∀p∈ws,(p.1/8).toNat≠j):∀xs,(aO xs ws)[j]?=xs[j]?:=by
 induction ws with
 |nil=>intro xs;rfl
 |cons p ws ih=>
  intro xs;rw[aO,List.foldl_cons];refine(ih (λq hq=>h q (pV _ hq)) _).trans ?_;rw[De,ax (h p (yX ..))]
theorem uK(ws:List (Int×Int))(j:Nat):∀xs ys:List Int,xs.length=ys.length->xs[j]?=ys[j]?->(aO xs ws)[j]?=(aO ys ws)[j]?:=by
 induction ws with
 |nil=>intro xs ys _ h;exact h
 |cons p ws ih=>
  intro xs ys hl h;rw[aO,List.foldl_cons,aO,List.foldl_cons];refine ih _ _ (by simpa using hl) ?_;rw[De,De];split
  . rw[hl]
  . exact h
theorem cd(K:Nat->Nat):(S.upto K).cg.length=S.cg.length/\(S.upto K).bA.length=S.bA.length:=by simp[aq.upto]
theorem jz(K:Nat->Nat)(q:Nat):(S.upto K).bA[q]?=S.bA[q]?.map λl=>⟨IntKind.u64.wrap (l.done+(K q:Int)),l.bL.drop (K q)⟩:=by simp[aq.upto]
theorem mY(K:Nat->Nat)(j:Nat)(hj:j<S.cg.length):(S.upto K).cg[j]?=(aO S.cg (((S.bA[j/8]?.map (·.bL)).getD []).take (K (j/8))))[j]?:=by
 simp only[aq.upto,AX];rw[KN hj];have:j<(aO S.cg (((S.bA[j/8]?.map (·.bL)).getD []).take (K (j/8)))).length:=by rw[bX];exact hj
 simp[this]
theorem mW(h:Good S N){q:Nat}{l:Ln}(hl:S.bA[q]?=some l)(hN:N<1000000000)(k:Nat)(hk:k<=l.bL.length):IntKind.u64.wrap (l.done+(k:Int))=l.done+(k:Int):=by
 obtain⟨a1,a2,_⟩:=h.ln q l hl;exact bY _ ae
theorem Good.upto(h:Good S N)(hN:N<1000000000)(K:Nat->Nat)(hK:∀(q:Nat)(l:Ln),S.bA[q]?=some l->K q<=l.bL.length):Good (S.upto K) N:=by
 refine⟨by rw[(cd K).1,(cd K).2];exact h.np,by rw[(cd K).2];exact h.nc,λq l hl=> ?_,λi hi=> ?_⟩
 . rw[jz]at hl
   obtain⟨l0,h0,rfl⟩:=KS.1 hl;obtain⟨a1,a2,a3⟩:=h.ln q l0 h0;have hk:=hK q l0 h0;rw[mW h h0 hN _ hk];exact⟨by dsimp only;omega,by dsimp only;rw[yU];omega,λp hp=>a3 p (List.mem_of_mem_drop hp)⟩
 . obtain⟨a1,a2⟩:=h.nt i hi
   refine⟨a1,λx c hc=> ?_⟩;obtain⟨q,l,b1,b2,b3,b4⟩:=a2 x c hc;have hk:=hK q l b1;refine⟨q,_,by rw[jz,b1];rfl,b2,b3,?_⟩;dsimp only;rw[mW h b1 hN _ hk,yU];omega
theorem Z7(h:Good S N){i:Nat}(hi:i<8)(q:Nat)(l:Ln)(hl:S.bA[q]?=some l):S.due i q<=l.bL.length:=by
 unfold aq.due;cases hn:(S.a8 i).notes (q:Int)with
 |none=>exact im _
 |some p=>
  obtain⟨q',l',b1,b2,b3,b4⟩:=(h.nt i hi).2 _ _ hn;obtain rfl:q=q':=by omega
  rw[hl]at b1;injection b1 with b1;subst b1;simp[hl];omega
theorem Good.fN(h:Good S N)(i:Nat):Good (S.fN i) N:=by
 refine⟨h.np,h.nc,h.ln,λj hj=> ?_⟩;by_cases eb:j=i
 . subst eb
   simp[aq.fN]
 . simp only[aq.fN,eb,dF]
   exact h.nt j hj
theorem Good.fence(h:Good S N){i:Nat}(hi:i<8)(hN:N<1000000000):Good (S.fence i) N:=by
 unfold aq.fence;split
 . exact(Good.upto (h.cnt i true) hN _ (λq l hl=>Z7 (h.cnt i true) hi q l hl)).fN i
 . exact h.cnt i true
theorem aq.ext'{S T:aq}(h1:S.cg=T.cg)(h2:S.cur=T.cur)(h3:S.bA=T.bA)(h4:S.a8=T.a8)(h5:S.off=T.off)(h6:S.armed=T.armed)(h7:S.left=T.left)(h8:S.exec=T.exec):S=T:=by
 cases S;cases T;simp_all
theorem LR(h:Good S N)(hN:N<1000000000):S.upto (λ_=>0)=S:=by
 refine aq.ext' ?_ rfl ?_ rfl rfl rfl rfl rfl
 . apply yV
   intro j;by_cases hj:j<S.cg.length
   . rw[mY _ j hj];simp[aO]
   . rw[oY (by rw[(cd _).1];omega),oY ae]
 . apply yV
   intro q;rw[jz];cases hl:S.bA[q]? with
   |none=>rfl
   |some l=>
    have:=mW h hl hN 0 (im _);simp at this |-;rw[this]
theorem C2(h:Good S N)(hN:N<1000000000)(K:Nat->Nat){q k:Nat}{l:Ln}(hl:S.bA[q]?=some l)(hk:k<=l.bL.length)(h0:K q=0):
 (S.upto K).fS q k=S.upto (λj=>if j=q then k else K j):=by
 have hq:(S.upto K).bA[q]?=some l:=by
  rw[jz,hl,h0];have:=mW h hl hN 0 (im _);simp at this |-;rw[this]
 refine aq.ext' ?_ rfl ?_ rfl rfl rfl rfl rfl
 . apply yV
   intro j;show(aO (S.upto K).cg ((((S.upto K).bA[q]?.map (·.bL)).getD []).take k))[j]?=_
   rw[hq];by_cases hj:j<S.cg.length
   . rw[mY _ j hj]
     simp only[Option.map_some,Option.getD_some];by_cases mT:j/8=q
     . rw[aA mT,mT,hl]
       refine uK _ j _ _ (cd K).1 ?_;rw[mY _ j hj,mT,h0];simp[aO]
     . rw[ax mT,mq _ j (λp hp=> ?_),mY _ j hj]
       obtain⟨m,fv,oM⟩:=(h.ln q l hl).2.2 p (za hp);rw[fv];omega
   . rw[oY (by rw[bX,(cd _).1];omega),oY (by rw[(cd _).1];omega)]
 . apply yV
   intro j;show((S.upto K).bA.modify q λl=>(⟨IntKind.u64.wrap (l.done+k),l.bL.drop k⟩:Ln))[j]?=_
   rw[PR,jz];by_cases mT:q=j
   . subst mT
     rw[<-jz,hq,jz,hl];simp
   . have Zc7:¬j=q:=λh=>mT h.symm
     rw[jz];cases S.bA[j]? with
     |none=>rfl
     |some l=>simp[mT,Zc7]
end
@[go_sem] theorem m_pThread_Size (w:World) (v:Value):(method 384 87 v "Size").run prog w= .ok (221,v) w:=by kernel_rfl
@[go_sem] theorem m_pThread_Err (w:World) (v:Value):(method 384 87 v "Err").run prog w= .ok (65,v) w:=by kernel_rfl
theorem TI(w:World)(d:Nat)(L:Lay)(S:aq)(h:dw w d L S)(i:Nat)(hi:i<8)(hO:S.off=false):
 Calls prog 95 #[.pointer (some ⟨L.t i,0,none⟩), .bool true] w λe w'=>e= .returned (.bool true)/\w=w':=by
 have h0:=h.t0 hi;have ho:=h.KX;have hl:=h.AR hi;have ju:=h.lt;clear h;rw[hO]at ho;go_enter func95,ntmps95
 go_wp2;go_ret;exact⟨rfl,rfl⟩
theorem LZ(w:World)(d:Nat)(L:Lay)(S:aq)(h:dw w d L S)(i:Nat)(hi:i<8)(hO:S.off=false)(k:Nat)(hk:k<S.cur.length):
 Calls prog 68 #[.pointer (some ⟨L.t i,0,none⟩), .int .u64 (8*(k:Int))] w λe w'=>e= .returned (.int .u64 S.cur[k])/\w=w':=by
 have h0:=h.t0 hi;have hl:=h.AR hi;have H:=ag h;have wL:k<8*S.bA.length:=by rw[<-h.nc];exact hk
 have K9:=h.nl;have k2:=h.lt;have k3:=h.Lu;have k4:=h.Rv hk;have k5:=h.Zae
 have CT:Hid (Calls prog 96 #[.pointer (some ⟨L.t i,0,none⟩), .int .u64 (8*(k:Int))] w λe w'=>e= .returned (.bool true)/\w=w'):=by
  have:=Ia w d L S H.out i hi (8*(k:Int)) ae;rwa[show S.cQ (8*(k:Int))=true by unfold aq.cQ;simp;omega]at this
 have hq:(8*(k:Int))/8=(k:Int):=by omega
 have BD:=ag (TI w d L S h i hi hO);have aM:¬((S.cur.length:Int)<=(k:Int)):=by omega
 clear h;go_enter func68,ntmps68
 go_wp2_with (first|(go_at_call 96;refine CT.out.mono ?_;rintro e w' ⟨rfl,rfl⟩)|(go_at_call 95;refine BD.out.mono ?_;rintro e w1 ⟨rfl,rfl⟩))
 go_ret;exact⟨rfl,rfl⟩
theorem EL(w:World)(d:Nat)(L:Lay)(S:aq)(h:dw w d L S)(i:Nat)(hi:i<8)(hc:S.lG true=false):
 Calls prog 111 #[.pointer (some ⟨L.t i,0,none⟩)] w λe w'=>e= .returned (.tuple #[])/\dw w' d L (S.cnt i true)/\Ch (Fp L) w w':=by
 have h0:=h.t0 hi;have hl:=h.AR hi;have H:=ag h
 have HC:Hid (Calls prog 143 #[.pointer (some ⟨L.t i,0,none⟩), .bool true] w λe w'=>e= .returned (.bool false)/\dw w' d L (S.cnt i true)/\Ch (Fp L) w w'):=by
  have:=kR w d L S h i hi true;rwa[hc]at this
 clear h hc;go_enter func111,ntmps111
 go_wp2_with (first|(go_at_call 143;refine HC.out.mono ?_;rintro e w' ⟨rfl,hD,hC⟩;have HD:=ag hD;have yd:=ag hC;clear hD hC))
 exact bH (v:= .tuple #[]) (by simp[results,results111,go_sem]) rfl ⟨rfl,HD.out,yd.out⟩
theorem ng:prog.underlying 3=some (.int .i64):=by kernel_rfl
theorem m_:prog.underlying 22=some (.int .u64):=by kernel_rfl
theorem pE:prog.underlying 159=some (.map 3 22):=by kernel_rfl
end Go.Proofs.YtjkpjakodomnmaaGreatDoor
