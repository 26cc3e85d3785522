/- The base, part 21 (merged). -/
import Derived.Test.YtjkpjakodomnmaaGreatDoorKtat
set_option linter.unusedVariables false
set_option linter.unusedSimpArgs false
set_option maxRecDepth 100000
set_option maxHeartbeats 16000000
namespace Go.Proofs.YtjkpjakodomnmaaGreatDoor
open Go.RowKit Go.Proofs.Tryz
def insK(key v:Int):List (Int×Int)->List (Int×Int)
 |[]=>[(key,v)]
 |x::l=>if key<x.1 then(key,v)::x::l else x::insK key v l
theorem Qu{key v:Int}:∀{l:List (Int×Int)},(∀e∈l,e.1≠key)->l.Pairwise (λa b=>a.1<b.1)->insK key v l=(l.filter λe=>decide (e.1<key))++(key,v)::l.filter λe=>decide (key<e.1):=by
 intro l;induction l with
 |nil=>intro _ _;rfl
 |cons x l ih=>
  intro aG hp;rw[yY]at hp;have hx:=aG x smQ;unfold insK;by_cases h:key<x.1
  . have h1:(x::l).filter (λe=>decide (e.1<key))=[]:=by
     rw[Cr];intro e he;rcases List.mem_cons.1 he with rfl|he
     . simp;omega
     . have:=hp.1 e he;simp;omega
    have h2:(x::l).filter (λe=>decide (key<e.1))=x::l:=by
     rw[yZ];intro e he;rcases List.mem_cons.1 he with rfl|he
     . simpa using h
     . have:=hp.1 e he;simp;omega
    rw[aA h,h1,h2];rfl
  . rw[ax h,ih (λe he=>aG e (pV _ he)) hp.2]
    have h3:x.1<key:=by omega
    simp[sN,h3,h]
theorem Qt{key v:Int}{kv:List (Int×Int)}(hp:kv.Pairwise (λa b=>a.1<b.1)):insK key v (eK kv key)=il kv key v:=by
 have h1:∀e∈eK kv key,e.1≠key:=λe he=>by unfold eK at he;simpa using(List.mem_filter.1 he).2
 have h2:(eK kv key).Pairwise (λa b=>a.1<b.1):=hp.filter _;rw[Qu h1 h2];unfold il eK;rw[List.filter_filter,List.filter_filter];congr 1
 . apply List.filter_congr
   intro e _;by_cases h:e.1<key<;>simp[h]
   omega
 . congr 1
   apply List.filter_congr
   intro e _;by_cases h:key<e.1<;>simp[h]
   omega
section
variable{w w':World}{A:Option Addr}{kv:List (Int×Int)}
theorem lH(W:World)(k v:Int)(N:Nat)(hN:W.heap.size=N):∀(j:Nat) (u:Value),[Value.int .u64 k,Value.int .u64 v][j]?=some u->(W.alloc (.cells #[.int .u64 k, .int .u64 v] 45)).cell? ((⟨N,0,none⟩:Addr).add j)=some u:=by
 subst hN;exact dT W 45 [.int .u64 k, .int .u64 v]
theorem jy(l:List (Int×Int))(k v:Int):az (l++[(k,v)])=az l++[.int .u64 k, .int .u64 v]:=by simp[az]
theorem RU{w wr X w4:World}{A' A4 D:Option Addr}{d:List (Int×Int)}(hB:Below w.heap.size w wr)(hO:∀b,ah A' b->w.heap.size<=b/\¬ah D b)(hD:gP wr D d)(hX:Below wr.heap.size wr X)(hC:Ch (ah A') X w4)(hW:∀b,ah A4 b->ah A' b\/b=X.heap.size):
 Below w.heap.size w w4/\(∀b,ah A4 b->w.heap.size<=b/\(d≠[]->¬ah D b))/\gP w4 D d/\wr.heap.size<=w4.heap.size:=by
 have h1:=hB.size;have h2:=hX.size;have h3:=hC.size;refine⟨bM (hB.trans (hX.mono h1)) hC (λb hb=>(hO b hb).1),λb hb=> ?_,hD.FL ae (λb hb ho=>(hC.block b ae (λhx=>(hO b hx).2 ho)).trans (hX.block b hb)),by omega⟩;rcases hW b hb with hx|hx
 . exact⟨(hO b hx).1,λ_=>(hO b hx).2⟩
 . refine⟨by omega,λaG ho=> ?_⟩
   rcases hD with hd|⟨g,off,g1,g2,_⟩
   . exact aG hd
   . rw[g1]at ho
     have:g=b:=by simpa [ah]using ho
     omega
theorem Sl.al{W:World}{A:Option Addr}{m c:Nat}{xs:List Value}(h:Sl 45 2 W A m c xs)(o:Obj):Sl 45 2 (W.alloc o) A m c xs:=h.keep (λb hb=>d_ _ _ b (h.lt hb))
theorem Mk(n c:Nat)(key v:Int)(hn:kv.length=n)(dS:n<=1000)(hR:gP w A kv):
 Calls prog 44 #[.slice A n c, .int .u64 key, .int .u64 v] w (WoP w (insK key v (eK kv key))):=by
 have HWO:=ag (λW (hW:Below w.heap.size w W)=>tT n c key hn dS (hR.below hW));have U2:(eK kv key).length<=n:=by unfold eK;rw[<-hn];exact PT _ _
 obtain⟨d,hd⟩:=aH (eK kv key);rw[hd]at HWO U2 |-;have hE0:Sl 45 2 (w.alloc (.cells #[] 45)) (some ⟨w.heap.size,0,none⟩) 0 0 (az []):=⟨by simp[az], .inr ⟨w.heap.size,0, #[],rfl,CB.new _ _ _,a_ _,by omega,by simp,by simp[az]⟩⟩;have XG:=ag hE0;clear hR hn hd hE0;go_enter func44,ntmps44
 go_wp2_with (go_at_call 45;(with_reducible refine(HWO.out _ aC).mono ?_);rintro e w1 ⟨D,dm,dc,rfl,h1,h2,h3,h4⟩;have H1:=ag h1;have H2:=ag h2;have H3:=ag h3;have H4:=ag h4;clear h1 h2 h3 h4)
 have HSz:Hid (w.heap.size+1<=w1.heap.size):=by have:=H4.out.size;simp at this;exact this
 have dZ:Hid (Below w.heap.size w w1):=(ai (bZ _ _) _:Below w.heap.size w (w.alloc (.cells #[] 45))).trans (H4.out.mono smQ);have HDR:Hid (gP w1 D d):=H2.out.X5;have HDO:Hid (∀b,ah D b->w.heap.size<b):=λb hb=>by have:=H3.out b hb;simp at this;omega
 go_loopw [16,7,8,10,17,18,19,20,21,22,23,24,25,26,27,28,29,30,31,32,33,34,35,36,37,38] (λi s dn _ _ _ _ _ _ _ _ _ _ _ _ _ _ _ _ _ _ _ _ _ _ _ wr=>∃(j:Nat) (A':Option Addr) (m c':Nat) (o:List (Int×Int)) (dv:Bool),j<=dm/\i= .int .i64 j/\s= .slice A' m c'/\dn= .bool dv/\o.length=m/\m<=j+dv.toNat/\insK key v d=o++(if dv then d.drop j else insK key v (d.drop j))/\Sl 45 2 wr A' m c' (az o)/\(∀b,ah A' b->w.heap.size<=b/\¬ah D b)/\gP wr D d/\Below w.heap.size w wr/\w1.heap.size<=wr.heap.size) (λi _ _ _ _ _ _ _ _ _ _ _ _ _ _ _ _ _ _ _ _ _ _ _ _ _ _=>dm-(intOf i).toNat)
 case atStart=>
  refine⟨0,some ⟨w.heap.size,0,none⟩,0,0,[],false,by omega,rfl,rfl,rfl,rfl,by simp,rfl,XG.out.keep (λb hb=>H4.out.block b (XG.out.lt hb)),λb hb=> ?_,HDR.out,dZ.out,a_ _⟩;have:b=w.heap.size:=by simpa [ah,wm]using hb
  exact⟨by omega,λhx=>by have:=HDO.out b hx;omega⟩
 case round=>
  clear XG;obtain⟨j,A',m,c',o,dv,hj,rfl,rfl,rfl,hm,SK,hI,hS,hO,hD,hB,xJ⟩:=hrel;have HS:=ag hS;have HM:=ag hm;have HII:=ag hI;have HO:=ag hO;have HDD:=ag hD;have HB:=ag hB;have HW1:=ag xJ;have J1:Hid (¬ah A' wr.heap.size):=λhx=>by have:=hS.lt hx;omega
  have hdm:d.length=dm:=H1.out;by_cases aM:j<dm
  . have dx:(j:Int)<(dm:Int):=by omega
    have MU:(0:Int)<=(j:Int):=by omega
    obtain⟨e,he⟩:∃e,d[j]?=some e:=⟨_,dG ae⟩;obtain⟨g,off,hA,hl,wN,xo⟩:=hD.at_ he
    have hdr:d.drop j=e::d.drop (j+1):=by
     obtain⟨h1,h2⟩:=ki.1 he;rw[List.drop_eq_getElem_cons h1,h2]
    have Lh:=hI;rw[hdr]at Lh;obtain⟨k,x⟩:=e;dsimp only at wN xo;subst hA;by_cases hcs:dv=false/\key<k
    . obtain⟨rfl,hk⟩:=hcs
      have Rb:insK key v d=(o++[(key,v)])++(k,x)::d.drop (j+1):=by
       rw[Lh];simp only[eS,dF];unfold insK;rw[aA hk];simp
      have Om:=ag Rb;have jb:decide (key<k)=true:=kx hk;have hmb:m<=2000:=by simp at SK;omega
      clear hI Lh Rb hdr he hm hS hO hB hD
      go_wp2_with (first
       |(at_builtin;refine ay rfl (.tmp 28) (.tmp 32) 42 rfl 45 (.agg #[.int .u64 0, .int .u64 0]) 2 16 rfl ae underlying42 dX ae A' m c' (az o) ⟨wr.heap.size+1,0,none⟩ 1 1 [.int .u64 key, .int .u64 v] rfl rfl ((HS.out.al _).al _) rfl ae (lH (wr.alloc (.cells #[.int .u64 k, .int .u64 x] 45)) key v (wr.heap.size+1) smQ) (ir.1 rfl) ae ?_;intro A4 c4 w4 lU eW mU uM;have z0:w4.cell? ⟨wr.heap.size,0,none⟩=some (.int .u64 k):=(eW.out.cells wr.heap.size 0 oH J1.out).trans (by go_simp);have z1:w4.cell? ⟨wr.heap.size,1,none⟩=some (.int .u64 x):=(eW.out.cells wr.heap.size 1 oH J1.out).trans (by go_simp);have zl:wr.heap.size<w4.heap.size:=cD oH eW.out.size;have ZdU:Hid (Sl 45 2 w4 A4 (m+1) c4 (az (o++[(key,v)]))):=by(have h9:=lU.out;rw[<-jy]at h9;exact h9))
       |(at_builtin;refine ay rfl (.tmp 34) (.tmp 36) 42 rfl 45 (.agg #[.int .u64 0, .int .u64 0]) 2 16 rfl ae underlying42 dX ae A4 (m+1) c4 (az (o++[(key,v)])) ⟨w4.heap.size,0,none⟩ 1 1 [.int .u64 k, .int .u64 x] rfl rfl (ZdU.out.al _) rfl ae (lH w4 k x w4.heap.size rfl) (ir.1 rfl) ae ?_;intro A5 c5 w5 CU rz HW5 HG5))
      have aG:d≠[]:=λhx=>by have:=HII.out;have h9:=H1.out;rw[hx]at h9;simp at h9;omega
      obtain⟨f1,f2,f3,f4⟩:=RU HB.out HO.out HDD.out (show Below wr.heap.size wr ((wr.alloc (.cells #[.int .u64 k, .int .u64 x] 45)).alloc (.cells #[.int .u64 key, .int .u64 v] 45)) by exact aC) eW.out mU.out;obtain⟨g1,g2,g3,g4⟩:=RU f1 (λb hb=>⟨(f2 b hb).1,(f2 b hb).2 aG⟩) f3 (ai (bZ _ _) _) rz.out HW5.out;have hs5:=CU.out;rw[<-jy]at hs5;have hm:=HM.out;have hw:=HW1.out;simp at SK;exact⟨⟨j+1,A5,m+1+1,c5,o++[(key,v)]++[(k,x)],true,by omega,by go_num,rfl,rfl,by simp;omega,by simp;omega,by rw[Om.out];simp,hs5,λb hb=>⟨(g2 b hb).1,(g2 b hb).2 aG⟩,g3,g1,by omega⟩,by simp[intOf];omega⟩
    . have Rb:insK key v d=(o++[(k,x)])++(if dv then d.drop (j+1)else insK key v (d.drop (j+1))):=by
       rw[Lh];cases dv with
       |true=>simp
       |false=>
        simp only[eS,dF];rw[show insK key v ((k,x)::d.drop (j+1))=(k,x)::insK key v (d.drop (j+1))from ax (λh=>hcs ⟨rfl,h⟩)];simp
      have Om:=ag Rb;have HMJ:=ag SK;have aG:d≠[]:=λhx=>by rw[hx]at hdm;simp at hdm;omega
      have GL:=ag aG;have hmb:m<=2000:=by have:dv.toNat<=1:=Bool.toNat_le dv;omega
      clear hI Lh Rb hdr he hm hS hO hB hD aG SK
      have ZbU:Hid (∀(A4:Option Addr) (c4:Nat) (w4:World),Sl 45 2 w4 A4 (m+1) c4 (az o++[.int .u64 k, .int .u64 x])->Ch (ah A') ((wr.alloc (.cells #[.int .u64 k, .int .u64 x] 45)).alloc (.cells #[.int .u64 k, .int .u64 x] 45)) w4->(∀b,ah A4 b->ah A' b\/b=((wr.alloc (.cells #[.int .u64 k, .int .u64 x] 45)).alloc (.cells #[.int .u64 k, .int .u64 x] 45)).heap.size)->
       (∃(j':Nat) (A':Option Addr) (m' c':Nat) (o:List (Int×Int)) (dv':Bool),j'<=dm/\Value.int .i64 ((j:Int)+1)= .int .i64 j'/\Value.slice A4 (m+1) c4= .slice A' m' c'/\Value.bool dv= .bool dv'/\o.length=m'/\m'<=j'+dv'.toNat/\insK key v d=o++(if dv' then d.drop j' else insK key v (d.drop j'))/\Sl 45 2 w4 A' m' c' (az o)/\(∀b,ah A' b->w.heap.size<=b/\¬ah (some ⟨g,off,none⟩) b)/\gP w4 (some ⟨g,off,none⟩) d/\Below w.heap.size w w4/\w1.heap.size<=w4.heap.size)):=λA4 c4 w4 u1 u2 u3=>by
       obtain⟨f1,f2,f3,f4⟩:=RU HB.out HO.out HDD.out (show Below wr.heap.size wr ((wr.alloc (.cells #[.int .u64 k, .int .u64 x] 45)).alloc (.cells #[.int .u64 k, .int .u64 x] 45)) by exact aC) u2 u3;rw[<-jy]at u1;have hm:=HM.out;have hw:=HW1.out;have SK:=HMJ.out;exact⟨j+1,A4,m+1,c4,o++[(k,x)],dv,by omega,by simp,rfl,rfl,by simp;omega,by omega,Om.out,u1,λb hb=>⟨(f2 b hb).1,(f2 b hb).2 GL.out⟩,f3,f1,by omega⟩
      cases dv with
      |true=>
       clear hcs;go_wp2_with (at_builtin;refine ay rfl (.tmp 34) (.tmp 36) 42 rfl 45 (.agg #[.int .u64 0, .int .u64 0]) 2 16 rfl ae underlying42 dX ae A' m c' (az o) ⟨wr.heap.size+1,0,none⟩ 1 1 [.int .u64 k, .int .u64 x] rfl rfl ((HS.out.al _).al _) rfl ae (lH (wr.alloc (.cells #[.int .u64 k, .int .u64 x] 45)) k x (wr.heap.size+1) smQ) (ir.1 rfl) ae ?_;intro A4 c4 w4 lU eW mU uM)
       exact⟨ZbU.out A4 c4 w4 lU.out eW.out mU.out,by simp[intOf];omega⟩
      |false=>
       have jb:decide (key<k)=false:=oX (λh=>hcs ⟨rfl,h⟩);have ZeO:¬key<k:=λh=>hcs ⟨rfl,h⟩
       clear hcs;go_wp2_with (at_builtin;refine ay rfl (.tmp 34) (.tmp 36) 42 rfl 45 (.agg #[.int .u64 0, .int .u64 0]) 2 16 rfl ae underlying42 dX ae A' m c' (az o) ⟨wr.heap.size+1,0,none⟩ 1 1 [.int .u64 k, .int .u64 x] rfl rfl ((HS.out.al _).al _) rfl ae (lH (wr.alloc (.cells #[.int .u64 k, .int .u64 x] 45)) k x (wr.heap.size+1) smQ) (ir.1 rfl) ae ?_;intro A4 c4 w4 lU eW mU uM)
       exact⟨ZbU.out A4 c4 w4 lU.out eW.out mU.out,by simp[intOf];omega⟩
  . obtain rfl:j=dm:=by omega
    have dx:¬(j:Int)<(j:Int):=by omega
    have hdd:d.drop j=[]:=List.drop_eq_nil_of_le ae;rw[hdd]at hI;have hmb:m<=2000:=by have:dv.toNat<=1:=Bool.toNat_le dv;omega
    cases dv with
    |true=>
     have HIE:Hid (insK key v d=o):=by show _=_;rw[hI];simp
     clear hI hm hS hO hB hD;go_wp2;exact bH (v:= .slice A' m c') (by simp[results,results44,go_sem]) rfl ⟨A',m,c',rfl,by rw[HIE.out];exact HM.out,by rw[HIE.out];exact HS.out,λb hb=>(HO.out b hb).1,HB.out⟩
    |false=>
     have HIE:Hid (insK key v d=o++[(key,v)]):=by show _=_;rw[hI];simp[insK]
     clear hI hm hS hO hB hD;go_wp2_with (at_builtin;refine ay rfl (.tmp 41) (.tmp 45) 42 rfl 45 (.agg #[.int .u64 0, .int .u64 0]) 2 16 rfl ae underlying42 dX ae A' m c' (az o) ⟨wr.heap.size,0,none⟩ 1 1 [.int .u64 key, .int .u64 v] rfl rfl (HS.out.al _) rfl ae (lH wr key v wr.heap.size rfl) (ir.1 rfl) ae ?_;intro A4 c4 w4 lU eW mU uM)
     have Ve:Below w.heap.size w w4:=bM (HB.out.trans ((ai (bZ _ _) _:Below wr.heap.size wr (wr.alloc (.cells #[.int .u64 key, .int .u64 v] 45))).mono HB.out.size)) eW.out (λb hb=>(HO.out b hb).1);have YQ:=lU.out;rw[<-jy]at YQ;have hm:=HM.out;have lR:=HB.out.size;refine bH (v:= .slice A4 (m+1) c4) (by simp[results,results44,go_sem]) rfl ⟨A4,m+1,c4,rfl,by rw[HIE.out];simp;omega,by rw[HIE.out];exact YQ,λb hb=> ?_,Ve⟩;rcases mU.out b hb with hx|hx
     . exact(HO.out b hx).1
     . simp at hx;omega
end
def GY(A0:Option Addr)(w:World)(r:List (Int×Int)×Int×Int)(e:Ending)(w':World):Prop:=
 ∃A m c,e= .returned (.tuple #[.slice A m c, .int .u64 r.2.1, .int .i64 r.2.2])/\r.1.length=m/\gP w' A r.1/\Below w.heap.size w w'/\∀b,ah A b->(w.heap.size<=b/\b<w'.heap.size)\/ah A0 b
section
variable{w w':World}{A:Option Addr}{kv:List (Int×Int)}
theorem WoP.RT{W:World}{r:List (Int×Int)}{e:Ending}(hW:Below w.heap.size w W)(h:WoP W r e w'):∃A' m c',e= .returned (.slice A' m c')/\r.length=m/\gP w' A' r/\Below w.heap.size w w'/\∀b,ah A' b->(w.heap.size<=b/\b<w'.heap.size)\/ah A b:=by
 obtain⟨A',m,c',h0,h1,h2,h3,h4⟩:=h;exact⟨A',m,c',h0,h1,h2.X5,hW.trans (h4.mono hW.size),λb hb=> .inl ⟨f_ hW.size (h3 b hb),h2.lt hb⟩⟩
theorem sI(n c:Nat)(hn:kv.length=n)(dS:n<=1000)(hR:gP w A kv)(kE:kv.Pairwise (λa b=>a.1<b.1))(NN:Nat)(iX:NN<=1000)(cl:TC)(hk:cl.kind<=3)(bg en:Int)(ed:Bool)(got er:Int):
 Calls prog 24 #[.slice A n c, .int .i64 (NN:Int), .agg #[.int .i64 (cl.kind:Int), .int .u64 cl.key, .int .u64 cl.val, .int .u64 cl.old, .int .i64 bg, .int .i64 en, .bool ed, .int .u64 got, .int .i64 er]] w (GY A w (cI NN kv cl)):=by
 obtain⟨kd,key,val,old⟩:=cl;dsimp only at hk |-;have BF:=ag (λW (hW:Below w.heap.size w W)=>Pj (w:=W) n c key hn ae (hR.below hW));have HWO:=ag (λW (hW:Below w.heap.size w W)=>(tT (w:=W) n c key hn dS (hR.below hW)).mono (λe w' h=>WoP.RT (A:=A) hW h));have HWI:=ag (λW (hW:Below w.heap.size w W)=>(Mk (w:=W) n c key val hn dS (hR.below hW)).mono (λe w' h=>WoP.RT (A:=A) hW h));rw[Qt kE]at HWI;have HOLD:Hid (∀W,Below w.heap.size w W->∀r:List (Int×Int)×Int×Int,r.1=kv->GY A w r (.returned (.tuple #[.slice A n c, .int .u64 r.2.1, .int .i64 r.2.2])) W):=λW hW r hr=>⟨A,n,c,rfl,by rw[hr];exact hn,by rw[hr];exact hR.below hW,hW,λb hb=> .inr hb⟩
 unfold cI eu;dsimp only;obtain⟨t,ht⟩:=aH (bJ kv key);rw[ht]at BF |-;rw[hn];have hnI:(n:Int)<2000:=by omega
 obtain⟨pu,hpu⟩:=aH (il kv key val);obtain⟨de,hde⟩:=aH (eK kv key);rw[hpu]at HWI |-;rw[hde]at HWO |-;obtain⟨kq,La⟩:∃kq,kq=kv:=⟨_,rfl⟩;rw[<-La]at HOLD |-;clear hR kE hn ht hpu hde La;have h4:kd=0\/kd=1\/kd=2\/kd=3:=by omega
 cases t with
 |none=>
  unfold ZU at BF;simp only[Option.getD_none,Option.isSome_none]at BF;by_cases hf:NN<=n
  . have hf':(NN:Int)<=(n:Int):=by omega
    rcases h4 with rfl|rfl|rfl|rfl;all_goals simp[hf]
    all_goals go_enter func24,ntmps24
    all_goals go_wp2_with (first|(go_at_call 43;(with_reducible refine(BF.out _ aC).mono ?_);rintro e w1 ⟨rfl,hb⟩;obtain⟨y,rfl⟩:=aE hb;clear hb))
    all_goals exact bH (v:= .tuple #[.slice A n c, .int .u64 0, .int .i64 _]) (by simp[results,results24,go_sem]) rfl (HOLD.out _ aC (kq,0,_) rfl)
  . have hf':¬(NN:Int)<=(n:Int):=by omega
    rcases h4 with rfl|rfl|rfl|rfl
    . simp
      go_enter func24,ntmps24
      go_wp2_with (go_at_call 43;(with_reducible refine(BF.out _ aC).mono ?_);rintro e w1 ⟨rfl,hb⟩;obtain⟨y,rfl⟩:=aE hb;clear hb)
      exact bH (v:= .tuple #[.slice A n c, .int .u64 0, .int .i64 _]) (by simp[results,results24,go_sem]) rfl (HOLD.out _ aC (kq,0,_) rfl)
    . simp[hf]
      go_enter func24,ntmps24
      go_wp2_with (first|(go_at_call 43;(with_reducible refine(BF.out _ aC).mono ?_);rintro e w1 ⟨rfl,hb⟩;obtain⟨y,rfl⟩:=aE hb;clear hb)|(go_at_call 44;(with_reducible refine(HWI.out _ aC).mono ?_);rintro e w2 ⟨A2,m2,c2,rfl,p1,p2,p3,p4⟩;have P:=ag (And.intro p1 (And.intro p2 (And.intro p3 p4)));clear p1 p2 p3 p4))
      exact bH (v:= .tuple #[.slice A2 m2 c2, .int .u64 0, .int .i64 0]) (by simp[results,results24,go_sem]) rfl ⟨A2,m2,c2,rfl,P.out.1,P.out.2.1,P.out.2.2.1,P.out.2.2.2⟩
    . simp
      go_enter func24,ntmps24
      go_wp2_with (go_at_call 43;(with_reducible refine(BF.out _ aC).mono ?_);rintro e w1 ⟨rfl,hb⟩;obtain⟨y,rfl⟩:=aE hb;clear hb)
      exact bH (v:= .tuple #[.slice A n c, .int .u64 0, .int .i64 _]) (by simp[results,results24,go_sem]) rfl (HOLD.out _ aC (kq,0,_) rfl)
    . simp
      go_enter func24,ntmps24
      go_wp2_with (go_at_call 43;(with_reducible refine(BF.out _ aC).mono ?_);rintro e w1 ⟨rfl,hb⟩;obtain⟨y,rfl⟩:=aE hb;clear hb)
      exact bH (v:= .tuple #[.slice A n c, .int .u64 0, .int .i64 _]) (by simp[results,results24,go_sem]) rfl (HOLD.out _ aC (kq,0,_) rfl)
 |some v=>
  unfold ZU at BF;simp only[Option.getD_some,Option.isSome_some]at BF;rcases h4 with rfl|rfl|rfl|rfl
  . simp
    go_enter func24,ntmps24
    go_wp2_with (go_at_call 43;(with_reducible refine(BF.out _ aC).mono ?_);rintro e w1 ⟨rfl,hb⟩;obtain⟨y,rfl⟩:=aE hb;clear hb)
    exact bH (v:= .tuple #[.slice A n c, .int .u64 v, .int .i64 _]) (by simp[results,results24,go_sem]) rfl (HOLD.out _ aC (kq,v,_) rfl)
  . simp
    go_enter func24,ntmps24
    go_wp2_with (first|(go_at_call 43;(with_reducible refine(BF.out _ aC).mono ?_);rintro e w1 ⟨rfl,hb⟩;obtain⟨y,rfl⟩:=aE hb;clear hb)|(go_at_call 44;(with_reducible refine(HWI.out _ aC).mono ?_);rintro e w2 ⟨A2,m2,c2,rfl,p1,p2,p3,p4⟩;have P:=ag (And.intro p1 (And.intro p2 (And.intro p3 p4)));clear p1 p2 p3 p4))
    exact bH (v:= .tuple #[.slice A2 m2 c2, .int .u64 v, .int .i64 0]) (by simp[results,results24,go_sem]) rfl ⟨A2,m2,c2,rfl,P.out.1,P.out.2.1,P.out.2.2.1,P.out.2.2.2⟩
  . simp
    go_enter func24,ntmps24
    go_wp2_with (first|(go_at_call 43;(with_reducible refine(BF.out _ aC).mono ?_);rintro e w1 ⟨rfl,hb⟩;obtain⟨y,rfl⟩:=aE hb;clear hb)|(go_at_call 45;(with_reducible refine(HWO.out _ aC).mono ?_);rintro e w2 ⟨A2,m2,c2,rfl,p1,p2,p3,p4⟩;have P:=ag (And.intro p1 (And.intro p2 (And.intro p3 p4)));clear p1 p2 p3 p4))
    exact bH (v:= .tuple #[.slice A2 m2 c2, .int .u64 v, .int .i64 0]) (by simp[results,results24,go_sem]) rfl ⟨A2,m2,c2,rfl,P.out.1,P.out.2.1,P.out.2.2.1,P.out.2.2.2⟩
  . by_cases ho:v=old
    . subst ho
      simp;go_enter func24,ntmps24
      go_wp2_with (first|(go_at_call 43;(with_reducible refine(BF.out _ aC).mono ?_);rintro e w1 ⟨rfl,hb⟩;obtain⟨y,rfl⟩:=aE hb;clear hb)|(go_at_call 44;(with_reducible refine(HWI.out _ aC).mono ?_);rintro e w2 ⟨A2,m2,c2,rfl,p1,p2,p3,p4⟩;have P:=ag (And.intro p1 (And.intro p2 (And.intro p3 p4)));clear p1 p2 p3 p4))
      exact bH (v:= .tuple #[.slice A2 m2 c2, .int .u64 v, .int .i64 0]) (by simp[results,results24,go_sem]) rfl ⟨A2,m2,c2,rfl,P.out.1,P.out.2.1,P.out.2.2.1,P.out.2.2.2⟩
    . have xL:decide (v=old)=false:=oX ho
      simp[ho];go_enter func24,ntmps24
      go_wp2_with (go_at_call 43;(with_reducible refine(BF.out _ aC).mono ?_);rintro e w1 ⟨rfl,hb⟩;obtain⟨y,rfl⟩:=aE hb;clear hb)
      exact bH (v:= .tuple #[.slice A n c, .int .u64 v, .int .i64 _]) (by simp[results,results24,go_sem]) rfl (HOLD.out _ aC (kq,v,_) rfl)
end
section
variable{K:Nat->Prop}{p d q n lines NN N:Nat}{t:Nat->Nat}{bs:Nat->Option Nat}{w w':World}{σ:PwS}{xs:List Int}{L:Nat->Int}{T:Nat->TT}{fl:List Nat}{kv:List (Int×Int)}
theorem CN(h:Gz K p d q n lines NN t bs w σ xs N L T fl kv):Calls prog 14 #[.pointer (some ⟨q,0,none⟩)] w (nN kv w):=by
 have LI:=ag (XT h);have hle:kv.length<=NN:=by have:=h.ab.ct;omega
 have iX:NN<1000:=by have:=h.hP;omega
 obtain⟨m,hm⟩:=aH kv.length;unfold nN at LI |-;rw[hm]at LI hle |-;have HM:=ag hm;clear h hm;go_enter func14,ntmps14
 go_wp2_with (go_at_call 41;(with_reducible refine LI.out.mono ?_);rintro e w1 ⟨A,c,rfl,h1,h2,h3⟩;have H1:=ag (And.intro h1 (And.intro h2 h3));clear h1 h2 h3)
 go_loopw [9,3,5,10,11,12,13,14,15,16,17,18,19,20,21] (λi s _ _ _ _ _ _ _ _ _ _ _ _ _ wr=>∃(j:Nat) (A':Option Addr) (c':Nat),j<=m/\i= .int .i64 j/\s= .slice A' j c'/\Sl 45 2 wr A' j c' (az (kv.take j))/\(∀b,ah A' b->w1.heap.size<=b)/\Below w1.heap.size w1 wr) (λi _ _ _ _ _ _ _ _ _ _ _ _ _ _ _=>m-(intOf i).toNat)
 case atStart=>exact⟨0,none,0,by omega,rfl,rfl,Sl.nil,by simp[ah],bZ _ _⟩
 case round=>
  obtain⟨j,A',c',hj,rfl,rfl,hS,hO,hB⟩:=hrel;have HS:=ag hS;have HO:=ag hO;have HB:=ag hB;by_cases aM:j<m
  . have dx:(j:Int)<(m:Int):=by omega
    have MU:(0:Int)<=(j:Int):=by omega
    have oZ:j<kv.length:=by rw[HM.out];exact aM
    obtain⟨e,he⟩:∃e,kv[j]?=some e:=⟨_,dG oZ⟩;obtain⟨g,off,hA,hl,wN,xo⟩:=(H1.out.1.below hB).at_ he
    have HT:Hid (kv.take (j+1)=kv.take j++[e]):=by
     show _=_
     rw[iw oZ,(ki.1 he).2]
    obtain⟨k,v⟩:=e;dsimp only at wN xo;subst hA;clear hS hO hB he;go_wp2_with (at_builtin;refine ay rfl (.tmp 13) (.tmp 19) 42 rfl 45 (.agg #[.int .u64 0, .int .u64 0]) 2 16 rfl ae underlying42 dX ae A' j c' (az (kv.take j)) ⟨wr.heap.size+1,0,none⟩ 1 1 [.int .u64 k, .int .u64 v] rfl rfl (HS.out.keep (λb hb=>(by exact aC:Below wr.heap.size wr _).block b (HS.out.lt hb))) rfl ae (λj' u hu=>by have h7:=dT (wr.alloc (.cells #[.int .u64 k, .int .u64 v] 95)) 45 [.int .u64 k, .int .u64 v] j' u hu;rw[show(wr.alloc (.cells #[.int .u64 k, .int .u64 v] 95)).heap.size=wr.heap.size+1 by simp]at h7;exact h7) (ir.1 rfl) ae ?_;intro A4 c4 w4 lU eW mU uM)
    have Ve:Below w1.heap.size w1 w4:=bM (HB.out.trans ((by exact aC:Below wr.heap.size wr ((wr.alloc (.cells #[.int .u64 k, .int .u64 v] 95)).alloc (.cells #[.int .u64 k, .int .u64 v] 45))).mono HB.out.size)) eW.out (λb hb=>HO.out b hb);have lR:=HB.out.size;refine⟨⟨j+1,A4,c4,by omega,by go_num,rfl,by rw[HT.out,show az (kv.take j++[(k,v)])=az (kv.take j)++[.int .u64 k, .int .u64 v] by simp[az]];exact lU.out,λb hb=> ?_,Ve⟩,by simp[intOf];omega⟩;rcases mU.out b hb with hx|hx
    . exact HO.out b hx
    . simp at hx;omega
  . obtain rfl:j=m:=by omega
    have Og:Hid (kv.take j=kv):=fR (by rw[HM.out];exact a_ _);clear hS hO hB;go_wp2;have hs:=HS.out;rw[Og.out]at hs;obtain⟨_,_,eD⟩:=H1.out;exact bH (v:= .slice A' j c') (by simp[results,results14,go_sem]) rfl ⟨A',c',rfl,hs.X5,λb hb=>by have h8:=HO.out b hb;have h9:=eD.size;omega,eD.trans (HB.out.mono eD.size)⟩
theorem zP(h:Gz K p d q n lines NN t bs w σ xs N L T fl kv)(A:Option Addr)(m c:Nat)(hm:kv.length=m)(hR:gP w A kv):Calls prog 26 #[.pointer (some ⟨q,0,none⟩), .slice A m c] w λe w'=>e= .returned (.bool true)/\Below w.heap.size w w':=by
 have hle:kv.length<=NN:=by have:=h.ab.ct;omega
 have iX:NN<1000:=by have:=h.hP;omega
 have jQ:Hid (Calls prog 27 #[.pointer (some ⟨q,0,none⟩)] w (LB ((NN:Int)-(m:Int)) (m:Int) w)):=by
  have:=EO h;rw[hm]at this;rw[show((NN-m:Nat):Int)=(NN:Int)-(m:Int) by omega]at this;exact this
 have LI:Hid (∀W,Below w.heap.size w W->Calls prog 14 #[.pointer (some ⟨q,0,none⟩)] W (nN kv W)):=λW hW=>CN (h.bl hW)
 have rS:Hid (∀W,Below w.heap.size w W->Calls prog 25 #[.pointer (some ⟨q,0,none⟩)] W λe w'=>e= .returned (.int .i64 (NN:Int))/\W=w'):=λW hW=>kZ (h.bl hW)
 have LD:Hid (∀W A2 c2,Below w.heap.size w W->gP W A2 kv->Calls prog 13 #[.slice A2 m c2, .slice A m c] W λe w'=>e= .returned (.bool true)/\Below W.heap.size W w'):=λW A2 c2 hW wO=>by
  have:=kT (w:=W) A2 A m c2 m c kv kv hm hm ⟨by omega,by omega⟩ wO (hR.below hW);rw[kx rfl]at this;exact this
 have HM:=ag hm;have e1:IntKind.i64.wrap ((NN:Int)-(m:Int))=(NN:Int)-(m:Int):=b9 _ ae;clear h hR hm hle iX;unfold LB at jQ;unfold nN at LI;go_enter func26,ntmps26
 go_wp2_with (first
  |(go_at_call 27;(with_reducible refine jQ.out.mono ?_);rintro e w1 ⟨rfl,hb⟩;obtain⟨x,rfl⟩:=aE hb;clear hb)
  |(go_at_call 14;(with_reducible refine(LI.out _ aC).mono ?_);rintro e w2 ⟨A2,c2,rfl,CG,_,hb⟩;have pA:=ag CG;obtain⟨y,rfl⟩:=aE hb;clear hb CG;simp only[HM.out])
  |(go_at_call 13;(with_reducible refine(LD.out _ _ _ aC pA.out).mono ?_);rintro e w3 ⟨rfl,hb⟩;obtain⟨z,rfl⟩:=aE hb;clear hb)
  |(go_at_call 25;(with_reducible refine(rS.out _ aC).mono ?_);rintro e w4 ⟨rfl,rfl⟩))
 exact bH (v:= .bool true) (by simp[results,results26,go_sem]) rfl ⟨rfl,by exact aC⟩
end
def rB(n bt:Nat):Eu:=⟨n+3,n+5,n,n+1,bt,n+2,n+4⟩
def JS(rA:Nat->Nat)(p d q n lines NN:Nat)(t:Nat->Nat)(q0:List (Int×Int))(cs:List aW)(Bd:Nat)(w:World)(fin:Bool)(e:Ending)(w':World):Prop:=
 ∃(bt:Nat) (rl:Nat->List aW) (now:Nat->Option Nat) (ms:List TM) (gs:List Nat) (T mu:Nat) (κ:Nat->Nat) (A:Nat->Option Addr) (cp:Nat->Nat) (oz:List Nat) (Am:Option Addr) (cm:Nat) (bs:Nat->Option Nat) (σ:PwS) (xs:List Int) (L:Nat->Int) (Tr:Nat->TT) (fl:List Nat) (ord:List Nat) (N:Nat),
  e= .returned (.tuple #[.slice Am ms.length cm, .bool true])/\Bx ⟨rA,w,p,d,q,n,lines,NN,t,q0,uI (cs.take 7),Bd,rB w.heap.size bt⟩ rl now ms gs T mu w' κ A cp oz Am cm bs σ xs L Tr fl ord N/\(fin=true->∀s,s<3->rl s=[]/\∀i m,now s=some i->ms[i]?=some m->m.ph.over=true)/\(fin=false->T<=400)
theorem Zaj(w:World)(c1 c2 c3 c4 c5 c6:Array Value)(t1 t2 t3 t4 t5 t6:TypeId):CB ((((((w.alloc (.cells c1 t1)).alloc (.cells c2 t2)).alloc (.cells c3 t3)).alloc (.cells c4 t4)).alloc (.cells c5 t5)).alloc (.cells c6 t6)) w.heap.size t1 c1/\
 CB ((((((w.alloc (.cells c1 t1)).alloc (.cells c2 t2)).alloc (.cells c3 t3)).alloc (.cells c4 t4)).alloc (.cells c5 t5)).alloc (.cells c6 t6)) (w.heap.size+1) t2 c2/\CB ((((((w.alloc (.cells c1 t1)).alloc (.cells c2 t2)).alloc (.cells c3 t3)).alloc (.cells c4 t4)).alloc (.cells c5 t5)).alloc (.cells c6 t6)) (w.heap.size+1+1) t3 c3/\
 CB ((((((w.alloc (.cells c1 t1)).alloc (.cells c2 t2)).alloc (.cells c3 t3)).alloc (.cells c4 t4)).alloc (.cells c5 t5)).alloc (.cells c6 t6)) (w.heap.size+1+1+1) t4 c4/\CB ((((((w.alloc (.cells c1 t1)).alloc (.cells c2 t2)).alloc (.cells c3 t3)).alloc (.cells c4 t4)).alloc (.cells c5 t5)).alloc (.cells c6 t6)) (w.heap.size+1+1+1+1) t5 c5/\
 CB ((((((w.alloc (.cells c1 t1)).alloc (.cells c2 t2)).alloc (.cells c3 t3)).alloc (.cells c4 t4)).alloc (.cells c5 t5)).alloc (.cells c6 t6)) (w.heap.size+1+1+1+1+1) t6 c6/\Below w.heap.size w ((((((w.alloc (.cells c1 t1)).alloc (.cells c2 t2)).alloc (.cells c3 t3)).alloc (.cells c4 t4)).alloc (.cells c5 t5)).alloc (.cells c6 t6)):=by
 have al:∀{W:World} {g:Nat} {e:TypeId} {cs:Array Value} (o:Obj),CB W g e cs->CB (W.alloc o) g e cs:=λo h=>h.below (ai (bZ _ _) _)
 refine⟨al _ (al _ (al _ (al _ (al _ (CB.br _ _ _ rfl))))),?_,?_,?_,?_,?_,ai (ai (ai (ai (ai (ai (bZ _ _) _) _) _) _) _) _⟩
 . refine al _ (al _ (al _ (al _ (CB.br _ _ _ ?_))));simp
 . refine al _ (al _ (al _ (CB.br _ _ _ ?_)));simp
 . refine al _ (al _ (CB.br _ _ _ ?_));simp
 . refine al _ (CB.br _ _ _ ?_);simp
 . refine CB.br _ _ _ ?_;simp
section
variable{rA:Nat->Nat}{p d q n lines NN N Bd:Nat}{t:Nat->Nat}{w:World}{σ:PwS}{q0:List (Int×Int)}{xs:List Int}{L:Nat->Int}{Tr:Nat->TT}{fl:List Nat}
theorem X7{k:Oa}{rl:Nat->List aW}{now:Nat->Option Nat}{ms:List TM}{gs:List Nat}{T mu s:Nat}{e:Ending}{w':World}(h:VK k rl now ms gs T mu s e w'):e= .returned (.bool true)/\∃uR now' oI Bs T' FA,D8 k uR now' oI Bs T' FA w'/\T'<=T+1/\FA<=mu:=by
 obtain⟨h1,h2|⟨h2,uR,now',oI,Bs,h3⟩⟩:=h
 . exact⟨h1,rl,now,ms,gs,T,mu,h2.2.2,by omega,by omega⟩
 . exact⟨h1,uR,now',oI,Bs,T+1,mu-1,h3,by omega,by omega⟩
theorem Pr{k:Oa}{rl:Nat->List aW}{now:Nat->Option Nat}{ms:List TM}{gs:List Nat}{T mu s:Nat}{e:Ending}{w':World}(h:VK k rl now ms gs T mu s e w')(ha:Active rl now ms s=true):e= .returned (.bool true)/\∃uR now' oI Bs T' FA,D8 k uR now' oI Bs T' FA w'/\FA+1<=mu:=by
 obtain⟨h1,h2|⟨h2,uR,now',oI,Bs,h3⟩⟩:=h
 . exact absurd ⟨h2.1,h2.2.1⟩ (Qi ha)
 . exact⟨h1,uR,now',oI,Bs,T+1,mu-1,h3,by omega⟩
theorem ZaX{cs:List aW}{nc bq bm an bn al bl:Nat}{W0 wc:World}(H:Hk rA p d q n lines NN t (λ_=>none) w σ)(Nf:∀b,b<w.heap.size->rA b<=2)(Q:TW aR (cP 0) n (aF NN) q0 σ [] N 0 xs L Tr fl [])(gq:cs.length=nc)(DN:∀c∈cs,oF c)(Bp:N+6778*(cs.take 7).length<=Bd/\Bd<1000000/\NN<1000000)(zE:xr lines L)
 (he:w.heap.size=bq/\bq+1=bm/\bm+1=an/\an+1=bn/\bn+1=al/\al+1=bl) (ZQ:Below w.heap.size w W0) (hK:CB W0 bq 25 #[.pointer (some ⟨q,0,none⟩)]/\CB W0 bm 29 #[.slice none 0 0]/\CB W0 an 35 #[.pointer none, .pointer none, .pointer none]/\CB W0 bn 29 #[.slice (some ⟨an,0,none⟩) 3 3]/\CB W0 al 34 #[.slice none 0 0, .slice none 0 0, .slice none 0 0]/\CB W0 bl 90 #[.slice (some ⟨al,0,none⟩) 3 3]/\Below bq w W0)
 (hF:F1 cs W0 al (min nc 7) wc):D8 ⟨rA,w,p,d,q,n,lines,NN,t,q0,uI (cs.take 7),Bd,rB w.heap.size wc.heap.size⟩ (cX (cs.take 7)) (λ_=>none) [] [] 0 (6778*(cs.take 7).length) (wc.alloc (.cells #[.int .i64 0] 3)):=by
 obtain⟨A,cp,f1,f2,f3,f4⟩:=hF
 have uT:cs.take (min nc 7)=cs.take 7:=by
  by_cases h:nc<=7
  . rw[vn h,fR ae,fR ae]
  . rw[Nat.min_eq_right ae]
 rw[uT]at f1 f2;obtain⟨k1,k2,k3,k4,k5,k6,k7⟩:=hK;have Le:=k5.lt;have xN:=k6.lt;have hs:=f4.size;have up:∀{b:Nat} {ty:TypeId} {vs:Array Value},CB W0 b ty vs->b≠al->CB (wc.alloc (.cells #[.int .i64 0] 3)) b ty vs:=λhb aG=>(hb.keep (f4.block _ hb.lt aG)).below (ai (bZ _ _) _)
 have hB:Below w.heap.size w (wc.alloc (.cells #[.int .i64 0] 3)):=ai (bM ZQ f4 (λb hb=>by have hb:b=al:=hb;omega)) _
 have hrB:rB w.heap.size wc.heap.size=⟨bn,bl,bq,bm,wc.heap.size,an,al⟩:=by
  unfold rB;rw[Eu.mk.injEq];exact⟨by omega,by omega,by omega,by omega,rfl,by omega,by omega⟩
 rw[hrB];refine⟨_,A,cp,[],none,0,_,σ,xs,L,Tr,fl,[],N,X2 (k:=⟨rA,w,p,d,q,n,lines,NN,t,q0,uI (cs.take 7),Bd,⟨bn,bl,bq,bm,wc.heap.size,an,al⟩⟩) (cs:=cs.take 7) H Q hB ?_ Nf (up k4 (show bn≠al by omega)) (up k6 (show bl≠al by omega)) (up k1 (show bq≠al by omega)) (up k2 (show bm≠al by omega)) (CB.br _ _ _ rfl) (up k3 (show an≠al by omega)) (f1.below (ai (bZ _ _) _)) (λs hs=> ?_) rfl (List.length_take_le _ _) (λc hc=>DN c (za hc)) Bp.1 Bp.2.1 Bp.2.2 zE⟩
 . exact⟨⟨by show w.heap.size<=bn;omega,by show w.heap.size<=bl;omega,by show w.heap.size<=bq;omega,by show w.heap.size<=bm;omega,by show w.heap.size<=wc.heap.size;omega,by show w.heap.size<=an;omega,by show w.heap.size<=al;omega⟩,by show bm≠wc.heap.size;omega,by show bm≠an;omega,by show bm≠al;omega,by show wc.heap.size≠an;omega,by show wc.heap.size≠al;omega,by show an≠al;omega,⟨by show bn≠bm;omega,by show bn≠wc.heap.size;omega,by show bn≠an;omega,by show bn≠al;omega⟩,⟨by show bl≠bm;omega,by show bl≠wc.heap.size;omega,by show bl≠an;omega,by show bl≠al;omega⟩,⟨by show bq≠bm;omega,by show bq≠wc.heap.size;omega,by show bq≠an;omega,by show bq≠al;omega⟩⟩
 . obtain⟨g1,g2⟩:=f2 s hs
   refine⟨g1.keep (λb hb=>d_ _ _ _ (g1.lt hb)),λb hb=> ?_⟩;have h1:=g2 b hb;have h2:=g1.lt hb;exact⟨by show w.heap.size<=b;omega,by show b≠bm;omega,by show b≠wc.heap.size;omega,by show b≠an;omega,by show b≠al;omega⟩
set_option maxRecDepth 1000000 in
theorem Ll(H:Hk rA p d q n lines NN t (λ_=>none) w σ)(Nf:∀b,b<w.heap.size->rA b<=2)(Q:TW aR (cP 0) n (aF NN) q0 σ [] N 0 xs L Tr fl [])(Ac:Option Addr)(nc cc:Nat)(cs:List aW)(MP:nc<9223372036854775808)(hcs:Hm rA w Ac nc cc cs)(DN:∀c∈cs,oF c)
 (Ap:Option Addr) (np cp:Nat) (ps:List Int) (lZ:ps.length=np) (MN:np<9223372036854775808) (FV:Rd .i64 w Ap ps) (YU:∀b,ah Ap b->0<np->rA b=1) (AF:∀z∈ps,-9223372036854775808<=z/\z<9223372036854775808) (fin:Bool) (Bp:N+6778*(cs.take 7).length<=Bd) (U9:Bd<1000000) (hP6:NN<1000000) (zE:xr lines L):
 Calls prog 12 #[.pointer (some ⟨q,0,none⟩), .slice Ac nc cc, .slice Ap np cp, .bool fin] w (JS rA p d q n lines NN t q0 cs Bd w fin):=by
 have hm3:=FE;have He:=FF;have HH:=ag H;have HQ:=ag Q;have Zch:=ag Nf;have Ax:=ag hcs;have HCR:=ag DN;have vZ:=ag lZ;have HPD:=ag FV;have Oi:=ag YU;have HPR:=ag AF;have NP:=ag (And.intro Bp (And.intro U9 hP6));have jk:Hid (cs.length=nc):=hcs.1;have ZdY:=ag zE;clear zE H Q Nf hcs DN lZ FV YU AF Bp U9 hP6;go_enter func12,ntmps12
 go_upto_region 4 with(fail)
 have hK:=Zaj w #[.pointer (some ⟨q,0,none⟩)] #[.slice none 0 0] #[.pointer none, .pointer none, .pointer none] #[.slice (some ⟨w.heap.size+1+1,0,none⟩) 3 3] #[.slice none 0 0, .slice none 0 0, .slice none 0 0] #[.slice (some ⟨w.heap.size+1+1+1+1,0,none⟩) 3 3] 25 29 35 29 34 90;obtain⟨W0,nR⟩:=aH (((((((w.alloc (.cells #[.pointer (some ⟨q,0,none⟩)] 25)).alloc (.cells #[.slice none 0 0] 29)).alloc (.cells #[.pointer none, .pointer none, .pointer none] 35)).alloc (.cells #[.slice (some ⟨w.heap.size+1+1,0,none⟩) 3 3] 29)).alloc (.cells #[.slice none 0 0, .slice none 0 0, .slice none 0 0] 34)).alloc (.cells #[.slice (some ⟨w.heap.size+1+1+1+1,0,none⟩) 3 3] 90)));rw[nR]at hK;rw[nR];clear nR hm3 He;obtain⟨bq,e1⟩:∃x,w.heap.size=x:=⟨_,rfl⟩;obtain⟨bm,e2⟩:∃x,bq+1=x:=⟨_,rfl⟩;obtain⟨an,e3⟩:∃x,bm+1=x:=⟨_,rfl⟩;obtain⟨bn,e4⟩:∃x,an+1=x:=⟨_,rfl⟩;obtain⟨al,e5⟩:∃x,bn+1=x:=⟨_,rfl⟩;obtain⟨bl,e6⟩:∃x,al+1=x:=⟨_,rfl⟩;have HE:=ag (And.intro e1 (And.intro e2 (And.intro e3 (And.intro e4 (And.intro e5 e6)))));simp only[e1,e2,e3,e4,e5,e6]at hK;have oG:Hid (Below w.heap.size w W0):=by show Below _ _ _;rw[e1];exact hK.2.2.2.2.2.2
 have HK:=ag hK;simp only[e1,e2,e3,e4,e5,e6];clear hK e1 e2 e3 e4 e5 e6;have jc:Hid (F1 cs W0 al 0 W0):=⟨λ_=>none,λ_=>0,HK.out.2.2.2.2.1,λs hs=>⟨Sl.nil,λb hb=>by simp[ah]at hb⟩,λs u _ _ _ b hb=>by simp[ah]at hb,Ch.refl _ _⟩;iterate 7 go_step
 go_cut [13,14]from 23 (λ_ _ wx=>F1 cs W0 al (min nc 7) wx)
 case first=>
  refine wp_block ?_;go_loopw [13,14,23,24,25,26,27,28,29,30,31,32,33,34,35,36,37,38,39,40,41,42,43,44,45,46,47,48,49,50,51] (λi _ _ _ _ _ _ _ _ _ _ _ _ _ _ _ _ _ _ _ _ _ _ _ _ _ _ _ _ _ _ wr=>∃j:Nat,j<=nc/\j<=7/\i= .int .i64 j/\F1 cs W0 al j wr) (λi _ _ _ _ _ _ _ _ _ _ _ _ _ _ _ _ _ _ _ _ _ _ _ _ _ _ _ _ _ _ _=>nc-(intOf i).toNat)
  case atStart=>exact⟨0,by omega,by omega,rfl,jc.out⟩
  case round=>
   clear jc;obtain⟨j,hj,hj7,rfl,hF⟩:=hrel;have HF:=ag hF;by_cases UW:j<nc/\j<7
   . obtain⟨aM,ZeG⟩:=UW
     have dx:(j:Int)<(nc:Int):=by omega
     have Zbw:(j:Int)<7:=by omega
     have hjc:j<cs.length:=by rw[jk.out];exact aM
     obtain⟨g,off,hAc,QX,eh,F_⟩:=Ax.out.2.2 ae;obtain⟨z0,z1,z2,z3,z4⟩:=F_ j aM;have DN:=HCR.out _ (by rw[eY,dG hjc];exact fq hjc:cs.getD j fP∈cs);obtain⟨cj,SM⟩:=aH (cs.getD j fP);have HCJ:=ag SM;rw[SM]at z0 z1 z2 z3 z4 DN;obtain⟨A,cpf,f1,f2,f3,f4⟩:=hF
     have M6:w.heap.size<=al/\bl≠al/\al<W0.heap.size/\bl<W0.heap.size:=by
      have e:=HE.out;have h1:=HK.out.2.2.2.2.1.lt;have h2:=HK.out.2.2.2.2.2.1.lt;refine⟨by omega,by omega,h1,h2⟩
     have Zd8:=ag M6;have ML:∀o,wr.cell? ⟨g,o,none⟩=w.cell? ⟨g,o,none⟩:=λo=>(f4.cells g o (cD eh oG.out.size) (λhx=>by have hx:g=al:=hx;omega)).trans (oG.out.cell (p:=⟨g,o,none⟩) eh)
     have zz0:=(ML _).trans z0;have zz1:=(ML _).trans z1;have zz2:=(ML _).trans z2;have zz3:=(ML _).trans z3;have zz4:=(ML _).trans z4;have ZeU:g<wr.heap.size:=cD (cD eh oG.out.size) f4.size;obtain⟨s,hs,bQ⟩:∃s:Nat,s<3/\cj.a8%3=(s:Int):=⟨(cj.a8%3).toNat,by omega,by omega⟩
     have Hp:Hid (∀W,Calls prog 17 #[.int .i64 cj.a8, .int .i64 3] W λr w'=>r= .returned (.int .i64 (s:Int))/\W=w'):=λW=>by
      have:=qq W cj.a8 DN.th 3 ae;rw[bQ]at this;exact this
     have b1:wr.cell? ⟨bl,0,none⟩=some (.slice (some ⟨al,0,none⟩) 3 3):=(f4.cells bl 0 M6.2.2.2 (λhx=>M6.2.1 hx)).trans (HK.out.2.2.2.2.2.1.cell 0);have b2:=CB.Bb (s:=s) (f:=λs=> .slice (A s) (cX (cs.take j) s).length (cpf s)) (a:= .pointer none) (b:= .pointer none) (c:= .pointer none) f1 hs;have b3:=f1.frozen s;have v1:bl<wr.heap.size:=cD M6.2.2.2 f4.size;have v2:=f1.lt;have hs3:(s:Int)<3:=by omega
     have K7:(0:Int)<=(s:Int):=by omega
     obtain⟨c1,c2,c3,c4,c5⟩:=cj;dsimp only at zz0 zz1 zz2 zz3 zz4 Hp bQ;have LD:Hid (Sl 33 5 (wr.drew.alloc (.cells #[.int .i64 c1, .int .i64 c2, .int .u64 c3, .int .u64 c4, .int .u64 c5] 33)) (A s) (cX (cs.take j) s).length (cpf s) (eI (cX (cs.take j) s))):=(f2 s hs).1.keep (λb hb=>d_ wr.drew _ b ((f2 s hs).1.lt hb));have HFN:=ag (And.intro hjc (And.intro hs (And.intro bQ (And.intro f1 (And.intro f2 (And.intro f3 f4))))));have WN:¬ah (A s) bl/\¬ah (A s) al/\¬ah (A s) g:=⟨λhx=>by have:=(f2 s hs).2 _ hx;omega,λhx=>by have:=(f2 s hs).2 _ hx;omega,λhx=>by have:=(f2 s hs).2 _ hx;omega⟩;have tK:=ag WN;have HGA:Hid (bl≠al/\g≠al):=⟨M6.2.1,by omega⟩
     have tG:(cX (cs.take j) s).length<=7:=by
      have h1:=PT (λc:aW=>decide (c.a8%3=(s:Int))) (cs.take j);unfold cX;rw[gf]at h1;omega
     obtain⟨ln,Zi⟩:=aH ((cX (cs.take j) s).length);have x8:=ag Zi;rw[Zi]at b2 LD tG;generalize hAs:A s=As at*;have Zd7:=ag hAs;clear hAs;generalize cpf s=Hj at*;subst hAc;clear f1 f2 f3 f4 ML z0 z1 z2 z3 z4 F_ eh DN HF SM bQ M6 WN QX Zi;go_upto_block 1 with(fail)
     go_cut [14]from 33 to 51 (λ_ wx=>F1 cs W0 al (j+1) wx)
     case first=>
      go_upto_region 8 with(go_at_call 17;(with_reducible refine(Hp.out _).mono ?_);rintro e w' ⟨rfl,rfl⟩)
      obtain⟨Za,QM⟩:=HGA.out;refine gQ 13 (λw'=>w'.cell? ⟨bl,0,none⟩=some (.slice (some ⟨al,0,none⟩) 3 3)/\w'.cell? ⟨al,s,none⟩=some (.slice As ln Hj)/\w'.cell? ⟨g,off+j*5,none⟩=some (.int .i64 c1)/\w'.cell? ⟨g,off+j*5+1,none⟩=some (.int .i64 c2)/\w'.cell? ⟨g,off+j*5+2,none⟩=some (.int .u64 c3)/\w'.cell? ⟨g,off+j*5+3,none⟩=some (.int .u64 c4)/\w'.cell? ⟨g,off+j*5+4,none⟩=some (.int .u64 c5)/\w'.frozen? ⟨al,s,none⟩=false/\bl<w'.heap.size/\al<w'.heap.size/\g<w'.heap.size) krQ (by(refine⟨?_,?_,?_,?_,?_,?_,?_,?_,?_,?_,?_⟩<;>first|assumption|(go_simp;done)|(simp;omega))) (λhHeld=> ?_)
      refine aw.tk 0 ?_;try simp only[puQ]
      refine aw.tk 1 ?_;try simp only[puQ]
      refine aw.tk 2 ?_;try simp only[puQ]
      refine aw.tk 3 ?_;try simp only[puQ]
      refine aw.tk 4 ?_;try simp only[puQ]
      refine aw.tk 5 ?_;try simp only[puQ]
      refine aw.tk 6 ?_;try simp only[puQ]
      refine aw.tk 7 ?_;try simp only[puQ]
      refine aw.tk 8 ?_;try simp only[puQ]
      refine aw.tk 9 ?_;try simp only[puQ]
      refine aw.one (i:=10) krQ rfl (λK hK=> ?_);go_simp;refine hK.out _ _ (λ_=> ?_) (λhHeld0=> ?_)
      . (try dsimp only)
        (refine⟨?_,?_,?_,?_,?_,?_,?_,?_,?_,?_,?_⟩<;>first|assumption|(go_simp;done)|(simp;omega))
      have hHeld:=hHeld0 (by decide);clear hK K hHeld0;try simp only[puQ]
      refine aw.one (i:=11) krQ rfl (λK hK=> ?_)
      (refine dJ rfl (.tmp 44) (.tmp 49) 34 rfl 33 (.agg #[.int .i64 0, .int .i64 0, .int .u64 0, .int .u64 0, .int .u64 0]) 5 40 rfl ae underlying34 FP ae As ln Hj (eI (cX (cs.take j) s)) ⟨wr.heap.size,0,none⟩ 1 1 [.int .i64 c1, .int .i64 c2, .int .u64 c3, .int .u64 c4, .int .u64 c5] (by go_simp) (by go_simp) LD.out rfl ae (dT wr.drew 33 _) (ir.1 rfl) ae ?_;intro A4 c4' w4 lU eW mU XD;have y1:w4.cell? ⟨bl,0,none⟩=some (.slice (some ⟨al,0,none⟩) 3 3):=(eW.out.cells bl 0 oH tK.out.1).trans (by go_simp);have y2:w4.cell? ⟨al,s,none⟩=some (.slice As ln Hj):=(eW.out.cells al s oH tK.out.2.1).trans (by go_simp);have y3:w4.frozen? ⟨al,s,none⟩=false:=(eW.out.jE al s oH tK.out.2.1).trans (by go_simp);have y4:bl<w4.heap.size:=cD oH eW.out.size;have y5:al<w4.heap.size:=cD oH eW.out.size;have y6:w4.cell? ⟨g,off+j*5,none⟩=some (.int .i64 c1):=(eW.out.cells g _ oH tK.out.2.2).trans (by go_simp);have y7:w4.cell? ⟨g,off+j*5+1,none⟩=some (.int .i64 c2):=(eW.out.cells g _ oH tK.out.2.2).trans (by go_simp);have y8:w4.cell? ⟨g,off+j*5+2,none⟩=some (.int .u64 c3):=(eW.out.cells g _ oH tK.out.2.2).trans (by go_simp);have y9:w4.cell? ⟨g,off+j*5+3,none⟩=some (.int .u64 c4):=(eW.out.cells g _ oH tK.out.2.2).trans (by go_simp);have y10:w4.cell? ⟨g,off+j*5+4,none⟩=some (.int .u64 c5):=(eW.out.cells g _ oH tK.out.2.2).trans (by go_simp);have y11:g<w4.heap.size:=cD oH eW.out.size)
      refine hK.out _ _ (λ_=> ?_) (λhHeld0=> ?_)
      . (try dsimp only)
        (refine⟨?_,?_,?_,?_,?_,?_,?_,?_,?_,?_,?_⟩<;>first|assumption|(go_simp;done)|(simp;omega))
      have hHeld:=hHeld0 (by decide);clear hK K hHeld0;try simp only[puQ]
      refine aw.one (i:=12) krQ rfl (λK hK=> ?_);go_simp;refine hK.out _ _ (λ_=> ?_) (λhHeld0=> ?_)
      . (try dsimp only)
        (refine⟨?_,?_,?_,?_,?_,?_,?_,?_,?_,?_,?_⟩<;>first|assumption|(go_simp;done)|(simp;omega))
      have hHeld:=hHeld0 (by decide);clear hK K hHeld0;try simp only[puQ]
      refine aw.one (i:=13) krQ rfl (λK hK=> ?_);go_simp;refine hK.out _ _ (λhx=>absurd rfl hx) (λhHeld=> ?_);clear hK K hHeld;try simp only[puQ]
      refine aw.done krQ ?_ _;go_wp2;go_meet;obtain⟨g1,g2,g3,g4,g5,g6,g7⟩:=HFN.out;have CU:=lU.out;rw[<-x8.out]at CU;have HW5:=mU.out;have rz:Ch (ah As) (wr.drew.alloc (.cells #[.int .i64 c1, .int .i64 c2, .int .u64 c3, .int .u64 c4, .int .u64 c5] 33)) w4:=eW.out;have HW6:∀b,ah A4 b->ah As b\/b=(wr.drew.alloc (.cells #[.int .i64 c1, .int .i64 c2, .int .u64 c3, .int .u64 c4, .int .u64 c5] 33)).heap.size:=mU.out;rw[<-Zd7.out]at rz HW6;rw[<-x8.out];exact F1.next g1 HCJ.out g2 g3 Zd8.out.2.2.1 g4.drew (λu hu=>⟨(g5 u hu).1.keep (λb _=>rfl),(g5 u hu).2⟩) g6 g7.drew CU rz HW6
     case rest=>
      have Zd3:=ag hcut;clear hcut HFN LD;go_wp2;exact⟨⟨j+1,by omega,by omega,by go_num,Zd3.out⟩,by simp[intOf];omega⟩
   . have UN:j=min nc 7:=by omega
     have HFE:Hid (F1 cs W0 al (min nc 7) wr):=by show F1 _ _ _ _ _;rw[<-UN];exact hF
     clear hF HF UN;by_cases aM:j<nc
     . have dx:(j:Int)<(nc:Int):=by omega
       have Zbw:¬(j:Int)<7:=by omega
       go_wp2;go_meet
       case rel=>exact HFE.out
     . have dx:¬(j:Int)<(nc:Int):=by omega
       go_wp2;go_meet
       case rel=>exact HFE.out
 case rest=>
  clear jc;have HF:=ag hcut;clear hcut;have hmf:∀(fn:Fn) (first cap:Array Value) (w:World),(Instr.makeFunc fn first cap).run prog w= .ok (.func fn first cap) w:=λ_ _ _ _=>rfl
  go_upto_region 11 with(fail)
  clear hmf;obtain⟨bt,NZ⟩:=aH wc.heap.size
  have NK:Hid (D8 ⟨rA,w,p,d,q,n,lines,NN,t,q0,uI (cs.take 7),Bd,rB w.heap.size bt⟩ (cX (cs.take 7)) (λ_=>none) [] [] 0 (6778*(cs.take 7).length) (wc.alloc (.cells #[.int .i64 0] 3))):=by
   rw[<-NZ];exact ZaX HH.out Zch.out HQ.out jk.out HCR.out NP.out ZdY.out HE.out oG.out HK.out HF.out
  have HBT:Hid (rB w.heap.size bt=⟨bn,bl,bq,bm,bt,an,al⟩):=by
   have e:=HE.out;show rB w.heap.size bt=_
   unfold rB;rw[Eu.mk.injEq];exact⟨by omega,by omega,by omega,by omega,rfl,by omega,by omega⟩
  obtain⟨k,hk⟩:∃k:Oa,k=⟨rA,w,p,d,q,n,lines,NN,t,q0,uI (cs.take 7),Bd,rB w.heap.size bt⟩:=⟨_,rfl⟩
  have Tb:Hid (k.rA=rA/\k.w0=w/\k.B=⟨bn,bl,bq,bm,bt,an,al⟩/\k.Bd<1000000):=by
   refine⟨by rw[hk],by rw[hk],by rw[hk];exact HBT.out,by rw[hk];exact NP.out.2.1⟩
  have XB:Hid (∀(e:Ending) (w':World),(∃(rl:Nat->List aW) (now:Nat->Option Nat) (ms:List TM) (gs:List Nat) (T mu:Nat) (κ:Nat->Nat) (A:Nat->Option Addr) (cp:Nat->Nat) (oz:List Nat) (Am:Option Addr) (cm:Nat) (bs:Nat->Option Nat) (σ:PwS) (xs:List Int) (L:Nat->Int) (Tr:Nat->TT) (fl:List Nat) (ord:List Nat) (N:Nat),e= .returned (.tuple #[.slice Am ms.length cm, .bool true])/\Bx k rl now ms gs T mu w' κ A cp oz Am cm bs σ xs L Tr fl ord N/\(fin=true->∀s,s<3->rl s=[]/\∀i m,now s=some i->ms[i]?=some m->m.ph.over=true)/\(fin=false->T<=400))->JS rA p d q n lines NN t q0 cs Bd w fin e w'):=λe w' hx=>by
   obtain⟨rl,now,ms,gs,T,mu,κ,A,cp,oz,Am,cm,bs,σ,xs,L,Tr,fl,ord,N,h1,h2,h3⟩:=hx;exact⟨bt,rl,now,ms,gs,T,mu,κ,A,cp,oz,Am,cm,bs,σ,xs,L,Tr,fl,ord,N,h1,by rw[hk]at h2;exact h2,h3⟩
  rw[<-hk]at NK;obtain⟨mu0,Zc⟩:=aH (6778*(cs.take 7).length);have ZcY:mu0<=47446:=by rw[<-Zc];have:=List.length_take_le 7 cs;omega
  rw[Zc]at NK;obtain⟨W2,eM⟩:=aH (wc.alloc (.cells #[.int .i64 0] 3));rw[eM]at NK;try rw[eM]
  try rw[NZ]
  have Xz:Hid (∀(W:World) (rl:Nat->List aW) (now:Nat->Option Nat) (ms:List TM) (gs:List Nat) (T mu s:Nat),s<3->D8 k rl now ms gs T mu W->Calls prog 40 #[.int .i64 (s:Int), .pointer (some ⟨bn,0,none⟩), .pointer (some ⟨bl,0,none⟩), .pointer (some ⟨bq,0,none⟩), .pointer (some ⟨bm,0,none⟩), .pointer (some ⟨bt,0,none⟩)] W (VK k rl now ms gs T mu s)):=λW rl now ms gs T mu s hs h=>by
   have:=Ri h hs;rw[Tb.out.2.2.1]at this;exact this
  clear eM Zc hk NZ HF HK oG HE HBT HH HQ Zch Ax HCR jk NP;iterate 7 go_step
  go_cut [17]from 53 (λ_ wx=>∃rl now ms gs T mu,D8 k rl now ms gs T mu wx/\T<=400/\mu<=47446)
  case first=>
   refine wp_block ?_;go_loopw [17,8,9,53,54,55,56,57,58,59,60,61,62,63,64,65,66,67,68,69,70] (λi e8 e9 _ _ _ _ _ _ _ _ _ _ _ _ _ _ _ _ _ _ wr=>∃(j:Nat) (rl:Nat->List aW) (now:Nat->Option Nat) (ms:List TM) (gs:List Nat) (T mu:Nat),j<=np/\j<=400/\i= .int .i64 j/\e8= .slice none 0 0/\e9= .bool false/\D8 k rl now ms gs T mu wr/\T<=j/\mu<=47446) (λi _ _ _ _ _ _ _ _ _ _ _ _ _ _ _ _ _ _ _ _ _=>np-(intOf i).toNat)
   case atStart=>exact⟨0,_,_,_,_,_,_,by omega,by omega,rfl,rfl,rfl,NK.out,by omega,ZcY⟩
   case round=>
    clear NK;obtain⟨j,rl,now,ms,gs,T,mu,hj,hj4,rfl,rfl,rfl,hX,hT,WO⟩:=hrel;have HX:=ag hX;by_cases UW:j<np/\j<400
    . obtain⟨aM,Zc2⟩:=UW
      have dx:(j:Int)<(np:Int):=by omega
      have QO:(j:Int)<400:=by omega
      obtain⟨gp,op,hAp,hgp,Hd⟩:=HPD.out.at_ (i:=j) (by rw[vZ.out];exact aM);have AF:=HPR.out _ (fq (by rw[vZ.out];exact aM:j<ps.length));obtain⟨z,hz⟩:=aH (ps[j]'(by rw[vZ.out];exact aM));rw[hz]at Hd AF
      have vL:wr.cell? ⟨gp,op+j,none⟩=some (.int .i64 z)/\gp<wr.heap.size:=by
       obtain⟨κ,A,cp,oz,Am,cm,bs,σ,xs,L,Tr,fl,ord,N,h⟩:=hX;have rI:=h.ch;rw[Tb.out.1,Tb.out.2.1]at rI;have ho:=Oi.out gp (by rw[hAp];rfl) ae;exact⟨(rI.cells gp _ hgp (λhx=>by omega)).trans Hd,cD hgp rI.size⟩
      obtain⟨hgc,eh⟩:=vL;obtain⟨s,hs,bQ⟩:∃s:Nat,s<3/\z%3=(s:Int):=⟨(z%3).toNat,by omega,by omega⟩
      have Hp:Hid (∀W,Calls prog 17 #[.int .i64 z, .int .i64 3] W λr w'=>r= .returned (.int .i64 (s:Int))/\W=w'):=λW=>by
       have:=qq W z AF 3 ae;rw[bQ]at this;exact this
      have fX:=ag (Xz.out wr rl now ms gs T mu s hs hX);subst hAp;clear hX Hd hgp AF hz bQ hs
      go_wp2_with (first
       |(go_at_call 17;(with_reducible refine(Hp.out _).mono ?_);rintro e w' ⟨rfl,rfl⟩)
       |(go_at_call 40;(with_reducible refine fX.out.mono ?_);rintro e w2 zA;obtain⟨rfl,uR,now',oI,Bs,T',FA,lC,uw,Uy⟩:=X7 zA;have Au:=ag lC;have NF:=ag (And.intro uw Uy);clear zA lC uw Uy))
      exact⟨⟨j+1,uR,now',oI,Bs,T',FA,by omega,by omega,by go_num,rfl,rfl,Au.out,by have:=NF.out.1;omega,by have:=NF.out.2;omega⟩,by simp[intOf];omega⟩
    . have qI:Hid (∃rl now ms gs T mu,D8 k rl now ms gs T mu wr/\T<=400/\mu<=47446):=⟨rl,now,ms,gs,T,mu,hX,by omega,WO⟩
      clear hX HX;by_cases aM:j<np
      . have dx:(j:Int)<(np:Int):=by omega
        have QO:¬(j:Int)<400:=by omega
        go_wp2;go_meet
        case rel=>exact qI.out
      . have dx:¬(j:Int)<(np:Int):=by omega
        go_wp2;go_meet
        case rel=>exact qI.out
  case rest=>
   clear NK;obtain⟨rl,now,ms,gs,T,mu,hX,hT4,WO⟩:=hcut;have HX:=ag hX;cases fin with
   |false=>
    obtain⟨κ,A,cp,oz,Am,cm,bs,σ,xs,L,Tr,fl,ord,N,h⟩:=hX;have hb:wc.cell? ⟨bm,0,none⟩=some (.slice Am ms.length cm):=by have:=h.mem.Bt.cell 0;rw[Tb.out.2.2.1]at this;exact this
    have xN:bm<wc.heap.size:=by have:=h.mem.Bt.lt;rw[Tb.out.2.2.1]at this;exact this
    have HS:=ag h;clear h HX;go_wp2;refine Cd 1 ?_;rw[rounds_succ];go_wp2;exact bH (v:= .tuple #[.slice Am ms.length cm, .bool true]) (by simp[results,results12,go_sem]) rfl (XB.out _ _ ⟨rl,now,ms,gs,T,mu,κ,A,cp,oz,Am,cm,bs,σ,xs,L,Tr,fl,ord,N,rfl,HS.out,λhx=>(by cases hx),λ_=>hT4⟩)
   |true=>
    have Zbu:=ag WO;clear hX hT4;go_wp2;go_loopw [18,8,9,19,20,71,72,73,74,75,76,77,78,79,80,81,82,83,84,85,86,87,88,89,90,91,92,93,94,95,96,97,98,99,100,101,102,103,104,105,106,107,108,109,110,111] (λi _ _ _ _ _ _ _ _ _ _ _ _ _ _ _ _ _ _ _ _ _ _ _ _ _ _ _ _ _ _ _ _ _ _ _ _ _ _ _ _ _ _ _ _ _ wr=>∃(j:Nat) (rl:Nat->List aW) (now:Nat->Option Nat) (ms:List TM) (gs:List Nat) (T mu:Nat),i= .int .i64 j/\j+mu<=47446/\D8 k rl now ms gs T mu wr) (λi _ _ _ _ _ _ _ _ _ _ _ _ _ _ _ _ _ _ _ _ _ _ _ _ _ _ _ _ _ _ _ _ _ _ _ _ _ _ _ _ _ _ _ _ _ _=>60000-(intOf i).toNat)
    case atStart=>exact⟨0,rl,now,ms,gs,T,mu,rfl,by have:=Zbu.out;omega,HX.out⟩
    case round=>
     clear HX WO Zbu;obtain⟨j,rl,now,ms,gs,T,mu,rfl,hjm,hX⟩:=hrel;have HX:=ag hX;have ZeT:(j:Int)<140000:=by omega
     obtain⟨wz,QC⟩:∃wz,wz=wr:=⟨wr,rfl⟩;rw[<-QC]at HX |-;have HJM:=ag hjm;clear hX QC hjm;go_wp2;go_loopw [78,8,9,19,20,79,80,81,82,83,84,85,86,87,88,89,90,91,92,93,94,95,96,97,98,99,100,101,102,103,104,105,106,107,108] (λi _ _ sb _ _ _ _ _ _ _ _ _ _ _ _ _ _ _ _ _ _ _ _ _ _ _ _ _ _ _ _ _ _ _ wr=>∃(x:Nat) (b:Bool) (rl:Nat->List aW) (now:Nat->Option Nat) (ms:List TM) (gs:List Nat) (T mu:Nat),i= .int .i64 x/\x<=3/\sb= .bool b/\D8 k rl now ms gs T mu wr/\(b=true->j+1+mu<=47446)/\j+mu<=47446/\(b=false->∀s,s<x->Active rl now ms s=false)) (λi _ _ _ _ _ _ _ _ _ _ _ _ _ _ _ _ _ _ _ _ _ _ _ _ _ _ _ _ _ _ _ _ _ _ _=>3-(intOf i).toNat)
     case atStart=>exact⟨0,false,rl,now,ms,gs,T,mu,rfl,by omega,rfl,HX.out,λh=>(by cases h),HJM.out,λ_ s hs=>by omega⟩
     case round=>
      clear HX HJM;obtain⟨x,b,rl,now,ms,gs,T,mu,rfl,Uy,rfl,hX,eD,dy,xO⟩:=hrel;by_cases hx:x<3
      . have G2:(x:Int)<3:=by omega
        have ux:(0:Int)<=(x:Int):=by omega
        have fX:=ag (Xz.out wr rl now ms gs T mu x hx hX);obtain⟨c1,c2,l1,l2,l3,l4,⟨A',c',c3⟩,ig⟩:=hX.look (s:=x) hx;rw[Tb.out.2.2.1]at c1 c2 l1 l2 l3 l4 c3 ig;have HX:=ag hX;have HB:=ag (And.intro eD (And.intro dy xO));dsimp only at c1 c2 l1 l2 l3 l4 c3 ig;obtain⟨ln,tG⟩:=aH ((rl x).length);rw[tG]at c3 ig;have x8:=ag tG;clear hX eD dy xO tG;cases M7:Active rl now ms x with
        |true=>
         rw[M7]at ig;have Sq:=ag M7;clear M7;have GQ:=ag ig;clear ig;rcases GQ.out with⟨d1,d2⟩|⟨gm,dn,d1,d2,d3,d4⟩
         . have Bh:(0:Int)<(ln:Int):=by have:=kB d2.symm;omega
           clear d2;go_wp2_with (go_at_call 40;(with_reducible refine fX.out.mono ?_);rintro e w2 zA;obtain⟨rfl,uR,now',oI,Bs,T',FA,lC,uw⟩:=Pr zA Sq.out;have Au:=ag lC;have NF:=ag uw;clear zA lC uw)
           exact⟨⟨x+1,true,uR,now',oI,Bs,T',FA,by go_num,by omega,rfl,Au.out,λ_=>(by have:=NF.out;have:=HB.out.2.1;omega),by have:=NF.out;have:=HB.out.2.1;omega,λh=>(by cases h)⟩,by simp[intOf];omega⟩
         . cases dn with
           |false=>
            clear d4;go_wp2_with (go_at_call 40;(with_reducible refine fX.out.mono ?_);rintro e w2 zA;obtain⟨rfl,uR,now',oI,Bs,T',FA,lC,uw⟩:=Pr zA Sq.out;have Au:=ag lC;have NF:=ag uw;clear zA lC uw)
            exact⟨⟨x+1,true,uR,now',oI,Bs,T',FA,by go_num,by omega,rfl,Au.out,λ_=>(by have:=NF.out;have:=HB.out.2.1;omega),by have:=NF.out;have:=HB.out.2.1;omega,λh=>(by cases h)⟩,by simp[intOf];omega⟩
           |true=>
            have Bh:(0:Int)<(ln:Int):=by have:=kB (by simpa using d4:decide (0<ln)=true);omega
            clear d4;go_wp2_with (go_at_call 40;(with_reducible refine fX.out.mono ?_);rintro e w2 zA;obtain⟨rfl,uR,now',oI,Bs,T',FA,lC,uw⟩:=Pr zA Sq.out;have Au:=ag lC;have NF:=ag uw;clear zA lC uw)
            exact⟨⟨x+1,true,uR,now',oI,Bs,T',FA,by go_num,by omega,rfl,Au.out,λ_=>(by have:=NF.out;have:=HB.out.2.1;omega),by have:=NF.out;have:=HB.out.2.1;omega,λh=>(by cases h)⟩,by simp[intOf];omega⟩
        |false=>
         rw[M7]at ig;have Sq:=ag M7;clear M7 fX
         have qI:Hid (∃(x':Nat) (b':Bool) (rl:Nat->List aW) (now:Nat->Option Nat) (ms:List TM) (gs:List Nat) (T mu:Nat),Value.int .i64 ((x+1:Nat):Int)= .int .i64 (x':Int)/\x'<=3/\Value.bool b= .bool b'/\D8 k rl now ms gs T mu wr/\(b'=true->j+1+mu<=47446)/\j+mu<=47446/\(b'=false->∀s,s<x'->Active rl now ms s=false)):=⟨x+1,b,rl,now,ms,gs,T,mu,rfl,by omega,rfl,HX.out,HB.out.1,HB.out.2.1,λhb s hs=>by
          by_cases hsx:s=x
          . rw[hsx];exact Sq.out
          . exact HB.out.2.2 hb s ae⟩
         have GQ:=ag ig;clear ig HX HB;rcases GQ.out with⟨d1,d2⟩|⟨gm,dn,d1,d2,d3,d4⟩
         . have Zj:ln=0:=by have:=PO d2.symm;omega
           subst Zj;clear d2;go_wp2;obtain⟨x',b',uR,now',oI,Bs,T',FA,q1,q2,q3,q4⟩:=qI.out;exact⟨⟨x',b',uR,now',oI,Bs,T',FA,by rw[<-q1];go_num,q2,q3,q4⟩,by simp[intOf];omega⟩
         . have W_:=d4.symm
           rw[AY]at W_;have CH:dn=true:=by simpa using W_.1
           have Zj:ln=0:=by have:=PO W_.2;omega
           subst Zj;subst CH;clear d4 W_;go_wp2;obtain⟨x',b',uR,now',oI,Bs,T',FA,q1,q2,q3,q4⟩:=qI.out;exact⟨⟨x',b',uR,now',oI,Bs,T',FA,by rw[<-q1];go_num,q2,q3,q4⟩,by simp[intOf];omega⟩
      . obtain rfl:x=3:=by omega
        cases b with
        |true=>
         have jP:=ag (And.intro hX (eD rfl));clear hX eD dy xO;go_wp2;exact⟨⟨j+1,rl,now,ms,gs,T,mu,by go_num,by have:=jP.out.2;omega,jP.out.1⟩,by have:=jP.out.2;simp[intOf];omega⟩
        |false=>
         have aS:=xO rfl;obtain⟨κ,A,cp,oz,Am,cm,bs,σ,xs,L,Tr,fl,ord,N,h⟩:=hX;have hb:wr.cell? ⟨bm,0,none⟩=some (.slice Am ms.length cm):=by have:=h.mem.Bt.cell 0;rw[Tb.out.2.2.1]at this;exact this
         have xN:bm<wr.heap.size:=by have:=h.mem.Bt.lt;rw[Tb.out.2.2.1]at this;exact this
         have HS:=ag h;have iV:Hid (∀s,s<3->rl s=[]/\∀i m,now s=some i->ms[i]?=some m->m.ph.over=true):=λs hs=>Uw (aS s hs)
         clear h aS eD dy xO;go_wp2;exact bH (v:= .tuple #[.slice Am ms.length cm, .bool true]) (by simp[results,results12,go_sem]) rfl (XB.out _ _ ⟨rl,now,ms,gs,T,mu,κ,A,cp,oz,Am,cm,bs,σ,xs,L,Tr,fl,ord,N,rfl,HS.out,λ_=>iV.out,λhx=>(by cases hx)⟩)
end
def Zb7(κ:Nat->Nat)(p d q n lines NN:Nat)(t:Nat->Nat)(vs:List (Int×Int))(N:Nat)(cs:List aW)(w:World)(e:Ending)(w':World):Prop:=
 ∃(Am:Option Addr) (cm:Nat) (ms:List TM) (ord:List Nat) (dL:Nat->Nat) (N':Nat) (σ:PwS) (xs:List Int) (L:Nat->Int) (Tr:Nat->TT) (fl:List Nat),e= .returned (.tuple #[.slice Am ms.length cm, .bool true])/\o_ dL p d q n lines NN t w' (dY NN ms vs ord) N' σ xs L Tr fl/\VO dL w' Am cm ms/\
  fe (aF NN) vs (uI (cs.take 7)) ms ord/\(∀b,b<w.heap.size->dL b=κ b)/\Ch (λb=>κ b=0\/κ b=2) w w'/\N'<=N+6778*(cs.take 7).length
theorem uD{κ:Nat->Nat}{p d q n lines NN N:Nat}{t:Nat->Nat}{vs:List (Int×Int)}{w:World}{σ:PwS}{xs:List Int}{L:Nat->Int}{Tr:Nat->TT}{fl:List Nat}(h:o_ κ p d q n lines NN t w vs N σ xs L Tr fl)(Ac:Option Addr)(nc cc:Nat)(cs:List aW)(MP:nc<9223372036854775808)(hcs:Hm κ w Ac nc cc cs)(DN:∀c∈cs,oF c)
 (Ap:Option Addr) (np cp:Nat) (ps:List Int) (lZ:ps.length=np) (MN:np<9223372036854775808) (FV:Rd .i64 w Ap ps) (YU:∀b,ah Ap b->0<np->κ b=1) (AF:∀z∈ps,-9223372036854775808<=z/\z<9223372036854775808) (hN:N+6778*(cs.take 7).length<1000000):
 Calls prog 12 #[.pointer (some ⟨q,0,none⟩), .slice Ac nc cc, .slice Ap np cp, .bool true] w (Zb7 κ p d q n lines NN t vs N cs w):=by
 have hP:NN<1000000:=by have:=h.qu.dS;have:=h.qu.hn;omega
 refine(Ll h.qu h.k2 h.qw Ac nc cc cs MP hcs DN Ap np cp ps lZ MN FV YU AF true (a_ _) hN hP h.xG).mono ?_;rintro e w' ⟨bt,rl,now,ms,gs,T,mu,dL,A,cpf,oz,Am,cm,bs,σ',dz,L',wY,eG,ord,N',rfl,hS,hf,_⟩;have tq:=hf rfl;have aS:=hS.rn.all (λs i m hs hi hm=>(tq s hs).2 i m hi hm);obtain⟨h1,h2,h3,h4,h5⟩:=hS.rest aS;have htb:=hS.tb;refine⟨Am,cm,ms,ord,xh dL,N',σ',dz,L',wY,eG,rfl,h1,h2,⟨σ',T,L',wY,eG,_,_,now,hS.qw.ls,hS.rn,λs hs=>by show(rl s).map aW.c=[];rw[(tq s hs).1];rfl,aS,?_⟩,h3,h4,?_⟩
 . have:T+mu<=N+6778*(cs.take 7).length:=htb
   omega
 . have:N'+mu<=N+6778*(cs.take 7).length:=h5
   omega
theorem Pn{κ:Nat->Nat}{w w':World}{A:Option Addr}{kv:List (Int×Int)}(h:gP w A kv)(hA:kv≠[]->∀b,ah A b->κ b=1)(hC:Ch (λb=>κ b=0\/κ b=2) w w'):gP w' A kv:=by
 by_cases h0:kv=[]
 . exact .inl h0
 . exact h.FL hC.size (λb hb ho=>hC.block b hb (λhx=>by have:=hA h0 b ho;omega))
def ZdM(κ:Nat->Nat)(p d q n lines NN:Nat)(t:Nat->Nat)(vs:List (Int×Int))(N:Nat)(c:TC)(w:World)(e:Ending)(w':World):Prop:=
 ∃(gA oA cm g1 a:Nat) (bg en:Int) (dL:Nat->Nat) (N':Nat) (σ:PwS) (xs:List Int) (L:Nat->Int) (Tr:Nat->TT) (fl:List Nat),e= .returned (.tuple #[.slice (some ⟨gA,oA,none⟩) 1 cm, .bool true])/\w'.cell? ⟨gA,oA,none⟩=some (.pointer (some ⟨g1,0,none⟩))/\gA<w'.heap.size/\
  CB w' g1 40 #[.pointer (some ⟨a,0,none⟩), .int .i64 (c.kind:Int), .int .u64 c.key, .int .u64 c.val, .int .u64 c.old, .int .i64 bg, .int .i64 en, .bool true, .int .u64 (cI NN vs c).2.1, .int .i64 (cI NN vs c).2.2, .bool true, .bool true]/\
  o_ dL p d q n lines NN t w' (cI NN vs c).1 N' σ xs L Tr fl/\N'<=N+6778/\(∀b,b<w.heap.size->dL b=κ b)/\Ch (λb=>κ b=0\/κ b=2) w w'
section
variable{κ:Nat->Nat}{p d q n lines NN N:Nat}{t:Nat->Nat}{vs:List (Int×Int)}{w:World}{σ:PwS}{xs:List Int}{L:Nat->Int}{Tr:Nat->TT}{fl:List Nat}
theorem xR(h:o_ κ p d q n lines NN t w vs N σ xs L Tr fl)(Ac:Option Addr)(cc:Nat)(c:aW)(hcs:Hm κ w Ac 1 cc [c])(DN:oF c)(hN:N+6778<1000000):
 Calls prog 12 #[.pointer (some ⟨q,0,none⟩), .slice Ac 1 cc, .slice none 0 0, .bool true] w (ZdM κ p d q n lines NN t vs N c.c w):=by
 refine(uD h Ac 1 cc [c] ae hcs (λx hx=>by rw[gH.1 hx];exact DN) none 0 0 [] rfl ae Rd.nil (λb hb=>by simp[ah]at hb) (λz hz=>by simp at hz) (by show N+6778*1<1000000;omega)).mono ?_;rintro e w' ⟨Am,cm,ms,ord,dL,N',σ',dz,L',wY,eG,rfl,Q9,hM,hO,hk,hC,hN'⟩;obtain⟨m,rfl,h1,h3,h4⟩:=fe.one (c:=(c.c,(c.a8%3).toNat)) hO (by show(c.a8%3).toNat<3;omega);dsimp only at h1 h3 h4;have ZN:(aF NN).NN=NN:=rfl;rw[ZN]at h3 h4;rw[h3]at Q9;obtain⟨gs,oz,hS,hg,_,hm⟩:=hM;obtain⟨gA,oA,hA,eh,xo⟩:=hS.at_ (j:=0) (by simp[hg]);obtain⟨oM,_⟩:=hm 0 m rfl
 have hx:(gs.map xF)[0]'(by simp[hg])= .pointer (some ⟨gs.getD 0 0,0,none⟩):=by
  rw[vo,eY,dG (by rw[hg];simp)];rfl
 rw[hx]at xo
 have Zd:zi m (oz.getD 0 0)= #[.pointer (some ⟨oz.getD 0 0,0,none⟩), .int .i64 (c.c.kind:Int), .int .u64 c.c.key, .int .u64 c.c.val, .int .u64 c.c.old, .int .i64 m.bg, .int .i64 m.en, .bool true, .int .u64 (cI NN vs c.c).2.1, .int .i64 (cI NN vs c.c).2.2, .bool true, .bool true]:=by
  unfold zi;rw[h1,h4];rfl
 rw[Zd]at oM;subst hA;exact⟨gA,oA,cm,gs.getD 0 0,oz.getD 0 0,m.bg,m.en,dL,N',σ',dz,L',wY,eG,rfl,xo,eh,oM,Q9,by have h9:N'<=N+6778*1:=hN';omega,hk,hC⟩
end
end Go.Proofs.YtjkpjakodomnmaaGreatDoor
