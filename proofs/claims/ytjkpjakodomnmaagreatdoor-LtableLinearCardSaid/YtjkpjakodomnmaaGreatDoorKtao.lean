/- The base, part 15 (merged). -/
import Derived.Test.YtjkpjakodomnmaaGreatDoorKtan
import Derived.Deep.RegionLaw
set_option linter.unusedVariables false
set_option linter.unusedSimpArgs false
set_option maxRecDepth 100000
set_option maxHeartbeats 16000000
namespace Go.Proofs.YtjkpjakodomnmaaGreatDoor
open Go.RowKit Go.Proofs.Tryz
theorem EN{d p NN lines th:Nat}{bs:Nat->Option Nat}(h:th<8):(aK d p NN lines bs)[6+th]?=some (fu (bs th)):=by
 rcases(by omega:th=0\/th=1\/th=2\/th=3\/th=4\/th=5\/th=6\/th=7)with rfl|rfl|rfl|rfl|rfl|rfl|rfl|rfl<;>rfl
theorem v7{d p NN lines th:Nat}{bs:Nat->Option Nat}(h:th<8)(x:Option Nat):(aK d p NN lines bs).setIfInBounds (6+th) (fu x)=aK d p NN lines (λi=>if i=th then x else bs i):=by
 rcases(by omega:th=0\/th=1\/th=2\/th=3\/th=4\/th=5\/th=6\/th=7)with rfl|rfl|rfl|rfl|rfl|rfl|rfl|rfl<;>rfl
theorem CB.TP{w:World}{q d p NN lines th:Nat}{bs:Nat->Option Nat}(h:CB w q 117 (aK d p NN lines bs))(bQ:th<8):w.cell? ⟨q,6+th,none⟩=some (fu (bs th)):=(h.cell (6+th)).trans (EN bQ)
theorem MG:∃j,prog.info? 107=some j/\j.size≠0:=by
 have h:(prog.info? 107).map (λi=>decide (i.size≠0))=some true:=by kernel_rfl
 cases hi:prog.info? 107 with
 |none=>rw[hi]at h;cases h
 |some j=>rw[hi]at h;exact⟨j,rfl,by simpa using h⟩
theorem Rn(W:World)(a:Nat):(binOp .eql 38 (.pointer (some ⟨a,0,none⟩)) (.pointer (some ⟨a,0,none⟩))).run prog W= .ok (.bool true) W:=by
 obtain⟨j,hj,_⟩:=MG;exact run_eql_ptr_same W _ underlying38 hj
section
variable{p d q a lines n NN:Nat}{w w':World}{bs:Nat->Option Nat}
theorem toEnd(hq:CB w q 117 (aK d p NN lines bs))(WI:q≠a){th rt:Nat}{c:TC}{h:Int}{D:TD}{rd ch:Option Nat}(hc:CB w a 107 (bV q th c h rt D rd ch 0 false))
 (bQ:th<8) (jf:bs th=some a) (v e:Int):
 Calls prog 105 #[.pointer (some ⟨a,0,none⟩), .int .u64 v, .int .i64 e] w λr w'=>r= .returned (.tuple #[])/\CB w' a 107 (bV q th c h rt {D with err:=e} none none v true)/\
  CB w' q 117 (aK d p NN lines (λi=>if i=th then none else bs i))/\Ch (λb=>b=a\/b=q) w w':=by
 have HC:=ag hc;have HQ:=ag hq;obtain⟨q0,q1,q2,q3,q4,q5,ql⟩:=hq.tac;have qt:=hq.TP bQ;rw[jf,jn]at qt;have qf:=hq.frozen (6+th);obtain⟨c0,c1,c2,c3,c4,c5,c6,c7,c8,c9,gj,fD,fZ,fW,fO,dC,iR,jh,jM,jL,jK,iD,jJ,jI,jH,gN,jG,iC,iB,hl,hf⟩:=hc.eQ;have f9:=hf 9;have f10:=hf 10;have f26:=hf 26;have f27:=hf 27;have f28:=hf 28;clear c2 c3 c4 c5 c6 c7 c8 fD fZ fW fO dC iR jh jM jL jK iD jJ jI jH gN q0 q1 q2 q3 q4 q5;have UB:(th:Int)<8:=by omega
 have hS:=ag (v7 (d:=d) (p:=p) (NN:=NN) (lines:=lines) (bs:=bs) bQ none);have heq:=λW=>Rn W a
 obtain⟨W1,fV⟩:∃W1,W1=(((((w.setCell ⟨a,26,none⟩ (.int .u64 v)).setCell ⟨a,27,none⟩ (.int .i64 e)).setCell ⟨a,28,none⟩ (.bool true)).setCell ⟨a,9,none⟩ (.pointer none)).setCell ⟨a,10,none⟩ (.pointer none)):=⟨_,rfl⟩
 have iU:Hid (∀W2,Below W1.heap.size W1 W2->CB (W2.setCell ⟨q,6+th,none⟩ (.pointer none)) a 107 (bV q th c h rt {D with err:=e} none none v true)/\
  CB (W2.setCell ⟨q,6+th,none⟩ (.pointer none)) q 117 (aK d p NN lines (λi=>if i=th then none else bs i))/\Ch (λb=>b=a\/b=q) w (W2.setCell ⟨q,6+th,none⟩ (.pointer none))):=λW2 hB=>by
  have iA:Ch (At a) w W1:=by rw[fV];exact(((((Ch.refl _ _).bj _ _).bj _ _).bj _ _).bj _ _).bj _ _
  have h1:CB W1 a 107 (bV q th c h rt {D with err:=e} none none v true):=by rw[fV];exact((((HC.out.set 26 _).set 27 _).set 28 _).set 9 _).set 10 _
  have h2:CB W1 q 117 (aK d p NN lines bs):=HQ.out.keep (iA.block q HQ.out.lt WI);have h3:=(h2.below hB).set (6+th) (fu none);rw[hS.out]at h3;refine⟨(h1.below hB).far (p:=⟨q,6+th,none⟩) (cC WI) _,h3,?_⟩;exact((iA.mono (λb hb _=> .inl hb)).trans (Ch.au (S:=λb=>b=a\/b=q) hB) (λb hb _=>hb)).trans (((Ch.refl (At q) W2).bj _ _).mono (λb hb _=> .inr hb)) (λb hb _=>hb)
 rw[fV]at iU;clear fV;clear hq hc hf jf;go_enter func105,ntmps105
 go_wp2;go_quiet (fail)
 go_wp2;go_region_with (fail)
 all_goals
  go_end0
  exact⟨rfl,iU.out _ aC⟩
end
def aF(NN:Nat):TK:=⟨256,8,NN,cr,λk=>(cr k>>>32)%8⟩
def Ai(NN:Nat)(κ:Nat->Nat)(r p q:Nat)(t:Nat->Nat)(w:World)(a:Nat)(m:TM):Prop:=
 κ a=r/\match m.ph with
 | .start=>CB w a 107 (bV q m.th m.c (cr m.c.key) ((aF NN).rt m.c) {ke with aa:=0} none none 0 false)
 | .rd d rs=>∃g:Nat,CB w a 107 (bV q m.th m.c (cr m.c.key) ((aF NN).rt m.c) d (some g) none 0 false)/\
    CB w g 193 (gT (.pointer (some ⟨p,0,none⟩)) (.pointer (some ⟨t m.th,0,none⟩)) rs)/\κ g=r/\g≠a
 | .dH d x=>∃rd:Option Nat,CB w a 107 (bV q m.th m.c (cr m.c.key) ((aF NN).rt m.c) d rd (some x) 0 false)
 | .fin v e=>∃d:TD,CB w a 107 (bV q m.th m.c (cr m.c.key) ((aF NN).rt m.c) {d with err:=e} none none v true)
section
variable{κ dL:Nat->Nat}{r p d q a n NN lines:Nat}{t:Nat->Nat}{w w' W2 w3:World}{m m':TM}{bs:Nat->Option Nat}{σ σ':PwS}{D D':TD}{rd rd':Option Nat}{nx:TO}
theorem Ai.ch{S:Nat->Prop}(h:Ai NN κ r p q t w a m)(hC:Ch S w w')(hS:∀b,b<w.heap.size->S b->κ b≠r)(hk:∀b,b<w.heap.size->dL b=κ b):Ai NN dL r p q t w' a m:=by
 obtain⟨h1,h2⟩:=h;have keep:∀{b:Nat} {ty:TypeId} {vs:Array Value},CB w b ty vs->κ b=r->CB w' b ty vs:=λ{b ty vs} hb hr=>hb.keep (hC.block b hb.lt (λhs=>hS b hb.lt hs hr))
 cases hp:m.ph with
 |start=>
  rw[hp]at h2;exact⟨by rw[hk a h2.lt];exact h1,by rw[hp];exact keep h2 h1⟩
 |rd d rs=>
  rw[hp]at h2;obtain⟨g,g1,g5,g6,g7⟩:=h2;exact⟨by rw[hk a g1.lt];exact h1,by rw[hp];exact⟨g,keep g1 h1,keep g5 g6,by rw[hk g g5.lt];exact g6,g7⟩⟩
 |dH d x=>
  rw[hp]at h2;obtain⟨rd,g1⟩:=h2;exact⟨by rw[hk a g1.lt];exact h1,by rw[hp];exact⟨rd,keep g1 h1⟩⟩
 |fin v e=>
  rw[hp]at h2;obtain⟨d,g1⟩:=h2;exact⟨by rw[hk a g1.lt];exact h1,by rw[hp];exact⟨d,keep g1 h1⟩⟩
theorem Ai.same(h:Ai NN κ r p q t w a m)(h1:m'.c=m.c)(h3:m'.th=m.th)(h4:m'.ph=m.ph):Ai NN κ r p q t w a m':=by
 unfold Ai at h |-;rw[h1,h3,h4];exact h
def N9(m':TM)(bs:Nat->Option Nat):Nat->Option Nat:=if m'.ph.over then λi=>if i=m'.th then none else bs i else bs
def RZ(κ:Nat->Nat)(r p d q a n NN lines:Nat)(t:Nat->Nat)(w:World)(bs:Nat->Option Nat)(σ':PwS)(m':TM)(w':World):Prop:=
 ∃dL:Nat->Nat,(∀b,b<w.heap.size->dL b=κ b)/\bB (λb=>dL b≠0) p d t 0 32 ((n:Int)*64) w' σ'/\Ai NN dL r p q t w' a m'/\CB w' q 117 (aK d p NN lines (N9 m' bs))/\Ch (λb=>κ b=0\/κ b=r\/κ b=2) w w'
def iY(κ:Nat->Nat)(w w':World)(r:Nat):Nat->Nat:=λb=>if w.heap.size<=b/\b<w'.heap.size then r else κ b
theorem bc{b:Nat}(h:b<w.heap.size):iY κ w w' r b=κ b:=ax ae
theorem gD{b:Nat}(h1:w.heap.size<=b)(h2:b<w'.heap.size):iY κ w w' r b=r:=aA ⟨h1,h2⟩
theorem bB.iY{size:Int}(h:bB (λb=>κ b≠0\/(w.heap.size<=b/\b<w'.heap.size)) p d t 0 32 size w' σ):bB (λb=>iY κ w w' r b≠0) p d t 0 32 size w' σ:=
 h.less (λb hb=>by
  by_cases hx:w.heap.size<=b/\b<w'.heap.size
  . exact .inr hx
  . left;have e:Go.Proofs.YtjkpjakodomnmaaGreatDoor.iY κ w w' r b=κ b:=ax hx
    rw[e]at hb;exact hb)
theorem RZ.trans{Th:Nat->Nat}{w1:World}(h:RZ Th r p d q a n NN lines t w1 bs σ' m' w')(hk:∀b,b<w.heap.size->Th b=κ b)(hC:Ch (λb=>κ b=0\/κ b=r\/κ b=2) w w1):RZ κ r p d q a n NN lines t w bs σ' m' w':=by
 obtain⟨dL,h2,h3,h4,h5,h6⟩:=h;exact⟨dL,λb hb=>(h2 b (cD hb hC.size)).trans (hk b hb),h3,h4,h5,hC.trans h6 (λb hx hb=>by rw[hk b hb]at hx;exact hx)⟩
theorem bB.Mw{K:Nat->Prop}{p d line lines:Nat}{t:Nat->Nat}{size:Int}{w:World}{σ:PwS}(h:bB K p d t line lines size w σ){a:Nat}(ha:w.heap.size<=a):σ.ops a=none:=by
 obtain⟨role,bb,h,hK⟩:=h;cases ho:σ.ops a with
 |none=>rfl
 |some o=>have:=(h.op a o ho).lt;omega
structure dt(κ:Nat->Nat)(r p d q a n NN lines:Nat)(t:Nat->Nat)(w:World)(σ:PwS)(m:TM)(bs:Nat->Option Nat)(D:TD)(rd:Option Nat):Prop where
 pm:bB (λb=>κ b≠0) p d t 0 32 ((n:Int)*64) w σ
 hn:n<1000
 dS:272+4*NN<=8*n
 hq:CB w q 117 (aK d p NN lines bs)
 kq:κ q=2
 ka:κ a=r
 r3:3<=r
 th:m.th<8
 bs:bs m.th=some a
 hc:CB w a 107 (bV q m.th m.c (cr m.c.key) ((aF NN).rt m.c) D rd none 0 false)
 er:∀i,(σ.dev.a8 i).err=0
 bz:σ.busy.length=8/\firstFree σ.busy<8
 ck:CK (aF NN) m.c
def mv(κ:Nat->Nat)(r p d q a n NN lines:Nat)(t:Nat->Nat)(w:World)(bs:Nat->Option Nat)(σ:PwS)(m:TM)(nx:TO)(w':World):Prop:=
 ∃bl:Nat×(List bO->List Nat),σ.ops bl.1=none/\(∀es,(bl.2 es).Perm (List.range es.length))/\RZ κ r p d q a n NN lines t w bs (fY σ m.th bl nx).1 {m with ph:=(fY σ m.th bl nx).2} w'
theorem mv.trans(h:mv κ r p d q a n NN lines t W2 bs σ m nx w')(hC:Ch (λb=>κ b=0\/κ b=r\/κ b=2) w W2):mv κ r p d q a n NN lines t w bs σ m nx w':=by
 obtain⟨bl,h1,h2,h3⟩:=h;exact⟨bl,h1,h2,h3.trans (λ_ _=>rfl) hC⟩
theorem dt.qa(h:dt κ r p d q a n NN lines t w σ m bs D rd):q≠a:=λhe=>by have h1:=h.kq;have h2:=h.ka;have h3:=h.r3;rw[he]at h1;omega
theorem dt.n3(h:dt κ r p d q a n NN lines t w σ m bs D rd):NN<2000:=by have:=h.hn;have:=h.dS;omega
theorem dt.AQ(h:dt κ r p d q a n NN lines t w σ m bs D rd)(hB:Below w.heap.size w w')(hC:Ch (At a) w' W2)(hc:CB w' a 107 (bV q m.th m.c (cr m.c.key) ((aF NN).rt m.c) D rd none 0 false)->CB W2 a 107 (bV q m.th m.c (cr m.c.key) ((aF NN).rt m.c) D' rd' none 0 false)):
 dt κ r p d q a n NN lines t W2 σ m bs D' rd'/\Ch (λb=>κ b=0\/κ b=r\/κ b=2) w W2:=by
 have zH:=h.ka;have DF:=h.r3
 exact⟨⟨(h.pm.ko hB).SZ hC (λb _ hb=>by rw[show b=a from hb,zH];omega),h.hn,h.dS,(h.hq.below hB).keep (hC.block q (h.hq.below hB).lt (λhx=>h.qa hx)),h.kq,h.ka,h.r3,h.th,h.bs,hc (h.hc.below hB),h.er,h.bz,h.ck⟩,
  (Ch.au hB).trans hC (λb hb _=> .inr (.inl (by rw[show b=a from hb];exact zH)))⟩
theorem dt.bl(h:dt κ r p d q a n NN lines t w σ m bs D rd)(hB:Below w.heap.size w w'):dt κ r p d q a n NN lines t w' σ m bs D rd/\Ch (λb=>κ b=0\/κ b=r\/κ b=2) w w':=
 h.AQ hB (Ch.refl _ _) id
theorem xX(h:dt κ r p d q a n NN lines t w σ m bs D rd):σ.ops w.heap.size=none/\(∀es:List bO,((λes:List bO=>List.range es.length) es).Perm (List.range es.length)):=⟨h.pm.Mw (a_ _),λ_=>wB _⟩
theorem xA(h:dt κ r p d q a n NN lines t w σ m bs D rd)(s k:Nat)(hk:256<=k/\k<8*n):
 Calls prog 107 #[.pointer (some ⟨a,0,none⟩), .int .u8 (s:Int), .int .u64 (8*(k:Int))] w λe w'=>e= .returned (.tuple #[])/\mv κ r p d q a n NN lines t w bs σ m (.read {D with aa:=s} k) w':=by
 have zH:=h.ka;have DF:=h.r3;refine(XP (rd0':=rd) h.pm h.hn (show κ a≠0 by omega) h.hq h.hc h.th s k hk).mono ?_;rintro e w3 ⟨g,rfl,h1,h2,h3,h4,h5⟩;refine⟨rfl,(w.heap.size,λes=>List.range es.length),(xX h).1,(xX h).2,iY κ w w3 r,λb hb=>bc hb,h4.iY,⟨by rw[bc h.hc.lt];exact zH,g,h2,h3,gD h1 h3.lt,by have:=h.hc.lt;omega⟩,?_,h5.mono (λb hb _=> .inr (.inl (by rw[show b=a from hb];exact zH)))⟩;exact h.hq.keep (h5.block q h.hq.lt (λhx=>h.qa hx))
theorem OE(h:dt κ r p d q a n NN lines t w σ m bs D rd)(v e:Int):
 Calls prog 105 #[.pointer (some ⟨a,0,none⟩), .int .u64 v, .int .i64 e] w λx w'=>x= .returned (.tuple #[])/\mv κ r p d q a n NN lines t w bs σ m (.done v e) w':=by
 have zH:=h.ka;have La:=h.kq;have DF:=h.r3;refine(toEnd h.hq h.qa h.hc h.th h.bs v e).mono ?_;rintro x w3 ⟨rfl,h1,h2,h3⟩
 have hx:∀b,b=a\/b=q->κ b≠0/\(κ b=r\/κ b=2):=λb hb=>by
  rcases hb with rfl|rfl
  . exact⟨by omega, .inl zH⟩
  . exact⟨by omega, .inr La⟩
 exact⟨rfl,(w.heap.size,λes=>List.range es.length),(xX h).1,(xX h).2,κ,λ_ _=>rfl,h.pm.SZ h3 (λb _ hb=>(hx b hb).1),⟨zH,D,h1⟩,h2,h3.mono (λb hb _=> .inr (hx b hb).2)⟩
theorem dt.rt8(h:dt κ r p d q a n NN lines t w σ m bs D rd):256<=(aF NN).rt m.c/\(aF NN).rt m.c<8*n:=by
 have h1:=h.ck.bk;have h2:=h.dS;have:(aF NN).rt m.c=256+8+(aF NN).bk m.c.key:=rfl;have h3:(aF NN).B=8:=rfl;omega
theorem pF(h:dt κ r p d q a n NN lines t w σ m bs D rd):
 Calls prog 77 #[.pointer (some ⟨a,0,none⟩)] w λx w'=>x= .returned (.tuple #[])/\mv κ r p d q a n NN lines t w bs σ m (jl (aF NN) m.c D) w':=by
 have HL:=ag (xA h 1 _ h.rt8);rw[show(((1:Nat):Int))=1 from rfl]at HL;obtain⟨c0,c1,c2,c3,c4,c5,c6,c7,c8,c9,gj,fD,fZ,fW,fO,dC,iR,jh,jM,jL,jK,iD,jJ,jI,jH,gN,jG,iC,iB,hl,hf⟩:=h.hc.eQ;clear c0 c1 c2 c3 c4 c5 c6 c8 c9 gj fD fZ fW fO dC iR jh jM jL jK iD jJ jI jH gN jG iC iB hf h;go_enter func77,ntmps77
 go_wp2_with (go_at_call 107;(with_reducible refine HL.out.mono ?_);rintro e w3 ⟨rfl,h3⟩;have H3:=ag h3;clear h3)
 go_end0
 exact⟨rfl,H3.out⟩
theorem nT(h:dt κ r p d q a n NN lines t w σ m bs D rd)(v e:Int):
 Calls prog 145 #[.pointer (some ⟨a,0,none⟩), .int .u64 v, .int .i64 e] w λx w'=>x= .returned (.tuple #[])/\mv κ r p d q a n NN lines t w bs σ m (lV (aF NN) m.c D v e) w':=by
 have hC:Ch (At a) w ((w.setCell ⟨a,25,none⟩ (.int .u64 v)).setCell ⟨a,27,none⟩ (.int .i64 e)):=((Ch.refl _ _).bj _ _).bj _ _;obtain⟨h2,cz⟩:=h.AQ (D':={D with res:=v,err:=e}) (rd':=rd) (bZ _ _) hC (λhx=>(hx.set 25 _).set 27 _);obtain⟨c0,c1,c2,c3,c4,c5,c6,c7,c8,c9,gj,fD,fZ,fW,fO,dC,iR,jh,jM,jL,jK,iD,jJ,jI,jH,gN,jG,iC,iB,hl,hf⟩:=h.hc.eQ;have f25:=hf 25;have f27:=hf 27;have k7:=h2.hc.eQ.c7;have ju:=h2.hc.lt;have HL:=ag (xA h2 13 _ h2.rt8);have dh:=ag cz;rw[show(((13:Nat):Int))=13 from rfl]at HL;clear c0 c1 c2 c3 c4 c5 c6 c7 c8 c9 gj fD fZ fW fO dC iR jh jM jL jK iD jJ jI jH jG iB hf h h2 hC cz;go_enter func145,ntmps145
 go_upto_region 1 with(fail)
 obtain⟨W2,eM⟩:=aH ((w.setCell ⟨a,25,none⟩ (.int .u64 v)).setCell ⟨a,27,none⟩ (.int .i64 e));rw[eM]at HL dh k7 ju |-;clear eM gN iC f25 f27;go_wp2_with (go_at_call 107;(with_reducible refine HL.out.mono ?_);rintro e w3 ⟨rfl,h3⟩;have H3:=ag h3;clear h3)
 go_end0
 exact⟨rfl,H3.out.trans dh.out⟩
end
section
variable{κ dL:Nat->Nat}{r p d q a n NN lines:Nat}{t:Nat->Nat}{w w' W2 w3:World}{m m':TM}{bs:Nat->Option Nat}{σ σ':PwS}{D D':TD}{rd rd':Option Nat}{nx:TO}
theorem dt.kD(h:dt κ r p d q a n NN lines t w σ m bs D rd)(s x j:Nat)(h1:1<=x)(h2:x<=NN)(hj:j<4):∀W,Below w.heap.size w W->
 Calls prog 107 #[.pointer (some ⟨a,0,none⟩), .int .u8 (s:Int), .int .u64 (8*((aQ 256 8 x j:Nat):Int))] W λe w'=>e= .returned (.tuple #[])/\mv κ r p d q a n NN lines t w bs σ m (.read {D with aa:=s} ((aF NN).nd x j)) w':=λW hW=>by
 obtain⟨h3,h4⟩:=h.bl hW;have dS:=h.dS;refine(xA h3 s (aQ 256 8 x j) (by unfold aQ;omega)).mono ?_;rintro e w' ⟨rfl,h5⟩;exact⟨rfl,h5.trans h4⟩
theorem dt.Jw(h:dt κ r p d q a n NN lines t w σ m bs D rd)(s:Nat):∀W,Below w.heap.size w W->
 Calls prog 107 #[.pointer (some ⟨a,0,none⟩), .int .u8 (s:Int), .int .u64 2064] W λe w'=>e= .returned (.tuple #[])/\mv κ r p d q a n NN lines t w bs σ m (.read {D with aa:=s} (aF NN).fr) w':=λW hW=>by
 obtain⟨h3,h4⟩:=h.bl hW;have dS:=h.dS;refine(xA h3 s 258 ae).mono ?_;rintro e w' ⟨rfl,h5⟩;exact⟨rfl,h5.trans h4⟩
theorem EG(h:dt κ r p d q a n NN lines t w σ m bs D rd)(x:Nat)(hx:x<=NN):
 Calls prog 115 #[.pointer (some ⟨a,0,none⟩), .int .u64 (x:Int)] w λe w'=>e= .returned (.tuple #[])/\mv κ r p d q a n NN lines t w bs σ m (fE (aF NN) m.c D x) w':=by
 have hC:Ch (At a) w (w.setCell ⟨a,12,none⟩ (.int .u64 (x:Int))):=(Ch.refl _ _).bj _ _;obtain⟨h2,cz⟩:=h.AQ (D':={D with node:=x}) (rd':=rd) (bZ _ _) hC (λhx=>hx.set 12 _);obtain⟨c0,c1,c2,c3,c4,c5,c6,c7,c8,c9,gj,fD,fZ,fW,fO,dC,iR,jh,jM,jL,jK,iD,jJ,jI,jH,gN,jG,iC,iB,hl,hf⟩:=h.hc.eQ;have f12:=hf 12;have k0:=h2.hc.eQ.c0;have k2:=h2.hc.eQ.c2;have ju:=h2.hc.lt;obtain⟨q0,q1,q2,q3,q4,q5,ql⟩:=h2.hq.tac;have MQ:=h.n3;have jb:=h.ck.kd;have hK:(aF NN).NN=NN:=rfl;have hle:¬(NN:Int)<(x:Int):=by omega
 have dh:=ag cz;have H2:=ag h2;have jQ:=ag (λ(W:World) (h1:1<=x)=>dI W x 0 NN h1 ae ae);clear c0 c1 c2 c3 c4 c5 c6 c7 c8 c9 gj fD fW fO dC iR jh jM jL jK iD jJ jI jH gN jG iC iB hf h h2 hC cz q3 q4 q5;obtain⟨W2,eM⟩:=aH (w.setCell ⟨a,12,none⟩ (.int .u64 (x:Int)));rw[eM]at H2 dh k0 k2 ju q0 q1 q2 ql;unfold fE;rw[hK,ax ae];by_cases h0:x=0
 . subst h0
   rw[ax smQ];rw[show((0:Nat):Int)=0 from rfl]at eM hle |-;by_cases iy:m.c.kind=1
   . rw[aA iy]
     rw[iy,show((1:Nat):Int)+1=2 from rfl]at k2;have HL:=ag (H2.out.Jw 9 W2 (bZ _ _));rw[show((9:Nat):Int)=9 from rfl]at HL;clear jQ;go_enter func115,ntmps115
     go_upto_region 2 with(fail)
     try rw[eM]
     clear eM fZ f12 hl;go_wp2_with (go_at_call 107;(with_reducible refine HL.out.mono ?_);rintro e w3 ⟨rfl,h3⟩;have H3:=ag h3;clear h3)
     go_end0
     exact⟨rfl,H3.out.trans dh.out⟩
   . rw[ax iy]
     have fC:¬(m.c.kind:Int)+1=2:=by omega
     have HL:=ag (nT H2.out 0 5);clear jQ;go_enter func115,ntmps115
     go_upto_region 2 with(fail)
     try rw[eM]
     clear eM fZ f12 hl;go_wp2_with (go_at_call 145;(with_reducible refine HL.out.mono ?_);rintro e w3 ⟨rfl,h3⟩;have H3:=ag h3;clear h3)
     go_end0
     exact⟨rfl,H3.out.trans dh.out⟩
 . rw[aA h0]
   have ux:¬(x:Int)=0:=by omega
   have HL:=ag (H2.out.kD 2 x 0 ae hx ae);have HN:=ag (jQ.out W2 ae);rw[show((2:Nat):Int)=2 from rfl]at HL;rw[show((0:Nat):Int)=0 from rfl]at HN;unfold uo at HN;clear jQ;go_enter func115,ntmps115
   go_upto_region 2 with(fail)
   try rw[eM]
   clear eM fZ f12 hl
   go_wp2_with (first
    |(go_at_call 61;(with_reducible refine HN.out.mono ?_);rintro e w3 ⟨rfl,hb⟩;obtain⟨y,rfl⟩:=aE hb;clear hb)
    |(go_at_call 107;(with_reducible refine(HL.out _ aC).mono ?_);rintro e w3 ⟨rfl,h3⟩;have H3:=ag h3;clear h3))
   go_end0
   exact⟨rfl,H3.out.trans dh.out⟩
end
def ZaE(w:World)(p tb k m:Nat)(es:List bO)(s:Value)(wx:World):Prop:=
 ∃gO ao sb,s= .pointer (some ⟨gO,0,none⟩)/\CB wx gO 105 #[.pointer (some ⟨ao,0,none⟩)]/\(∃ea ec,CB wx ao 187 #[.pointer (some ⟨p,0,none⟩), .pointer (some ⟨tb,0,none⟩), .int .i64 (k:Int), .slice ea m ec, .slice none 0 0, .slice (some ⟨sb,0,none⟩) m m, .int .i64 0, .int .i64 0, .slice none 0 0, .bool false, .bool false, .bool false, .int .i64 0, .pointer none, .int .i64 0, .int .i64 0]/\
  Sl 223 4 wx ea m ec (ba es)/\∀b,ah ea b->w.heap.size<=b/\b≠ao/\b≠sb/\b≠gO)/\IB .u64 22 wx sb (List.replicate m 0)/\Below w.heap.size w wx/\w.heap.size<=gO/\w.heap.size<=ao/\w.heap.size<=sb/\gO≠ao/\gO≠sb/\sb≠ao
def Sv(w:World)(p tb k m:Nat)(es:List bO)(gO ao sb:Nat)(ea:Option Addr)(ec i:Nat)(A:Option Addr)(c:Nat)(wx:World):Prop:=
 CB wx gO 105 #[.pointer (some ⟨ao,0,none⟩)]/\CB wx ao 187 #[.pointer (some ⟨p,0,none⟩), .pointer (some ⟨tb,0,none⟩), .int .i64 (k:Int), .slice ea m ec, .slice A i c, .slice (some ⟨sb,0,none⟩) m m, .int .i64 0, .int .i64 0, .slice none 0 0, .bool false, .bool false, .bool false, .int .i64 0, .pointer none, .int .i64 0, .int .i64 0]/\
  Sl 223 4 wx ea m ec (ba es)/\IB .u64 22 wx sb (List.replicate m 0)/\Below w.heap.size w wx/\Sl 3 1 wx A i c (ic (List.range i))/\∀b,ah A b->w.heap.size<=b/\b≠ao/\b≠sb/\b≠gO/\¬ah ea b
theorem yE{P:Program}{w:World}{ops:Array Oper}{o:Oper}{a:Act}{K:Act->World->Prop}{Q:Exit->Act->World->Prop}{E:Prop}(DM:o.guard=none)(s x:Operand)(t:TypeId)
 (ho:o.op= .call {callee:= .builtin .append,args:= #[s,x],argTypes:= #[t,t]}) (e:TypeId) (zv:Value) (size oP:Nat) (I7:zv.cells.size=size) (lR:0<size) (ht:P.underlying t=some (.slice e)) (bp:(P.info? e).map (λi=>(i.zero,i.size,i.bytes))=some (some zv,size,oP)) (AG:oP<=64)
 (A:Option Addr) (n c:Nat) (xs:List Value) (ad:Addr) (m d:Nat) (ys:List Value) (AE:a.eval s= .slice A n c) (MK:a.eval x= .slice (some ad) m d) (cL:Sl e size w A n c xs) (hm:ys.length=m*size) (DK:0<m) (hr:∀j u,ys[j]?=some u->w.cell? (ad.add j)=some u) (hf:∀u∈ys,u.oneCell'=true)
 (hbound:n+m<=1000000000)
 (h:∀A' c' w',Hid (Sl e size w' A' (n+m) c' (xs++ys))->Hid (Ch (ah A) w w')->Hid (∀b,ah A' b->ah A b\/b=w.heap.size)->Hid (c<n+m->A'=some ⟨w.heap.size,0,none⟩)->K (a.put o.dst (.slice A' (n+m) c')) w'):
 if Region.wanted o (yielded ops a.tmps)=true then Oper.wp P o a w K Q else E:=by
 have hw:Region.wanted o (yielded ops a.tmps)=true:=by simp[Region.wanted,DM]
 rw[aA hw];obtain⟨A',c',w',gL,h1,h2,h3,h4⟩:=mB (P:=P) w t o.type e zv size oP I7 lR ht bp AG A n c xs cL ad m d ys hm DK hr hf hbound;unfold Oper.wp;simp[execOp,ho,resolve,invoke,builtin,AE,MK,gL,Result.andThen];exact h A' c' w' h1 h2 h3 h4
structure Sw(w2:World)(gO ao p tb k m:Nat)(ea:Option Addr)(ec q:Nat)(A:Option Addr)(c sb:Nat):Prop where
 cO:CB w2 gO 105 #[.pointer (some ⟨ao,0,none⟩)]
 cA:CB w2 ao 187 #[.pointer (some ⟨p,0,none⟩), .pointer (some ⟨tb,0,none⟩), .int .i64 (k:Int), .slice ea m ec, .slice A q c, .slice (some ⟨sb,0,none⟩) m m, .int .i64 0, .int .i64 0, .slice none 0 0, .bool false, .bool false, .bool false, .int .i64 0, .pointer none, .int .i64 0, .int .i64 0]
theorem mh(w:World)(e:TypeId)(a:Value):∀(j:Nat) (u:Value),[a][j]?=some u->(w.alloc (.cells #[a] e)).cell? ((⟨w.heap.size,0,none⟩:Addr).add j)=some u:=by
 intro j u hu;have h1:(⟨w.heap.size,0,none⟩:Addr).add j=⟨w.heap.size,0+j,none⟩:=by unfold Addr.add;split<;>simp_all
 rw[h1,cY,(CB.new w e #[a]).cell];cases j with
 |zero=>simpa using hu
 |succ j=>simp at hu
theorem I5:(prog.info? 3).map (λi=>(i.zero,i.size,i.bytes))=some (some (.int .i64 0),1,8):=by kernel_rfl
theorem FJ(i:Nat):ic (List.range (i+1))=ic (List.range i)++[.int .i64 (i:Int)]:=by simp[ic,xf]
theorem Sl.VD{e:TypeId}{w:World}{g n c j:Nat}{bs:List Bool}(h:Sl e 1 w (some ⟨g,0,none⟩) n c (bools bs))(hj:j<bs.length):∃v,w.cell? ⟨g,j,none⟩=some v:=by
 obtain⟨g',off,hA,_,hc⟩:=h.at_ (j:=j) (by simpa [bools]using hj);injection hA with hA;injection hA with e1 e2;subst e1 e2;rw[cY]at hc;exact⟨_,hc⟩
theorem Qa{A:Option Addr}{e:TypeId}{sz n c:Nat}{w:World}{xs:List Value}(h:Sl e sz w A n c xs)(hn:0<n):∃g off,A=some ⟨g,off,none⟩:=by
 rcases h.2 with⟨_,h0,_⟩|⟨g,off,_,hA,_⟩
 . omega
 . exact⟨g,off,hA⟩
theorem dN{w:World}{g:Nat}{e:TypeId}{u v:Value}(h:CB w g e #[u]):CB (w.setCell ⟨g,0,none⟩ v) g e #[v]:=h.set 0 v
theorem RN{w:World}(x:BX w)(g:Nat)(h:g<w.heap.size):¬g=x.w.heap.size:=by have:=x.size;omega
theorem RM{w:World}(x:BX w)(g:Nat)(h:g<w.heap.size):¬g=x.w.heap.size+1:=by have:=x.size;omega
theorem RL{w:World}(x:BX w)(g:Nat)(h:g<w.heap.size):g<x.w.heap.size:=by have:=x.size;omega
theorem RK{w:World}(x:BX w)(g:Nat)(h:g<w.heap.size):g<x.w.heap.size+1:=by have:=x.size;omega
section
variable{K:Nat->Prop}{p d a line lines:Nat}{t:Nat->Nat}{size:Int}{w w':World}{σ:PwS}{n:Nat}
theorem bB.plc(H:bB K p d t line lines size w σ):∃bb,p<w.heap.size/\bb<w.heap.size/\p≠bb/\CB w p 172 #[.pointer (some ⟨d,0,none⟩), .int .i64 line, .int .i64 lines, .int .u64 size, .slice (some ⟨bb,0,none⟩) σ.busy.length σ.busy.length,fu σ.cur]/\Sl 4 1 w (some ⟨bb,0,none⟩) σ.busy.length σ.busy.length (bools σ.busy):=by
 obtain⟨role,bb,h,hK⟩:=H;exact⟨bb,h.lt.1,h.lt.2,h.pb,h.pl,h.bz⟩
theorem Ud(H:bB K p d t line lines ((n:Int)*64) w σ)(hn:n<100000)(hl:line+lines<100000)(th:Nat)(bQ:th<8)(cM:(σ.dev.a8 th).err=0)(g off m c k:Nat)(es:List bO)(hm:es.length=m)(h1:1<=m)(h6:m<=6)(hS:uX w (some ⟨g,off,none⟩) m c es)
 (hr:∀e∈es,0<=e.off/\e.off<18446744073709551616/\0<=e.old/\e.old<18446744073709551616) (hg:Lm line lines n es m=true) (hk:FR σ.busy=some k) (xN:σ.busy.length<=100000):
 Calls prog 174 #[.pointer (some ⟨p,0,none⟩), .int .i64 (th:Int), .slice (some ⟨g,off,none⟩) m c] w λr w'=>∃a order,r= .returned (.tuple #[.pointer (some ⟨a,0,none⟩), .int .i64 0])/\w.heap.size<=a/\order.Perm (List.range m)/\bB K p d t line lines ((n:Int)*64) w' {σ.aB a (wG k th es order)with busy:=σ.busy.set k true}/\Ch (λb=>¬K b) w w':=by
 have HP:=ag H;have HS:=ag hS;have HM:=ag hm;have HR:=ag hr;have HG:=ag hg;have HK:=ag hk;obtain⟨role,bb,N6,tC⟩:=H;obtain⟨Ew,HLb⟩:=N6.lt;have QG:=N6.pb;have lS:=N6.pl;have Bo:=N6.bz;have GH:=ag N6;have HK0:=ag tC;have p0:w.cell? ⟨p,0,none⟩=some (.pointer (some ⟨d,0,none⟩)):=lS.cell 0;have p1:w.cell? ⟨p,1,none⟩=some (.int .i64 line):=lS.cell 1;have p2:w.cell? ⟨p,2,none⟩=some (.int .i64 lines):=lS.cell 2;have p3:w.cell? ⟨p,3,none⟩=some (.int .u64 ((n:Int)*64)):=lS.cell 3;have VX:=ag (λ(W:World) (o:Int) (ho:0<=o/\o<18446744073709551616)=>BR W line lines n hl hn o ho);have UB:¬(th:Int)<0:=by omega
 have I9:¬(th:Int)≥8:=by omega
 have Zea:¬(8:Int)<=(th:Int):=by omega
 have fv:¬(m:Int)<1:=by omega
 have hm6:¬(m:Int)>6:=by omega
 have ZeF:¬(6:Int)<(m:Int):=by omega
 have HBZ:=ag Bo;have HPL:=ag lS;have HPI:Hid (∀W,Below w.heap.size w W->bB K p d t line lines ((n:Int)*64) W σ):=λW hW=>HP.out.ko hW
 have JX:Hid (∀W,Below w.heap.size w W->Calls prog 37 #[.pointer (some ⟨d,0,none⟩), .int .i64 (th:Int)] W λe w'=>e= .returned (.pointer (some ⟨t th,0,none⟩))/\W=w'):=λW hW=>by
  obtain⟨role,bb,h,hK⟩:=HPI.out W hW;exact kL h.dv th bQ
 have jx:Hid (∀W,Below w.heap.size w W->Calls prog 65 #[.pointer (some ⟨t th,0,none⟩)] W λe w'=>e= .returned (.int .i64 0)/\W=w'):=λW hW=>by
  have:=(HPI.out W hW).err th bQ;rwa[cM]at this
 have HTB:=ag bQ;clear N6 tC hS hm hr hg hk lS Bo cM bQ;go_enter func174,ntmps174
 go_wp2;go_loopw [38,6,7,8,9,10,39,40,41,42,43,44,45,46,47,48,49,50,51,52,53,54,55,56,57,58,59,60,61,62,63,64] (λi _ _ _ _ _ _ _ _ _ _ _ _ _ _ _ _ _ _ _ _ _ _ _ _ _ _ _ _ _ _ _ wr=>∃j:Nat,j<=m/\i= .int .i64 j/\Below w.heap.size w wr) (λi _ _ _ _ _ _ _ _ _ _ _ _ _ _ _ _ _ _ _ _ _ _ _ _ _ _ _ _ _ _ _ _=>m-(intOf i).toNat)
 case atStart=>exact⟨0,by omega,rfl,bZ _ _⟩
 case round=>
  obtain⟨j,hj,rfl,hB⟩:=hrel;have HB:=ag hB;have Zau:p<wr.heap.size:=cD Ew hB.size;have y0:=(hB.cell (p:=⟨p,0,none⟩) Ew).trans p0;have y1:=(hB.cell (p:=⟨p,1,none⟩) Ew).trans p1;have y2:=(hB.cell (p:=⟨p,2,none⟩) Ew).trans p2;have y3:=(hB.cell (p:=⟨p,3,none⟩) Ew).trans p3;by_cases aM:j<m
  . have dx:(j:Int)<(m:Int):=by omega
    have oZ:j<es.length:=by rw[HM.out];exact aM
    have hSr:=HS.out.bl hB;have HSR:=ag hSr;obtain⟨g2,Fv,hA,eh,t1,t2,t3,t4⟩:=hSr.vS (k:=j) oZ;injection hA with hA;injection hA with e1 e2;subst e1 e2
    have ZbF:A_ line lines n (es.getD j E0).off=true/\(iP (es.take j) (es.getD j E0).off).isSome=false/\(es.getD j E0).t_=true:=by
     have h:=HG.out;unfold Lm at h;rw[ir]at h;have:=h j (by simpa using aM);simp only[kz,PE]at this;exact⟨this.1.1,this.1.2,this.2⟩
    obtain⟨q1,q2,q3⟩:=ZbF;have MZ:es.getD j E0=es[j]'oZ:=by rw[eY,dG oZ];rfl
    have G6:=HR.out _ (fq oZ);rw[MZ]at q1 q2 q3;obtain⟨e,he⟩:=aH (es[j]'oZ);rw[he]at t1 t2 t3 t4 q1 q2 q3 G6;obtain⟨eo,nK,rK,Nn⟩:=e;dsimp only at t1 t2 t3 t4 q1 q2 G6;have HO1:=ag (λW=>VX.out W eo ⟨G6.1,G6.2.1⟩);rw[q1]at HO1;have Oi:=ag (λW=>Gp W ⟨eo,nK,rK,Nn⟩ G6.2.2);rw[q3]at Oi;dsimp only[DX]at Oi
    have NL:Hid (∀W ge,Below wr.heap.size wr W->W.cell? ⟨ge,0,none⟩=some (.int .u64 eo)->Calls prog 184 #[.slice (some ⟨g,off,none⟩) j c, .func (.func 183) #[] #[.pointer (some ⟨ge,0,none⟩)]] W λr w'=>r= .returned (.bool false)/\Below W.heap.size W w'):=λW ge hW Ha=>by
     have h:=Zb4 W (some ⟨g,off,none⟩) j c (es.take j) (by simp;omega) ae ((HSR.out.bl hW).take j hj) ge Ha;rwa[q2]at h
    have hjc:j<=c:=by have:=hSr.2.1;omega
    clear hB hSr MZ he q1 q2 q3 G6;go_upto_region 7 with(fail)
    have ZeP:(j:Int)<=(c:Int):=by omega
    have MU:¬(j:Int)<0:=by omega
    obtain⟨W0,nR⟩:=aH (wr.alloc (.cells #[.int .u64 eo, .int .u64 nK, .int .u64 rK, .bool Nn] 223));have ZQ:Below wr.heap.size wr W0:=by rw[<-nR];exact aC
    have kk:=CB.new wr 223 #[.int .u64 eo, .int .u64 nK, .int .u64 rK, .bool Nn];rw[nR]at kk;have k0:W0.cell? ⟨wr.heap.size,0,none⟩=some (.int .u64 eo):=kk.cell 0;have k1:W0.cell? ⟨wr.heap.size,1,none⟩=some (.int .u64 nK):=kk.cell 1;have k2:W0.cell? ⟨wr.heap.size,2,none⟩=some (.int .u64 rK):=kk.cell 2;have k3:W0.cell? ⟨wr.heap.size,3,none⟩=some (.bool Nn):=kk.cell 3;have Zg:wr.heap.size<W0.heap.size:=by rw[<-nR];simp
    have Zfc:p<W0.heap.size:=by omega
    have z1:=(ZQ.cell (p:=⟨p,1,none⟩) Zau).trans y1;have z2:=(ZQ.cell (p:=⟨p,2,none⟩) Zau).trans y2;have z3:=(ZQ.cell (p:=⟨p,3,none⟩) Zau).trans y3;have oG:=ag ZQ;rw[nR];clear nR ZQ kk;refine cy krQ krQ ?_;repeat(go_big_quiet_step (first|(go_at_call 162;exact bK (HO1.out _))|(go_at_call 184;exact bK (NL.out _ _ (oG.out.trans ((BX.below _).mono oG.out.size)) (by go_simp)))|(go_at_call 163;exact bK (Oi.out _))))
    refine cE ?_;rintro _ ⟨x,rfl⟩;go_wp2;exact⟨⟨j+1,by omega,by go_num,HB.out.trans ((oG.out.trans (x.below.mono oG.out.size)).mono HB.out.size)⟩,by simp[intOf];omega⟩
  . obtain rfl:j=m:=by omega
    have y4:wr.cell? ⟨p,2,none⟩=some (.int .i64 lines):=y2;have yb:wr.cell? ⟨p,4,none⟩=some (.slice (some ⟨bb,0,none⟩) σ.busy.length σ.busy.length):=(hB.cell (p:=⟨p,4,none⟩) Ew).trans (HPL.out.cell 4);have Tc:=ag (YG wr (some ⟨bb,0,none⟩) σ.busy.length σ.busy.length σ.busy rfl xN (HBZ.out.keep (λb hb=>hB.block b (HBZ.out.lt hb))));rw[HK.out]at Tc;dsimp only[DA]at Tc;have US:¬(k:Int)<0:=by omega
    have iy:(0:Int)<=(k:Int):=by omega
    clear hB;go_upto_region 17 with(first|(go_at_call 185;refine Tc.out.mono ?_;rintro e w' ⟨rfl,rfl⟩)|(go_at_call 37;refine(JX.out _ HB.out).mono ?_;rintro e w' ⟨rfl,rfl⟩)|(go_at_call 65;refine(jx.out _ HB.out).mono ?_;rintro e w' ⟨rfl,rfl⟩))
    have zE:=λW=>sG (P:=prog) 96 22 .u64 .i64 .i64 (j:Int) j rfl underlying96 8 iO ae ae W
    have jk:Hid (∀W,Below wr.heap.size wr W->Calls prog 186 #[.slice (some ⟨g,off,none⟩) j c] W (Zcj W (ba es) j)):=λW hW=>Zac W g off j c es h1 ae ((HS.out.bl HB.out).bl hW)
    go_cut [14]from 83 (λs wx=>ZaE wr p (t th) k j es s wx)
    case first=>
     go_region_with
      (go_at_call 186;refine(jk.out _ aC).mono ?_;rintro e w' ⟨ea,ec,rfl,Xf,hb,hO⟩;obtain⟨x,rfl⟩:=aE hb;clear hb;have R7:=ag Xf;have w_:=ag hO;clear Xf hO;have SB:=x.size;have k0:=x.cell (wr.heap.size+0) 0;have f0:=x.frozen (wr.heap.size+0) 0;have m0:=RN x (wr.heap.size+0);have n0:=RM x (wr.heap.size+0);have p0':=RL x (wr.heap.size+0);have q0':=RK x (wr.heap.size+0);simp at k0 f0 m0 n0 p0' q0';have k1:=x.cell (wr.heap.size+1) 0;have f1:=x.frozen (wr.heap.size+1) 0;have m1:=RN x (wr.heap.size+1);have n1:=RM x (wr.heap.size+1);have p1':=RL x (wr.heap.size+1);have q1':=RK x (wr.heap.size+1);simp at k1 f1 m1 n1 p1' q1')
     all_goals go_wp2
     all_goals go_meet
     all_goals
      have aM:=λb (hb:ah ea b)=>R7.out.lt hb
      have ho:=λb (hb:ah ea b)=>w_.out b hb
      simp at SB ho
     all_goals first
      |(refine⟨_,x.w.heap.size+1,x.w.heap.size,rfl,?_,⟨ea,ec,?_,R7.out.keep (λb hb=> ?_),λb hb=> ?_⟩,?_,?_,?_,?_,?_,?_,?_,?_⟩
        . repeat(first|with_reducible exact CB.br _ _ _ smQ|with_reducible refine CB.alloc ?_ _|with_reducible refine dN (u:= .pointer none) ?_|with_reducible refine CB.far ?_ oH _|with_reducible refine CB.bx ?_ _|with_reducible refine CB.drew ?_)
        . repeat(first|with_reducible exact CB.br _ _ _ smQ|with_reducible refine CB.alloc ?_ _|with_reducible refine dN (u:= .pointer none) ?_|with_reducible refine CB.far ?_ oH _|with_reducible refine CB.bx ?_ _|with_reducible refine CB.drew ?_)
        . exact(show Ch (λb=>¬ah ea b) x.w _ by repeat(first|with_reducible exact Ch.refl _ _|with_reducible refine Ch.alloc ?_ _|with_reducible refine Ch.setCell ?_ (.inl (λh=>by have h1:=ho _ h;dsimp only at h1;omega)) _)).block b (aM b hb) (λh=>h hb)
        . have h1:=aM b hb
          have h2:=ho b hb;refine⟨?_,?_,?_,?_⟩<;>omega
        . change CB _ _ _ _
          repeat(first|with_reducible exact CB.br _ _ _ smQ|with_reducible refine CB.alloc ?_ _|with_reducible refine dN (u:= .pointer none) ?_|with_reducible refine CB.far ?_ oH _|with_reducible refine CB.bx ?_ _|with_reducible refine CB.drew ?_)
        . exact aC
        all_goals omega)
      |(refine⟨_,x.w.heap.size+1+1,x.w.heap.size,rfl,?_,⟨ea,ec,?_,R7.out.keep (λb hb=> ?_),λb hb=> ?_⟩,?_,?_,?_,?_,?_,?_,?_,?_⟩
        . repeat(first|with_reducible exact CB.br _ _ _ smQ|with_reducible refine CB.alloc ?_ _|with_reducible refine dN (u:= .pointer none) ?_|with_reducible refine CB.far ?_ oH _|with_reducible refine CB.bx ?_ _|with_reducible refine CB.drew ?_)
        . repeat(first|with_reducible exact CB.br _ _ _ smQ|with_reducible refine CB.alloc ?_ _|with_reducible refine dN (u:= .pointer none) ?_|with_reducible refine CB.far ?_ oH _|with_reducible refine CB.bx ?_ _|with_reducible refine CB.drew ?_)
        . exact(show Ch (λb=>¬ah ea b) x.w _ by repeat(first|with_reducible exact Ch.refl _ _|with_reducible refine Ch.alloc ?_ _|with_reducible refine Ch.setCell ?_ (.inl (λh=>by have h1:=ho _ h;dsimp only at h1;omega)) _)).block b (aM b hb) (λh=>h hb)
        . have h1:=aM b hb
          have h2:=ho b hb;refine⟨?_,?_,?_,?_⟩<;>omega
        . change CB _ _ _ _
          repeat(first|with_reducible exact CB.br _ _ _ smQ|with_reducible refine CB.alloc ?_ _|with_reducible refine dN (u:= .pointer none) ?_|with_reducible refine CB.far ?_ oH _|with_reducible refine CB.bx ?_ _|with_reducible refine CB.drew ?_)
        . exact aC
        all_goals omega)
      |(refine⟨_,x.w.heap.size+1+1,x.w.heap.size+1,rfl,?_,⟨ea,ec,?_,R7.out.keep (λb hb=> ?_),λb hb=> ?_⟩,?_,?_,?_,?_,?_,?_,?_,?_⟩
        . repeat(first|with_reducible exact CB.br _ _ _ smQ|with_reducible refine CB.alloc ?_ _|with_reducible refine dN (u:= .pointer none) ?_|with_reducible refine CB.far ?_ oH _|with_reducible refine CB.bx ?_ _|with_reducible refine CB.drew ?_)
        . repeat(first|with_reducible exact CB.br _ _ _ smQ|with_reducible refine CB.alloc ?_ _|with_reducible refine dN (u:= .pointer none) ?_|with_reducible refine CB.far ?_ oH _|with_reducible refine CB.bx ?_ _|with_reducible refine CB.drew ?_)
        . exact(show Ch (λb=>¬ah ea b) x.w _ by repeat(first|with_reducible exact Ch.refl _ _|with_reducible refine Ch.alloc ?_ _|with_reducible refine Ch.setCell ?_ (.inl (λh=>by have h1:=ho _ h;dsimp only at h1;omega)) _)).block b (aM b hb) (λh=>h hb)
        . have h1:=aM b hb
          have h2:=ho b hb;refine⟨?_,?_,?_,?_⟩<;>omega
        . change CB _ _ _ _
          repeat(first|with_reducible exact CB.br _ _ _ smQ|with_reducible refine CB.alloc ?_ _|with_reducible refine dN (u:= .pointer none) ?_|with_reducible refine CB.far ?_ oH _|with_reducible refine CB.bx ?_ _|with_reducible refine CB.drew ?_)
        . exact aC
        all_goals omega)
      |(refine⟨_,x.w.heap.size,wr.heap.size,rfl,?_,⟨ea,ec,?_,R7.out.keep (λb hb=> ?_),λb hb=> ?_⟩,?_,?_,?_,?_,?_,?_,?_,?_⟩
        . repeat(first|with_reducible exact CB.br _ _ _ smQ|with_reducible refine CB.alloc ?_ _|with_reducible refine dN (u:= .pointer none) ?_|with_reducible refine CB.far ?_ oH _|with_reducible refine CB.bx ?_ _|with_reducible refine CB.drew ?_)
        . repeat(first|with_reducible exact CB.br _ _ _ smQ|with_reducible refine CB.alloc ?_ _|with_reducible refine dN (u:= .pointer none) ?_|with_reducible refine CB.far ?_ oH _|with_reducible refine CB.bx ?_ _|with_reducible refine CB.drew ?_)
        . exact(show Ch (λb=>¬ah ea b) x.w _ by repeat(first|with_reducible exact Ch.refl _ _|with_reducible refine Ch.alloc ?_ _|with_reducible refine Ch.setCell ?_ (.inl (λh=>by have h1:=ho _ h;dsimp only at h1;omega)) _)).block b (aM b hb) (λh=>h hb)
        . have h1:=aM b hb
          have h2:=ho b hb;refine⟨?_,?_,?_,?_⟩<;>omega
        . change CB _ _ _ _
          repeat(first|with_reducible exact CB.br _ _ _ smQ|with_reducible refine CB.alloc ?_ _|with_reducible refine dN (u:= .pointer none) ?_|with_reducible refine CB.far ?_ oH _|with_reducible refine CB.bx ?_ _|with_reducible refine CB.drew ?_)
        . exact aC
        all_goals omega)
      |(refine⟨_,x.w.heap.size+1,wr.heap.size,rfl,?_,⟨ea,ec,?_,R7.out.keep (λb hb=> ?_),λb hb=> ?_⟩,?_,?_,?_,?_,?_,?_,?_,?_⟩
        . repeat(first|with_reducible exact CB.br _ _ _ smQ|with_reducible refine CB.alloc ?_ _|with_reducible refine dN (u:= .pointer none) ?_|with_reducible refine CB.far ?_ oH _|with_reducible refine CB.bx ?_ _|with_reducible refine CB.drew ?_)
        . repeat(first|with_reducible exact CB.br _ _ _ smQ|with_reducible refine CB.alloc ?_ _|with_reducible refine dN (u:= .pointer none) ?_|with_reducible refine CB.far ?_ oH _|with_reducible refine CB.bx ?_ _|with_reducible refine CB.drew ?_)
        . exact(show Ch (λb=>¬ah ea b) x.w _ by repeat(first|with_reducible exact Ch.refl _ _|with_reducible refine Ch.alloc ?_ _|with_reducible refine Ch.setCell ?_ (.inl (λh=>by have h1:=ho _ h;dsimp only at h1;omega)) _)).block b (aM b hb) (λh=>h hb)
        . have h1:=aM b hb
          have h2:=ho b hb;refine⟨?_,?_,?_,?_⟩<;>omega
        . change CB _ _ _ _
          repeat(first|with_reducible exact CB.br _ _ _ smQ|with_reducible refine CB.alloc ?_ _|with_reducible refine dN (u:= .pointer none) ?_|with_reducible refine CB.far ?_ oH _|with_reducible refine CB.bx ?_ _|with_reducible refine CB.drew ?_)
        . exact aC
        all_goals omega)
      |(refine⟨_,x.w.heap.size,wr.heap.size+1,rfl,?_,⟨ea,ec,?_,R7.out.keep (λb hb=> ?_),λb hb=> ?_⟩,?_,?_,?_,?_,?_,?_,?_,?_⟩
        . repeat(first|with_reducible exact CB.br _ _ _ smQ|with_reducible refine CB.alloc ?_ _|with_reducible refine dN (u:= .pointer none) ?_|with_reducible refine CB.far ?_ oH _|with_reducible refine CB.bx ?_ _|with_reducible refine CB.drew ?_)
        . repeat(first|with_reducible exact CB.br _ _ _ smQ|with_reducible refine CB.alloc ?_ _|with_reducible refine dN (u:= .pointer none) ?_|with_reducible refine CB.far ?_ oH _|with_reducible refine CB.bx ?_ _|with_reducible refine CB.drew ?_)
        . exact(show Ch (λb=>¬ah ea b) x.w _ by repeat(first|with_reducible exact Ch.refl _ _|with_reducible refine Ch.alloc ?_ _|with_reducible refine Ch.setCell ?_ (.inl (λh=>by have h1:=ho _ h;dsimp only at h1;omega)) _)).block b (aM b hb) (λh=>h hb)
        . have h1:=aM b hb
          have h2:=ho b hb;refine⟨?_,?_,?_,?_⟩<;>omega
        . change CB _ _ _ _
          repeat(first|with_reducible exact CB.br _ _ _ smQ|with_reducible refine CB.alloc ?_ _|with_reducible refine dN (u:= .pointer none) ?_|with_reducible refine CB.far ?_ oH _|with_reducible refine CB.bx ?_ _|with_reducible refine CB.drew ?_)
        . exact aC
        all_goals omega)
      |trace_state
    case rest=>
     obtain⟨gO,ao,sb,rfl,ZP,⟨ea,ec,Xk,hSE,hOE⟩,hIB,Li,g1,g2,g3,n1,n2,n3⟩:=hcut;have HOE:=ag hOE;have jc:Hid (Sv wr p (t th) k j es gO ao sb ea ec 0 none 0 wc):=⟨ZP,Xk,hSE,hIB,Li,Sl.nil,λb hb=>by simp[ah]at hb⟩;clear ZP Xk hSE hOE hIB Li jk zE;obtain⟨wb,rfl⟩:∃wb,wb=wr:=⟨wr,rfl⟩;go_upto_region 18 with(fail)
     go_wp2;go_loopw [95,15,96,97,98,99,100,101,102,103,104,105,106,107,108] (λi _ _ _ _ _ _ _ _ _ _ _ _ _ _ wr=>∃(q:Nat) (A:Option Addr) (c2:Nat),q<=j/\i= .int .i64 q/\Sv wb p (t th) k j es gO ao sb ea ec q A c2 wr) (λi _ _ _ _ _ _ _ _ _ _ _ _ _ _ _=>j-(intOf i).toNat)
     case atStart=>exact⟨0,none,0,by omega,rfl,jc.out⟩
     case round=>
      clear jc;obtain⟨q,A,c2,hq,rfl,hI⟩:=hrel;have HI:=ag hI;obtain⟨ZP,Xk,hSE,hIB,Li,hSI,hOI⟩:=hI;have co:wr.cell? ⟨gO,0,none⟩=some (.pointer (some ⟨ao,0,none⟩)):=ZP.cell 0;have ca:wr.cell? ⟨ao,4,none⟩=some (.slice A q c2):=Xk.cell 4;have fa:=Xk.frozen 4;have lo:=ZP.lt;have la:=Xk.lt;have NL:=ag ZP;have rS:=ag Xk;have pk:=ag hSE;have HIB:=ag hIB;have Az:=ag Li;have HSI:=ag hSI;have HOI:=ag hOI;clear ZP Xk hSE hIB Li hSI hOI;by_cases hlq:q<j
      . have ZeI:(q:Int)<(j:Int):=by omega
        go_upto_region 21 with(fail)
        go_region_law (first|(refine yE rfl (.tmp 102) (.tmp 104) 23 rfl 3 (.int .i64 0) 1 8 rfl ae underlying23 I5 ae A q c2 (ic (List.range q)) ⟨wr.heap.size,0,none⟩ 1 1 [.int .i64 (q:Int)] (by go_simp) (by go_simp) (HSI.out.keep (λb hb=>d_ _ _ b (HSI.out.lt hb))) rfl ae (mh wr 3 _) (by simp;rfl) ae ?_;intro A2 c3 w2 w_ dh JW Aw;have Hq:Hid (Sw w2 gO ao p (t th) k j ea ec q A c2 sb):=⟨(NL.out.alloc _).drew.ch dh.out (λh=>(HOI.out _ h).2.2.2.1 rfl),(rS.out.alloc _).drew.ch dh.out (λh=>(HOI.out _ h).2.1 rfl)⟩;have k0:w2.cell? ⟨gO,0,none⟩=some (.pointer (some ⟨ao,0,none⟩)):=Hq.out.cO.cell 0;have k4:w2.cell? ⟨ao,4,none⟩=some (.slice A q c2):=Hq.out.cA.cell 4;have k5:=Hq.out.cA.frozen 4;have k6:=Hq.out.cO.lt;have k7:=Hq.out.cA.lt))
        all_goals go_wp2
        all_goals refine⟨⟨q+1,A2,c3,by omega,by go_num,?_⟩,by simp[intOf];omega⟩
        all_goals
         have hx:=dh.out.size;simp at hx;have bT:=HOI.out
         have o8:∀b,ah A2 b->wb.heap.size<=b/\b≠ao/\b≠sb/\b≠gO/\¬ah ea b:=λb hb=>by
          rcases JW.out b hb with h|h
          . exact bT b h
          . have h1:=Az.out.size
            have h2:=rS.out.lt;have h3:=NL.out.lt;have h4:=HIB.out.lt;have h5:∀b,ah ea b->b<wr.heap.size:=λb hb=>pk.out.lt hb
            simp at h;exact⟨by omega,by omega,by omega,by omega,λhe=>by have:=h5 b he;omega⟩
         have px:Below wb.heap.size wb w2:=bM (ru (ai Az.out _)) dh.out (λb hb=>(bT b hb).1);have hea:∀b,ah ea b->b≠ao:=λb hb=>(HOE.out b hb).2.1
         refine⟨(Hq.out.cO.far (p:=⟨ao,4,none⟩) n1 _),Hq.out.cA.set 4 _,?_,?_,gZ px ae _,?_,o8⟩
         . exact(pk.out.keep (w':=w2) (λb hb=>(dh.out.block b (by have:=pk.out.lt hb;simp;omega) (λh=>(bT b h).2.2.2.2 hb)).trans (d_ _ _ b (pk.out.lt hb)))).keep (λb hb=>ft _ _ _ _ (hea b hb))
         . exact((show IB .u64 22 (wr.alloc (.cells #[.int .i64 (q:Int)] 3)).drew sb _ from HIB.out.alloc _).ch (w':=w2) dh.out (λh=>(bT _ h).2.2.1 rfl)).far (p:=⟨ao,4,none⟩) n3 _
         . have hh:=w_.out.keep (w':=w2.setCell ⟨ao,4,none⟩ (.slice A2 (q+1) c3)) (λb hb=>ft _ _ _ _ (o8 b hb).2.1)
           rw[FJ];exact hh
      . obtain rfl:q=j:=by omega
        have eD:Below w.heap.size w wr:=HB.out.trans (Az.out.mono HB.out.size);have qp:=HB.out.size;obtain⟨sj,bo,hA⟩:=Qa HSI.out ae;subst hA;have xM:=HOI.out sj (by simp[ah]);have JY:=ag (TX wr gO ao sj bo c2 q ae ae (List.range q) (wB _) HSI.out ea ec es HM.out co (rS.out.cell 3) pk.out xM.2.2.2.1 xM.2.1 (λb hb he=>xM.2.2.2.2 (by rw[<-he];exact hb)))
        have kG:k<σ.busy.length:=by
         have:=Mn HK.out;simpa using this
        have hkI:(k:Int)<(σ.busy.length:Int):=by omega
        have HOB:=ag xM;clear xM;go_wp2_with (go_at_call 187;refine JY.out.mono ?_;rintro e w5 ⟨rfl,ks,hp,hSk,hCk⟩;have M3:Below w.heap.size w w5:=bM eD hCk (λb hb=>by rw[show b=sj from hb];have:=HOB.out.1;omega);have z2:w5.cell? ⟨p,4,none⟩=some (.slice (some ⟨bb,0,none⟩) σ.busy.length σ.busy.length):=((M3.cell (p:=⟨p,4,none⟩) Ew).trans (HPL.out.cell 4));have zb:Hid (Sl 4 1 w5 (some ⟨bb,0,none⟩) σ.busy.length σ.busy.length (bools σ.busy)):=(HBZ.out.keep (λb hb=>M3.block b (HBZ.out.lt hb)));have zf:=zb.out.mZ k;have zk:∃v,w5.cell? ⟨bb,k,none⟩=some v:=Sl.VD zb.out kG;obtain⟨zv,zk⟩:=zk;have zo:w5.cell? ⟨gO,0,none⟩=some (.pointer (some ⟨ao,0,none⟩)):=(NL.out.ch hCk (λh=>HOB.out.2.2.2.1 h.symm)).cell 0;have zl:gO<w5.heap.size:=(cD lo hCk.size);have zl2:bb<w5.heap.size:=(cD HLb M3.size);have zl3:p<w5.heap.size:=(cD Ew M3.size);have zn:¬gO=bb:=ae;have HPK:=ag hp;have HSK:=ag hSk;have HCK:=ag hCk;have Zcf:=ag M3;clear hp hSk hCk M3)
        refine bH (v:= .tuple #[.pointer (some ⟨ao,0,none⟩), .int .i64 0]) (by simp[results,results174,go_sem]) rfl ⟨ao,ks,rfl,by omega,HPK.out,?_⟩;have Ze5:w.heap.size<=wb.heap.size:=HB.out.size;have hao:w.heap.size<=ao:=by omega
        have hsb:w.heap.size<=sb:=by omega
        have Zdu:ao≠bb:=by omega
        have hz:=zb.out.set (j:=k) (by simpa [bools]using kG) (.bool true);rw[cY,<-CR]at hz;have Zby:ks.length=q:=by rw[HPK.out.length_eq];simp
        have xM:=HOB.out;have Jd:=HOE.out;have hea:∀b,ah ea b->b≠sj:=λb hb he=>xM.2.2.2.2 (by rw[<-he];exact hb)
        have ZeH:=Zcf.out.size;have ZbP:∀b,ah ea b->w.heap.size<=b:=λb hb=>by have:=(Jd b hb).1;omega
        refine bB.Za7 (o:=wG k th es ks) GH.out HK0.out ((Ch.au (S:=At bb) Zcf.out).bj k _) hao hz ⟨ea,ec,some ⟨sj,bo,none⟩,c2,sb,q,none,0,?_,?_,?_,?_,?_,Sl.nil,hsb,n3,λb hb=> ?_,λb hb=> ?_,λb hb=>by simp[ah]at hb⟩
        . have gi:=((rS.out.ch HCK.out (λh=>xM.2.1 h.symm)).far (p:=⟨bb,k,none⟩) Zdu (.bool true))
          have he:ei p t (wG k th es ks) ea ec (some ⟨sj,bo,none⟩) c2 sb q none 0= #[.pointer (some ⟨p,0,none⟩), .pointer (some ⟨t th,0,none⟩), .int .i64 (k:Int), .slice ea q ec, .slice (some ⟨sj,bo,none⟩) q c2, .slice (some ⟨sb,0,none⟩) q q, .int .i64 0, .int .i64 0, .slice none 0 0, .bool false, .bool false, .bool false, .int .i64 0, .pointer none, .int .i64 0, .int .i64 0]:=by
           unfold ei wG;simp[HM.out,Zby,fu]
          rw[he];exact gi
        . show Sl _ _ _ ea es.length ec (ba es)
          rw[HM.out];exact(pk.out.ch HCK.out (λb hb=>hea b hb)).keep (λb hb=>ft _ _ _ _ (by have:=ZbP b hb;show b≠bb;omega))
        . show Sl _ _ _ _ ks.length c2 (ic ks)
          rw[Zby];exact HSK.out.keep (λb hb=>ft _ _ _ _ (by have h:sj=b:=(by simpa [ah]using hb);have h2:=xM.1;show b≠bb;omega))
        . show IB _ _ _ sb (List.replicate es.length 0)
          rw[HM.out];exact(HIB.out.ch HCK.out (λh=>xM.2.2.1 h.symm)).far (p:=⟨bb,k,none⟩) (by show sb≠bb;omega) _
        . show(List.replicate es.length (0:Int)).length<=q
          rw[yO,HM.out];omega
        . exact⟨ZbP b hb,(Jd b hb).2.1,(Jd b hb).2.2.1⟩
        . have h:sj=b:=by simpa [ah]using hb
          subst h;exact⟨by omega,xM.2.1,xM.2.2.1⟩
end
theorem Iz{n k:Nat}{p:Nat->Bool}(hk:k<n)(h:p k=true)(hn:∀q,q<k->p q=false):(List.range n).find? p=some k:=by
 rw[P0];exact⟨h,by simpa using hk,λj hj=>by simp[hn j hj]⟩
theorem si:∀(bs:List Bool) (q:Nat),q<firstFree bs->bs.getD q true=true
 |[],q,h=>by simp[firstFree]at h
 |b::bs,q,h=>by
  unfold firstFree at h;cases b with
  |false=>simp at h
  |true=>
   simp only[cR]at h;cases q with
   |zero=>rfl
   |succ q=>have:=si bs q ae;simpa using this
theorem uE:∀(bs:List Bool),firstFree bs<bs.length->bs.getD (firstFree bs) true=false
 |[],h=>by simp at h
 |b::bs,h=>by
  unfold firstFree at h |-;cases b with
  |false=>rfl
  |true=>
   simp only[cR]at h |-;have:=uE bs (by simpa using h);simpa using this
theorem MI{bs:List Bool}(h:firstFree bs<bs.length):FR bs=some (firstFree bs):=by
 unfold FR;exact Iz h (by rw[uE bs h];rfl) (λq hq=>by rw[si bs q hq];rfl)
theorem Za5{n k:Nat}(h1:256<=k)(h2:k<8*n):A_ 0 32 n (8*(k:Int))=true:=by
 unfold A_;simp only[kz,Kz,sQ];omega
def NoD(es:List bO)(i:Nat):Prop:=∀x y,x<i->y<x->(es.getD x E0).off≠(es.getD y E0).off
theorem Rq:∀{es:List bO},NoD es es.length->dupE es=false
 |[],_=>rfl
 |e::es,h=>by
  unfold dupE;rw[AY];refine⟨?_,Rq (es:=es) (λx y hx hy=> ?_)⟩
  . rw[KI]
    intro x hx he;obtain⟨q,hq,rfl⟩:=y_ hx;refine h (q+1) 0 (by simpa using hq) ae ?_;have:es[q].off=e.off:=by simpa using he
    simpa [eY,hq]using this
  . have:=h (x+1) (y+1) (by simpa using hx) ae
    simpa using this
theorem Vt{es:List bO}{x y:Nat}(hx:x<es.length)(hy:y<x)(h:(es.getD x E0).off=(es.getD y E0).off):dupE es=true:=by
 cases hd:dupE es with
 |true=>rfl
 |false=>have:=oB hd x y hx ae h;omega
theorem Vs{n NN:Nat}{c:TC}{es:List bO}(tH:cx (aF NN) c es)(hb:(aF NN).bk c.key<8)(hn:272+4*NN<=8*n)(lZ:∀e∈es,e.t_=true)(hd:dupE es=false):Lm 0 32 n es es.length=true:=by
 unfold Lm;rw[ir];intro q hq;have wJ:q<es.length:=by simpa using hq
 have hg:es.getD q E0=es[q]:=by rw[eY,dG wJ];rfl
 have hm:es[q]∈es:=fq wJ
 have Bi:A_ 0 32 n es[q].off=true:=by
  obtain⟨_,_,k,h1,h2⟩:=tH _ hm;rw[h1];refine Za5 ?_ ?_
  . rcases h2 with rfl|rfl|⟨n',j,_,_,_,rfl⟩
    . show 256<=256+8+_;omega
    . show 256<=256+2;omega
    . show 256<=256+8+8+4*(n'-1)+j;omega
  . rcases h2 with rfl|rfl|⟨n',j,h3,h4,h5,rfl⟩
    . show 256+8+(aF NN).bk c.key<8*n;omega
    . show 256+2<8*n;omega
    . have zN:n'<=NN:=h4
      show 256+8+8+4*(n'-1)+j<8*n;omega
 have Zc_:iP (es.take q) es[q].off=none:=by
  refine qi (λy hy he=> ?_);have hyl:y<q:=by simp at hy;omega
  have e1:(es.take q).getD y E0=es.getD y E0:=by
   rw[eY,Fl,aA hyl,<-eY]
  rw[e1,<-hg]at he;have:=oB hd y q ae wJ he;omega
 rw[hg,Bi,Zc_,lZ _ hm];rfl
section
variable{κ dL:Nat->Nat}{r p d q a n NN lines:Nat}{t:Nat->Nat}{w w' W2 w3:World}{m m':TM}{bs:Nat->Option Nat}{σ σ':PwS}{D D':TD}{rd rd':Option Nat}{nx:TO}
open Classical in
theorem dt.dH(h:dt κ r p d q a n NN lines t w σ m bs D rd){W1 W2 W3:World}{x:Nat}{order:List Nat}{es:List bO}{v:Int}(iA:Ch (λb=>κ b=0\/κ b=r\/κ b=2) w W1)(hx:w.heap.size<=x)(G7:order.Perm (List.range es.length))
 (hP:bB (λb=>κ b≠0) p d t 0 32 ((n:Int)*64) W2 {σ.aB x (wG (firstFree σ.busy) m.th es order)with busy:=σ.busy.set (firstFree σ.busy) true}) (cz:Ch (λb=>¬κ b≠0) W1 W2) (o7:Ch (At a) W2 W3)
 (oL:CB W1 q 117 (aK d p NN lines bs)) (He:CB W3 a 107 (bV q m.th m.c (cr m.c.key) ((aF NN).rt m.c) {D with res:=v} rd (some x) 0 false)):
 mv κ r p d q a n NN lines t w bs σ m (.dH {D with res:=v} es v) W3:=by
 have zH:=h.ka;have La:=h.kq;have DF:=h.r3;refine⟨(x,λVr=>if Vr=es then order else List.range Vr.length),h.pm.Mw hx,λVr=> ?_,?_⟩
 . show(if Vr=es then order else List.range Vr.length).Perm _
   by_cases he:Vr=es
   . rw[aA he,he];exact G7
   . rw[ax he]
 . have e1:(fY σ m.th (x,λVr=>if Vr=es then order else List.range Vr.length) (.dH {D with res:=v} es v)).1={σ.aB x (wG (firstFree σ.busy) m.th es order)with busy:=σ.busy.set (firstFree σ.busy) true}:=by
    show({σ.aB x (sV (firstFree σ.busy) m.th es (if es=es then order else List.range es.length))with busy:=_}:PwS)=_
    rw[aA rfl];rfl
   rw[e1];refine⟨κ,λ_ _=>rfl,hP.SZ o7 (λb _ hb=>by rw[show b=a from hb,zH];omega),⟨zH,rd,He⟩,?_,(iA.trans cz (λb hb _=> .inl ae)).trans o7 (λb hb _=> .inr (.inl (by rw[show b=a from hb];exact zH)))⟩;have nP:CB W2 q 117 (aK d p NN lines bs):=oL.keep (cz.block q oL.lt (λhx=>hx ae));exact nP.keep (o7.block q nP.lt (λhx=>h.qa hx))
theorem LY(h:dt κ r p d q a n NN lines t w σ m bs D rd){g off cap:Nat}{es:List bO}(En:uX w (some ⟨g,off,none⟩) es.length cap es)(h1:1<=es.length)(h6:es.length<=6)(tH:cx (aF NN) m.c es)(lZ:∀e∈es,e.t_=true)(v:Int):
 Calls prog 146 #[.pointer (some ⟨a,0,none⟩), .int .u64 v, .slice (some ⟨g,off,none⟩) es.length cap] w λe w'=>e= .returned (.tuple #[])/\mv κ r p d q a n NN lines t w bs σ m (fF (aF NN) m.c D v es) w':=by
 obtain⟨M,hM⟩:=aH es.length;rw[hM]at En h1 h6 |-;have H:=ag h;have Sa:=ag En;have HM:=ag hM;have x_:=ag tH;have vZ:=ag lZ;have Zec:(M:Int)<=(cap:Int):=by have:=En.2.1;omega
 obtain⟨F,hF⟩:∃F:Nat->bO,∀k,es.getD k E0=F k:=⟨λk=>es.getD k E0,λ_=>rfl⟩;have HF:=ag hF
 have hcell:∀W,Below w.heap.size w W->∀k,k<M->g<W.heap.size/\W.cell? ⟨g,off+k*4,none⟩=some (.int .u64 (F k).off)/\W.cell? ⟨g,off+k*4+1,none⟩=some (.int .u64 (F k).old)/\W.cell? ⟨g,off+k*4+2,none⟩=some (.int .u64 (F k).new)/\W.cell? ⟨g,off+k*4+3,none⟩=some (.bool (F k).ex):=λW hW k hk=>by
  obtain⟨_,_,h3⟩:=Sa.out;have hM:=HM.out;obtain⟨g',zh,e1,e2,e3,e4,e5,e6⟩:=h3 k ae;have DM:es.getD k E0=es[k]'(by omega):=by rw[eY,dG ae];rfl
  injection e1 with e1;injection e1 with e1 e1' _;subst e1 e1';rw[<-hF,DM];exact⟨cD e2 hW.size,(hW.cell (p:=⟨g,_,none⟩) e2).trans e3,(hW.cell (p:=⟨g,_,none⟩) e2).trans e4,(hW.cell (p:=⟨g,_,none⟩) e2).trans e5,(hW.cell (p:=⟨g,_,none⟩) e2).trans e6⟩
 have Sh:=ag hcell;have HAG:=ag (λ(W:World) (hW:Below w.heap.size w W)=>(pF (h.bl hW).1).mono (λe w' hh=>(⟨hh.1,hh.2.trans (h.bl hW).2⟩:e= .returned (.tuple #[])/\mv κ r p d q a n NN lines t w bs σ m (jl (aF NN) m.c D) w')));clear hM En tH lZ hcell h hF;unfold fF;obtain⟨nx,fx⟩:=aH ((if dupE es=true then jl (aF NN) m.c D else .dH {D with res:=v} es v));rw[fx];have jP:=ag fx;clear fx;go_enter func146,ntmps146
 go_wp2;go_loopw [14,6,7,9,15,16,17,18,19,20,21,22,23,24,25,26,27,28,29,30,31,32,33,34,35] (λi _ _ _ _ _ _ _ _ _ _ _ _ _ _ _ _ _ _ _ _ _ _ _ _ wr=>∃j:Nat,j<=M/\i= .int .i64 j/\Below w.heap.size w wr/\NoD es j) (λi _ _ _ _ _ _ _ _ _ _ _ _ _ _ _ _ _ _ _ _ _ _ _ _ _=>M-(intOf i).toNat)
 case atStart=>exact⟨0,by omega,rfl,bZ _ _,λx y hx=>by omega⟩
 case round=>
  obtain⟨i,hi,rfl,hB,hND⟩:=hrel;have HB:=ag hB;have jQ:=ag hND;obtain⟨wz,QC⟩:∃wz,wz=wr:=⟨wr,rfl⟩;rw[<-QC]at hB HB |-;clear QC hND;by_cases aM:i<M
  . have Zc1:(i:Int)<(M:Int):=by omega
    obtain⟨hg,z0,z1,z2,z3⟩:=Sh.out wz hB i aM;have N7:Below w.heap.size w (wz.alloc (.cells #[.int .u64 (F i).off, .int .u64 (F i).old, .int .u64 (F i).new, .bool (F i).ex] 223)):=ai hB _;have hc7:(wz.alloc (.cells #[.int .u64 (F i).off, .int .u64 (F i).old, .int .u64 (F i).new, .bool (F i).ex] 223)).cell? ⟨wz.heap.size,0,none⟩=some (.int .u64 (F i).off):=by go_simp
    have hs7:wz.heap.size<(wz.alloc (.cells #[.int .u64 (F i).off, .int .u64 (F i).old, .int .u64 (F i).new, .bool (F i).ex] 223)).heap.size:=by simp
    have dZ:=ag N7;have HC7:=ag hc7;have S8:=ag hs7;clear hB N7 hc7 hs7;go_wp2;clear z0 z1 z2 z3 hg;obtain⟨b7,Eo⟩:=aH wz.heap.size;obtain⟨W1,fV⟩:=aH (wz.alloc (.cells #[.int .u64 (F i).off, .int .u64 (F i).old, .int .u64 (F i).new, .bool (F i).ex] 223));rw[fV]at dZ HC7 S8 |-;rw[Eo]at HC7 S8 |-;clear fV Eo;go_loopw [23,9,24,25,26,27,28,29,30,31,32,33,34] (λj _ _ _ _ _ _ _ _ _ _ _ _ wr=>∃y:Nat,y<=i/\j= .int .i64 y/\Below W1.heap.size W1 wr/\∀x,x<y->(F i).off≠(F x).off) (λj _ _ _ _ _ _ _ _ _ _ _ _ _=>i-(intOf j).toNat)
    case atStart=>exact⟨0,by omega,rfl,bZ _ _,λx hx=>by omega⟩
    case round=>
     obtain⟨y,hy,rfl,wQ,js⟩:=hrel;have xx:=ag wQ;have tK:=ag js;clear js;by_cases hly:y<i
     . have Zc0:(y:Int)<(i:Int):=by omega
       obtain⟨hg,z0,z1,z2,z3⟩:=Sh.out wr (dZ.out.trans (wQ.mono dZ.out.size)) y ae;have k7:wr.cell? ⟨b7,0,none⟩=some (.int .u64 (F i).off):=(wQ.cell (p:=⟨b7,0,none⟩) S8.out).trans HC7.out;have l7:b7<wr.heap.size:=cD S8.out wQ.size;have Zd9:=ag (λ(W:World) (hW:Below wr.heap.size wr W)=>HAG.out W (dZ.out.trans ((wQ.trans (hW.mono wQ.size)).mono dZ.out.size)));clear wQ;by_cases heq:(F i).off=(F y).off
       . have Oo:=ag heq
         rw[heq]at k7;clear heq;go_wp2_with (go_at_call 77;(with_reducible refine(Zd9.out _ aC).mono ?_);rintro e w3 ⟨rfl,h3⟩;have H3:=ag h3;clear h3)
         refine bH (v:= .tuple #[]) (by simp[results,results146,go_sem]) rfl ?_;have e9:=jP.out;have hM:=HM.out;rw[aA (Vt (x:=i) (y:=y) ae hly (by rw[HF.out,HF.out];exact Oo.out))]at e9;rw[<-e9];exact⟨rfl,H3.out⟩
       . have Oo:=ag heq
         have aG:((F i).off==(F y).off)=false:=by simpa using heq
         clear heq;go_wp2
         exact⟨⟨y+1,by omega,by go_num,ai xx.out _,λx hx=>by
          by_cases Ux:x=y
          . rw[Ux];exact Oo.out
          . exact tK.out x ae⟩,by simp[intOf];omega⟩
     . have Zc0:¬(y:Int)<(i:Int):=by omega
       clear wQ;go_wp2;have hyi:y=i:=by omega
       subst hyi
       exact⟨⟨y+1,by omega,by go_num,dZ.out.trans (xx.out.mono dZ.out.size),λx z hx hz=>by
        by_cases Ux:x=y
        . rw[Ux,HF.out,HF.out];exact tK.out z ae
        . exact jQ.out x z ae hz⟩,by simp[intOf];omega⟩
  . have Zc1:¬(i:Int)<(M:Int):=by omega
    have hiM:i=M:=by omega
    have hND:=jQ.out;rw[hiM]at hND;have hd:dupE es=false:=Rq (by rw[HM.out];exact hND);have fx:nx= .dH {D with res:=v} es v:=by rw[<-jP.out,hd];rfl
    have ZdV:=ag fx;have hlen:=HM.out;have ZbI:uX w (some ⟨g,off,none⟩) es.length cap es:=by rw[hlen];exact Sa.out
    have Bo:=H.out.bz;have jD:=H.out.ck
    have HPB:Hid (∀W,Below wz.heap.size wz W->Calls prog 174 #[.pointer (some ⟨p,0,none⟩), .int .i64 (m.th:Int), .slice (some ⟨g,off,none⟩) M cap] W λe w'=>∃x order,e= .returned (.tuple #[.pointer (some ⟨x,0,none⟩), .int .i64 0])/\W.heap.size<=x/\order.Perm (List.range M)/\bB (λb=>κ b≠0) p d t 0 32 ((n:Int)*64) w' {σ.aB x (wG (firstFree σ.busy) m.th es order)with busy:=σ.busy.set (firstFree σ.busy) true}/\Ch (λb=>¬κ b≠0) W w'):=λW hW=>by
     have hBW:=hB.trans (hW.mono hB.size);have hn:=H.out.hn
     have oK:uX W (some ⟨g,off,none⟩) M cap es:=by
      rw[<-hlen];obtain⟨e1,e2,e3⟩:=ZbI;refine⟨e1,e2,λk hk=> ?_⟩;obtain⟨g',zh,a1,a2,a3,a4,a5,a6⟩:=e3 k hk;exact⟨g',zh,a1,cD a2 hBW.size,(hBW.cell (p:=⟨g',_,none⟩) a2).trans a3,(hBW.cell (p:=⟨g',_,none⟩) a2).trans a4,(hBW.cell (p:=⟨g',_,none⟩) a2).trans a5,(hBW.cell (p:=⟨g',_,none⟩) a2).trans a6⟩
     exact Ud (H.out.pm.ko hBW) ae ae m.th H.out.th (H.out.er _) g off M cap (firstFree σ.busy) es hlen h1 h6 oK (λe he=>by
      obtain⟨b1,_,k,b3,b4⟩:=x_.out e he
      have hk:k<100000:=by
       have hb:=jD.bk;have hN:=H.out.n3;rcases b4 with rfl|rfl|⟨n',j,c1,c2,c3,rfl⟩
       . have:(aF NN).rt m.c=256+8+(aF NN).bk m.c.key:=rfl
         have:(aF NN).B=8:=rfl;omega
       . show 256+2<_;omega
       . have Lv:n'<=NN:=c2
         show 256+8+8+4*(n'-1)+j<_;omega
      exact⟨by rw[b3];omega,by rw[b3];omega,b1.1,by omega⟩) (by rw[<-hlen];exact Vs x_.out jD.bk H.out.dS vZ.out hd) (MI ae) ae
    obtain⟨nP,cz⟩:=H.out.bl hB;have k0:=nP.hc.eQ.c0;have k1:=nP.hc.eQ.c1;have hl:=nP.hc.lt;have k4:=nP.hq.tac.c4;have ql:=nP.hq.lt;have HQ2:=ag nP;have dh:=ag cz;clear hB hND hd fx hlen ZbI Bo jD nP cz hiM jQ;clear Sh HAG HF Sa x_ vZ;go_wp2;go_cut [10,11]from 36 (λs10 s11 wx=>∃(x:Nat) (order:List Nat) (W1:World),s10= .pointer (some ⟨x,0,none⟩)/\s11= .int .i64 0/\Below wz.heap.size wz W1/\W1.heap.size<=x/\order.Perm (List.range M)/\bB (λb=>κ b≠0) p d t 0 32 ((n:Int)*64) wx {σ.aB x (wG (firstFree σ.busy) m.th es order)with busy:=σ.busy.set (firstFree σ.busy) true}/\Ch (λb=>¬κ b≠0) W1 wx)
    case first=>
     go_region_with (go_at_call 174;(with_reducible refine(HPB.out _ aC).mono ?_);rintro e w3 ⟨x,order,rfl,hx,G7,hP,hC⟩;have HX:=ag hx;have GH:=ag G7;have HP:=ag hP;have Ec:=ag hC;clear hx G7 hP hC)
     all_goals
      go_wp2;go_meet
      case rel=>exact⟨x,order,_,rfl,rfl,by exact aC,HX.out,GH.out,HP.out,Ec.out⟩
    case rest=>
    obtain⟨x,order,W1,rfl,rfl,hBu,hx,G7,hP,hC⟩:=hcut;have V6:=ag hBu;have HX:=ag hx;have GH:=ag G7;have HP:=ag hP;have Ec:=ag hC;clear hBu hx G7 hP hC;have He:CB wc a 107 (bV q m.th m.c (cr m.c.key) ((aF NN).rt m.c) D rd none 0 false):=(HQ2.out.hc.below V6.out).keep (Ec.out.block a (HQ2.out.hc.below V6.out).lt (λhx=>hx (by have:=H.out.ka;have:=H.out.r3;omega)));have fo:=ag He;have f25:=He.frozen 25;have f10:=He.frozen 10;have y25:=He.eQ.gN;have y10:=He.eQ.gj;have yl:=He.lt;clear He k0 k1 k4 hl ql;go_wp2;go_end0
    rw[ZdV.out];refine⟨rfl,?_⟩;have hM:=HM.out;refine H.out.dH (W1:=W1) (W2:=wc) (x:=x) (order:=order) (dh.out.trans (Ch.au (S:=λ_=>False) V6.out) (λb hb _=>hb.elim)) ?_ (by rw[hM];exact GH.out) HP.out Ec.out (((Ch.refl _ _).bj _ _).bj _ _) (HQ2.out.hq.below V6.out) ((fo.out.set 25 _).set 10 _);exact f_ (f_ HB.out.size V6.out.size) HX.out
end
section
variable{κ dL:Nat->Nat}{r p d q a n NN lines:Nat}{t:Nat->Nat}{w w' W2 w3:World}{m m':TM}{bs:Nat->Option Nat}{σ σ':PwS}{D D':TD}{rd rd' ch:Option Nat}{nx:TO}{th rt:Nat}{c:TC}{h rv:Int}{ended:Bool}
theorem Hz(hc:CB w a 107 (bV q th c h rt D rd ch rv ended))(v:Int):
 Calls prog 147 #[.pointer (some ⟨a,0,none⟩), .int .u64 v] w λe w'=>e= .returned (.agg #[.int .u64 (8*(rt:Int)), .int .u64 D.raw, .int .u64 v, .bool true])/\Below w.heap.size w w':=by
 obtain⟨c0,c1,c2,c3,c4,c5,c6,c7,c8,c9,gj,fD,fZ,fW,fO,dC,iR,jh,jM,jL,jK,iD,jJ,jI,jH,gN,jG,iC,iB,hl,hf⟩:=hc.eQ;clear c0 c1 c2 c3 c4 c5 c6 c8 c9 gj fZ fW fO dC iR jh jM jL jK iD jJ jI jH gN jG iC iB hf hc;obtain⟨z,hz⟩:∃z:Int,8*(rt:Int)=z:=⟨_,rfl⟩;rw[hz]at c7 |-;clear hz;go_enter func147,ntmps147
 go_wp2;go_region_with (fail)
 all_goals
  go_wp2;have k0:((w.alloc (.cells #[.int .u64 z, .int .u64 D.raw, .int .u64 v, .bool true] 223)).drew).cell? ⟨w.heap.size,0,none⟩=some (.int .u64 z):=by go_simp
  have k1:((w.alloc (.cells #[.int .u64 z, .int .u64 D.raw, .int .u64 v, .bool true] 223)).drew).cell? ⟨w.heap.size,1,none⟩=some (.int .u64 D.raw):=by go_simp
  have k2:((w.alloc (.cells #[.int .u64 z, .int .u64 D.raw, .int .u64 v, .bool true] 223)).drew).cell? ⟨w.heap.size,2,none⟩=some (.int .u64 v):=by go_simp
  have k3:((w.alloc (.cells #[.int .u64 z, .int .u64 D.raw, .int .u64 v, .bool true] 223)).drew).cell? ⟨w.heap.size,3,none⟩=some (.bool true):=by go_simp
  have kl:w.heap.size<((w.alloc (.cells #[.int .u64 z, .int .u64 D.raw, .int .u64 v, .bool true] 223)).drew).heap.size:=by simp
  have kb:Below w.heap.size w ((w.alloc (.cells #[.int .u64 z, .int .u64 D.raw, .int .u64 v, .bool true] 223)).drew):=by exact aC
  generalize (w.alloc (.cells #[.int .u64 z, .int .u64 D.raw, .int .u64 v, .bool true] 223)).drew=W1 at*;refine bH (v:= .agg #[.int .u64 z, .int .u64 D.raw, .int .u64 v, .bool true]) (by simp[results,results147,go_sem,k0,k1,k2,k3,kl]) rfl ?_;exact⟨rfl,kb⟩
theorem C9{w:World}{g n:Nat}{vs:Array Value}{e:TypeId}{k:Nat}(h:CB w g e vs)(hn:vs.size=n*k)(hm:n<=maxLen):Sl e k w (some ⟨g,0,none⟩) n n vs.toList:=by
 refine⟨by simpa using hn, .inr ⟨g,0,vs,rfl,h,Nat.le_refl _,hm,by omega,?_⟩⟩;rw[iq,fR (by simp;omega)]
theorem EH(hc:CB w a 107 (bV q m.th m.c h ((aF NN).rt m.c) D rd ch rv ended))(hr:0<=D.raw)(v:Int):
 Calls prog 176 #[.pointer (some ⟨a,0,none⟩), .int .u64 v] w λe w'=>∃g,e= .returned (.slice (some ⟨g,0,none⟩) (bC (aF NN) m.c D v).length (bC (aF NN) m.c D v).length)/\w.heap.size<=g/\Sl 223 4 w' (some ⟨g,0,none⟩) (bC (aF NN) m.c D v).length (bC (aF NN) m.c D v).length (ba (bC (aF NN) m.c D v))/\Below w.heap.size w w':=by
 have HC:=ag hc;obtain⟨c0,c1,c2,c3,c4,c5,c6,c7,c8,c9,gj,fD,fZ,fW,fO,dC,iR,jh,jM,jL,jK,iD,jJ,jI,jH,gN,jG,iC,iB,hl,hf⟩:=hc.eQ;clear c0 c1 c2 c3 c4 c5 c6 c8 c9 gj fO dC iR jh jM jL jK iD jJ jI jH gN jG iC iB hf hc;have HR:=ag (λ(W:World) (hW:Below w.heap.size w W) (x:Int)=>Hz (HC.out.below hW) x);obtain⟨rt,mJ⟩:=aH ((aF NN).rt m.c);rw[mJ]at HR c7;by_cases vK:D.link=rt
 . have En:bC (aF NN) m.c D v=[⟨8*(rt:Int),D.raw,v,true⟩]:=by unfold bC dD;rw[mJ,aA vK]
   rw[En];have Zm:8*(D.link:Int)=8*(rt:Int):=by rw[vK]
   rw[Zm]at fW;have iU:Hid (∀W g,CB W g 223 #[.int .u64 (8*(rt:Int)), .int .u64 D.raw, .int .u64 v, .bool true]->Sl 223 4 W (some ⟨g,0,none⟩) 1 1 (ba [⟨8*(rt:Int),D.raw,v,true⟩])):=λW g hg=>C9 hg rfl (by unfold maxLen;omega)
   clear En vK Zm mJ;generalize 8*(rt:Int)=z at*;go_enter func176,ntmps176
   go_wp2;go_quiet (fail)
   go_wp2_with (go_at_call 147;(with_reducible refine(HR.out _ aC _).mono ?_);rintro e w3 ⟨rfl,hb⟩;obtain⟨y,rfl⟩:=aE hb;clear hb)
   refine bH (v:= .slice (some ⟨y.w.heap.size,0,none⟩) 1 1) (by simp[results,results176,go_sem]) rfl ?_;exact⟨_,rfl,y.size,iU.out _ _ (CB.new _ _ _),by exact aC⟩
 . have En:bC (aF NN) m.c D v=[⟨8*(rt:Int),D.raw,D.raw%1099511627776,true⟩,⟨8*(D.link:Int),D.node,v,false⟩]:=by unfold bC dD jF;rw[mJ,ax vK]
   rw[En];have Zm:(8*(D.link:Int)==8*(rt:Int))=false:=by simp;omega
   have YS:D.raw.tmod 1099511627776=D.raw%1099511627776:=ID hr;have iU:Hid (∀W g,CB W g 223 #[.int .u64 (8*(rt:Int)), .int .u64 D.raw, .int .u64 (D.raw%1099511627776), .bool true, .int .u64 (8*(D.link:Int)), .int .u64 D.node, .int .u64 v, .bool false]->Sl 223 4 W (some ⟨g,0,none⟩) 2 2 (ba [⟨8*(rt:Int),D.raw,D.raw%1099511627776,true⟩,⟨8*(D.link:Int),D.node,v,false⟩])):=λW g hg=>C9 hg rfl (by unfold maxLen;omega)
   clear En vK mJ;generalize 8*(rt:Int)=z at*;generalize 8*(D.link:Int)=z1 at*;generalize D.raw%1099511627776=z2 at*;go_enter func176,ntmps176
   go_wp2;go_quiet (fail)
   go_wp2;refine aL 17 krQ krQ ?_;simp only[List.take_succ_cons,List.take_zero,jm,iq];repeat(go_big_quiet_step (first|(go_at_call 147;exact bK (HR.out _ aC _))))
   refine cE ?_;rintro _ ⟨u,rfl⟩;go_wp2;refine bH (v:= .slice (some ⟨u.w.heap.size,0,none⟩) 2 2) (by simp[results,results176,go_sem]) rfl ?_;exact⟨_,rfl,u.size,iU.out _ _ (CB.new _ _ _),by exact aC⟩
end
def EW(K:TK)(c:TC)(d:TD):TO:=
 if c.kind=0 then lV K c d d.value 0 else if c.kind=2 then .read {d with aa:=5,last:=d.node,aD:=d.link,depth:=0} (K.nd d.node 2)
 else if c.kind=3/\d.value≠c.old then lV K c d d.value 6 else fF K c d d.value (g_ K c d)
section
variable{κ dL:Nat->Nat}{r p d q a n NN lines:Nat}{t:Nat->Nat}{w w' W2 w3:World}{m m':TM}{bs:Nat->Option Nat}{σ σ':PwS}{D D':TD}{rd rd':Option Nat}{nx:TO}
theorem kC{k:Nat}{o x:Int}(ho:o<1099511627776)(hx:x<1099511627776):(jF k o x).t_=true:=by unfold bO.t_ jF;simp;omega
theorem vt{K:TK}{c:TC}{d:TD}{x:Int}(hr:d.raw<4611686018427387904)(hx:x<1099511627776):(dD K c d x).t_=true:=by unfold bO.t_ dD;simp;omega
theorem sD(h:dt κ r p d q a n NN lines t w σ m bs D rd){es:List bO}(h1:1<=es.length)(h6:es.length<=6)(tH:cx (aF NN) m.c es)(lZ:∀e∈es,e.t_=true)(v:Int):∀W,Below w.heap.size w W->∀g cap,uX W (some ⟨g,0,none⟩) es.length cap es->
 Calls prog 146 #[.pointer (some ⟨a,0,none⟩), .int .u64 v, .slice (some ⟨g,0,none⟩) es.length cap] W λe w'=>e= .returned (.tuple #[])/\mv κ r p d q a n NN lines t w bs σ m (fF (aF NN) m.c D v es) w':=λW hW g cap En=>by
 obtain⟨h3,h4⟩:=h.bl hW;refine(LY h3 En h1 h6 tH lZ v).mono ?_;rintro e w' ⟨rfl,h5⟩;exact⟨rfl,h5.trans h4⟩
theorem EK(h:dt κ r p d q a n NN lines t w σ m bs D rd)(v e:Int):∀W,Below w.heap.size w W->
 Calls prog 145 #[.pointer (some ⟨a,0,none⟩), .int .u64 v, .int .i64 e] W λx w'=>x= .returned (.tuple #[])/\mv κ r p d q a n NN lines t w bs σ m (lV (aF NN) m.c D v e) w':=λW hW=>by
 obtain⟨h3,h4⟩:=h.bl hW;refine(nT h3 v e).mono ?_;rintro x w' ⟨rfl,h5⟩;exact⟨rfl,h5.trans h4⟩
theorem mv.cb{es:List bO}{v:Int}(h:mv κ r p d q a n NN lines t w bs σ m (fF (aF NN) m.c D v es) w'):∃(st:Nat) (res:Int) (rd9 ch9:Option Nat) (bs9:Nat->Option Nat),CB w' a 107 (bV q m.th m.c (cr m.c.key) ((aF NN).rt m.c) {D with aa:=st,res:=res} rd9 ch9 0 false)/\CB w' q 117 (aK d p NN lines bs9):=by
 obtain⟨bl,h1,h2,dL,h3,h4,h5,h6,h7⟩:=h;unfold fF at h5;cases hd:dupE es with
 |true=>
  rw[hd]at h5;obtain⟨_,g,h8,_⟩:=h5;exact⟨1,D.res,some g,none,_,h8,h6⟩
 |false=>
  rw[hd]at h5;obtain⟨_,rd9,h8⟩:=h5;exact⟨D.aa,v,rd9,_,_,h8,h6⟩
theorem Wy{c:TC}(h:c.kind=3):c.od=c.old:=aA h
theorem H6(h:dt κ r p d q a n NN lines t w σ m bs D rd)(hR:BA (aF NN) m.c D)(h1:1<=D.node):
 Calls prog 116 #[.pointer (some ⟨a,0,none⟩)] w λe w'=>e= .returned (.tuple #[])/\mv κ r p d q a n NN lines t w bs σ m (EW (aF NN) m.c D) w':=by
 have H:=ag h;obtain⟨c0,c1,c2,c3,c4,c5,c6,c7,c8,c9,gj,fD,fZ,fW,fO,dC,iR,jh,jM,jL,jK,iD,jJ,jI,jH,gN,jG,iC,iB,hl,hf⟩:=h.hc.eQ;obtain⟨q0,q1,q2,q3,q4,q5,ql⟩:=h.hq.tac;have f14:=hf 14;have f16:=hf 16;have f17:=hf 17;have MQ:=h.n3;have jb:=h.ck.kd;have WL:D.node<=NN:=hR.node;have HRG:=ag hR;unfold EW;clear c1 c3 c6 c7 c8 c9 gj jM jL jK iD jJ jI jH gN jG iC iB hf h q3 q4 q5 hR;by_cases US:m.c.kind=0
 . rw[aA US]
   rw[US]at c2;have HL:=ag (nT H.out D.value 0);rw[show((0:Nat):Int)+1=1 from rfl]at c2;go_enter func116,ntmps116
   go_wp2_with (go_at_call 145;(with_reducible refine HL.out.mono ?_);rintro e w3 ⟨rfl,h3⟩;have H3:=ag h3;clear h3)
   first|go_end0|(refine bH (v:= .tuple #[]) (by simp[results,results116,go_sem]) rfl ?_)
   exact⟨rfl,H3.out⟩
 . rw[ax US]
   have g1:((m.c.kind:Int)+1==1)=false:=by simp;omega
   by_cases fC:m.c.kind=2
   . rw[aA fC]
     rw[fC,show((2:Nat):Int)+1=3 from rfl]at c2;clear g1;have hUP:=λ(W:World) (hW:Below w.heap.size w W)=>H.out.AQ (w':=W) (W2:=((W.setCell ⟨a,16,none⟩ (.int .u64 (D.node:Int))).setCell ⟨a,17,none⟩ (.int .u64 (8*(D.link:Int)))).setCell ⟨a,14,none⟩ (.int .i64 0)) (D':={D with last:=D.node,aD:=D.link,depth:=0}) (rd':=rd) hW ((((Ch.refl _ _).bj _ _).bj _ _).bj _ _) (λhx=>((hx.set 16 _).set 17 _).set 14 _)
     have HUP:=ag hUP;have HN:=ag (λ(W:World)=>dI W D.node 2 NN h1 ae ae);unfold uo at HN;rw[show((2:Nat):Int)=2 from rfl]at HN;clear hUP;go_enter func116,ntmps116
     go_upto_region 4 with(fail)
     go_cut []from 55 (λwx=>dt κ r p d q a n NN lines t wx σ m bs {D with last:=D.node,aD:=D.link,depth:=0} rd/\Ch (λb=>κ b=0\/κ b=r\/κ b=2) w wx)
     case first=>
      go_region_with (fail)
      all_goals
       go_wp2;go_meet
       case rel=>
        obtain⟨u1,u2⟩:=HUP.out w (bZ _ _);obtain⟨u3,u4⟩:=u1.bl ((bZ _ _).drew);exact⟨u3,u2.trans u4 (λb hb _=>hb)⟩
     case rest=>
     obtain⟨h2,cz⟩:=hcut;have HL:=ag (h2.kD 5 D.node 2 h1 WL ae);rw[show((5:Nat):Int)=5 from rfl]at HL;have dh:=ag cz;have y0:=h2.hc.eQ.c0;have y16:=h2.hc.eQ.iR;have yl:=h2.hc.lt;obtain⟨z0,z1,z2,_,_,_,zl⟩:=h2.hq.tac;clear h2 cz HUP c0 c2 c4 c5 fD fZ fW fO dC iR jh q0 q1 q2 hl ql f14 f16 f17;go_wp2;refine aL 13 krQ krQ ?_;simp only[List.take_succ_cons,List.take_zero,jm,iq];repeat(go_big_quiet_step (first|(go_at_call 61;exact bK (HN.out _))))
     refine cE ?_;rintro _ ⟨v2,rfl⟩;go_wp2_with (go_at_call 107;(with_reducible refine(HL.out _ aC).mono ?_);rintro e w3 ⟨rfl,h3⟩;have H3:=ag h3;clear h3)
     first|go_end0|(refine bH (v:= .tuple #[]) (by simp[results,results116,go_sem]) rfl ?_)
     exact⟨rfl,H3.out.trans dh.out⟩
   . rw[ax fC]
     have g2:((m.c.kind:Int)+1==3)=false:=by simp;omega
     by_cases wL:m.c.kind=3/\D.value≠m.c.old
     . rw[aA wL]
       obtain⟨wL,aG⟩:=wL;rw[wL,show((3:Nat):Int)+1=4 from rfl]at c2;rw[Wy wL]at c4;have ZeA:(D.value==m.c.old)=false:=by simpa using aG
       have HL:=ag (EK H.out D.value 6);clear g1 g2 wL aG;go_enter func116,ntmps116
       go_wp2;go_quiet (fail)
       go_wp2_with (go_at_call 145;(with_reducible refine(HL.out _ aC).mono ?_);rintro e w3 ⟨rfl,h3⟩;have H3:=ag h3;clear h3)
       first|go_end0|(refine bH (v:= .tuple #[]) (by simp[results,results116,go_sem]) rfl ?_)
       exact⟨rfl,H3.out⟩
     . rw[ax wL]
       have ZbB:m.c.kind=1\/(m.c.kind=3/\D.value=m.c.old):=by
        rcases(by omega:m.c.kind=1\/m.c.kind=3)with hx|hx
        . exact .inl hx
        . exact .inr ⟨hx,KH.1 (λhy=>wL ⟨hx,hy⟩)⟩
       have pw:m.c.nw=m.c.val:=aA ae;rw[pw]at c5;have J1:=ag pw;have hR:=HRG.out;have b8:=hR.raw;have hval:=hR.fQ.1;have hmv:=H.out.ck.val;have hN:(aF NN).NN=NN:=rfl;have tH:cx (aF NN) m.c (g_ (aF NN) m.c D):=cx.cons (Nl b8 ae) (cx.cons (mO (oR.node h1 WL ae) hval hmv) cx.nil)
       have lZ:∀e∈g_ (aF NN) m.c D,e.t_=true:=λe he=>by
        simp only[g_,dr,fH,gF]at he;rcases he with rfl|rfl
        . exact vt b8.2 ae
        . exact kC hval.2 hmv.2
       have HL:=ag (sD H.out (es:=g_ (aF NN) m.c D) (by show 1<=2;omega) (by show 2<=6;omega) tH lZ D.value);have BC:=ag (λ(W:World) (hW:Below w.heap.size w W) (x:Int)=>Hz (H.out.hc.below hW) x);have jQ:=ag (λ(W:World)=>dI W D.node 1 NN h1 ae ae);rw[show((1:Nat):Int)=1 from rfl]at jQ;unfold uo at jQ;have YS:D.raw.tmod 1099511627776=D.raw%1099511627776:=ID b8.1;have iU:Hid (∀W g,CB W g 223 #[.int .u64 (8*(((aF NN).rt m.c:Nat):Int)), .int .u64 D.raw, .int .u64 (D.raw%1099511627776), .bool true, .int .u64 (8*((aQ 256 8 D.node 1:Nat):Int)), .int .u64 D.value, .int .u64 m.c.val, .bool false]->uX W (some ⟨g,0,none⟩) (g_ (aF NN) m.c D).length 2 (g_ (aF NN) m.c D)):=λW g hg=>uX.of (C9 hg rfl (show 2<=maxLen by unfold maxLen;omega)) rfl
       rw[show(g_ (aF NN) m.c D).length=2 from rfl]at HL iU
       have gh:(w.cell? ⟨a,2,none⟩=some (.int .u8 2)/\True)\/(w.cell? ⟨a,2,none⟩=some (.int .u8 4)/\w.cell? ⟨a,4,none⟩=some (.int .u64 D.value)):=by
        rcases ZbB with hx|⟨hx,hy⟩
        . rw[hx]at c2;exact .inl ⟨c2,trivial⟩
        . rw[hx]at c2;rw[Wy hx,<-hy]at c4;exact .inr ⟨c2,c4⟩
       clear wL ZbB pw hR hval hmv tH lZ b8 hN g1 c2 c4 g2 US fC;generalize 8*(((aF NN).rt m.c:Nat):Int)=z at*;generalize 8*((aQ 256 8 D.node 1:Nat):Int)=z1 at*;rcases gh with⟨c2,c4⟩|⟨c2,c4⟩
       all_goals
        go_enter func116,ntmps116
        go_wp2;go_quiet (fail)
        go_wp2
        go_region_held3 (λw'=>w'.cell? ⟨a,0,none⟩=some (.pointer (some ⟨q,0,none⟩))/\w'.cell? ⟨a,5,none⟩=some (.int .u64 m.c.val)/\w'.cell? ⟨a,11,none⟩=some (.int .u64 D.raw)/\w'.cell? ⟨a,12,none⟩=some (.int .u64 (D.node:Int))/\w'.cell? ⟨a,15,none⟩=some (.int .u64 D.value)/\a<w'.heap.size/\w'.cell? ⟨q,0,none⟩=some (.int .u64 2048)/\w'.cell? ⟨q,1,none⟩=some (.int .u64 8)/\w'.cell? ⟨q,2,none⟩=some (.int .u64 NN)/\q<w'.heap.size)
         ((refine⟨?_,?_,?_,?_,?_,?_,?_,?_,?_,?_⟩<;>first|assumption|(go_simp;done)|(simp;omega)))
         (first
           |(go_at_call 147;(with_reducible refine(BC.out _ aC _).mono ?_);rintro e w1 ⟨rfl,hb⟩;obtain⟨y,rfl⟩:=aE hb;clear hb)
           |(go_at_call 61;(with_reducible refine(jQ.out _).mono ?_);rintro e w1 ⟨rfl,hb⟩;obtain⟨y2,rfl⟩:=aE hb;clear hb)
           |(go_at_call 146;(with_reducible refine(HL.out _ aC _ _ (iU.out _ _ (by first|with_reducible exact CB.new _ _ _|with_reducible exact(CB.new _ _ _).drew))).mono ?_);rintro e w3 ⟨rfl,h3⟩;have H3:=ag h3;obtain⟨st9,ZaY,rd9,ch9,bs9,gi,FT⟩:=h3.cb;have s0:=gi.eQ.c0;have s5:w3.cell? ⟨a,5,none⟩=some (.int .u64 m.c.val):=gi.eQ.c5.trans (by rw[J1.out]);have s11:=gi.eQ.fD;have s12:=gi.eQ.fZ;have s15:=gi.eQ.dC;have sl:=gi.lt;have t0:=FT.tac.c0;have t1:=FT.tac.c1;have t2:=FT.tac.c2;have tl:=FT.lt;clear gi FT h3))
        all_goals
         go_wp2;first|go_end0|(refine bH (v:= .tuple #[]) (by simp[results,results116,go_sem]) rfl ?_)
         exact⟨rfl,H3.out⟩
end
end Go.Proofs.YtjkpjakodomnmaaGreatDoor
