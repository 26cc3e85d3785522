/- The law LtableBegins (merged). -/
import Derived.Test.YtjkpjakodomnmaaGreatDoorKul
import Derived.Test.YtjkpjakodomnmaaGreatDoorKuv
set_option linter.unusedVariables false
set_option linter.unusedSimpArgs false
set_option maxRecDepth 100000
set_option maxHeartbeats 16000000
namespace Go.Proofs.YtjkpjakodomnmaaGreatDoor
open Go.RowKit Go.Proofs.Tryz
def JT(er:Int)(w:World)(e:Ending)(w':World):Prop:=e= .returned (.tuple #[.pointer none, .int .i64 er])/\Below w.heap.size w w'
def RfT(z k o v er:Int)(bs:Nat->Option Nat)(σ:PwS):Prop:=
 (er=1/\(z<0\/8<=z))\/(er=2/\0<=z/\z<8/\1099511627776<=max k (max o v))\/(er=7/\max k (max o v)<1099511627776/\∃th a:Nat,z=(th:Int)/\th<8/\bs th=some a/\(σ.dev.a8 th).err=0)
section
variable{K:Nat->Prop}{p d q n lines NN N:Nat}{t:Nat->Nat}{w w':World}{σ:PwS}{bs:Nat->Option Nat}{size:Int}
theorem nU(H:bB K p d t 0 32 size w σ)(hq:CB w q 117 (aK d p NN lines bs))(z kd k o v er:Int)(hr:RfT z k o v er bs σ):
 Calls prog 42 #[.pointer (some ⟨q,0,none⟩), .int .i64 z, .agg #[.pointer none, .int .i64 0, .int .u8 kd, .int .u64 k, .int .u64 o, .int .u64 v, .int .u64 0, .int .u64 0, .int .u8 0, .pointer none, .pointer none, .int .u64 0, .int .u64 0, .int .u64 0, .int .i64 0, .int .u64 0, .int .u64 0, .int .u64 0, .int .u64 0, .int .u64 0, .int .u64 0, .int .u64 0, .int .u64 0, .int .u64 0, .int .u64 0, .int .u64 0, .int .u64 0, .int .i64 0, .bool false]] w (JT er w):=by
 obtain⟨c0,c1,c2,c3,c4,c5,ql⟩:=hq.tac;rcases hr with⟨rfl,h⟩|⟨rfl,h0,h8,h⟩|⟨rfl,NT,th,a,rfl,bQ,jf,cM⟩
 . clear H hq
   rcases h with h|h
   . have hz:z<0:=h
     go_enter func42,ntmps42
     go_wp2;exact bH (v:= .tuple #[.pointer none, .int .i64 1]) (by simp[results,results42,go_sem]) rfl ⟨rfl,by exact aC⟩
   . have hz:¬z<0:=by omega
     have hz8:8<=z:=h;go_enter func42,ntmps42
     go_wp2;exact bH (v:= .tuple #[.pointer none, .int .i64 1]) (by simp[results,results42,go_sem]) rfl ⟨rfl,by exact aC⟩
 . have hz:¬z<0:=by omega
   have hz8:¬8<=z:=by omega
   clear H hq;go_enter func42,ntmps42
   go_wp2;exact bH (v:= .tuple #[.pointer none, .int .i64 2]) (by simp[results,results42,go_sem]) rfl ⟨rfl,by exact aC⟩
 . have JX:Hid (∀W,Below w.heap.size w W->Calls prog 37 #[.pointer (some ⟨d,0,none⟩), .int .i64 (th:Int)] W λe w'=>e= .returned (.pointer (some ⟨t th,0,none⟩))/\W=w'):=λW hW=>by
    obtain⟨role,bb,h,hK⟩:=H.ko hW;exact kL h.dv th bQ
   have jx:Hid (∀W,Below w.heap.size w W->Calls prog 65 #[.pointer (some ⟨t th,0,none⟩)] W λe w'=>e= .returned (.int .i64 0)/\W=w'):=λW hW=>by
    obtain⟨role,bb,h,hK⟩:=H.ko hW;have:=LQ h.dv th bQ;rwa[cM]at this
   have qt:=hq.TP bQ;rw[jf]at qt;have qt2:w.cell? ⟨q,6+th,none⟩=some (.pointer (some ⟨a,0,none⟩)):=qt;have UB:(th:Int)<8:=by omega
   have ZcH:¬(th:Int)<0:=by omega
   have I9:¬(8:Int)<=(th:Int):=by omega
   have Zel:¬(1099511627776:Int)<=max k (max o v):=by omega
   clear H hq jf cM bQ qt;go_enter func42,ntmps42
   go_wp2_with (first
    |(go_at_call 37;(with_reducible refine(JX.out _ aC).mono ?_);rintro e w' ⟨rfl,rfl⟩)
    |(go_at_call 65;(with_reducible refine(jx.out _ aC).mono ?_);rintro e w' ⟨rfl,rfl⟩))
   exact bH (v:= .tuple #[.pointer none, .int .i64 7]) (by simp[results,results42,go_sem]) rfl ⟨rfl,by exact aC⟩
theorem OU(H:bB K p d t 0 32 size w σ)(hq:CB w q 117 (aK d p NN lines bs))(z:Int)(k:Int)(er:Int)(hr:RfT z k 0 0 er bs σ):
 Calls prog 18 #[.pointer (some ⟨q,0,none⟩), .int .i64 z, .int .u64 k] w (JT er w):=by
 have HB:=ag (nU H hq z 1 k 0 0 er hr);clear H hq hr;go_enter func18,ntmps18
 go_wp2_with (go_at_call 42;(with_reducible refine HB.out.mono ?_);rintro e w1 ⟨rfl,hb⟩;have V8:=ag hb;clear hb)
 exact bH (v:= .tuple #[.pointer none, .int .i64 er]) (by simp[results,results18,go_sem]) rfl ⟨rfl,V8.out⟩
theorem OP(H:bB K p d t 0 32 size w σ)(hq:CB w q 117 (aK d p NN lines bs))(z:Int)(k v:Int)(er:Int)(hr:RfT z k 0 v er bs σ):
 Calls prog 19 #[.pointer (some ⟨q,0,none⟩), .int .i64 z, .int .u64 k, .int .u64 v] w (JT er w):=by
 have HB:=ag (nU H hq z 2 k 0 v er hr);clear H hq hr;go_enter func19,ntmps19
 go_wp2_with (go_at_call 42;(with_reducible refine HB.out.mono ?_);rintro e w1 ⟨rfl,hb⟩;have V8:=ag hb;clear hb)
 exact bH (v:= .tuple #[.pointer none, .int .i64 er]) (by simp[results,results19,go_sem]) rfl ⟨rfl,V8.out⟩
theorem ES(H:bB K p d t 0 32 size w σ)(hq:CB w q 117 (aK d p NN lines bs))(z:Int)(k:Int)(er:Int)(hr:RfT z k 0 0 er bs σ):
 Calls prog 20 #[.pointer (some ⟨q,0,none⟩), .int .i64 z, .int .u64 k] w (JT er w):=by
 have HB:=ag (nU H hq z 3 k 0 0 er hr);clear H hq hr;go_enter func20,ntmps20
 go_wp2_with (go_at_call 42;(with_reducible refine HB.out.mono ?_);rintro e w1 ⟨rfl,hb⟩;have V8:=ag hb;clear hb)
 exact bH (v:= .tuple #[.pointer none, .int .i64 er]) (by simp[results,results20,go_sem]) rfl ⟨rfl,V8.out⟩
theorem OX(H:bB K p d t 0 32 size w σ)(hq:CB w q 117 (aK d p NN lines bs))(z:Int)(k o v:Int)(er:Int)(hr:RfT z k o v er bs σ):
 Calls prog 21 #[.pointer (some ⟨q,0,none⟩), .int .i64 z, .int .u64 k, .int .u64 o, .int .u64 v] w (JT er w):=by
 have HB:=ag (nU H hq z 4 k o v er hr);clear H hq hr;go_enter func21,ntmps21
 go_wp2_with (go_at_call 42;(with_reducible refine HB.out.mono ?_);rintro e w1 ⟨rfl,hb⟩;have V8:=ag hb;clear hb)
 exact bH (v:= .tuple #[.pointer none, .int .i64 er]) (by simp[results,results21,go_sem]) rfl ⟨rfl,V8.out⟩
theorem Ns{L:Lay}{S:aq}(w:World)(h:dw w d L S):Calls prog 15 #[.pointer (some ⟨d,0,none⟩)] w λe w'=>e= .returned (.int .u64 S.exec)/\w=w':=by
 have h0:=h.Ox;have hl:=h.lt;clear h;go_enter func15,ntmps15
 go_wp2;go_ret;exact⟨rfl,rfl⟩
theorem bB.zS(H:bB K p d t 0 32 size w σ):Calls prog 15 #[.pointer (some ⟨d,0,none⟩)] w λe w'=>e= .returned (.int .u64 σ.dev.exec)/\w=w':=by
 obtain⟨role,bb,h,hK⟩:=H;obtain⟨_,L,_,h3,_⟩:=h.dv;exact Ns w h3
theorem Wm{c:TC}{th a:Nat}(h:CB w a 107 (iH q th NN c)):(Calls prog 22 #[.pointer (some ⟨a,0,none⟩)] w λe w'=>e= .returned (.bool false)/\w=w')/\
 Calls prog 23 #[.pointer (some ⟨a,0,none⟩)] w λe w'=>e= .returned (.tuple #[.int .u64 0, .int .i64 8])/\w=w':=by
 have c0:w.cell? ⟨a,0,none⟩=some (.pointer (some ⟨q,0,none⟩)):=h.cell 0;have iB:w.cell? ⟨a,28,none⟩=some (.bool false):=h.cell 28;have hl:=h.lt;clear h;constructor
 . go_enter func22,ntmps22
   go_wp2;go_ret;exact⟨rfl,rfl⟩
 . go_enter func23,ntmps23
   go_wp2;exact bH (v:= .tuple #[.int .u64 0, .int .i64 8]) (by simp[results,results23,go_sem]) rfl ⟨rfl,rfl⟩
end
def LK(Q:Value->Int->World->Prop)(e:Ending)(w':World):Prop:=∃x er,e= .returned (.tuple #[x, .int .i64 er])/\Q x er w'
theorem JT.cb{er:Int}{w w':World}{e:Ending}(h:JT er w e w'):LK (λx er' w'=>x= .pointer none/\er'=er/\Below w.heap.size w w') e w':=⟨_,_,h.1,rfl,rfl,h.2⟩
def Zam(q d p NN lines th:Nat)(c:TC)(bs:Nat->Option Nat)(w:World)(x:Value)(er:Int)(w':World):Prop:=
 er=0/\∃a,x= .pointer (some ⟨a,0,none⟩)/\w.heap.size<=a/\CB w' a 107 (iH q th NN c)/\CB w' q 117 (aK d p NN lines (λi=>if i=th then some a else bs i))/\Ch (At q) w w'
theorem fw.cb{q d p NN lines th:Nat}{c:TC}{bs:Nat->Option Nat}{w w':World}{e:Ending}(h:fw q d p NN lines th c bs w e w'):LK (Zam q d p NN lines th c bs w) e w':=by
 obtain⟨a,h1,h2⟩:=h;exact⟨_,_,h1,rfl,a,rfl,h2⟩
theorem wV{Q:Value->Int->World->Prop}(w:World)(c:aW)(hk: -9223372036854775808<=c.kind/\c.kind<9223372036854775808)(gc gt q:Nat)(h0:CB w gc 33 #[.int .i64 c.kind, .int .i64 c.a8, .int .u64 c.key, .int .u64 c.val, .int .u64 c.old])(ct:w.cell? ⟨gt,0,none⟩=some (.pointer (some ⟨q,0,none⟩)))
 (H0:c.kind%4=0->Calls prog 18 #[.pointer (some ⟨q,0,none⟩), .int .i64 c.a8, .int .u64 c.key] w (LK Q)) (H1:c.kind%4=1->Calls prog 19 #[.pointer (some ⟨q,0,none⟩), .int .i64 c.a8, .int .u64 c.key, .int .u64 c.val] w (LK Q))
 (H2:c.kind%4=2->Calls prog 20 #[.pointer (some ⟨q,0,none⟩), .int .i64 c.a8, .int .u64 c.key] w (LK Q)) (H3:c.kind%4=3->Calls prog 21 #[.pointer (some ⟨q,0,none⟩), .int .i64 c.a8, .int .u64 c.key, .int .u64 c.old, .int .u64 c.val] w (LK Q)):
 Calls prog 16 #[.pointer (some ⟨gc,0,none⟩), .pointer (some ⟨gt,0,none⟩)] w (LK Q):=by
 obtain⟨kind,a8,key,val,old⟩:=c;dsimp only at hk h0 H0 H1 H2 H3;have c0:w.cell? ⟨gc,0,none⟩=some (.int .i64 kind):=h0.cell 0;have c1:w.cell? ⟨gc,1,none⟩=some (.int .i64 a8):=h0.cell 1;have c2:w.cell? ⟨gc,2,none⟩=some (.int .u64 key):=h0.cell 2;have c3:w.cell? ⟨gc,3,none⟩=some (.int .u64 val):=h0.cell 3;have c4:w.cell? ⟨gc,4,none⟩=some (.int .u64 old):=h0.cell 4;have cl:=h0.lt;have HM:=ag (qq w kind hk 4 ae);have Bl:kind%4=0\/kind%4=1\/kind%4=2\/kind%4=3:=by omega
 obtain⟨kd,jb⟩:=aH (kind%4);rw[jb]at HM Bl H0 H1 H2 H3;clear h0 hk jb;rcases Bl with rfl|rfl|rfl|rfl
 . have HC:=ag (H0 rfl)
   clear H0 H1 H2 H3;go_enter func16,ntmps16
   go_wp2_with (first
    |(go_at_call 17;(with_reducible refine HM.out.mono ?_);rintro e w1 ⟨rfl,rfl⟩)
    |(go_at_call 18;(with_reducible refine HC.out.mono ?_);rintro e w1 ⟨x,er,rfl,hq⟩;have HQ:=ag hq;clear hq))
   exact bH (v:= .tuple #[x, .int .i64 er]) (by simp[results,results16,go_sem]) rfl ⟨x,er,rfl,HQ.out⟩
 . have HC:=ag (H1 rfl)
   clear H0 H1 H2 H3;go_enter func16,ntmps16
   go_wp2_with (first
    |(go_at_call 17;(with_reducible refine HM.out.mono ?_);rintro e w1 ⟨rfl,rfl⟩)
    |(go_at_call 19;(with_reducible refine HC.out.mono ?_);rintro e w1 ⟨x,er,rfl,hq⟩;have HQ:=ag hq;clear hq))
   exact bH (v:= .tuple #[x, .int .i64 er]) (by simp[results,results16,go_sem]) rfl ⟨x,er,rfl,HQ.out⟩
 . have HC:=ag (H2 rfl)
   clear H0 H1 H2 H3;go_enter func16,ntmps16
   go_wp2_with (first
    |(go_at_call 17;(with_reducible refine HM.out.mono ?_);rintro e w1 ⟨rfl,rfl⟩)
    |(go_at_call 20;(with_reducible refine HC.out.mono ?_);rintro e w1 ⟨x,er,rfl,hq⟩;have HQ:=ag hq;clear hq))
   exact bH (v:= .tuple #[x, .int .i64 er]) (by simp[results,results16,go_sem]) rfl ⟨x,er,rfl,HQ.out⟩
 . have HC:=ag (H3 rfl)
   clear H0 H1 H2 H3;go_enter func16,ntmps16
   go_wp2_with (first
    |(go_at_call 17;(with_reducible refine HM.out.mono ?_);rintro e w1 ⟨rfl,rfl⟩)
    |(go_at_call 21;(with_reducible refine HC.out.mono ?_);rintro e w1 ⟨x,er,rfl,hq⟩;have HQ:=ag hq;clear hq))
   exact bH (v:= .tuple #[x, .int .i64 er]) (by simp[results,results16,go_sem]) rfl ⟨x,er,rfl,HQ.out⟩
def Wd(c:aW):Prop:=1099511627776<=c.key\/(c.kind%4%2=1/\1099511627776<=c.val)\/(c.kind%4=3/\1099511627776<=c.old)
section
variable{K:Nat->Prop}{p d q n lines NN N gc gt:Nat}{t:Nat->Nat}{w w':World}{σ:PwS}{size:Int}{c:aW}{bs:Nat->Option Nat}
theorem D0(H:bB K p d t 0 32 size w σ)(hq:CB w q 117 (aK d p NN lines bs))(hc:oF c)(hg:CB w gc 33 #[.int .i64 c.kind, .int .i64 c.a8, .int .u64 c.key, .int .u64 c.val, .int .u64 c.old])(ht:w.cell? ⟨gt,0,none⟩=some (.pointer (some ⟨q,0,none⟩)))(er:Int)
 (hr:(er=1/\(c.a8<0\/8<=c.a8))\/(er=2/\0<=c.a8/\c.a8<8/\Wd c)\/(er=7/\¬Wd c/\∃th a:Nat,c.a8=(th:Int)/\th<8/\bs th=some a/\(σ.dev.a8 th).err=0)):
 Calls prog 16 #[.pointer (some ⟨gc,0,none⟩), .pointer (some ⟨gt,0,none⟩)] w (LK (λx er' w'=>x= .pointer none/\er'=er/\Below w.heap.size w w')):=by
 unfold Wd at hr;obtain⟨b1,b2,b3,b4,b5⟩:=hc;refine wV w c b1 gc gt q hg ht (λh0=>(OU H hq c.a8 c.key er ?_).mono (λe w' h=>h.cb)) (λh0=>(OP H hq c.a8 c.key c.val er ?_).mono (λe w' h=>h.cb)) (λh0=>(ES H hq c.a8 c.key er ?_).mono (λe w' h=>h.cb)) (λh0=>(OX H hq c.a8 c.key c.old c.val er ?_).mono (λe w' h=>h.cb))
 all_goals
  rw[h0]at hr;rcases hr with⟨r1,r2⟩|⟨r1,r2,r3,r4⟩|⟨r1,r2,r3⟩
  . exact .inl ⟨r1,r2⟩
  . exact .inr (.inl ⟨r1,r2,r3,by omega⟩)
  . exact .inr (.inr ⟨r1,by omega,r3⟩)
theorem RD(H:bB K p d t 0 32 size w σ)(hq:CB w q 117 (aK d p NN lines bs))(hc:oF c)(hg:CB w gc 33 #[.int .i64 c.kind, .int .i64 c.a8, .int .u64 c.key, .int .u64 c.val, .int .u64 c.old])(ht:w.cell? ⟨gt,0,none⟩=some (.pointer (some ⟨q,0,none⟩)))
 (th:Nat) (bQ:th<8) (Lc:c.a8=(th:Int)) (jf:bs th=none) (cM:(σ.dev.a8 th).err=0) (ie:¬Wd c):
 Calls prog 16 #[.pointer (some ⟨gc,0,none⟩), .pointer (some ⟨gt,0,none⟩)] w (LK (Zam q d p NN lines th ⟨(c.kind%4).toNat,c.key,c.val,c.old⟩ bs w)):=by
 unfold Wd at ie;obtain⟨b1,b2,b3,b4,b5⟩:=hc;refine wV w c b1 gc gt q hg ht (λh0=> ?_) (λh0=> ?_) (λh0=> ?_) (λh0=> ?_)
 all_goals
  rw[h0]at ie;rw[Lc,h0]
 . exact(OV H hq th bQ jf cM ⟨0,c.key,c.val,c.old⟩ rfl (k:=c.key) rfl ae).mono (λe w' h=>h.cb)
 . exact(OQ H hq th bQ jf cM ⟨1,c.key,c.val,c.old⟩ rfl (k:=c.key) (v:=c.val) rfl rfl ae ae).mono (λe w' h=>h.cb)
 . exact(BL H hq th bQ jf cM ⟨2,c.key,c.val,c.old⟩ rfl (k:=c.key) rfl ae).mono (λe w' h=>h.cb)
 . exact(OY H hq th bQ jf cM ⟨3,c.key,c.val,c.old⟩ rfl (k:=c.key) (o:=c.old) (v:=c.val) rfl rfl rfl ae ae ae).mono (λe w' h=>h.cb)
end
theorem vD(w:World)(hT:Tab w)(c:aW)(hc:oF c):
 Calls prog 4 #[Pq c] w λe w'=>e= .returned (.bool true)/\Below w.heap.size w w':=by
 have HC:=ag hc;obtain⟨c1,c2,c3,c4,c5⟩:=c;obtain⟨b1,b2,b3,b4,b5⟩:=hc;dsimp only at b1 b2 b3 b4 b5;have N0:Below w.heap.size w (w.alloc (.cells #[.int .i64 c1, .int .i64 c2, .int .u64 c3, .int .u64 c4, .int .u64 c5] 33)):=ai (bZ _ _) _;have BH:=ag (j8 _ (hT.below N0) 0 ae);have GR:=ag (λ(W:World) (hW:Below w.heap.size w W)=>lD W (hT.below hW));have HCN:Hid (CB (w.alloc (.cells #[.int .i64 c1, .int .i64 c2, .int .u64 c3, .int .u64 c4, .int .u64 c5] 33)) w.heap.size 33 #[.int .i64 c1, .int .i64 c2, .int .u64 c3, .int .u64 c4, .int .u64 c5]):=CB.new _ _ _;have oG:=ag N0;have Hp:=ag (λW:World=>qq W c1 b1 4 ae);obtain⟨kd,jb⟩:=aH (c1%4);have Bl:kd=0\/kd=1\/kd=2\/kd=3:=by omega
 obtain⟨gr,ie⟩:∃gr:Bool,gr=true↔Wd ⟨c1,c2,c3,c4,c5⟩:=by
  rcases Classical.em (Wd ⟨c1,c2,c3,c4,c5⟩)with h|h
  . exact⟨true,by simp[h]⟩
  . exact⟨false,by simp[h]⟩
 have V1:=ag ie
 have mV:Hid (gr=true↔1099511627776<=c3\/(kd%2=1/\1099511627776<=c4)\/(kd=3/\1099511627776<=c5)):=by
  have:=ie;unfold Wd at this;dsimp only at this;rw[jb]at this;exact this
 rw[jb]at Hp;unfold Pq;dsimp only;clear hT N0 jb ie b1;go_enter func4,ntmps4
 go_upto_region 2 with(go_at_call 10;(with_reducible refine BH.out.mono ?_);rintro e w1 ⟨d,p,q,n,lines,NN,t,σ,N,xs,L,Tr,fl,rfl,hl,oL,nP,hR,hN,eD⟩;have dZ:=ag eD;have HX:=ag (And.intro oL (And.intro hR (And.intro nP hN)));clear hl oL nP hR hN eD)
 have hBg:Below w1.heap.size w1 (w1.alloc (.cells #[.pointer (some ⟨q,0,none⟩)] 25)):=ai (bZ _ _) _;have HTV:Hid (CB (w1.alloc (.cells #[.pointer (some ⟨q,0,none⟩)] 25)) w1.heap.size 25 #[.pointer (some ⟨q,0,none⟩)]):=CB.new _ _ _;have hBw:Below w.heap.size w (w1.alloc (.cells #[.pointer (some ⟨q,0,none⟩)] 25)):=(oG.out.trans (dZ.out.mono oG.out.size)).trans (hBg.mono (f_ oG.out.size dZ.out.size));have BG:=ag hBw;have Ht:=ag hBg;clear hBw hBg;go_upto_region 4 with(go_at_call 11;refine(GR.out _ BG.out).mono ?_;rintro e w2 ⟨rfl,dy⟩;have xx:=ag dy;have u0:w2.cell? ⟨w1.heap.size,0,none⟩=some (.pointer (some ⟨q,0,none⟩)):=(HTV.out.below dy).cell 0;have u1:w1.heap.size<w2.heap.size:=(HTV.out.below dy).lt;clear dy)
 clear u0 u1;have ZbN:Below w.heap.size w w2:=BG.out.trans (xx.out.mono BG.out.size);have Jr:Below w1.heap.size w1 w2:=Ht.out.trans (xx.out.mono Ht.out.size);have gh:CB w2 w.heap.size 33 #[.int .i64 c1, .int .i64 c2, .int .u64 c3, .int .u64 c4, .int .u64 c5]:=(HCN.out.below dZ.out).below Jr;have htv:CB w2 w1.heap.size 25 #[.pointer (some ⟨q,0,none⟩)]:=HTV.out.below xx.out;obtain⟨oL,hR,nP,hN⟩:=HX.out;have GH:=ag (hR.qu.pm.ko Jr);have HQC:=ag (hR.qu.hq.below Jr);have jx:Hid (∀j,(σ.dev.a8 j).err=0):=hR.qw.inv.on.err;have HKQ:Hid (mC (w.alloc (.cells #[.int .i64 c1, .int .i64 c2, .int .u64 c3, .int .u64 c4, .int .u64 c5] 33)) q q≠0):=by show mC _ q q≠0;rw[hR.qu.kq];omega
 have HGQ:Hid (w.heap.size≠q/\w1.heap.size≠q/\w.heap.size<=q):=by
  have:w.heap.size+1<=q:=by simpa using oL
  refine⟨?_,?_,?_⟩<;>omega
 obtain⟨gc,hgc⟩:=aH w.heap.size;obtain⟨gt,WW⟩:=aH w1.heap.size;have HWC:Hid (w.heap.size=gc):=hgc;have J6:=ag ZbN;rw[hgc]at gh HGQ;rw[WW]at htv HGQ;have k0:w2.cell? ⟨gc,0,none⟩=some (.int .i64 c1):=gh.cell 0;have k1:w2.cell? ⟨gc,1,none⟩=some (.int .i64 c2):=gh.cell 1;have k2:w2.cell? ⟨gc,2,none⟩=some (.int .u64 c3):=gh.cell 2;have k3:w2.cell? ⟨gc,3,none⟩=some (.int .u64 c4):=gh.cell 3;have k4:w2.cell? ⟨gc,4,none⟩=some (.int .u64 c5):=gh.cell 4;have kl:=gh.lt;have kt:w2.cell? ⟨gt,0,none⟩=some (.pointer (some ⟨q,0,none⟩)):=htv.cell 0;have ktl:=htv.lt;have Te:=ag gh;have HTT:=ag htv;try rw[hgc]
 try rw[WW]
 clear ZbN Jr gh htv oL hR nP hN hgc WW HX dZ xx BG Ht HTV oG HCN BH GR
 go_upto_region 7 with(first
  |(go_at_call 15;(with_reducible refine GH.out.zS.mono ?_);rintro e w' ⟨rfl,rfl⟩)
  |(go_at_call 17;(with_reducible refine(Hp.out _).mono ?_);rintro e w' ⟨rfl,rfl⟩))
 go_cut [9]from 33 to 54 (λs wx=>s= .bool gr/\w2=wx)
 case first=>
  clear V1;by_cases a3:1099511627776<=c3
  . obtain rfl:gr=true:=mV.out.2 (.inl a3)
    clear mV;go_wp2;go_meet;exact⟨rfl,rfl⟩
  . by_cases a4:kd%2=1/\1099511627776<=c4
    . obtain rfl:gr=true:=mV.out.2 (.inr (.inl a4))
      obtain⟨a4,a5⟩:=a4;clear mV;have a6:kd=1\/kd=3:=by omega
      rcases a6 with rfl|rfl
      . go_wp2
        go_meet;exact⟨rfl,rfl⟩
      . go_wp2
        go_meet;exact⟨rfl,rfl⟩
    . by_cases a5:kd=3/\1099511627776<=c5
      . obtain rfl:gr=true:=mV.out.2 (.inr (.inr a5))
        obtain⟨rfl,a5⟩:=a5;have a6:¬1099511627776<=c4:=λh=>a4 ⟨rfl,h⟩
        clear mV a4;go_wp2;go_meet;exact⟨rfl,rfl⟩
      . obtain rfl:gr=false:=by
         rw[PD];intro h;rcases mV.out.1 h with h|h|h
         . exact a3 h
         . exact a4 h
         . exact a5 h
        clear mV;rcases Bl with rfl|rfl|rfl|rfl
        . clear a4 a5
          go_wp2;go_meet;exact⟨rfl,rfl⟩
        . have a6:¬1099511627776<=c4:=λh=>a4 ⟨rfl,h⟩
          clear a4 a5;go_wp2;go_meet;exact⟨rfl,rfl⟩
        . clear a4 a5
          go_wp2;go_meet;exact⟨rfl,rfl⟩
        . have a6:¬1099511627776<=c4:=λh=>a4 ⟨rfl,h⟩
          have a7:¬1099511627776<=c5:=λh=>a5 ⟨rfl,h⟩
          clear a4 a5;go_wp2;go_meet;exact⟨rfl,rfl⟩
 case rest=>
 obtain⟨rfl,rfl⟩:=hcut;obtain⟨wd,rfl⟩:∃wd,wd=w2:=⟨_,rfl⟩;clear mV Hp k0 k2 k3 k4;have bh:∀W:World,W.cell? ⟨gt,0,none⟩=some (.pointer (some ⟨q,0,none⟩))->True:=λ_ _=>trivial
 clear bh;by_cases bQ:c2<0\/8<=c2
 . have jk:=ag (D0 GH.out HQC.out HC.out Te.out kt 1 (.inl ⟨rfl,bQ⟩))
   unfold LK at jk;rcases bQ with h1|h1
   . try(have h2:¬c2<0:=by omega)
     go_wp2_with (first
      |(go_at_call 16;(with_reducible refine jk.out.mono ?_);rintro e w4 ⟨_,_,rfl,rfl,rfl,hb⟩;have mA:=ag hb;have y0:w4.cell? ⟨gc,1,none⟩=some (.int .i64 c2):=(hb.cell (p:=⟨gc,1,none⟩) kl).trans k1;have y1:gc<w4.heap.size:=cD kl hb.size;clear hb)
      |(go_at_call 15;refine(GH.out.ko mA.out).zS.mono ?_;rintro e w' ⟨rfl,rfl⟩))
     exact bH (v:= .bool true) (by simp[results,results4,go_sem]) rfl ⟨rfl,J6.out.trans (mA.out.mono J6.out.size)⟩
   . try(have h2:¬c2<0:=by omega)
     go_wp2_with (first
      |(go_at_call 16;(with_reducible refine jk.out.mono ?_);rintro e w4 ⟨_,_,rfl,rfl,rfl,hb⟩;have mA:=ag hb;have y0:w4.cell? ⟨gc,1,none⟩=some (.int .i64 c2):=(hb.cell (p:=⟨gc,1,none⟩) kl).trans k1;have y1:gc<w4.heap.size:=cD kl hb.size;clear hb)
      |(go_at_call 15;refine(GH.out.ko mA.out).zS.mono ?_;rintro e w' ⟨rfl,rfl⟩))
     exact bH (v:= .bool true) (by simp[results,results4,go_sem]) rfl ⟨rfl,J6.out.trans (mA.out.mono J6.out.size)⟩
 . have h1:¬c2<0:=by omega
   have h2:¬8<=c2:=by omega
   cases gr with
   |true=>
    have jk:=ag (D0 GH.out HQC.out HC.out Te.out kt 2 (.inr (.inl ⟨rfl,by show 0<=c2;omega,by show c2<8;omega,V1.out.1 rfl⟩)));unfold LK at jk
    go_wp2_with (first
     |(go_at_call 16;(with_reducible refine jk.out.mono ?_);rintro e w4 ⟨_,_,rfl,rfl,rfl,hb⟩;have mA:=ag hb;have y0:w4.cell? ⟨gc,1,none⟩=some (.int .i64 c2):=(hb.cell (p:=⟨gc,1,none⟩) kl).trans k1;have y1:gc<w4.heap.size:=cD kl hb.size;clear hb)
     |(go_at_call 15;refine(GH.out.ko mA.out).zS.mono ?_;rintro e w' ⟨rfl,rfl⟩))
    exact bH (v:= .bool true) (by simp[results,results4,go_sem]) rfl ⟨rfl,J6.out.trans (mA.out.mono J6.out.size)⟩
   |false=>
    have hng:¬Wd ⟨c1,c2,c3,c4,c5⟩:=λh=>by have:=V1.out.2 h;cases this
    obtain⟨th,YN⟩:∃th:Nat,c2=(th:Int):=⟨c2.toNat,by omega⟩;have I9:th<8:=by omega
    have jk:=ag (RD GH.out HQC.out HC.out Te.out kt th I9 YN rfl (jx.out th) hng)
    have dh:Hid (∀(W:World) (K:Nat->Prop) (p:Nat) (t:Nat->Nat) (size:Int) (a:Nat),bB K p d t 0 32 size W σ->CB W q 117 (aK d p NN lines (λi=>if i=th then some a else none))->CB W gc 33 #[.int .i64 c1, .int .i64 c2, .int .u64 c3, .int .u64 c4, .int .u64 c5]->W.cell? ⟨gt,0,none⟩=some (.pointer (some ⟨q,0,none⟩))->
     Calls prog 16 #[.pointer (some ⟨gc,0,none⟩), .pointer (some ⟨gt,0,none⟩)] W (LK (λx er' w'=>x= .pointer none/\er'=7/\Below W.heap.size W w'))):=λW K p t size a H hq hg ht=>
     D0 H hq HC.out hg ht 7 (.inr (.inr ⟨rfl,hng,th,a,YN,I9,aA rfl,jx.out th⟩))
    unfold LK Zam at jk;unfold LK at dh;clear hng YN I9
    go_wp2_with (first
     |(go_at_call 16;(with_reducible refine jk.out.mono ?_);rintro e w4 ⟨_,_,rfl,rfl,a,rfl,ha,fA,Xa,hC⟩;have rS:=ag fA;have HQ4:=ag Xa;have eW:=ag hC;have Zb_:=ag (GH.out.SZ hC (λb _ hb=>by rw[show b=q from hb];exact HKQ.out));have uM:=ag (Te.out.keep (hC.block gc Te.out.lt (λhx=>HGQ.out.1 hx)));have z1:w4.cell? ⟨gc,1,none⟩=some (.int .i64 c2):=uM.out.cell 1;have z2:gc<w4.heap.size:=uM.out.lt;have z3:w4.cell? ⟨gt,0,none⟩=some (.pointer (some ⟨q,0,none⟩)):=(HTT.out.keep (hC.block gt HTT.out.lt (λhx=>HGQ.out.2.1 hx))).cell 0;clear ha fA Xa hC)
     |(go_at_call 15;refine(Zb_.out.ko lJ.out).zS.mono ?_;rintro e w' ⟨rfl,rfl⟩)
     |(go_at_call 22;refine(Wm rS.out).1.mono ?_;rintro e w' ⟨rfl,rfl⟩)
     |(go_at_call 23;refine(Wm rS.out).2.mono ?_;rintro e w' ⟨rfl,rfl⟩)
     |(go_at_call 16;(with_reducible refine(dh.out _ _ _ _ _ _ Zb_.out HQ4.out uM.out z3).mono ?_);rintro e w5 ⟨_,_,rfl,rfl,rfl,hb⟩;have lJ:=ag hb;clear hb))
    refine bH (v:= .bool true) (by simp[results,results4,go_sem]) rfl ⟨rfl,?_⟩;have kH:=bM J6.out eW.out (λb hb=>by have hb:b=q:=hb;have h8:=HGQ.out.2.2;have h9:=HWC.out;omega);exact kH.trans (lJ.out.mono kH.size)
end Go.Proofs.YtjkpjakodomnmaaGreatDoor
