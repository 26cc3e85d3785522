/- The base, part 10 (merged). -/
import Derived.Test.YtjkpjakodomnmaaGreatDoorKtai
import Derived.LaidEqlPtr
import Derived.Sort.AssemblyPlain
set_option linter.unusedVariables false
set_option linter.unusedSimpArgs false
set_option maxRecDepth 100000
set_option maxHeartbeats 16000000
namespace Go.Proofs.YtjkpjakodomnmaaGreatDoor
open Go.RowKit Go.Proofs.Tryz
theorem ri:∃j,Tryz.prog.info? 187=some j/\j.size≠0:=by
 have h:(Tryz.prog.info? 187).map (λi=>decide (i.size≠0))=some true:=by kernel_rfl
 cases hi:Tryz.prog.info? 187 with
 |none=>rw[hi]at h;cases h
 |some j=>rw[hi]at h;exact⟨j,rfl,by simpa using h⟩
theorem Gm(W:World)(a:Nat):(binOp .eql 105 (.pointer (some ⟨a,0,none⟩)) (.pointer (some ⟨a,0,none⟩))).run Tryz.prog W= .ok (.bool true) W:=by
 obtain⟨j,hj,_⟩:=ri;exact run_eql_ptr_same W _ underlying105 hj
theorem JB(W:World)(a:Nat):(binOp .eql 105 (.pointer none) (.pointer (some ⟨a,0,none⟩))).run Tryz.prog W= .ok (.bool false) W:=by
 obtain⟨j,hj,_⟩:=ri
 have h:∀d:Nat,(Op.equalIn (d+1) 105 (.pointer none) (.pointer (some ⟨a,0,none⟩))).run Tryz.prog W= .ok false W:=λd=>by
  simp[Op.equalIn,Cc (show Tryz.prog.underlying 105=some (.pointer 187)from underlying105),sizeOf,typeInfo,hj]
 simp only[binOp];simp[Op.equal,Op.maxDepth,h 9999]
theorem DW{W:World}{a c:Nat}{ca cc:Array Value}(aG:c≠a)(hc:CB W c 187 cc)(ha:CB W a 187 ca):(binOp .eql 105 (.pointer (some ⟨c,0,none⟩)) (.pointer (some ⟨a,0,none⟩))).run Tryz.prog W= .ok (.bool false) W:=by
 obtain⟨j,hj,hs⟩:=ri;exact run_eql_ptr_other W underlying105 hj hs (λhe=>aG (by injection he)) hc ha
section
variable{role:Nat->Nat}{K:Nat->Prop}{p d bb a c line lines:Nat}{t:Nat->Nat}{size:Int}{w w':World}{σ:PwS}{o oc:aX}
theorem CS.uf(h:CS role w p t a o){o':aX}(hC:Ch (At a) w w')(gi:∀ea ec oa oc sb sc pa pc,CB w a 187 (ei p t o ea ec oa oc sb sc pa pc)->CB w' a 187 (ei p t o' ea ec oa oc sb sc pa pc))(e1:o'.es=o.es)(e2:o'.order=o.order)(e3:o'.seen=o.seen)(e4:o'.prog=o.prog):CS (rl w (a+3) role) w' p t a o':=by
 obtain⟨ea,ec,oa,oc,sb,sc,pa,pc,h1,h2,h3,h4,zN,h5,r1,r2,n1,r3,r4,r5⟩:=h;refine⟨ea,ec,oa,oc,sb,sc,pa,pc,gi _ _ _ _ _ _ _ _ h1,by rw[e1];exact h2.ch hC (λb hb=>(r3 b hb).2.1),by rw[e2];exact h3.ch hC (λb hb=>(r4 b hb).2.1),by rw[e3];exact h4.ch hC n1,by rw[e3];exact zN,by rw[e4];exact h5.ch hC (λb hb=>(r5 b hb).2.1),by rw[bR h1.lt];exact r1,by rw[bR h4.lt];exact r2,n1,λb hb=>by rw[bR (h2.lt hb)];exact r3 b hb,λb hb=>by rw[bR (h3.lt hb)];exact r4 b hb,λb hb=>by rw[bR (h5.lt hb)];exact r5 b hb⟩
theorem CS.ra(h:CS role w p t a o):role a=a+3:=by
 obtain⟨ea,ec,oa,oc,sb,sc,pa,pc,h1,h2,h3,h4,zN,h5,r1,_⟩:=h;exact r1
theorem CS.cb(h:CS role w p t a o):∃ea ec oa oc sb sc pa pc,CB w a 187 (ei p t o ea ec oa oc sb sc pa pc):=by
 obtain⟨ea,ec,oa,oc,sb,sc,pa,pc,h1,_⟩:=h;exact⟨_,_,_,_,_,_,_,_,h1⟩
theorem CR(bs:List Bool)(k:Nat)(b:Bool):bools (bs.set k b)=(bools bs).set k (.bool b):=by simp[bools,yR]
theorem bB.zW(H:bB K p d t line lines size w σ)(c:Option Nat):bB K p d t line lines size (w.setCell ⟨p,5,none⟩ (fu c)) {σ with cur:=c}/\Ch (λb=>¬K b) w (w.setCell ⟨p,5,none⟩ (fu c)):=by
 obtain⟨role,bb,h,hK⟩:=H;have cz:Ch (λb=>role b=2) w (w.setCell ⟨p,5,none⟩ (fu c)):=(Ch.refl _ _).setCell (a:=⟨p,5,none⟩) (.inl h.rp) _
 exact bB.KU h hK cz (busy:=σ.busy) (cur:=c) rfl (h.pl.set 5 _) (h.bz.ch ((Ch.refl (At p) _).bj 5 _) (λb hb hbp=>by
  have:bb=b:=by simpa [ah]using hb
  have hbp:b=p:=hbp;exact h.pb (by rw[<-hbp,this])))
theorem bB.drew(H:bB K p d t line lines size w σ):bB K p d t line lines size w.drew σ:=H.ko (ru (bZ _ _))
theorem bB.Z3(h:PM role p d bb t line lines size w σ)(hK:∀b,K b->role b=0/\b<w.heap.size)(ha:σ.ops a=some o)(e:Int)(hk:o.k<σ.busy.length):
 bB K p d t line lines size (((w.setCell ⟨a,11,none⟩ (.bool true)).setCell ⟨a,12,none⟩ (.int .i64 e)).setCell ⟨bb,o.k,none⟩ (.bool false)) {σ.aB a {o with ended:=true,err:=e}with busy:=σ.busy.set o.k false}/\
 Ch (λb=>¬K b) w (((w.setCell ⟨a,11,none⟩ (.bool true)).setCell ⟨a,12,none⟩ (.int .i64 e)).setCell ⟨bb,o.k,none⟩ (.bool false)):=by
 have hO:=h.op a o ha;have hr:=hO.ra;have iA:Ch (λb=>role b=a+3) w ((w.setCell ⟨a,11,none⟩ (.bool true)).setCell ⟨a,12,none⟩ (.int .i64 e)):=((Ch.refl _ _).setCell (a:=⟨a,11,none⟩) (.inl hr) _).setCell (a:=⟨a,12,none⟩) (.inl hr) _;have h1:=h.ua iA (hO.TY e);obtain⟨W,hW⟩:=aH ((w.setCell ⟨a,11,none⟩ (.bool true)).setCell ⟨a,12,none⟩ (.int .i64 e));rw[hW]at h1 iA |-;have hs:=iA.size;have hK1:∀b,K b->rl w (a+3) role b=0/\b<W.heap.size:=λb hb=>⟨by rw[bR (hK b hb).2];exact(hK b hb).1,by have:=(hK b hb).2;omega⟩
 have hCC:Ch (λb=>¬K b) w W:=iA.mono (λb hb _ hk=>by rw[(hK b hk).1]at hb;omega);have Bo:=(h1.bz.set (j:=o.k) (by simpa [bools,PwS.aB]using hk) (.bool false));rw[cY,<-CR]at Bo;have cz:Ch (λb=>rl w (a+3) role b=2) W (W.setCell ⟨bb,o.k,none⟩ (.bool false)):=(Ch.refl _ _).setCell (a:=⟨bb,o.k,none⟩) (.inl h1.rb) _;obtain⟨g1,g2⟩:=bB.KU h1 hK1 cz (busy:=σ.busy.set o.k false) (cur:=σ.cur) (by simp[PwS.aB]) (h1.pl.far (p:=⟨bb,o.k,none⟩) h1.pb _) Bo;exact⟨g1,hCC.trans g2 (λb hb _=>hb)⟩
theorem Qd(H:bB K p d t line lines size w σ)(ha:σ.ops a=some o)(rH:∀c,σ.cur=some c->∃oc,σ.ops c=some oc)(hk:o.k<σ.busy.length)(e:Int):
 Calls Tryz.prog 102 #[.pointer (some ⟨a,0,none⟩), .int .i64 e] w λr w'=>r= .returned (.bool true)/\bB K p d t line lines size w' (σ.fB a o e)/\Ch (λb=>¬K b) w w':=by
 obtain⟨role,bb,h,hK⟩:=H;have hO:=h.op a o ha;obtain⟨ea,ec,oa,oc,sb,sc,pa,pc,h1⟩:=hO.cb;have c0:=h1.h_.c0;have c2:=h1.h_.c2;have c7:=h1.h_.c7;have c9:=h1.h_.c9;have fD:=h1.h_.fD;have fZ:=h1.h_.fZ;have f1:=h1.frozen 11;have f2:=h1.frozen 12;have xa:a<w.heap.size:=h1.lt;have Ew:p<w.heap.size:=h.pl.lt;have tu:p≠a:=λhe=>by have:=hO.ra;rw[<-he,h.rp]at this;omega
 have jg:bb≠a:=λhe=>by have:=hO.ra;rw[<-he,h.rb]at this;omega
 have Xe:=tu.symm;have Br:=jg.symm;have QG:=h.pb;have p4:w.cell? ⟨p,4,none⟩=some (.slice (some ⟨bb,0,none⟩) σ.busy.length σ.busy.length):=h.pl.cell 4;have p5:w.cell? ⟨p,5,none⟩=some (fu σ.cur):=h.pl.cell 5;have f5:=h.pl.frozen 5;have fb:=h.bz.mZ o.k
 have bk:w.cell? ⟨bb,o.k,none⟩=some (.bool (σ.busy.getD o.k false)):=by
  obtain⟨g,off,hg,_,hc⟩:=h.bz.at_ (j:=o.k) (by simpa [bools]using hk);injection hg with hg;injection hg with e1 e2;subst e1 e2;rw[cY]at hc;rw[hc];simp[bools,hk]
 have HE:=ag (bB.Z3 h hK ha e hk);have lZ:=λ(W:World)=>Gm W a
 have hpn:=λ(W:World)=>JB W a
 have gi:∀c,σ.cur=some c->∃cs,CB w c 187 cs:=λc hc=>by
  obtain⟨oc,bT⟩:=rH c hc;obtain⟨_,_,_,_,_,_,_,_,hx⟩:=(h.op c oc bT).cb;exact⟨_,hx⟩
 have CF:∀c,σ.cur=some c->c≠bb:=λc hc he=>by
  obtain⟨oc,bT⟩:=rH c hc;have:=(h.op c oc bT).ra;rw[he,h.rb]at this;omega
 have hkI:(o.k:Int)<(σ.busy.length:Int):=by omega
 have HB:=ag hk;have H1:=ag h1;clear h hK hO h1 hk rH;cases hd:o.done with
 |true=>
  rw[hd]at c9
  have HF:Hid (σ.fB a o e={σ.aB a {o with ended:=true,err:=e}with busy:=σ.busy.set o.k false}):=by
   show _=_;unfold PwS.fB;rw[hd];rfl
  clear hd gi CF;go_enter func102,ntmps102
  go_wp2;go_region
  go_wp2;go_ret;rw[HF.out];exact⟨rfl,HE.out.1.drew,HE.out.2.drew⟩
 |false=>
  rw[hd]at c9;by_cases hc:σ.cur=some a
  . rw[hc]at p5
    by_cases hs:o.aa<2
    . have QE:(o.aa:Int)<2:=by omega
      have HF:Hid (σ.fB a o e={σ.aB a {o with ended:=true,err:=e}with busy:=σ.busy.set o.k false,cur:=none}):=by
       show _=_;unfold PwS.fB;rw[hd,hc,aA (by simp[hs])]
      clear hd hc gi CF;go_enter func102,ntmps102
      go_wp2;go_region
      go_wp2;go_ret;rw[HF.out];exact⟨rfl,(HE.out.1.drew.zW none).1,HE.out.2.drew.trans (HE.out.1.drew.zW none).2 (λb hb _=>hb)⟩
    . have QE:¬(o.aa:Int)<2:=by omega
      have HF:Hid (σ.fB a o e={σ.aB a {o with ended:=true,err:=e}with busy:=σ.busy.set o.k false}):=by
       show _=_;unfold PwS.fB;rw[hd,hc,ax (by simp[hs])]
      clear hd hc gi CF;go_enter func102,ntmps102
      go_wp2;go_region
      go_wp2;go_ret;rw[HF.out];exact⟨rfl,HE.out.1.drew,HE.out.2.drew⟩
  . have HF:Hid (σ.fB a o e={σ.aB a {o with ended:=true,err:=e}with busy:=σ.busy.set o.k false}):=by
     show _=_;unfold PwS.fB;rw[ax (by simp[hc])]
    cases rH:σ.cur with
    |none=>
     rw[rH]at p5;clear hd hc rH gi CF;go_enter func102,ntmps102
     go_wp2;go_region
     go_wp2;go_ret;rw[HF.out];exact⟨rfl,HE.out.1.drew,HE.out.2.drew⟩
    |some c=>
     have fA:c≠a:=λhe=>hc (by rw[rH,he])
     rw[rH]at p5;obtain⟨cs,hcs⟩:=gi c rH;have Zdo:=CF c rH
     have YU:(binOp .eql 105 (.pointer (some ⟨c,0,none⟩)) (.pointer (some ⟨a,0,none⟩))).run Tryz.prog (((w.setCell ⟨a,11,none⟩ (.bool true)).setCell ⟨a,12,none⟩ (.int .i64 e)).setCell ⟨bb,o.k,none⟩ (.bool false)).drew= .ok (.bool false) (((w.setCell ⟨a,11,none⟩ (.bool true)).setCell ⟨a,12,none⟩ (.int .i64 e)).setCell ⟨bb,o.k,none⟩ (.bool false)).drew:=
      DW fA (((hcs.far (p:=⟨a,11,none⟩) fA _).far (p:=⟨a,12,none⟩) fA _).far (p:=⟨bb,o.k,none⟩) Zdo _).drew (((H1.out.set 11 _).set 12 _).far (p:=⟨bb,o.k,none⟩) Br _).drew
     clear hd hc rH hcs gi CF lZ;go_enter func102,ntmps102
     go_wp2;go_region
     go_wp2;go_ret;rw[HF.out];exact⟨rfl,HE.out.1.drew,HE.out.2.drew⟩
theorem bB.ZY(h:PM role p d bb t line lines size w σ)(hK:∀b,K b->role b=0/\b<w.heap.size)(ha:σ.ops a=some o)(ch:Bool):
 bB K p d t line lines size (((w.setCell ⟨a,9,none⟩ (.bool true)).setCell ⟨a,10,none⟩ (.bool ch)).setCell ⟨p,5,none⟩ (.pointer none)) (σ.fin a o ch)/\Ch (λb=>¬K b) w (((w.setCell ⟨a,9,none⟩ (.bool true)).setCell ⟨a,10,none⟩ (.bool ch)).setCell ⟨p,5,none⟩ (.pointer none)):=by
 have hO:=h.op a o ha;have hr:=hO.ra;have iA:Ch (λb=>role b=a+3) w ((w.setCell ⟨a,9,none⟩ (.bool true)).setCell ⟨a,10,none⟩ (.bool ch)):=((Ch.refl _ _).setCell (a:=⟨a,9,none⟩) (.inl hr) _).setCell (a:=⟨a,10,none⟩) (.inl hr) _;have h1:=h.ua iA (hO.uf (o':={o with done:=true,changed:=ch}) (((Ch.refl _ _).bj _ _).bj _ _) (λ_ _ _ _ _ _ _ _ gi=>(gi.set _ _).set _ _) rfl rfl rfl rfl);obtain⟨W,hW⟩:=aH ((w.setCell ⟨a,9,none⟩ (.bool true)).setCell ⟨a,10,none⟩ (.bool ch));rw[hW]at h1 iA |-;have hs:=iA.size;have hK1:∀b,K b->rl w (a+3) role b=0/\b<W.heap.size:=λb hb=>⟨by rw[bR (hK b hb).2];exact(hK b hb).1,by have:=(hK b hb).2;omega⟩
 have hCC:Ch (λb=>¬K b) w W:=iA.mono (λb hb _ hk=>by rw[(hK b hk).1]at hb;omega);obtain⟨g1,g2⟩:=bB.zW (K:=K) ⟨_,bb,h1,hK1⟩ none;exact⟨g1,hCC.trans g2 (λb hb _=>hb)⟩
theorem Fu(H:bB K p d t line lines size w σ)(ha:σ.ops a=some o)(ch:Bool):
 Calls Tryz.prog 171 #[.pointer (some ⟨a,0,none⟩), .bool ch] w λr w'=>r= .returned (.tuple #[])/\bB K p d t line lines size w' (σ.fin a o ch)/\Ch (λb=>¬K b) w w':=by
 obtain⟨role,bb,h,hK⟩:=H;have hO:=h.op a o ha;obtain⟨ea,ec,oa,oc,sb,sc,pa,pc,h1⟩:=hO.cb;have c0:=h1.h_.c0;have c9:=h1.h_.c9;have gj:=h1.h_.gj;have p5:w.cell? ⟨p,5,none⟩=some (fu σ.cur):=h.pl.cell 5;have f1:=h1.frozen 9;have f2:=h1.frozen 10;have xa:a<w.heap.size:=h1.lt;have Ew:p<w.heap.size:=h.pl.lt;have tu:p≠a:=λhe=>by have:=hO.ra;rw[<-he,h.rp]at this;omega
 have Xe:=tu.symm;have f5:=h.pl.frozen 5;have HE:=ag (bB.ZY h hK ha ch);clear h hK hO h1;go_enter func171,ntmps171
 go_wp2;go_end0
 exact⟨rfl,HE.out⟩
end
theorem Qw:(Tryz.prog.info? 5).map (λi=>(i.zero,i.size,i.bytes))=some (some (.int .u8 0),1,1):=by kernel_rfl
theorem RJ(w:World)(A:Option Addr)(n c:Nat)(ws:List Int)(hn:ws.length=n)(hb:n<=32768)(hf:Fits ws)(hR:Rd .u64 w A ws):
 Calls Tryz.prog 121 #[.slice A n c] w λe w'=>∃g,e= .returned (.slice (some ⟨g,0,none⟩) (8*n) (8*n))/\IB .u8 5 w' g (gY ws)/\w.heap.size<=g/\Below w.heap.size w w':=by
 have HR:=ag hR;have HN:=ag hn;have HF:=ag hf;have zE:=λW=>sG (P:=Tryz.prog) 78 5 .u8 .i64 .i64 ((n:Int)*8) (8*n) ae underlying78 1 Qw ae ae W
 clear hR hn hf;go_enter func121,ntmps121
 go_wp2
 have jc:Hid (IB .u8 5 (w.alloc (.cells (ia .u8 (List.replicate (8*n) (0:Int))) 5)) w.heap.size (qC ws 0)):=by
  show IB _ _ _ _ _
  rw[JJ,HN.out];exact IB.new _ _
 have oG:Hid (Below w.heap.size w (w.alloc (.cells (ia .u8 (List.replicate (8*n) (0:Int))) 5))):=by show Below _ _ _;exact aC
 obtain⟨g,hg⟩:=aH w.heap.size;obtain⟨W,hW⟩:=aH (w.alloc (.cells (ia .u8 (List.replicate (8*n) (0:Int))) 5));rw[hg,hW]at jc;rw[hW]at oG;rw[hg,hW];have HG:=ag hg;clear hW hg zE;go_loopw [11,4,12,13,14,15,16,17,18,19,20,21,22,23,24,25,26,27,28] (λi _ _ _ _ _ _ _ _ _ _ _ _ _ _ _ _ _ _ wr=>∃k:Nat,k<=8*n/\i= .int .i64 k/\IB .u8 5 wr g (qC ws k)/\Below w.heap.size w wr) (λi _ _ _ _ _ _ _ _ _ _ _ _ _ _ _ _ _ _ _=>8*n-(intOf i).toNat)
 case atStart=>exact⟨0,by omega,rfl,jc.out,oG.out⟩
 case round=>
  clear jc oG;obtain⟨k,hk,rfl,hI,hB⟩:=hrel;by_cases aM:k<8*n
  . have dx:(k:Int)<8*(n:Int):=by omega
    have hk8:k/8<ws.length:=by rw[HN.out];omega
    have zF:k/8<n:=by omega
    obtain⟨b,o,rfl,Q4,hc⟩:=HR.out.at_ hk8;have px:=hB.size;have oO:wr.cell? ⟨b,o+k/8,none⟩=some (.int .u64 ws[k/8]):=(hB.cell (p:=⟨b,o+k/8,none⟩) Q4).trans hc;have xN:b<wr.heap.size:=by omega
    have hcg:=hI.cell (i:=k) (by rw[Dv ws k (by rw[HN.out];omega),HN.out];exact aM);have MX:=hI.frozen k;have eh:=hI.lt;have hgg:b≠g:=by rw[<-HG.out];omega
    have HBY:Hid (ws[k/8]/2^(k%8*8)%256=tD ws k):=by
     show _=_
     unfold tD;rw[dG hk8];rfl
    have fX:=ag (Nz ws k (by rw[HN.out];exact aM));obtain⟨v,hv⟩:=aH (ws[k/8]);rw[hv]at oO HBY;have HI:=ag hI;have HB:=ag hB;clear hv hc hI hB;go_wp2;rw[HBY.out];refine⟨⟨k+1,by omega,by go_num,?_,HB.out.setCell (p:=⟨g,k,none⟩) (by show w.heap.size<=g;rw[HG.out];exact a_ _) _⟩,by simp[intOf];omega⟩;rw[<-fX.out];exact HI.out.set k _
  . obtain rfl:k=8*n:=by omega
    have SV:IB .u8 5 wr g (gY ws):=by
     have:=hI;rwa[show 8*n=8*ws.length by rw[HN.out],NA]at this
    have HI:=ag SV;have HB:=ag hB;clear hI hB SV;go_wp2;go_ret;exact⟨g,rfl,HI.out,by rw[<-HG.out];exact a_ _,HB.out⟩
def hlen(S:aq)(q:Nat):Nat:=(S.bA[q]?.map (·.bL.length)).getD 0
theorem Sl.rdW{w:World}{A:Option Addr}{n c:Nat}{xs:List Int}(h:Sl 22 1 w A n c (bE xs)):Rd .u64 w A xs:=by
 by_cases h0:xs=[]
 . exact .inl h0
 . have hlen:0<xs.length:=List.length_pos_iff.2 h0
   obtain⟨g,off,hA,aM,_⟩:=h.at_ (j:=0) (by rw[dW];exact hlen);refine .inr ⟨g,off,hA,aM,λi hi=> ?_⟩;obtain⟨g',zh,fL,_,hc⟩:=h.at_ (j:=i) (by rw[dW];exact hi);rw[hA]at fL;injection fL with fL;injection fL with e1 e2;subst e1 e2;rw[hc,vP xs i hi]
theorem Tab.ch{w w':World}{S:Nat->Prop}(h:Tab w)(hc:Ch S w w')(h0:¬S 0):Tab w':=⟨cD h.1 hc.size,λj hj=>(hc.cells 0 j h.1 h0).trans (h.2 j hj)⟩
theorem Fq(w:World)(hT:Tab w)(A:Option Addr)(n c:Nat)(xs:List Int)(hx:xs.length=n)(hn:n<=18)(hR:Rd .u64 w A xs)(hF:Fits xs):
 Calls Tryz.prog 160 #[.slice A n c] w λe w'=>e= .returned (.int .u64 (pM aR xs))/\w=w':=by
 have HC:=ag (Rx w hT A n c xs hx ae hR hF)
 obtain⟨m,hm,hmv⟩:∃m:Nat,aR xs=(m:Int)/\m<4294967296:=by
  refine⟨_,rfl,?_⟩;unfold RA;exact Dg (n:=32) ae (JF _ _ (by decide) (K0 hF))
 have e0:(n:Int).tdiv 3=(n:Int)/3:=IC ae;obtain⟨q,hq⟩:∃q:Nat,n/3=q:=⟨_,rfl⟩;have HQ:Hid ((n:Int)/3=(q:Int)):=by show _=_;omega
 have hq6:q<=6:=by omega
 have e2:IntKind.i64.wrap ((n:Int)/3)=(q:Int):=by rw[HQ.out];exact b9 _ ae
 have e2':IntKind.i64.wrap (q:Int)=(q:Int):=b9 _ ae;have e3:IntKind.u64.wrap (q:Int)=(q:Int):=bY _ ae;have e4:IntKind.u64.wrap ((q:Int)*256)=(q:Int)*256:=bY _ ae;have e5:IntKind.u64.wrap ((m:Int)*4294967296)=(m:Int)*4294967296:=bY _ ae;have e6:IntKind.u64.wrap (m:Int)=(m:Int):=bY _ ae
 have HS:Hid (pM aR xs=bits .or .u64 (bits .or .u64 (bits .or .u64 3 ((q:Int)*256)) 1836515328) ((m:Int)*4294967296)):=by
  show _=_
  rw[Tk q m ae hmv];unfold pM;rw[hm,hx,hq]
 rw[hm]at HC;clear hT hR hF hm hx hq;rw[HS.out];go_enter func160,ntmps160
 go_wp2_with (go_at_call 180;refine HC.out.mono ?_;rintro e w' ⟨rfl,rfl⟩)
 go_ret;exact⟨rfl,rfl⟩
def cP(line:Nat)(k:Nat):Int:=8*((8*(line+4*k):Nat):Int)
theorem Nk(sum:List Int->Int)(es:List bO)(seen:List Int){k:Nat}(hk:k<es.length)(jC:k<seen.length):uG sum (es.take (k+1)) (seen.take (k+1))=uG sum (es.take k) (seen.take k)++[if es[k].ex then es[k].off+1 else es[k].off,es[k].old,es[k].after seen[k]]:=by
 unfold uG;rw[iw hk,iw jC,List.zip_append (by simp;omega)];simp[-List.take_append_getElem]
theorem Nw(es:List bO)(seen:List Int){k:Nat}(hk:k<es.length)(jC:k<seen.length):oD (es.take (k+1)) (seen.take (k+1))=oD (es.take k) (seen.take k)++[(es[k].off,es[k].after seen[k])]:=by
 unfold oD;rw[iw hk,iw jC,List.zip_append (by simp;omega)];simp[-List.take_append_getElem]
theorem Ml(b:Int)(ws:List Int){j:Nat}(hj:j<ws.length):(lL b ws).take (j+1)=(lL b ws).take j++[(b+64+8*(j:Int),ws[j])]:=by
 have hl:j<(lL b ws).length:=by rw[jY];exact hj
 rw[iw hl];congr 2;simp[lL]
theorem LV(xs ys:List Int):bE (xs++ys)=bE xs++bE ys:=by simp[bE]
theorem Sl.vS{w:World}{A:Option Addr}{m c:Nat}{es:List bO}(h:Sl 223 4 w A m c (ba es)){k:Nat}(hk:k<es.length):
 ∃g off,A=some ⟨g,off,none⟩/\g<w.heap.size/\w.cell? ⟨g,off+k*4,none⟩=some (.int .u64 es[k].off)/\w.cell? ⟨g,off+k*4+1,none⟩=some (.int .u64 es[k].old)/\w.cell? ⟨g,off+k*4+2,none⟩=some (.int .u64 es[k].new)/\w.cell? ⟨g,off+k*4+3,none⟩=some (.bool es[k].ex):=by
 obtain⟨e1,e2,e3,e4⟩:=zT es k hk;obtain⟨g,off,hA,hl,_⟩:=h.at_ (j:=k*4) (by rw[mH];omega);have c1:=h.cells _ hA _ _ e1;have c2:=h.cells _ hA _ _ e2;have c3:=h.cells _ hA _ _ e3;have c4:=h.cells _ hA _ _ e4;have h1:∀j,(⟨g,off,none⟩:Addr).add j=⟨g,off+j,none⟩:=by intro j;unfold Addr.add;split<;>simp_all
 rw[h1]at c1 c2 c3 c4;exact⟨g,off,hA,hl,c1,c2,c3,c4⟩
theorem zx:(Tryz.prog.info? 223).map (λi=>(i.zero,i.size,i.bytes))=some (some (.agg #[.int .u64 0, .int .u64 0, .int .u64 0, .bool false]),4,32):=by kernel_rfl
theorem BI(a b c:Int):∀u∈([.int .u64 a, .int .u64 b, .int .u64 c]:List Value),u.oneCell'=true:=by
 intro u hu;simp only[dr,fH,gF]at hu;rcases hu with rfl|rfl|rfl<;>rfl
theorem tO(a b:Int):∀u∈([.int .u64 a, .int .u64 b]:List Value),u.oneCell'=true:=by
 intro u hu;simp only[dr,fH,gF]at hu;rcases hu with rfl|rfl<;>rfl
section
variable{role:Nat->Nat}{K:Nat->Prop}{p d bb a line lines:Nat}{t:Nat->Nat}{size:Int}{w w2:World}{σ:PwS}{o:aX}
theorem bB.Ro(h:PM role p d bb t line lines size w σ)(hK:∀b,K b->role b=0/\b<w.heap.size)(ha:σ.ops a=some o)(s:Nat)(hB:Below (w.setCell ⟨a,7,none⟩ (.int .i64 s)).heap.size (w.setCell ⟨a,7,none⟩ (.int .i64 s)) w2)
 (A:Option Addr) (ps:List Ins) (c:Nat) (hS:Sl 164 3 w2 A ps.length c (bw ps)) (hA:∀b,ah A b->w.heap.size<=b):
 bB K p d t line lines size (w2.setCell ⟨a,8,none⟩ (.slice A ps.length c)) (σ.aB a {o with aa:=s,prog:=ps})/\Ch (λb=>¬K b) w (w2.setCell ⟨a,8,none⟩ (.slice A ps.length c)):=by
 have hO:=h.op a o ha;have hr:=hO.ra;obtain⟨ea,ec,oa,oc,sb,sc,pa,pc,h1,h2,h3,h4,zN,h5,r1,r2,n1,r3,r4,r5⟩:=hO;have hC:Ch (At a) w (w2.setCell ⟨a,8,none⟩ (.slice A ps.length c)):=(((Ch.refl _ _).bj 7 _).trans (Ch.au (S:=At a) hB) (λ_ hb _=>hb)).bj 8 _;have hs:=hC.size;have Le:a<(w.setCell ⟨a,7,none⟩ (.int .i64 s)).heap.size:=by have:=h1.lt;simpa using this
 have gi:CB (w2.setCell ⟨a,8,none⟩ (.slice A ps.length c)) a 187 (ei p t {o with aa:=s,prog:=ps} ea ec oa oc sb sc A c):=((h1.set 7 (.int .i64 s)).keep (hB.block a Le)).set 8 _;refine bB.ua h hK (hC.mono (λb hb _=>by rw[show b=a from hb];exact hr)) ⟨ea,ec,oa,oc,sb,sc,A,c,gi,h2.ch hC (λb hb=>(r3 b hb).2.1),h3.ch hC (λb hb=>(r4 b hb).2.1),h4.ch hC n1,zN,hS.ch ((Ch.refl (At a) _).bj 8 _) (λb hb jg=> ?_),by rw[bR h1.lt];exact r1,by rw[bR h4.lt];exact r2,n1,λb hb=>by rw[bR (h2.lt hb)];exact r3 b hb,λb hb=>by rw[bR (h3.lt hb)];exact r4 b hb,λb hb=> ?_⟩
 . have:=hA b hb
   have jg:b=a:=jg;have:=h1.lt;omega
 . have:=hA b hb
   have h6:=h1.lt;have h7:=h4.lt;exact⟨ve this,by omega,by omega⟩
theorem bB.O7(h:PM role p d bb t line lines size w σ)(hK:∀b,K b->role b=0/\b<w.heap.size)(ha:σ.ops a=some o)(s:Nat):
 bB K p d t line lines size (w.setCell ⟨a,7,none⟩ (.int .i64 s)) (σ.aB a {o with aa:=s})/\Ch (λb=>¬K b) w (w.setCell ⟨a,7,none⟩ (.int .i64 s)):=by
 have hO:=h.op a o ha;exact bB.ua h hK ((Ch.refl _ _).setCell (a:=⟨a,7,none⟩) (.inl hO.ra) _) (hO.uf (o':={o with aa:=s}) ((Ch.refl _ _).bj _ _) (λ_ _ _ _ _ _ _ _ gi=>gi.set _ _) rfl rfl rfl rfl)
end
section
variable{P:Program}{ops:Array Oper}{md:Region.Mode}
variable{C:World->Prop}
structure Zal(p:Prop):Prop where
 out:p
def Dc(Q:Exit->Act->World->Prop)(K:Act->World->Prop)(e:Exit)(a:Act)(w:World):Prop:=
 match e with
 | .normal=>Zal (K a w)
 |e=>Q e a w
theorem gz{Q:Exit->Act->World->Prop}{K:Act->World->Prop}{a:Act}{w:World}(h:K a w):Dc Q K .normal a w:=⟨h⟩
theorem Du{Q:Exit->Act->World->Prop}{K:Act->World->Prop}(h:LetsOut (Dc Q K)):LetsOut Q:=h
theorem Tj{o:Oper}{a:Act}{w:World}{N K:Act->World->Prop}{Q:Exit->Act->World->Prop}(h:o.wp P a w N (Dc Q K)):o.wp P a w N Q:=by
 unfold Oper.wp at*;generalize (execOp a.eval o).run P w=r at*;cases r with
 |ok n w'=>
  cases n with
  |enter f args=>
   refine Calls.mono h λe Tq h=> ?_
   cases e<;>exact h
  |_=>exact h
 |halt hh w'=>
  cases hh<;>exact h
theorem LP{i:Nat}{a:Act}{w:World}{N K:Act->World->Prop}{Q:Exit->Act->World->Prop}(h:wpOp P ops (Dc Q K) i N a w):wpOp P ops Q i N a w:=by
 unfold wpOp at*;split at h
 . exact h
 . split at h
   . rename_i hw
     rw[aA hw];exact h.imp Tj (λ⟨h1,h2⟩=>⟨h1,Du h2⟩)
   . rename_i hw
     rw[ax hw];exact h
def LL(w w':World):Prop:=∃m,w'=w.drewN m
def LM(w w':World):Prop:=∃x:BX w,w'=x.w
end
section
variable{P:Program}{ops:Array Oper}{md:Region.Mode}
def xV(md:Region.Mode)(tab:List (List Nat))(o:Oper):List Nat:=
 o.after.toList.foldr (λe acc=>if Region.binds md e then e.on::((tab[e.on]?.getD [])++acc)else acc) []
def qA(md:Region.Mode)(l:List Oper):List (List Nat):=l.foldl (λtab o=>tab++[(xV md tab o).eraseDups]) []
inductive oQ (md:Region.Mode) (ops:Array Oper):Nat->Nat->Prop
 |one {t i:Nat} {o:Oper} {e:Edge} (ho:ops[t]?=some o) (he:e∈o.after) (hb:Region.binds md e=true) (hi:e.on=i):oQ md ops t i
 |more {t i:Nat} {o:Oper} {e:Edge} (ho:ops[t]?=some o) (he:e∈o.after) (hb:Region.binds md e=true) (h:oQ md ops e.on i):oQ md ops t i
theorem D1{tab:List (List Nat)}{o:Oper}{t:Nat}(ho:ops[t]?=some o)(ht:∀j,∀i∈tab[j]?.getD [],oQ md ops j i):∀i∈xV md tab o,oQ md ops t i:=by
 intro i hi;unfold xV at hi
 have:∀(l:List Edge),(∀e∈l,e∈o.after)->i∈l.foldr (λe acc=>if Region.binds md e then e.on::((tab[e.on]?.getD [])++acc)else acc) []->oQ md ops t i:=by
  intro l;induction l with
  |nil=>intro _ h;cases h
  |cons e l ih=>
   intro hl h;rw[List.foldr_cons]at h;split at h
   . rename_i hb
     rcases List.mem_cons.1 h with h|h
     . exact .one ho (hl e smQ) hb h.symm
     . rcases List.mem_append.1 h with h|h
       . exact .more ho (hl e smQ) hb (ht _ _ h)
       . exact ih (λe he=>hl e (by simp[he])) h
   . exact ih (λe he=>hl e (by simp[he])) h
 exact this _ (λe he=>by simpa using he) hi
theorem Gu(l:List Oper):∀j,∀i∈(qA md l)[j]?.getD [],oQ md l.toArray j i:=by
 have:∀(r:List Oper) (k:Nat) (tab:List (List Nat)),tab.length=k->(∀j,r[j]?=l[k+j]?)->(∀j,∀i∈tab[j]?.getD [],oQ md l.toArray j i)->
  ∀j,∀i∈(r.foldl (λtab o=>tab++[(xV md tab o).eraseDups]) tab)[j]?.getD [],oQ md l.toArray j i:=by
  intro r;induction r with
  |nil=>intro k tab _ _ h;exact h
  |cons o r ih=>
   intro k tab hk hr h;rw[List.foldl_cons];refine ih (k+1) _ (by simp[hk]) (λj=>by have:=hr (j+1);simpa [sL,Nat.add_comm 1 j]using this) ?_;intro j i hi;rcases Nat.lt_trichotomy j tab.length with hj|hj|hj
   . rw[nY hj]at hi;exact h j i hi
   . subst hj
     rw[nZ (a_ _)]at hi;simp only[wA,List.getElem?_cons_zero,Option.getD_some]at hi;have h0:l.toArray[tab.length]?=some o:=by have:=hr 0;simp only[List.getElem?_cons_zero,Nat.add_zero,<-hk]at this;simpa using this.symm
     exact D1 h0 h i (List.mem_eraseDups.1 hi)
   . rw[oY (by simp;omega)]at hi;cases hi
 exact this l 0 [] rfl (λj=>by simp) (λj i hi=>by simp at hi)
structure pd(md:Region.Mode)(ops:Array Oper)(D:List Nat)(listed:Array Bool):Prop where
 size:listed.size=ops.size
 closed:∀j oj,ops[j]?=some oj->listed.getD j false=true->∀e∈oj.after,Region.binds md e=true->listed.getD e.on false=true
 out:∀t,t<ops.size->t∉D->listed.getD t true=false
theorem pd.set{D:List Nat}{i:Nat}{listed:Array Bool}(inv:pd md ops D listed)(hi:i∈Region.ready md ops listed)(nQ:i∈D):pd md ops D (listed.setIfInBounds i true):=by
 obtain⟨_,oi,hoi,aS⟩:=lq.1 hi;refine⟨by simp[inv.size],λj oj hj hl e he hb=> ?_,λt ht YO=>by rw[Fc true (by rintro rfl;exact YO nQ)];exact inv.out t ht YO⟩;by_cases xn:i=j
 . subst xn
   have:oj=oi:=Pv (hj.symm.trans hoi);subst this;exact getD_set_true (aS e he hb)
 . rw[Fc false xn]at hl
   exact getD_set_true (inv.closed j oj hj hl e he hb)
theorem pd.up{D E:List Nat}{listed:Array Bool}(h:pd md ops D listed)(hs:∀t∈D,t∈E):pd md ops E listed:=⟨h.size,h.closed,λt ht hn=>h.out t ht (λhd=>hn (hs t hd))⟩
theorem ym{D:List Nat}{listed:Array Bool}(inv:pd md ops D listed){t i:Nat}(h:oQ md ops t i)(hi:listed.getD i false=false):listed.getD t false=false:=by
 induction h with
 |one ho he hb dP=>
  rename_i t i o e
  cases hl:listed.getD t false with
  |false=>rfl
  |true=>have:=inv.closed t o ho hl e he hb;rw[dP,hi]at this;cases this
 |more ho he hb h ih=>
  rename_i t i o e
  cases hl:listed.getD t false with
  |false=>rfl
  |true=>have:=inv.closed t o ho hl e he hb;rw[ih hi]at this;cases this
theorem xc{D:List Nat}{listed:Array Bool}(inv:pd md ops D listed){t i:Nat}(h:oQ md ops t i)(hi:listed.getD i false=false):t∉Region.ready md ops listed:=by
 intro hr;obtain⟨_,ot,QH,aS⟩:=lq.1 hr;cases h with
 |one ho he hb dP=>
  have:=Pv (ho.symm.trans QH);subst this;have:=aS _ he hb;rw[dP,hi]at this;cases this
 |more ho he hb h=>
  have:=Pv (ho.symm.trans QH);subst this;have:=aS _ he hb;rw[ym inv h hi]at this;cases this
variable{C:World->Prop}
def yh(P:Program)(md:Region.Mode)(ops:Array Oper)(C:World->Prop)(D:List Nat)(L:Array Bool->Act->Prop):Nat->Array Bool->Act->Prop
 |0,listed,a=>L listed a
 |f+1,listed,a=>
  Region.ready md ops listed≠[]/\∀i∈Region.ready md ops listed,i∈D/\qOp P ops C i (yh P md ops C D L f (listed.setIfInBounds i true)) a
theorem kX{D:List Nat}{g:Nat}{L:Array Bool->Act->Prop}{Q':Exit->Act->World->Prop}(hL:∀listed a w,C w->L listed a->wpAny P md ops Q' g listed a w):
 ∀(f:Nat) (listed:Array Bool) (a:Act) (w:World),C w->yh P md ops C D L f listed a->wpAny P md ops Q' (f+g) listed a w
 |0,listed,a,w,hw,h=>by rw[cY];exact hL _ _ _ hw h
 |f+1,listed,a,w,hw,h=>by
  rw[show f+1+g=(f+g)+1 by omega];exact⟨λh0=>absurd h0 h.1,λi hi=>wpOp_of_qOp hw (λa' w' hw' h'=>kX hL f _ a' w' hw' h') (h.2 i hi).2⟩
def ZaF(md:Region.Mode)(ops:Array Oper)(D:List Nat)(i:Nat):Prop:=∀t,t<ops.size->t∉D->oQ md ops t i
theorem C0{D:List Nat}{i:Nat}{oi:Oper}{v:Value}{L:Array Bool->Act->Prop}(hi:ops[i]?=some oi)(ja:∀(j:Nat)(o:Oper) cs b,ops[j]?=some o->o.op≠ .select cs b)
 (hb:ZaF md ops D i) (nQ:i∈D)
 (Q0:∀listed a,L listed a->∀j∈Region.ready md ops listed,j∉D):
 ∀(f:Nat) (listed:Array Bool) (a:Act),pd md ops D listed->
  (∀j oj,ops[j]?=some oj->j≠i->listed.getD j true=false->(∀e∈oj.after,Region.binds md e=true->e.on≠i)->oi.apart ops oj=true)->
  i∈Region.ready md ops listed->YieldsIn P ops C oi v a->
  yh P md ops C D L f (listed.setIfInBounds i true) (a.put oi.dst v)->yh P md ops C D L (f+1) listed a:=by
 have ZbE:∀(listed:Array Bool),pd md ops D listed->listed.getD i true=false->∀j∈Region.ready md ops listed,j∈D:=by
  intro listed inv Bf j hj;rcases Decidable.em (j∈D)with h|h
  . exact h
  . obtain⟨_,oj,xl,_⟩:=lq.1 hj
    exact absurd hj (xc inv (hb j (Dj.1 xl).1 h) (BV Bf))
 intro f;induction f with
 |zero=>
  intro listed a inv _ hr hy H;have Bf:=(lq.1 hr).1;refine⟨λh=>(by rw[h]at hr;cases hr),λj hj=> ?_⟩;have El:=ZbE listed inv Bf j hj;refine⟨El,?_⟩;by_cases eb:j=i
  . subst eb;exact hy.qOp hi H
  . exact absurd El (Q0 _ _ H j (tX hj eb))
 |succ f ih=>
  intro listed a inv oN hr hy H;have Bf:=(lq.1 hr).1;refine⟨λh=>(by rw[h]at hr;cases hr),λj hj=> ?_⟩;have El:=ZbE listed inv Bf j hj;refine⟨El,?_⟩;by_cases eb:j=i
  . subst eb;exact hy.qOp hi H
  . have h1:=(H.2 j (tX hj eb)).2
    obtain⟨F5,oj,xl,aS⟩:=lq.1 hj
    have Je:∀e∈oj.after,Region.binds md e=true->e.on≠i:=λe he hb heq=>by
     have h1:=aS e he hb;rw[heq,BV Bf]at h1;cases h1
    have h2:=qOp_put xl (oN j oj xl eb F5 Je) (λcs b=>ja i oi cs b hi) (λcs b=>ja j oj cs b xl) hy h1
    have Jm:∀k ok,ops[k]?=some ok->k≠i->(listed.setIfInBounds j true).getD k true=false->
     (∀e∈ok.after,Region.binds md e=true->e.on≠i)->oi.apart ops ok=true:=λk ok hk hki Bf js=>by
     refine oN k ok hk hki ?_ js;by_cases F6:j=k
     . subst F6;exact F5
     . rw[Fc true F6]at Bf;exact Bf
    refine qOp_mono (λa' h3=>ih (listed.setIfInBounds j true) a' (inv.set hj El) Jm (tX hr (cC eb)) h3.1 ?_) h2;rw[PY _ _ eb];exact h3.2
def quietP(md:Region.Mode)(ops:Array Oper)(rest:Array Bool->Bool):List Nat->Array Bool->Bool
 |[],listed=>rest listed
 |k::ks,listed=>(Region.ready md ops listed).contains k&&Region.free md ops listed k&&quietP md ops rest ks (listed.setIfInBounds k true)
def Pd(md:Region.Mode)(ops:Array Oper)(rest:Array Bool->Bool):List Nat->Array Bool->Bool
 |[],listed=>rest listed
 |k::ks,listed=>decide (Region.ready md ops listed=[k])&&Pd md ops rest ks (listed.setIfInBounds k true)
inductive Part
 |q (ks:List Nat)
 |h (ks:List Nat)
 |p (ks:List Nat)
def Part.ks:Part->List Nat
 | .q ks| .h ks| .p ks=>ks
def Zb6(tab:List (List Nat))(n:Nat)(D ks:List Nat):Bool:=(List.range n).all λt=>D.contains t||ks.all λi=>(tab[t]?.getD []).contains i
def partB(md:Region.Mode)(ops:Array Oper)(tab:List (List Nat)):List Part->List Nat->Array Bool->Bool
 |[],D,listed=>D.all (λt=>listed.getD t false)&&decide (D.length=ops.size)&&(Region.ready md ops listed).isEmpty
 | .q ks::r,D,listed=>D.all (λt=>listed.getD t false)&&Zb6 tab ops.size (D++ks) ks&&quietP md ops (partB md ops tab r (D++ks)) ks listed
 | .h ks::r,D,listed=>D.all (λt=>listed.getD t false)&&Pd md ops (partB md ops tab r (D++ks)) ks listed
 | .p ks::r,D,listed=>D.all (λt=>listed.getD t false)&&quietP md ops (partB md ops tab r (D++ks)) ks listed
theorem Ms{tab:List (List Nat)}{r:List Part}{D:List Nat}{listed:Array Bool}(h:partB md ops tab r D listed=true):D.all (λt=>listed.getD t false)=true:=by
 rcases r with _|⟨⟨ks⟩|⟨ks⟩|⟨ks⟩,r⟩<;>simp only[partB,kz]at h
 . exact h.1.1
 . exact h.1.1
 . exact h.1
 . exact h.1
theorem wE{tab:List (List Nat)}{r:List Part}{D:List Nat}{listed:Array Bool}(h:partB md ops tab r D listed=true):∀j∈Region.ready md ops listed,j∉D:=by
 intro j hj hD;have h1:=ir.1 (Ms h) j hD;rw[BV (lq.1 hj).1]at h1;cases h1
def pick(l:List Oper)(ks:List Nat):List Oper:=ks.filterMap (l[·]?)
theorem pkQ:(∀l ks,pick l ks=ks.filterMap (l[·]?))/\(∀(f:Nat->Option Oper),[].filterMap f=[])/\(∀(f:Nat->Option Oper) a l,(a::l).filterMap f=match f a with|none=>l.filterMap f|some b=>b::l.filterMap f)/\(∀(a:Oper) l,(a::l)[0]?=some a)/\(∀(a:Oper) l (i:Nat),(a::l)[i+1]?=l[i]?):=⟨λ_ _=>rfl,λ_=>rfl,λf a l=>by rw[List.filterMap_cons];cases f a<;>rfl,λ_ _=>rfl,λ_ _ _=>rfl⟩
@[simp] theorem Za4 (l:List Oper):pick l []=[]:=rfl
theorem vu{l:List Oper}{k:Nat}{ks:List Nat}{o:Oper}(h:l[k]?=some o):pick l (k::ks)=o::pick l ks:=by simp[pick,h]
def sA(P:Program)(ops:Array Oper)(K:Act->Prop):List Oper->Act->Prop
 |[],a=>K a
 |o::l,a=>∃v,Yields P ops o v a/\sA P ops K l (a.put o.dst v)
theorem pure_nil{K:Act->Prop}{a:Act}(h:K a):sA P ops K [] a:=h
def dM(P:Program)(l:List Oper)(C:World->World->Prop)(Q:Exit->Act->World->Prop):List Part->Act->World->Prop
 |[],a,w=>Q .normal a w
 | .q ks::r,a,w=>wpQuiet P l.toArray (C w) (λa'=>∀w',C w w'->dM P l C Q r a' w') (pick l ks) a
 | .h ks::r,a,w=>wpList P l.toArray (Dc Q (λa' w'=>dM P l C Q r a' w')) (pick l ks) a w
 | .p ks::r,a,w=>sA P l.toArray (λa'=>dM P l C Q r a' w) (pick l ks) a
theorem pU{l:List Oper}{_rest:Array Bool->Bool}{k:Nat}{_ks:List Nat}{listed:Array Bool}(h:k∈Region.ready md l.toArray listed):∃o,l[k]?=some o:=by
 obtain⟨_,o,ho,_⟩:=lq.1 h;exact⟨o,by simpa using ho⟩
theorem sB{l:List Oper}{D:List Nat}{R:Array Bool->Bool}{Lq:Act->Prop}(ja:Region.noSelect l.toArray=true)
 (hR:∀listed,R listed=true->∀j∈Region.ready md l.toArray listed,j∉D):
 ∀(ks:List Nat) (listed:Array Bool) (a:Act),(∀k∈ks,k∈D/\ZaF md l.toArray D k)->pd md l.toArray D listed->
 quietP md l.toArray R ks listed=true->wpQuiet P l.toArray C Lq (pick l ks) a->
 yh P md l.toArray C D (λej a'=>(R ej=true/\pd md l.toArray D ej)/\Lq a') ks.length listed a
 |[],listed,a,_,inv,hB,h=>⟨⟨by simpa [quietP]using hB,inv⟩,h⟩
 |k::ks,listed,a,hD,inv,hB,h=>by
  simp only[quietP,kz]at hB;obtain⟨⟨hr,hf⟩,hB'⟩:=hB;have DG:k∈Region.ready md l.toArray listed:=by simpa using hr
  obtain⟨o,ho⟩:=pU (_rest:=R) (_ks:=ks) DG;have h0:l.toArray[k]?=some o:=by simpa using ho
  rw[vu ho]at h;have bh:qOp P l.toArray C k (wpQuiet P l.toArray C Lq (pick l ks)) a:=by unfold qOp;simp only[h0];exact h
  obtain⟨v,hy,hK⟩:=yieldsIn_of_qOp h0 bh;obtain⟨hkD,QS⟩:=hD k smQ
  exact C0 h0 (KO ja) QS hkD (λej a' hL=>hR _ hL.1.1) ks.length listed a inv (KF h0 hf) DG hy
   (sB ja hR ks _ _ (λk' jC=>hD k' (by simp[jC])) (inv.set DG hkD) hB' hK)
theorem rU{l:List Oper}{D:List Nat}{R:Array Bool->Bool}{Q':Exit->Act->World->Prop}{K:Act->World->Prop}{g:Nat}
 (hR:∀listed a w,pd md l.toArray D listed->R listed=true->K a w->wpAny P md l.toArray Q' g listed a w):
 ∀(ks:List Nat) (listed:Array Bool) (a:Act) (w:World),(∀k∈ks,k∈D)->pd md l.toArray D listed->
 Pd md l.toArray R ks listed=true->wpList P l.toArray (Dc Q' K) (pick l ks) a w->wpAny P md l.toArray Q' (ks.length+g) listed a w
 |[],listed,a,w,_,inv,hB,h=>by
  rw[List.length_nil,cY];exact hR _ _ _ inv (by simpa [Pd]using hB) h.out
 |k::ks,listed,a,w,hD,inv,hB,h=>by
  simp only[Pd,kz,sQ]at hB;have DG:k∈Region.ready md l.toArray listed:=by rw[hB.1];simp
  obtain⟨o,ho⟩:=pU (_rest:=R) (_ks:=ks) DG;have h0:l.toArray[k]?=some o:=by simpa using ho
  rw[vu ho]at h;rw[List.length_cons,show ks.length+1+g=(ks.length+g)+1 by omega];refine⟨λh1=>(by rw[hB.1]at h1;cases h1),λi hi=> ?_⟩;have hik:i=k:=by rw[hB.1]at hi;simpa using hi
  subst hik;have hw:wpOp P l.toArray (Dc Q' K) i (wpList P l.toArray (Dc Q' K) (pick l ks)) a w:=by unfold wpOp;simp only[h0];exact h
  exact wpOp_mono (λa' w' h'=>rU hR ks _ a' w' (λk' jC=>hD k' (by simp[jC])) (inv.set DG (hD i smQ)) hB.2 h') (LP hw)
theorem rV{l:List Oper}{R:Array Bool->Bool}{Q':Exit->Act->World->Prop}{K:Act->Prop}{g:Nat}{w:World}{D:List Nat}(ja:Region.noSelect l.toArray=true)
 (hQ:∀c a d v w,Q' (.panic c) (a.put d v) w->Q' (.panic c) a w)
 (hR:∀listed a,pd md l.toArray D listed->R listed=true->K a->wpAny P md l.toArray Q' g listed a w):
 ∀(ks:List Nat) (listed:Array Bool) (a:Act),(∀k∈ks,k∈D)->pd md l.toArray D listed->
 quietP md l.toArray R ks listed=true->sA P l.toArray K (pick l ks) a->wpAny P md l.toArray Q' (ks.length+g) listed a w
 |[],listed,a,_,inv,hB,h=>by
  rw[List.length_nil,cY];exact hR _ _ inv (by simpa [quietP]using hB) h
 |k::ks,listed,a,hD,inv,hB,h=>by
  simp only[quietP,kz]at hB;obtain⟨⟨hr,hf⟩,hB'⟩:=hB;have DG:k∈Region.ready md l.toArray listed:=by simpa using hr
  obtain⟨o,ho⟩:=pU (_rest:=R) (_ks:=ks) DG;have h0:l.toArray[k]?=some o:=by simpa using ho
  rw[vu ho]at h;obtain⟨v,hy,h⟩:=h;rw[List.length_cons,show ks.length+1+g=(ks.length+g)+1 by omega]
  exact wpAny_first h0 (KO ja) (λc a w h=>hQ c a _ _ w h) (ks.length+g) listed a w (KF h0 hf) DG hy
   (rV ja hQ hR ks _ _ (λk' jC=>hD k' (by simp[jC])) (inv.set DG (hD k smQ)) hB' h)
theorem Lw{l:List Oper}{D ks:List Nat}(hb:Zb6 (qA md l) l.length (D++ks) ks=true):∀k∈ks,k∈D++ks/\ZaF md l.toArray (D++ks) k:=by
 intro k hk;refine⟨by simp[hk],λt ht hnt=> ?_⟩;have h1:=ir.1 hb t (B6.2 (by simpa using ht));simp only[Kz,List.contains_iff_mem]at h1;rcases h1 with h1|h1
 . exact absurd h1 hnt
 . have h2:=ir.1 h1 k hk
   rw[List.contains_iff_mem]at h2;exact Gu l t k h2
theorem iG{C:World->World->Prop}(hC:∀w,C w w){l:List Oper}{Q:Exit->Act->World->Prop}(ja:Region.noSelect l.toArray=true)(hQ:∀c a d v w,Q (.panic c) (a.put d v) w->Q (.panic c) a w):
 ∀(r:List Part) (D:List Nat) (listed:Array Bool) (a:Act) (w:World) (n:Nat),D.length+n=l.length->pd md l.toArray D listed->partB md l.toArray (qA md l) r D listed=true->
 dM P l C Q r a w->(r.map (·.ks.length)).sum=n->wpAny P md l.toArray Q n listed a w
 |[],D,listed,a,w,n,hn,inv,hB,h,hs=>by
  simp only[partB,kz,sQ,List.isEmpty_iff,Df]at hB;obtain rfl:n=0:=by simpa using hs.symm
  exact⟨hB.2,h⟩
 | .q ks::r,D,listed,a,w,n,hn,inv,hB,h,hs=>by
   simp only[partB,kz,Df]at hB;obtain⟨⟨_,hb⟩,hq⟩:=hB;simp only[oV,List.sum_cons,Part.ks]at hs;have H:=sB (md:=md) (C:=C w) (D:=D++ks) (R:=partB md l.toArray (qA md l) r (D++ks)) ja (λej h'=>wE h') ks listed a (Lw hb) (inv.up (λt ht=>by simp[ht])) hq h
   have:=kX (Q':=Q) (g:=n-ks.length) (λej a' w' hw' hL=>
    iG hC ja hQ r (D++ks) ej a' w' (n-ks.length) (by rw[dO];omega) hL.1.2 hL.1.1 (hL.2 w' hw') (by simp only[Part.ks];omega)) _ _ _ _ (hC w) H
   rw[show ks.length+(n-ks.length)=n by omega]at this;exact this
 | .h ks::r,D,listed,a,w,n,hn,inv,hB,h,hs=>by
   simp only[partB,kz]at hB;simp only[oV,List.sum_cons,Part.ks]at hs
   have:=rU (md:=md) (D:=D++ks) (R:=partB md l.toArray (qA md l) r (D++ks)) (Q':=Q) (K:=λa' w'=>dM P l C Q r a' w') (g:=n-ks.length)
    (λej a' w' YE hR h2=>iG hC ja hQ r (D++ks) ej a' w' (n-ks.length) (by rw[dO];omega) YE hR h2 (by simp only[Part.ks];omega))
    ks listed a w (λk hk=>by simp[hk]) (inv.up (λt ht=>by simp[ht])) hB.2 h
   rw[show ks.length+(n-ks.length)=n by omega]at this;exact this
 | .p ks::r,D,listed,a,w,n,hn,inv,hB,h,hs=>by
   simp only[partB,kz]at hB;simp only[oV,List.sum_cons,Part.ks]at hs
   have:=rV (md:=md) (D:=D++ks) (R:=partB md l.toArray (qA md l) r (D++ks)) (Q':=Q) (K:=λa'=>dM P l C Q r a' w) (g:=n-ks.length) ja hQ
    (λej a' YE hR h2=>iG hC ja hQ r (D++ks) ej a' w (n-ks.length) (by rw[dO];omega) YE hR h2 (by simp only[Part.ks];omega))
    ks listed a (λk hk=>by simp[hk]) (inv.up (λt ht=>by simp[ht])) hB.2 h
   rw[show ks.length+(n-ks.length)=n by omega]at this;exact this
def Qc(l:List Oper)(r:List Part):Bool:=
 Region.noSelect l.toArray&&decide ((r.map (·.ks.length)).sum=l.length)&&partB .any l.toArray (qA .any l) r [] (Array.replicate l.length false)
theorem Za3(l:List Oper):pd .any l.toArray [] (Array.replicate l.length false):=
 ⟨by simp,λj oj _ hl=>(by rw[getD_replicate_false]at hl;cases hl),λt ht _=>getD_in (by simpa using ht) (getD_replicate_false _ _)⟩
theorem rT{id:Nat}{Q:Exit->Act->World->Prop}{a:Act}{w:World}{l:List Oper}(C:World->World->Prop)(hC:∀w,C w w)(Na:C w w.drew)(ks:List Nat)(r:List Part)(hm:P.follows .mixedOrders=true)
 (hQ:∀c a d v w,Q (.panic c) (a.put d v) w->Q (.panic c) a w)
 (hB:Qc l (.q ks::r)=true)
 (h:wpQuiet P l.toArray (C w) (λa'=>∀w',C w w'->dM P l C Q r a' w') (pick l ks) a):(Code.region id l.toArray true).wp P Q a w:=by
 simp only[Qc,kz,sQ]at hB;obtain⟨⟨ja,hs⟩,hB⟩:=hB;refine wp_region_any hm ?_;simp only[partB,kz,Df]at hB;obtain⟨⟨_,hb⟩,hq⟩:=hB;simp only[oV,List.sum_cons,Part.ks]at hs;have H:=sB (md:= .any) (C:=C w) (D:=[]++ks) (R:=partB .any l.toArray (qA .any l) r ([]++ks)) ja (λej h'=>wE h') ks _ a (Lw hb) ((Za3 l).up (λt ht=>by cases ht)) hq h
 have:=kX (Q':=Q) (g:=l.length-ks.length) (λej a' w' hw' hL=>
  iG hC ja hQ r ([]++ks) ej a' w' (l.length-ks.length) (by simp;omega) hL.1.2 hL.1.1 (hL.2 w' hw') (by simp only[Part.ks];omega)) _ _ _ _ Na H
 rw[show ks.length+(l.length-ks.length)=l.length by omega]at this;simpa using this
theorem kU{id:Nat}{Q:Exit->Act->World->Prop}{a:Act}{w:World}{l:List Oper}(ks:List Nat)(r:List Part)(hm:P.follows .mixedOrders=true)(hQ:∀c a d v w,Q (.panic c) (a.put d v) w->Q (.panic c) a w)(hB:Qc l (.q ks::r)=true)
 (h:wpQuiet P l.toArray (λw'=>∃m,w'=w.drewN m) (λa'=>∀w',(∃m,w'=w.drewN m)->dM P l LL Q r a' w') (pick l ks) a):(Code.region id l.toArray true).wp P Q a w:=
 rT LL (λ_=>⟨0,rfl⟩) ⟨1,rfl⟩ ks r hm hQ hB h
theorem qR{id:Nat}{Q:Exit->Act->World->Prop}{a:Act}{w:World}{l:List Oper}(ks:List Nat)(r:List Part)(hm:P.follows .mixedOrders=true)(hQ:∀c a d v w,Q (.panic c) (a.put d v) w->Q (.panic c) a w)(hB:Qc l (.q ks::r)=true)
 (h:wpQuiet P l.toArray (λw'=>∃x:BX w,w'=x.w) (λa'=>∀w',(∃x:BX w,w'=x.w)->dM P l LM Q r a' w') (pick l ks) a):(Code.region id l.toArray true).wp P Q a w:=
 rT LM (λw=>⟨⟨w,bZ _ _⟩,rfl⟩) ⟨⟨w.drew,(bZ _ _).drew⟩,rfl⟩ ks r hm hQ hB h
end
section
variable{P:Program}{Q:Exit->Act->World->Prop}{r:List Part}{l:List Oper}{a:Act}{w:World}{ks:List Nat}
theorem gI{C:World->World->Prop}(h:Q .normal a w):dM P l C Q [] a w:=h
theorem fj{C:World->World->Prop}(h:wpList P l.toArray (Dc Q (λa' w'=>dM P l C Q r a' w')) (pick l ks) a w):dM P l C Q (.h ks::r) a w:=h
theorem nz{C:World->World->Prop}(h:sA P l.toArray (λa'=>dM P l C Q r a' w) (pick l ks) a):dM P l C Q (.p ks::r) a w:=h
theorem sS(h:wpQuiet P l.toArray (λw'=>∃m,w'=w.drewN m) (λa'=>∀w',(∃m,w'=w.drewN m)->dM P l LL Q r a' w') (pick l ks) a):dM P l LL Q (.q ks::r) a w:=h
theorem n9(h:wpQuiet P l.toArray (λw'=>∃x:BX w,w'=x.w) (λa'=>∀w',(∃x:BX w,w'=x.w)->dM P l LM Q r a' w') (pick l ks) a):dM P l LM Q (.q ks::r) a w:=h
end
theorem tZ{P:Program}{ops:Array Oper}{K:Act->Prop}{o:Oper}{l:List Oper}{a:Act}(h1:Region.wanted o (yielded ops a.tmps)=true)(h:∃v,(∀w,(execOp a.eval o).run P w= .ok (.value v) w)/\sA P ops K l (a.put o.dst v)):sA P ops K (o::l) a:=by
 obtain⟨v,h2,h⟩:=h;exact⟨v, .inl ⟨h1,h2⟩,h⟩
theorem Sl.word{w:World}{g off n c:Nat}{ys:List Int}(h:Sl 22 1 w (some ⟨g,off,none⟩) n c (bE ys)){k:Nat}(hk:k<ys.length):w.cell? ⟨g,off+k,none⟩=some (.int .u64 (kW ys k)):=by
 obtain⟨g',o',hA,hl,hc⟩:=h.at_ (j:=k) (by simpa [bE]using hk);injection hA with hA;injection hA with h1 h2;subst h1 h2;rw[hc,Jv hk];simp[bE]
theorem Sl.RR{w:World}{g off n c:Nat}{xs:List Value}(h:Sl 22 1 w (some ⟨g,off,none⟩) n c xs):g<w.heap.size:=by
 rcases h.2 with⟨hx,_⟩|⟨g',o',cur,hA,hC,_⟩
 . cases hx
 . have:g=g':=by cases hA;rfl
   subst this;exact hC.lt
theorem Sl.ZaN{w:World}{g off n c:Nat}{ys:List Int}(h:Sl 22 1 w (some ⟨g,off,none⟩) n c (bE ys)){i j:Nat}(hi:i<ys.length)(hj:j<ys.length):
 Sl 22 1 ((w.setCell ⟨g,off+i,none⟩ (.int .u64 (kW ys j))).setCell ⟨g,off+j,none⟩ (.int .u64 (kW ys i))) (some ⟨g,off,none⟩) n c (bE (swL ys i j)):=by
 have h1:=h.set (j:=i) (by simpa [bE]using hi) (.int .u64 (kW ys j));have h2:=h1.set (j:=j) (by simpa [bE]using hj) (.int .u64 (kW ys i));have e:bE (swL ys i j)=((bE ys).set i (.int .u64 (kW ys j))).set j (.int .u64 (kW ys i)):=by simp[bE,swL,yR]
 rw[e];exact h2
def RP(w:World)(g:Nat):Nat:=match w.heap[g]? with|some (.cells cs _ _)=>cs.size|_=>0
theorem D6{w:World}{g:Nat}{e:TypeId}{cs:Array Value}(h:CB w g e cs):RP w g=cs.size:=by unfold RP;rw[show w.heap[g]?=_ from h]
theorem Ae{w w':World}{g:Nat}(h:w'.heap[g]?=w.heap[g]?):RP w' g=RP w g:=by unfold RP;rw[h]
def vY(w:World)(g off n c:Nat)(d:Array Int)(wr:World):Prop:=Sl 22 1 wr (some ⟨g,off,none⟩) n c (bE d.toList)/\d.size=n/\Ch (At g) w wr/\RP wr g=RP w g
section
variable{w wr:World}{g off n c i j:Nat}{d:Array Int}
theorem qD(d:Array Int)(i:Nat):d[i]! =kW d.toList i:=by
 unfold kW;by_cases h:i<d.size
 . rw[getElem!_pos d i h,eY,dG (by simpa using h)];simp
 . rw[getElem!_neg d i h,eY,oY (by simpa using h)];rfl
theorem vY.word(h:vY w g off n c d wr)(hi:i<n):wr.cell? ⟨g,off+i,none⟩=some (.int .u64 d[i]!):=by
 rw[qD];exact h.1.word (by rw[Array.length_toList,h.2.1];exact hi)
theorem vY.lt(h:vY w g off n c d wr):g<wr.heap.size:=h.1.RR
theorem vY.drewN(h:vY w g off n c d wr)(q:Nat):vY w g off n c d (wr.drewN q):=⟨h.1.keep (λ_ _=>rfl),h.2.1,h.2.2.1.drewN q,(Ae rfl).trans h.2.2.2⟩
theorem vY.bl(h:vY w g off n c d wr){w':World}(hB:Below wr.heap.size wr w'):vY w g off n c d w':=⟨h.1.keep (λb hb=>hB.block b (h.1.lt hb)),h.2.1,h.2.2.1.trans (Ch.au (S:=λ_=>False) hB) (λ_ hx _=>hx.elim),(Ae (hB.block g h.lt)).trans h.2.2.2⟩
theorem size_swp(d:Array Int)(i j:Nat):(Sort.swp d i j).size=d.size:=by unfold Sort.swp;simp
theorem H7(d:Array Int)(i j:Nat):(Sort.swp d i j).toList=swL d.toList i j:=by
 unfold Sort.swp swL;rw[<-qD,<-qD];simp
theorem vY.swap(h:vY w g off n c d wr)(hi:i<n)(hj:j<n):vY w g off n c (Sort.swp d i j) ((wr.setCell ⟨g,off+i,none⟩ (.int .u64 d[j]!)).setCell ⟨g,off+j,none⟩ (.int .u64 d[i]!)):=by
 have hl:d.toList.length=n:=by rw[Array.length_toList];exact h.2.1
 refine⟨?_,by rw[size_swp];exact h.2.1,(h.2.2.1.bj _ _).bj _ _,?_⟩
 case refine_2=>
  rcases h.1.2 with⟨hx,_⟩|⟨g',o',cur,hA,hC,_⟩
  . cases hx
  . obtain rfl:g=g':=by cases hA;rfl
    rw[D6 ((hC.set (off+i) (.int .u64 d[j]!)).set (off+j) (.int .u64 d[i]!)),<-h.2.2.2,D6 hC];simp
 rw[H7,qD,qD];exact h.1.ZaN ae ae
end
end Go.Proofs.YtjkpjakodomnmaaGreatDoor
