/- The base, part 3 (merged). -/
import Derived.Test.YtjkpjakodomnmaaGreatDoorKtab
import Derived.Lib.ConvBytes
set_option linter.unusedVariables false
set_option linter.unusedSimpArgs false
set_option maxRecDepth 100000
set_option maxHeartbeats 16000000
namespace Go.Proofs.YtjkpjakodomnmaaGreatDoor
open Go.RowKit Go.Proofs.Tryz
theorem Ez(k:IntKind)(n:Int)(h1:k.min<=n)(h2:n<=k.max):(Lit.int k n).wf=true:=by simp[Lit.wf,h1,h2]
theorem ZaI(n:Int):(Lit.int .u64 (IntKind.u64.wrap n)).wf=true:=Ez _ _ (by show(0:Int)<=_;exact(iE n).1) (by show _<=(18446744073709551615:Int);have:=(iE n).2;omega)
theorem Ar.note{w w':World}{b n:Nat}{nt:Int->Option Int}(q:Nat)(c:Int)(D:DataW Unit)(hM0:Maps.IsMap D)(hD:∀x,(Lit.int .i64 x).wf=true->Maps.has D (.int .i64 x)=(nt x).isSome/\∀c,nt x=some c->∀z,D.atKey (.int .i64 x) z= .lit (.int .u64 c))
 (hq:(Lit.int .i64 (q:Int)).wf=true) (h:w'.ownsMap prog 3 (plainElem prog 22) b (n+1) (D.put (.int .i64 (q:Int)) (.lit (.int .u64 c)))):
 Ar w' b (λx=>if x=(q:Int)then some c else nt x) (n+1):=by
 have hk:WideAt.IsKeyLit (Lit.int .i64 (q:Int)):=by simp[WideAt.IsKeyLit]
 have hM:Maps.IsMap D:=hM0;refine⟨_,h,λx hx=> ?_⟩;by_cases hxq:x=(q:Int)
 . subst hxq
   simp only[cR];refine⟨by rw[Maps.has_put_same hM hk];rfl,λc' oO z=> ?_⟩;injection oO with oO;subst oO;exact Maps.atKey_put_same hM hk _ _
 . have aG:(Lit.int .i64 x)≠Lit.int .i64 (q:Int):=λh=>hxq (by injection h)
   simp only[hxq,dF];rw[Maps.has_put_other aG];exact⟨(hD x hx).1,λc' oO z=>by rw[Maps.atKey_put_other aG];exact(hD x hx).2 c' oO z⟩
theorem zQ(S:aq)(i:Nat)(e:Int)(j:Nat):((S.fail i e).a8 j).notes=(S.a8 j).notes/\((S.fail i e).a8 j).Es=(S.a8 j).Es:=by
 unfold aq.fail;split
 . simp only[aq.Db]
   by_cases hj:j=i
   . subst hj;simp
   . simp[hj]
 . exact⟨rfl,rfl⟩
theorem Yi(S:aq)(i:Nat)(b:Bool)(j:Nat):((S.on i b).a8 j).notes=(S.a8 j).notes/\((S.on i b).a8 j).Es=(S.a8 j).Es:=by
 unfold aq.on;split
 . exact zQ S i 3 j
 . split
   . exact⟨rfl,rfl⟩
   . exact zQ S i 2 j
theorem Vy(S:aq)(i:Nat)(b:Bool)(j:Nat):((S.cnt i b).a8 j).notes=(S.a8 j).notes/\((S.cnt i b).a8 j).Es=(S.a8 j).Es:=by
 unfold aq.cnt;split
 . exact Yi S i b j
 . split
   . split
     . exact zQ {S with off:=true} i 3 j
     . exact⟨rfl,rfl⟩
   . exact⟨rfl,rfl⟩
section
variable{w w':World}{d:Nat}{L:Lay}{S:aq}
theorem dw.E7(h:dw w d L S){i:Nat}(hi:i<8)(hb:∀b,Fp L b->b≠L.m i->w'.heap[b]?=w.heap[b]?)(hs:w.heap.size<=w'.heap.size)(nt:Int->Option Int)(fl:Nat)
 (hc:Ar w' (L.m i) nt fl):
 dw w' d L {S with a8:=λj=>if j=i then{S.a8 i with notes:=nt,Es:=fl}else S.a8 j}:=by
 have aG:∀b,Fp L b->L.role b≠13+i->w'.heap[b]?=w.heap[b]?:=λb hf hr=>hb b hf (by rintro rfl;exact hr (h.rm i hi))
 refine{dev:=h.dev.keep (aG d (by unfold Fp;rw[h.rd];omega) (by rw[h.rd];omega)),cg:=h.cg.keep λb bG=> ?_,cur:=h.cur.keep λb bG=> ?_,np:=h.np,nc:=h.nc,nl:=h.nl,lf:=h.lf,ex:=h.ex,FG:= ?_,Jk:=λj hj=>(h.Jk j hj).keep λb bG=>aG b (by unfold Fp;rw[h.rh j hj b bG];omega) (by rw[h.rh j hj b bG];omega),a8:=λj hj=> ?_,IL:=λj hj=> ?_,rd:=h.rd,rp:=h.rp,rc:=h.rc,rl:=h.rl,rt:=h.rt,rm:=h.rm,rh:=h.rh,fr:=λb bG=>cD (h.fr b bG) hs}
 . have:L.pb=b:=by simpa [ah]using bG
   subst this;exact aG _ (by unfold Fp;rw[h.rp];omega) (by rw[h.rp];omega)
 . have:L.cb=b:=by simpa [ah]using bG
   subst this;exact aG _ (by unfold Fp;rw[h.rc];omega) (by rw[h.rc];omega)
 . obtain⟨cs,h1,h2⟩:=h.FG
   exact⟨cs,h1.keep (aG _ (by unfold Fp;rw[h.rl];omega) (by rw[h.rl];omega)),h2⟩
 . have:=(h.a8 j hj).keep (aG _ (by unfold Fp;rw[h.rt j hj];omega) (by rw[h.rt j hj];omega))
   by_cases eb:j=i
   . subst eb;simpa [pG]using this
   . simpa [pG,eb]using this
 . by_cases eb:j=i
   . subst eb;simpa using hc
   . have:=(h.IL j hj).keep (aG _ (by unfold Fp;rw[h.rm j hj];omega) (by rw[h.rm j hj];omega))
     simpa [eb]using this
end
theorem TL(w:World)(d:Nat)(L:Lay)(S:aq)(h:dw w d L S)(i:Nat)(hi:i<8)(off:Int)(mL:0<=off/\off<18446744073709551616)(hf:(S.a8 i).Es<1000000000)(hh:∀l∈S.bA,l.bL.length<1000000):
 Calls prog 110 #[.pointer (some ⟨L.t i,0,none⟩), .int .u64 off] w λe w'=>e= .returned (.tuple #[])/\dw w' d L (S.flush i off)/\Ch (Fp L) w w':=by
 have h0:=h.t0 hi;have hl:=h.AR hi;have H:=ag h;obtain⟨o1,o2⟩:=mL;have HH:=ag hh;clear h hh;obtain⟨b,hb⟩:=aH (S.Sz off);have bG:decide (off<(S.bA.length:Int)*64)=b:=hb;cases dP:S.lG b
 . have HE:Hid (S.flush i off=S.cnt i b):=by show _=_;simp[aq.flush,hb,dP]
   have BD:Hid (Calls prog 143 #[.pointer (some ⟨L.t i,0,none⟩), .bool b] w λe w'=>e= .returned (.bool false)/\dw w' d L (S.cnt i b)/\Ch (Fp L) w w'):=by
    have:=kR w d L S H.out i hi b;rwa[dP]at this
   clear hb dP;go_enter func110,ntmps110
   go_wp2_with (first|(go_at_call 88;refine(uH _ d L S H.out).mono ?_;rintro e w' ⟨rfl,rfl⟩)|(go_at_call 143;(try rw[bG]);refine BD.out.mono ?_;rintro e w1 ⟨rfl,hD,hC⟩;have HD:=ag hD;have HC:=ag hC;clear hD hC))
   exact bH (v:= .tuple #[]) (by simp[results,results110,go_sem]) rfl (by rw[HE.out];exact⟨rfl,HD.out,HC.out⟩)
 . obtain rfl:=oC dP
   obtain⟨oL,nP⟩:=FQ hb o1;obtain⟨q,hq⟩:=aH ((off/64).toNat);rw[hq]at oL nP
   have HE:Hid (S.flush i off=(S.cnt i true).note i q):=by
    show _=_
    unfold aq.flush;rw[hb,dP,aA rfl,hq]
   have BD:Hid (Calls prog 143 #[.pointer (some ⟨L.t i,0,none⟩), .bool true] w λe w'=>e= .returned (.bool true)/\dw w' d L (S.cnt i true)/\Ch (Fp L) w w'):=by
    have:=kR w d L S H.out i hi true;rwa[dP]at this
   have x8:=ag (xU S i true).1;have HQ:=ag nP;have K9:=H.out.nl;have Zev:IntKind.i64.wrap (off/64)=(q:Int):=by rw[nP];exact b9 _ ae
   clear hb dP hq;go_enter func110,ntmps110
   go_upto_region 3 with(first|(go_at_call 88;refine(uH _ d L S H.out).mono ?_;rintro e w' ⟨rfl,rfl⟩)|(go_at_call 143;(try rw[bG]);refine BD.out.mono ?_;rintro e w1 ⟨rfl,hD,hC⟩;have k0:=hD.t0 hi;have k1:=hD.AR hi;have k2:=hD.lt;have k3:=hD.FI;rw[x8.out]at k3;have HD:=ag hD;have HC:=ag hC;clear hD hC))
   have hqc:q<(S.cnt i true).bA.length:=by rw[x8.out];exact oL
   obtain⟨cs,hL,hLs,Xi⟩:=HD.out.FG;obtain⟨l1,l2⟩:=Xi q hqc;have gq:=hL.ik l1;have rI:=hL.ik l2;rw[show 2*q=q*2 by omega]at gq rI;have iW:=hL.lt;have h3:=HD.out.t3 hi;obtain⟨D,cL,o6⟩:=HD.out.IL i hi;have HO:=ag cL;have LH:=ag o6;obtain⟨dn,CH⟩:=aH ((S.cnt i true).bA[q].done);obtain⟨hn,hhn⟩:=aH ((S.cnt i true).bA[q].bL.length);obtain⟨fl,Bn⟩:=aH (((S.cnt i true).a8 i).Es);rw[CH]at gq;rw[hhn]at rI;rw[Bn]at HO;have HN:=ag (And.intro CH (And.intro hhn Bn));have hwq:(Lit.int .i64 (q:Int)).wf=true:=Ez _ _ (by show(-9223372036854775808:Int)<=_;omega) (by show(_:Int)<=9223372036854775807;omega);have hwc:(Lit.int .u64 (IntKind.u64.wrap (dn+(hn:Int)))).wf=true:=ZaI _;have Zdh:fl<maxLen:=by unfold maxLen;rw[<-Bn,(Vy S i true i).2];omega
   have Bf:IntKind.u64.wrap (hn:Int)=(hn:Int):=bY _ (by have:=HH.out ((S.cnt i true).bA[q]) (by rw[<-x8.out];exact fq hqc);omega);clear hL hLs Xi l1 l2 cL o6 CH hhn Bn;refine b_ 16 krQ krQ ?_;simp only[List.take_succ_cons,List.take_zero,jm,iq];repeat(go_big_quiet_step (fail))
   refine cE ?_;rintro _ ⟨nq,rfl⟩;refine wpList_mapUpdate_own _ rfl _ _ _ 159 rfl 3 22 (Ky ng) pE _ (L.m i) fl D rfl HO.out Zdh _ _ (.int .i64 (q:Int)) rfl rfl (PH ng hwq) _ [] (plainElem_int m_ hwc) ?_;intro w2 WK UY;have w_:=ag WK;have mV:=ag UY;clear WK UY;go_wp2;go_end0
   rw[HE.out];have hN:=Ar.note (w:=w1) q _ D HO.out.isMap LH.out hwq w_.out;refine⟨rfl,?_,HC.out.trans (T:=At (L.m i)) ⟨mV.out.os,mV.out.tape,mV.out.output,mV.out.size,λb hb hS=>mV.out.block b hb (λh=>hS (by injection h))⟩ (λb hb _=>by rw[show b=L.m i from hb];unfold Fp;rw[HD.out.rm i hi];omega)⟩
   have hS:(S.cnt i true).note i q={S.cnt i true with a8:=λj=>if j=i then{(S.cnt i true).a8 i with notes:=(λx=>if x=(q:Int)then some (IntKind.u64.wrap (dn+(hn:Int)))else((S.cnt i true).a8 i).notes x),Es:=fl+1}else(S.cnt i true).a8 j}:=by
    unfold aq.note;simp only[dG hqc,Option.map_some,Option.getD_some];rw[HN.out.1,HN.out.2.1,HN.out.2.2]
   rw[hS];exact HD.out.E7 hi (λb hf hb=>mV.out.block b (HD.out.fr b hf) (λh=>hb (by injection h))) mV.out.size _ _ hN
theorem wj{P:Program}{k:TypeId}{R:Value->Option (DataW Unit×List MemPlace)}{w w':World}{b r n:Nat}{D:DataW Unit}{left:Lit->Bool}{cnt:Nat}(h:w.ranges P k R b r n D left cnt)
 (h1:w'.heap[b]?=w.heap[b]?) (h2:w'.heap[r]?=w.heap[r]?):w'.ranges P k R b r n D left cnt:=by
 obtain⟨es,clock,since,seen,c0,a1,a2,a3,a4,a5,a6⟩:=h;exact⟨es,clock,since,seen,c0,h1.trans a1,a2,a3,a4,h2.trans a5,a6⟩
def eH(S:aq)(i:Nat)(left:Lit->Bool)(q:Nat):Nat:=if left (.int .i64 (q:Int))=true then 0 else S.due i q
def Sr(w:World)(d i:Nat)(L:Lay)(S:aq)(D:DataW Unit)(r:Nat)(wr:World)(left:Lit->Bool)(cnt:Nat):Prop:=
 wr.ranges prog 3 (plainElem prog 22) (L.m i) r (S.a8 i).Es D left cnt/\
  (∃L2,L2.t=L.t/\L2.m=L.m/\L2.role=L.role/\dw wr d L2 (S.upto (eH S i left)))/\Ch (λb=>Fp L b\/b=r) w wr
section
variable{S:aq}{N:Nat}{i:Nat}
theorem DU(D:DataW Unit)(h:Good S N)(hi:i<8)(hn:S.bA.length<=4096)(hD:∀x,(Lit.int .i64 x).wf=true->Maps.has D (.int .i64 x)=((S.a8 i).notes x).isSome/\∀c,(S.a8 i).notes x=some c->∀z,D.atKey (.int .i64 x) z= .lit (.int .u64 c)):
 eH S i (Maps.has D)=λ_=>0:=by
 funext q
 unfold eH;split
 . rfl
 . rename_i hh
   unfold aq.due;cases G8:(S.a8 i).notes (q:Int)with
   |none=>rfl
   |some c=>
    exfalso
    obtain⟨q',l,b1,b2,_⟩:=(h.nt i hi).2 _ _ G8;have wJ:=(ki.1 b1).1;have QD:(Lit.int .i64 (q:Int)).wf=true:=Ez _ _ (by show(-9223372036854775808:Int)<=_;omega) (by show(_:Int)<=9223372036854775807;omega);rw[(hD _ QD).1,G8]at hh;exact hh rfl
theorem JA(left:Lit->Bool)(h:∀kl,left kl=false):eH S i left=S.due i:=by
 funext q
 unfold eH;rw[h];rfl
theorem wU(left:Lit->Bool)(q:Nat):eH S i (λz=>left z&& !z.sameKey (.int .i64 (q:Int)))=λj=>if j=q then S.due i q else eH S i left j:=by
 funext j
 unfold eH;by_cases hj:j=q
 . subst hj
   simp[Lit.sameKey]
 . have aG:¬(j:Int)=(q:Int):=by omega
   simp[Lit.sameKey,hj,aG]
theorem Z6{q:Nat}{c:Int}{l:Ln}(hn:(S.a8 i).notes (q:Int)=some c)(hl:S.bA[q]?=some l):S.due i q=(c-l.done).toNat:=by
 unfold aq.due;rw[hn,hl];rfl
end
theorem Ib(w:World)(d:Nat)(L:Lay)(S:aq)(N:Nat)(h:dw w d L S)(i:Nat)(hi:i<8)(hc:S.lG true=true)(hG:Good (S.cnt i true) N)(hN:N<1000000000):
 Calls prog 111 #[.pointer (some ⟨L.t i,0,none⟩)] w λe w'=>e= .returned (.tuple #[])/\(∃L2,L2.t=L.t/\L2.role=L.role/\dw w' d L2 (S.fence i))/\Ch (Fp L) w w':=by
 have h0:=h.t0 hi;have hl:=h.AR hi;have H:=ag h
 have HC:Hid (Calls prog 143 #[.pointer (some ⟨L.t i,0,none⟩), .bool true] w λe w'=>e= .returned (.bool true)/\dw w' d L (S.cnt i true)/\Ch (Fp L) w w'):=by
  have:=kR w d L S h i hi true;rwa[hc]at this
 have HE:Hid (S.fence i=(((S.cnt i true).upto ((S.cnt i true).due i))).fN i):=by show _=_;unfold aq.fence;rw[aA hc]
 have HG:=ag hG;clear h hc hG;obtain⟨T,hT⟩:=aH (S.cnt i true);rw[hT]at HC HE HG;clear hT;go_enter func111,ntmps111
 go_upto_region 1 with(first|(go_at_call 143;refine HC.out.mono ?_;rintro e w1 ⟨rfl,hD,hC⟩;have HD:=ag hD;have yd:=ag hC;clear hD hC))
 have h3:=HD.out.t3 hi;have hl3:=HD.out.AR hi;obtain⟨D,cL,o6⟩:=HD.out.IL i hi;have HO:=ag cL;have LH:=ag o6;clear cL o6;go_wp2_with (first|(at_range;refine wpList_range_own _ rfl _ 159 rfl 3 22 (Ky ng) pE _ (L.m i) _ D rfl HO.out ?_;intro w0 Zbm WZ K7)|go_in)
 go_frame
 have hmr:L.role w1.heap.size=0:=Decidable.byContradiction λaG=>by have:=HD.out.fr _ aG;omega
 have Gf:Sr w d i L T D w1.heap.size w0 (Maps.has D) (Maps.size D):=by
  refine⟨Zbm,⟨L,rfl,rfl,rfl,?_⟩,?_⟩
  . rw[DU D HG.out hi HD.out.nl.2 LH.out,LR HG.out hN]
    exact HD.out.keep (λb hb=>WZ.block b (HD.out.fr b hb) smQ) WZ.size
  . exact(yd.out.mono (λb h _=> .inl h)).trans (T:=λ_=>False) ⟨WZ.os,WZ.tape,WZ.output,WZ.size,λb hb _=>WZ.block b hb smQ⟩ (λb hb=>hb.elim)
 have jc:=ag Gf;obtain⟨r,hr⟩:=aH w1.heap.size;have hlr:w.heap.size<=r:=by rw[<-hr];exact yd.out.size
 rw[hr]at hmr jc |-;clear Zbm WZ K7 Gf h3 hl3 HO HD yd h0 hl hr HC H;go_loopw [2,3,4,24,25,26,27,28,29,30,31,32,33,34,35,36,37,38,39,40,41,42,43,44,45,46,47,48,49,50,51,52] (λ_ _ _ _ _ _ _ _ _ _ _ _ _ _ _ _ _ _ _ _ _ _ _ _ _ _ _ _ _ _ _ _ wr=>∃left cnt,Sr w d i L T D r wr left cnt) (λ_ _ _ _ _ _ _ _ _ _ _ _ _ _ _ _ _ _ _ _ _ _ _ _ _ _ _ _ _ _ _ _ wr=>wr.rangeLeft (L.m i) r)
 case atStart=>exact⟨_,_,jc.out⟩
 case round=>
  clear jc;obtain⟨left,cnt,xK,⟨L2,hLt,hLm,hLr,hD⟩,py⟩:=hrel;have HRG:=ag xK;have HD:=ag hD;have yd:=ag py;have HLt:=ag hLt;have HLm:=ag hLm;have HLr:=ag hLr;have hle:=xK.left_eq;have HLE:=ag hle;have a0:=hD.t0 hi;have a1:=hD.AR hi;have a2:=hD.lt;have a3:=hD.FI;have a4:=hD.t3 hi;have K9:=hD.nl;obtain⟨cs,hL,hLs,Xi⟩:=hD.FG;have iW:=hL.lt;have HL:=ag hL;have HLC:=ag Xi;rw[hLt]at a0 a1 a4;rw[hLm]at a4;rw[(cd _).2]at a3 K9;clear xK hD py hLt hLm hLr hL hLs Xi hle;go_wp2_with (first|(at_next;refine wpList_next_ranges_ii _ rfl _ rfl 3 22 .i64 .u64 (Ky ng) ng m_ (L.m i) _ _ _ _ _ rfl HRG.out ?_ ?_)|go_in)
  . intro Jq vK
    obtain⟨es,clock,N0,_⟩:=HRG.out.owns;have gq:=λty=>AW (P:=prog) wr 159 ty 3 22 pE (L.m i) es clock N0
    have HL0:=ag vK;clear vK Jq;go_wp2;go_end0
    rw[HE.out];have hK:eH T i left=T.due i:=JA left HL0.out;have hD:=HD.out;rw[hK]at hD;have Ej:L.m i<wr.heap.size:=(Dj.1 N0).1
    have dy:∀b,b≠L.m i->(wr.heap.setIfInBounds (L.m i) (Obj.map #[] clock))[b]?=wr.heap[b]?:=by
     intro b hb;rw[xg,ax (λh=>hb h.symm)]
    refine⟨rfl,⟨L2,HLt.out,HLr.out,?_⟩,?_⟩
    . have hN:=Ar.VA wr (L.m i) clock Ej
      rw[<-HLm.out]at hN dy |-;exact hD.E7 hi (λb _ hb=>dy b hb) smQ (λ_=>none) 0 hN
    . refine⟨yd.out.os,yd.out.tape,yd.out.output,by simpa using yd.out.size,λb hb hf=> ?_⟩
      have hbm:b≠L.m i:=by
       rintro rfl;apply hf
       unfold Fp;have:=HD.out.rm i hi;rw[HLm.out,HLr.out]at this;rw[this];omega
      exact(dy b hbm).trans (yd.out.block b hb (by
       rintro(h|h)
       . exact hf h
       . omega))
  . intro x c w2 Zfa hwx hwc Ze SR Zbl xm UY DD tH
    have Zr:=Maps.has_true_of_atKey SR;rw[(LH.out x hwx).1]at Zr;obtain⟨c',oO⟩:=Option.isSome_iff_exists.1 Zr
    obtain rfl:c=c':=by
     have h1:=(LH.out x hwx).2 c' oO .nil;rw[SR .nil]at h1;injection h1 with h1;injection h1 with h1
    obtain⟨q,l,hl,rfl,Jq,gq⟩:=(HG.out.nt i hi).2 x c oO;have UG:q<T.bA.length:=(ki.1 hl).1;have M1:=Z6 oO hl;have tC:eH T i left q=0:=by unfold eH;rw[aA Ze]
    have CH:=HG.out.ln q l hl
    have WY:∀b,b≠r->w2.heap[b]?=wr.heap[b]?:=λb hb=>by
     by_cases xN:b<wr.heap.size
     . exact UY.block b xN (λh=>hb (by injection h))
     . rw[PV ae,PV ae]
    have DE:∀b,Fp L2 b->b≠r:=by
     rintro b hb rfl;apply hb
     rw[HLr.out];exact hmr
    have o6:dw w2 d L2 (T.upto (eH T i left)):=HD.out.keep (λb hb=>WY b (DE b hb)) UY.size;have gg:q<(T.upto (eH T i left)).bA.length:=by rw[(cd _).2];exact UG
    have tG:(T.upto (eH T i left)).bA[q]=l:=by
     have:=jz (S:=T) (eH T i left) q;rw[dG gg,hl,tC]at this;simp only[Option.map_some,sP]at this;rw[this];have:=mW HG.out hl hN 0 (im _);simp only[Int.natCast_zero,Int.add_zero]at this;simp[this]
    obtain⟨b1,b2⟩:=HLC.out q gg;rw[tG]at b1 b2
    have Zdm:w2.cell? ⟨L2.lb,q*2,none⟩=some (.int .u64 l.done):=by
     have:=(HL.out.keep (w':=w2) (WY _ (DE _ (by unfold Fp;rw[HD.out.rl];omega)))).ik b1;rwa[show 2*q=q*2 by omega]at this
    have e0:w2.cell? ⟨L.t i,0,none⟩=some (.pointer (some ⟨d,0,none⟩)):=by have:=o6.t0 hi;rwa[HLt.out]at this
    have e1:L.t i<w2.heap.size:=by have:=o6.AR hi;rwa[HLt.out]at this
    have e2:=o6.lt;have e3:w2.cell? ⟨d,2,none⟩=some (.slice (some ⟨L2.lb,0,none⟩) T.bA.length T.bA.length):=by have:=o6.FI;rwa[(cd _).2]at this
    have e4:L2.lb<w2.heap.size:=by omega
    obtain⟨dn,Zx⟩:=aH l.done;rw[Zx]at Zdm M1 gq CH;have HDN:=ag Zx;have VT:=ag Zbl;have Zaz:=ag o6;have mV:=ag UY;have Zcd:=ag M1;have x8:=ag tG;have HHL:=ag hl;have HK0:=ag tC;have HGB:=ag WY;have V4:=ag CH;have Av:=ag DE;have Ze0:c<=dn+(l.bL.length:Int):=gq;clear SR Zbl UY WY o6 tG Zr oO M1 Zx tC b1 b2 hl CH a0 a1 a2 a3 a4 iW DE gq;by_cases WW:dn<c
    . obtain⟨k,hk⟩:∃k:Nat,c-dn=(k:Int):=⟨(c-dn).toNat,by omega⟩
      have iy:1<=k:=by omega
      have kG:k<=l.bL.length:=by omega
      have hu1:IntKind.u64.wrap (c-dn)=(k:Int):=by rw[hk];exact bY _ (by have:=V4.out.2.1;have:=V4.out.1;omega)
      have hu2:IntKind.i64.wrap (k:Int)=(k:Int):=b9 _ (by have:=V4.out.2.1;have:=V4.out.1;omega)
      have vZ:Hid (Calls prog 144 #[.pointer (some ⟨d,0,none⟩), .int .i64 (q:Int), .int .i64 (k:Int)] w2 λe w'=>e= .returned (.tuple #[])/\(∃A c,dw w' d (L2.pO q A c) ((T.upto (eH T i left)).fS q k))/\Ch (λb=>b=L2.pb\/b=L2.lb) w2 w'):=by
       refine JE w2 d L2 (T.upto (eH T i left)) Zaz.out q k gg iy (by rw[x8.out];exact kG) (λp hp=> ?_);rw[x8.out]at hp;obtain⟨m,fv,oM⟩:=V4.out.2.2 p hp;rw[(cd _).1,HG.out.np];omega
      have Tb:=ag hk;clear hk;go_wp2_with (first|(go_at_call 144;refine vZ.out.mono ?_;rintro e w3 ⟨rfl,⟨A,c3,Re⟩,o7⟩;have XH:=ag Re;have fo:=ag o7;clear Re o7))
      have hfp:∀b,b=L2.pb\/b=L2.lb->Fp L2 b:=by
       rintro b (rfl|rfl)
       . unfold Fp;rw[HD.out.rp];omega
       . unfold Fp;rw[HD.out.rl];omega
      have G6:¬(r=L2.pb\/r=L2.lb):=λh=>Av.out r (hfp r h) rfl
      have hrm:=HD.out.rm i hi;rw[HLm.out]at hrm
      have NV:¬(L.m i=L2.pb\/L.m i=L2.lb):=by
       rintro(h|h)
       . rw[h,HD.out.rp]at hrm;omega
       . rw[h,HD.out.rl]at hrm;omega
      have Ej:L.m i<w2.heap.size:=by have:=Zaz.out.fr (L.m i) (by rw[hrm];omega);exact this
      refine⟨⟨_,_,wj VT.out ?_ ?_,⟨L2.pO q A c3,HLt.out,HLm.out,HLr.out,?_⟩,?_⟩,?_⟩
      . exact fo.out.block _ Ej NV
      . exact fo.out.block r (by have:=HRG.out.lt;omega) G6
      . rw[wU,Zcd.out]
        have:=C2 HG.out hN (eH T i left) HHL.out kG HK0.out;have e9:(c-dn).toNat=k:=by rw[Tb.out];rfl
        rw[e9,<-this];exact XH.out
      . refine(yd.out.trans (T:=At r) ⟨mV.out.os,mV.out.tape,mV.out.output,mV.out.size,λb hb hS=>HGB.out b hS⟩ (λb hb _=> .inr hb)).trans fo.out (λb hb _=> .inl ?_)
        have:=hfp b hb;unfold Fp at this |-;rwa[HLr.out]at this
      . have hx:=wj VT.out (fo.out.block _ Ej NV) (fo.out.block r (by have:=HRG.out.lt;omega) G6)
        rw[hx.left_eq,HLE.out];exact xm
    . go_wp2
      refine⟨⟨_,_,VT.out,⟨L2,HLt.out,HLm.out,HLr.out,?_⟩,?_⟩,?_⟩
      . rw[wU,Zcd.out]
        have e9:(λj=>if j=q then(c-dn).toNat else eH T i left j)=eH T i left:=by
         funext j
         split
         . rename_i hj;subst hj;rw[HK0.out];omega
         . rfl
        rw[e9];exact Zaz.out
      . exact yd.out.trans (T:=At r) ⟨mV.out.os,mV.out.tape,mV.out.output,mV.out.size,λb hb hS=>HGB.out b hS⟩ (λb hb _=> .inr hb)
      . rw[VT.out.left_eq,HLE.out];exact xm
def DV(F:Nat->Prop)(d:Nat)(t:Nat->Nat)(w:World)(S:aq):Prop:=(∀b,w.heap.size<=b->F b)/\∃L,L.t=t/\dw w d L S/\∀b,Fp L b->F b
section
variable{F G:Nat->Prop}{d:Nat}{t:Nat->Nat}{w w':World}{S:aq}
theorem DV.mono(h:DV F d t w S)(hG:∀b,F b->G b):DV G d t w S:=by
 obtain⟨h1,L,h2,h3,h4⟩:=h;exact⟨λb hb=>hG b (h1 b hb),L,h2,h3,λb hb=>hG b (h4 b hb)⟩
theorem DV.ch{T:Nat->Prop}(h:DV F d t w S)(hc:Ch T w w')(hT:∀b,b<w.heap.size->F b->¬T b):DV F d t w' S:=by
 obtain⟨h1,L,h2,h3,h4⟩:=h;exact⟨λb hb=>h1 b (f_ hc.size hb),L,h2,h3.ch hc (λb hb=>hT b (h3.fr b hb) (h4 b hb)),h4⟩
theorem DV.below(h:DV F d t w S)(hb:Below w.heap.size w w'):DV F d t w' S:=h.ch (T:=λ_=>False) (Ch.au hb) (λ_ _ _ hf=>hf)
theorem DV.bx(h:DV F d t w S)(x:BX w):DV F d t x.w S:=h.below x.below
theorem DV.alloc(h:DV F d t w S)(o:Obj):DV F d t (w.alloc o) S:=h.below (ai (bZ _ _) _)
theorem DV.less(h:DV F d t w S)(hb:Below w.heap.size w w')(X:Nat->Prop)(hX:∀b,X b->w.heap.size<=b/\b<w'.heap.size):DV (λb=>F b/\¬X b) d t w' S:=by
 obtain⟨h1,L,h2,h3,h4⟩:=h;exact⟨λb bG=>⟨h1 b (f_ hb.size bG),λhx=>by have:=hX b hx;omega⟩,L,h2,h3.below hb,λb bG=>⟨h4 b bG,λhx=>by have:=hX b hx;have:=h3.fr b bG;omega⟩⟩
end
@[go_sem] theorem m_pThread_Store (w:World) (v:Value):(method 384 87 v "Store").run prog w= .ok (172,v) w:=by kernel_rfl
@[go_sem] theorem m_pThread_Flush (w:World) (v:Value):(method 384 87 v "Flush").run prog w= .ok (110,v) w:=by kernel_rfl
@[go_sem] theorem m_pThread_Fence (w:World) (v:Value):(method 384 87 v "Fence").run prog w= .ok (111,v) w:=by kernel_rfl
abbrev Ins:=Int×Int×Int
def bw(ps:List Ins):List Value:=ps.flatMap λp=>[.int .u8 p.1, .int .u64 p.2.1, .int .u64 p.2.2]
def aq.cW(S:aq)(i:Nat)(p:Ins):aq:=if p.1=1 then S.store i p.2.1 p.2.2 else if p.1=2 then S.flush i p.2.1 else S.fence i
def aq.nv(S:aq)(i:Nat)(ps:List Ins):aq:=ps.foldl (λS p=>S.cW i p) S
theorem Mh(S:aq)(i:Nat)(ps:List Ins)(p:Ins):S.nv i (ps++[p])=(S.nv i ps).cW i p:=by simp[aq.nv]
theorem Good.cW{S:aq}{N:Nat}(h:Good S N){i:Nat}(hi:i<8)(p:Ins)(hp:0<=p.2.1)(hN:N<1000000000):Good (S.cW i p) (N+1):=by
 unfold aq.cW;split
 . exact h.store i _ _ hp
 . split
   . exact h.flush i _ hp hN
   . exact(h.fence hi hN).mono (lM _)
theorem Good.nv{i:Nat}(hi:i<8):∀(ps:List Ins) {S:aq} {N:Nat},Good S N->(∀p∈ps,0<=p.2.1)->N+ps.length<1000000000->Good (S.nv i ps) (N+ps.length):=by
 intro ps;induction ps with
 |nil=>intro S N h _ _;exact h
 |cons p ps ih=>
  intro S N h hp hN;simp only[List.length_cons]at hN |-;have:=ih (h.cW hi p (hp p smQ) ae) (λq hq=>hp q (by simp[hq])) ae;rw[show N+(ps.length+1)=N+1+ps.length by omega];exact this
theorem Good.bL{S:aq}{N:Nat}(h:Good S N)(hN:N<1000000):∀l∈S.bA,l.bL.length<1000000:=by
 intro l hl;obtain⟨q,hq,rfl⟩:=y_ hl;obtain⟨a,b,_⟩:=h.ln q S.bA[q] (by simp[hq]);omega
section
variable{F:Nat->Prop}{d:Nat}{t:Nat->Nat}{w:World}{S:aq}{N:Nat}
theorem O5(h:DV F d t w S)(i:Nat)(hi:i<8)(hG:Good S N)(hN:N<1000000)(off v:Int)(ho:0<=off/\off<18446744073709551616):
 Calls prog 172 #[.pointer (some ⟨t i,0,none⟩), .int .u64 off, .int .u64 v] w λe w'=>e= .returned (.tuple #[])/\DV F d t w' (S.store i off v)/\Ch F w w':=by
 obtain⟨h1,L,rfl,h3,h4⟩:=h;refine(TH w d L S h3 i hi off ho v (hG.bL hN)).mono ?_;rintro e w' ⟨rfl,L2,hL2,o6,cz,Xj⟩;refine⟨rfl,⟨λb hb=>h1 b (f_ cz.size hb),L2,hL2,o6,λb hb=> ?_⟩,cz.mono (λb hb _=>h4 b hb)⟩;rcases Xj b hb with h|h
 . exact h4 b h
 . exact h1 b h
theorem Jy(h:DV F d t w S)(i:Nat)(hi:i<8)(hG:Good S N)(hN:N<1000000)(off:Int)(ho:0<=off/\off<18446744073709551616):
 Calls prog 110 #[.pointer (some ⟨t i,0,none⟩), .int .u64 off] w λe w'=>e= .returned (.tuple #[])/\DV F d t w' (S.flush i off)/\Ch F w w':=by
 obtain⟨h1,L,rfl,h3,h4⟩:=h;refine(TL w d L S h3 i hi off ho (by have:=(hG.nt i hi).1;omega) (hG.bL hN)).mono ?_;rintro e w' ⟨rfl,o6,cz⟩;exact⟨rfl,⟨λb hb=>h1 b (f_ cz.size hb),L,rfl,o6,h4⟩,cz.mono (λb hb _=>h4 b hb)⟩
theorem Jz(h:DV F d t w S)(i:Nat)(hi:i<8)(hG:Good S N)(hN:N<1000000):
 Calls prog 111 #[.pointer (some ⟨t i,0,none⟩)] w λe w'=>e= .returned (.tuple #[])/\DV F d t w' (S.fence i)/\Ch F w w':=by
 obtain⟨h1,L,rfl,h3,h4⟩:=h;cases hc:S.lG true
 . refine(EL w d L S h3 i hi hc).mono ?_
   rintro e w' ⟨rfl,o6,cz⟩;have hE:S.fence i=S.cnt i true:=by unfold aq.fence;rw[hc];rfl
   rw[hE];exact⟨rfl,⟨λb hb=>h1 b (f_ cz.size hb),L,rfl,o6,h4⟩,cz.mono (λb hb _=>h4 b hb)⟩
 . refine(Ib w d L S N h3 i hi hc (hG.cnt i true) ae).mono ?_
   rintro e w' ⟨rfl,⟨L2,hL2,CG,o6⟩,cz⟩;refine⟨rfl,⟨λb hb=>h1 b (f_ cz.size hb),L2,hL2,o6,λb hb=>h4 b ?_⟩,cz.mono (λb hb _=>h4 b hb)⟩;unfold Fp at hb |-;rwa[CG]at hb
end
theorem Uk{F:Nat->Prop}{d:Nat}{t:Nat->Nat}(w:World){S:aq}{N:Nat}(h:DV F d t w S)(i:Nat)(hi:i<8)(hG:Good S N)(hN:N<1000000)(op off v:Int)(ho:0<=off/\off<18446744073709551616)(hop:1<=op/\op<=3):
 Calls prog 87 #[.agg #[.int .u8 op, .int .u64 off, .int .u64 v], .iface 87 (.pointer (some ⟨t i,0,none⟩))] w λe w'=>e= .returned (.tuple #[])/\DV F d t w' (S.cW i (op,off,v))/\Ch F w w':=by
 have H:=ag h;have HG:=ag hG;have HO:=ag ho;clear h hG ho;rcases(by omega:op=1\/op=2\/op=3)with rfl|rfl|rfl
 . have HE:Hid (S.cW i (1,off,v)=S.store i off v):=by show _=_;simp[aq.cW]
   go_enter func87,ntmps87
   go_wp2_with (first|(go_at_call 172;refine(O5 (H.out.alloc _) i hi HG.out hN off v HO.out).mono ?_;rintro e w1 ⟨rfl,hD,hC⟩;have HD:=ag hD;have HC:=ag hC;clear hD hC))
   go_end0
   rw[HE.out];exact⟨rfl,HD.out,(Ch.au (ai (bZ _ _) _)).trans HC.out (λ_ h _=>h)⟩
 . have HE:Hid (S.cW i (2,off,v)=S.flush i off):=by show _=_;simp[aq.cW]
   go_enter func87,ntmps87
   go_wp2_with (first|(go_at_call 110;refine(Jy (H.out.alloc _) i hi HG.out hN off HO.out).mono ?_;rintro e w1 ⟨rfl,hD,hC⟩;have HD:=ag hD;have HC:=ag hC;clear hD hC))
   go_end0
   rw[HE.out];exact⟨rfl,HD.out,(Ch.au (ai (bZ _ _) _)).trans HC.out (λ_ h _=>h)⟩
 . have HE:Hid (S.cW i (3,off,v)=S.fence i):=by show _=_;simp[aq.cW]
   go_enter func87,ntmps87
   go_wp2_with (first|(go_at_call 111;refine(Jz (H.out.alloc _) i hi HG.out hN).mono ?_;rintro e w1 ⟨rfl,hD,hC⟩;have HD:=ag hD;have HC:=ag hC;clear hD hC))
   go_end0
   rw[HE.out];exact⟨rfl,HD.out,(Ch.au (ai (bZ _ _) _)).trans HC.out (λ_ h _=>h)⟩
theorem wD(p:Ins)(ps:List Ins):bw (p::ps)= .int .u8 p.1:: .int .u64 p.2.1:: .int .u64 p.2.2::bw ps:=by simp[bw]
theorem fi(ps qs:List Ins):bw (ps++qs)=bw ps++bw qs:=by simp[bw]
theorem Bc(ps:List Ins):(bw ps).length=ps.length*3:=by
 induction ps with
 |nil=>rfl
 |cons p ps ih=>rw[wD,List.length_cons,List.length_cons,List.length_cons,ih,List.length_cons];omega
theorem II(ps:List Ins):∀(k:Nat) (h:k<ps.length),(bw ps)[k*3]?=some (.int .u8 ps[k].1)/\(bw ps)[k*3+1]?=some (.int .u64 ps[k].2.1)/\(bw ps)[k*3+2]?=some (.int .u64 ps[k].2.2):=by
 induction ps with
 |nil=>intro k h;simp at h
 |cons p ps ih=>
  intro k h;cases k with
  |zero=>simp[bw]
  |succ k=>
   have:=ih k (by simpa using h);rw[wD,show(k+1)*3=k*3+1+1+1 by omega];simpa using this
theorem Sl.ins{w:World}{A:Option Addr}{m c:Nat}{ps:List Ins}(h:Sl 164 3 w A m c (bw ps)){k:Nat}(hk:k<ps.length):
 ∃g off,A=some ⟨g,off,none⟩/\g<w.heap.size/\w.cell? ⟨g,off+k*3,none⟩=some (.int .u8 ps[k].1)/\w.cell? ⟨g,off+k*3+1,none⟩=some (.int .u64 ps[k].2.1)/\w.cell? ⟨g,off+k*3+2,none⟩=some (.int .u64 ps[k].2.2):=by
 obtain⟨e1,e2,e3⟩:=II ps k hk;obtain⟨g,off,hA,hl,_⟩:=h.at_ (j:=k*3) (by rw[Bc];omega);have c1:=h.cells _ hA _ _ e1;have c2:=h.cells _ hA _ _ e2;have c3:=h.cells _ hA _ _ e3;have h1:∀j,(⟨g,off,none⟩:Addr).add j=⟨g,off+j,none⟩:=by intro j;unfold Addr.add;split<;>simp_all
 rw[h1]at c1 c2 c3;exact⟨g,off,hA,hl,c1,c2,c3⟩
def nH(p:Ins):Bool:=decide (1<=p.1)&&decide (p.1<=3)
theorem Qn(w:World)(A:Option Addr)(n c:Nat)(ps:List Ins)(hn:ps.length=n)(hm:n<=1000000000)(hS:Sl 164 3 w A n c (bw ps)):
 Calls prog 86 #[.slice A n c] w λe w'=>e= .returned (.bool (ps.all nH))/\Below w.heap.size w w':=by
 have HN:=ag hn;have HS:=ag hS;clear hn hS;go_enter func86,ntmps86
 go_wp2;go_loopw [7,4,8,9,10,11,12,13,14,15,16,17,18,19] (λi _ _ _ _ _ _ _ _ _ _ _ _ _ wr=>∃k:Nat,k<=n/\i= .int .i64 k/\(ps.take k).all nH=true/\Below w.heap.size w wr) (λi _ _ _ _ _ _ _ _ _ _ _ _ _ _=>n-(intOf i).toNat)
 case atStart=>exact⟨0,by omega,rfl,by simp,bZ _ _⟩
 case round=>
  obtain⟨k,hk,rfl,aS,hB⟩:=hrel;have HA:=ag aS;have HB:=ag hB;by_cases aM:k<n
  . have kG:k<ps.length:=by rw[HN.out];exact aM
    obtain⟨g,off,fL,hl,c1,c2,c3⟩:=(HS.out.keep (λb hb=>hB.block b (HS.out.lt hb))).ins kG;obtain⟨⟨op,of,v⟩,hp⟩:∃p,ps[k]=p:=⟨_,rfl⟩;rw[hp]at c1 c2 c3;have HP:=ag hp;subst fL;clear aS hB hp;have hgn:¬g=wr.heap.size:=by omega
    by_cases h1:op<1
    . have HR:Hid (ps.all nH=false):=all_false nH ps k kG (by rw[HP.out];simp[nH];omega)
      go_wp2;go_ret;rw[HR.out];exact⟨rfl,by have:=HB.out;exact aC⟩
    . by_cases h3:3<op
      . have HR:Hid (ps.all nH=false):=all_false nH ps k kG (by rw[HP.out];simp[nH];omega)
        go_wp2;go_ret;rw[HR.out];exact⟨rfl,by have:=HB.out;exact aC⟩
      . go_wp2
        go_roundw
        case rel=>exact⟨k+1,by omega,by go_num,Bv nH ps k kG HA.out (by rw[HP.out];simp[nH];omega),by have:=HB.out;exact aC⟩
        case measure=>simp[intOf];omega
  . clear aS hB
    have HR:Hid (ps.all nH=true):=D7 nH ps k (by rw[HN.out];exact aM) HA.out;go_wp2;go_ret;rw[HR.out];exact⟨rfl,HB.out⟩
def VJ(F:Nat->Prop)(d:Nat)(t:Nat->Nat)(i:Nat)(S:aq)(ps:List Ins)(w:World)(e:Ending)(w':World):Prop:=
 e= .returned (.int .i64 ((S.nv i ps).a8 i).err)/\DV F d t w' (S.nv i ps)/\Ch F w w'
theorem Yt{F:Nat->Prop}{d:Nat}{t:Nat->Nat}(w:World){S:aq}{N:Nat}(h:DV F d t w S)(i:Nat)(hi:i<8)(hG:Good S N)(A:Option Addr)(n c:Nat)(ps:List Ins)(hn:ps.length=n)(hS:Sl 164 3 w A n c (bw ps))(hA:∀b,ah A b->¬F b)
 (hN:N+n<1000000) (lZ:∀p∈ps,nH p=true/\0<=p.2.1/\p.2.1<18446744073709551616):
 Calls prog 57 #[.slice A n c, .iface 87 (.pointer (some ⟨t i,0,none⟩))] w (VJ F d t i S ps w):=by
 have H:=ag h;have HG:=ag hG;have HNN:=ag hn;have HS:=ag hS;have HA:=ag hA;have vZ:=ag lZ
 have HV:Hid (Calls prog 86 #[.slice A n c] w λe w'=>e= .returned (.bool true)/\Below w.heap.size w w'):=by
  have:=Qn w A n c ps hn ae hS;rwa[show ps.all nH=true from ir.2 λp hp=>(lZ p hp).1]at this
 clear h hG hn hS hA lZ;go_enter func57,ntmps57
 go_wp2_with (first|(go_at_call 86;refine HV.out.mono ?_;rintro e w1 ⟨rfl,hb⟩;obtain⟨x,rfl⟩:=aE hb;clear hb))
 have jc:Hid (DV F d t x.w S/\Ch F w x.w):=⟨H.out.bx x,Ch.au x.below⟩;obtain⟨w1,xJ⟩:=aH x.w;rw[xJ]at jc |-;clear xJ HV;go_loopw [16,6,17,18,19,20,21,22,23] (λi' _ _ _ _ _ _ _ _ wr=>∃k:Nat,k<=n/\i'= .int .i64 k/\DV F d t wr (S.nv i (ps.take k))/\Ch F w wr) (λi' _ _ _ _ _ _ _ _ _=>n-(intOf i').toNat)
 case atStart=>exact⟨0,by omega,rfl,jc.out.1,jc.out.2⟩
 case round=>
  obtain⟨k,hk,rfl,hD,hC⟩:=hrel;have HD:=ag hD;have HC:=ag hC;by_cases aM:k<n
  . have kG:k<ps.length:=by rw[HNN.out];exact aM
    obtain⟨g,off,fL,hl,c1,c2,c3⟩:=(HS.out.ch hC HA.out).ins kG;obtain⟨⟨op,of,v⟩,hp⟩:∃p,ps[k]=p:=⟨_,rfl⟩;rw[hp]at c1 c2 c3;have Ei:=vZ.out _ (fq kG);rw[hp]at Ei;have HP:=ag hp;have hgF:¬F g:=HA.out g (by rw[fL];simp[ah]);subst fL
    have HGk:Hid (Good (S.nv i (ps.take k)) (N+k)):=by
     have:=Good.nv hi (ps.take k) HG.out (λp hp=>(vZ.out p (za hp)).2.1) (by rw[gf];omega);rwa[gf,vn ae]at this
    have hop:1<=op/\op<=3:=by have:=Ei.1;simpa [nH]using this
    have J0:=ag Ei.2;have hgn:¬g=wr.heap.size:=by omega
    clear hD hC hp Ei;go_wp2_with (first|(go_at_call 87;refine(Uk _ (HD.out.below aC) i hi HGk.out ae op of v J0.out hop).mono ?_;rintro e w2 ⟨rfl,o6,cz⟩;have LH:=ag o6;have dh:=ag cz;clear o6 cz))
    go_roundw
    case rel=>
     refine⟨k+1,by omega,by go_num,?_,(HC.out.alloc _).trans dh.out (λ_ h _=>h)⟩;rw[iw kG,Mh,HP.out];exact LH.out
    case measure=>simp[intOf];omega
  . obtain rfl:k=n:=by omega
    clear hD hC;have hE:ps.take k=ps:=fR (by rw[HNN.out];omega);rw[hE]at HD
    have jx:Hid (Calls prog 65 #[.pointer (some ⟨t i,0,none⟩)] wr λe w'=>e= .returned (.int .i64 ((S.nv i ps).a8 i).err)/\wr=w'):=by
     obtain⟨_,L,rfl,h3,_⟩:=HD.out;exact Wn wr d L _ h3 i hi
    clear hE;go_wp2_with (first|(go_at_call 65;refine jx.out.mono ?_;rintro e w2 ⟨rfl,rfl⟩))
    go_ret;exact⟨rfl,HD.out,HC.out⟩
theorem mE{P:Program}{f:FuncId}{args:Array Value}{w:World}{n:Nat}{v:Value}(h:Calls P f args (w.drewN n) λe w'=>e= .returned v/\w.drewN n=w'):Calls P f args (w.drewN n) λe Tq=>e= .returned v/\∃m,Tq=w.drewN m:=
 h.mono λ_ _ ⟨he,hm⟩=>⟨he,n,hm.symm⟩
theorem YD(w:World)(x:Int):Calls prog 101 #[.int .u64 x] w λe w'=>e= .returned (.bool false)/\w=w':=by
 have h:(x !=x)=false:=by simp
 go_enter func101,ntmps101
 go_wp2;go_ret;exact⟨rfl,rfl⟩
theorem zq(w:World)(x y:Int):Calls prog 157 #[.int .u64 x, .int .u64 y] w λe w'=>e= .returned (.bool (decide (x<y)))/\w=w':=by
 go_enter func157,ntmps157
 go_wp2_with (go_at_call 101;refine(YD _ _).mono ?_;rintro e w' ⟨rfl,rfl⟩)
 go_ret;exact⟨rfl,rfl⟩
theorem ZcA(w:World)(A:Option Addr)(n c:Nat)(xs:List Int)(hn:xs.length=n)(h1:1<=n)(hm:n<=1000)(hR:Rd .u64 w A xs)(hs:xs.Pairwise (· <= ·)):
 Calls prog 151 #[.slice A n c, .int .i64 0, .int .i64 (n:Int)] w λe w'=>e= .returned (.tuple #[])/\∃m,w'=w.drewN m:=by
 have HN:=ag hn;have HR:=ag hR;have HS:=ag hs;clear hn hR hs;go_enter func151,ntmps151
 go_wp2;go_loopw [6,7,10,11,12,13,14,15,16,17,18,19,20,21,22,23,24,25,26,27,28,29,30,31,32,33,34,35,36,37,38,39,40,41,42,43,44,45,46,47,48] (λi _ _ _ _ _ _ _ _ _ _ _ _ _ _ _ _ _ _ _ _ _ _ _ _ _ _ _ _ _ _ _ _ _ _ _ _ _ _ _ _ wr=>∃k m:Nat,1<=k/\k<=n/\i= .int .i64 k/\wr=w.drewN m) (λi _ _ _ _ _ _ _ _ _ _ _ _ _ _ _ _ _ _ _ _ _ _ _ _ _ _ _ _ _ _ _ _ _ _ _ _ _ _ _ _ _=>n-(intOf i).toNat)
 case atStart=>exact⟨1,0,by omega,by omega,rfl,rfl⟩
 case round=>
  obtain⟨k,m,iy,hk,rfl,rfl⟩:=hrel;by_cases aM:k<n
  . obtain⟨j,rfl⟩:∃j,k=j+1:=⟨k-1,by omega⟩
    have kG:j+1<xs.length:=by rw[HN.out];exact aM
    obtain⟨g,off,hA,hl,c1⟩:=HR.out.at_ kG;obtain⟨g',zh,fL,_,c0⟩:=HR.out.at_ (i:=j) ae;rw[hA]at fL;injection fL with fL;injection fL with fL ZdA;subst hA fL ZdA;have hle:=A8.1 HS.out j (j+1) ae kG ae;have hd:decide (xs[j+1]<xs[j])=false:=by simp;omega
    have hd0:decide ((j:Int)+1>0)=true:=kx ae;have kP:decide (0<(j:Int)+1)=true:=kx ae;have q1:((j+1:Nat):Int)=(j:Int)+1:=by omega
    have q2:(j:Int)+1-1=(j:Int):=by omega
    have q3:IntKind.i64.wrap ((j:Int)+1-1)=(j:Int):=by rw[q2];exact b9 _ ae
    have q4:((j:Int)+1).toNat=j+1:=by omega
    clear hle;obtain⟨W,hW⟩:=aH (w.drewN m);have c0':W.cell? ⟨g,off+j,none⟩=some (.int .u64 xs[j]):=by rw[<-hW];exact c0
    have RI:W.cell? ⟨g,off+(j+1),none⟩=some (.int .u64 xs[j+1]):=by rw[<-hW];exact c1
    have hl':g<W.heap.size:=by rw[<-hW];exact hl
    rw[hW];have HW:=ag hW;clear hW;rw[q1];go_wp2;refine Cd 1 ?_;rw[rounds_succ];go_wp2;refine Dh krQ krQ ?_;repeat(go_big_quiet_step ((go_at_call 157;exact mE (zq _ _ _))))
    refine cE ?_;rintro _ ⟨nq,rfl⟩;go_wp2;exact⟨⟨j+2,m+nq,by omega,by omega,by go_num,by rw[<-HW.out,World.drewN_drewN]⟩,by simp[intOf];omega⟩
  . go_wp2
    go_end0
    exact⟨rfl,m,rfl⟩
theorem Zcp(w:World)(A:Option Addr)(n c:Nat)(xs:List Int)(lim:Int)(hn:xs.length=n)(h1:1<=n)(hm:n<=12)(hR:Rd .u64 w A xs)(hs:xs.Pairwise (· <= ·)):
 Calls prog 122 #[.slice A n c, .int .i64 0, .int .i64 (n:Int), .int .i64 lim] w λe w'=>e= .returned (.tuple #[])/\∃m,w'=w.drewN m:=by
 have HI:=ag (ZcA w A n c xs hn h1 ae hR hs);have Vi:(n:Int)<=12:=by omega
 clear hn hR hs;go_enter func122,ntmps122
 go_wp2;refine Cd 1 ?_;rw[rounds_succ];go_wp2_with (go_at_call 151;refine HI.out.mono ?_;rintro e w' ⟨rfl,m,rfl⟩)
 exact bH (v:= .tuple #[]) (by simp[results,results122,go_sem]) rfl ⟨rfl,m,rfl⟩
def Xq(w:World)(e:Ending)(w':World):Prop:=∃z:Int,e= .returned (.int .i64 z)/\w=w'
theorem NB(w:World)(n:Nat)(hm:n<=12):Calls prog 136 #[.int .u64 (n:Int)] w (Xq w):=by
 have e1:¬(4294967296:Int)<=(n:Int):=by omega
 have e2:¬(65536:Int)<=(n:Int):=by omega
 have e3:¬(256:Int)<=(n:Int):=by omega
 have e4:IntKind.u8.wrap (n:Int)=(n:Int):=by rw[IntKind.wrap_u8];omega
 go_enter func136,ntmps136
 go_wp2;go_ret;exact⟨_,rfl,rfl⟩
theorem bitsLen(w:World)(n:Nat)(hm:n<=12):Calls prog 100 #[.int .u64 (n:Int)] w (Xq w):=by
 have HI:=ag (λw=>NB w n hm);go_enter func100,ntmps100
 go_wp2_with (go_at_call 136;refine(HI.out _).mono ?_;rintro e w' ⟨z,rfl,rfl⟩)
 go_ret;exact⟨_,rfl,rfl⟩
theorem ZaS(w:World)(A:Option Addr)(n c:Nat)(xs:List Int)(hn:xs.length=n)(h1:1<=n)(hm:n<=12)(hR:Rd .u64 w A xs)(hs:xs.Pairwise (· <= ·)):
 Calls prog 84 #[.slice A n c] w λe w'=>e= .returned (.tuple #[])/\∃m,w'=w.drewN m:=by
 have HI:=ag (λz=>Zcp w A n c xs z hn h1 hm hR hs);have hw:IntKind.u64.wrap (n:Int)=(n:Int):=bY _ ae;clear hn hR hs;go_enter func84,ntmps84
 go_wp2_with (first|(go_at_call 100;refine(bitsLen _ n hm).mono ?_;rintro e w' ⟨z,rfl,rfl⟩)|(go_at_call 122;refine(HI.out z).mono ?_;rintro e w' ⟨rfl,m,rfl⟩))
 go_end0
 exact⟨rfl,m,rfl⟩
theorem yH{P:Program}(w:World)(t ty elem:TypeId)(k:IntKind)(e:TypeId)(ht:P.underlying t=some (.slice elem))(hz:(zeroValue elem).run P w= .ok (.int k 0) w)
 (g off n c:Nat) (xs:List Int) (hb:IB k e w g xs) (hn:0<n) (vM:off+n<=xs.length):
 ∃w',(Builtin.clear_ #[t] ty #[.slice (some ⟨g,off,none⟩) n c]).run P w= .ok (.tuple #[]) w'/\IB k e w' g (splice xs off (List.replicate n 0))/\Ch (At g) w w':=by
 have hzc:(Builtin.zeroCells (Value.cells (.int k 0)) n).toList=(List.replicate n (0:Int)).map (Value.int k):=by
  apply Cg
  . simp[Builtin.zeroCells,Value.cells]
  . intro i h1 h2
    simp[Builtin.zeroCells,Value.cells,Fa]
 unfold IB ia at hb
 have bh:=run_storeCells_at P g off e ((List.replicate n (0:Int)).map (Value.int k)) 0 (xs.map (Value.int k)).toArray w hb (by simpa using vM) (λv hv=>by
  obtain⟨y,_,rfl⟩:=iJ.1 hv;rfl)
 simp only[Nat.add_zero]at bh;obtain⟨m,rfl⟩:∃m,n=m+1:=⟨n-1,by omega⟩;refine⟨w.setRow g ((xs.map (Value.int k)).toArray.toList.take off++(List.replicate (m+1) (0:Int)).map (Value.int k)++(xs.map (Value.int k)).toArray.toList.drop (off+((List.replicate (m+1) (0:Int)).map (Value.int k)).length)).toArray,?_,?_,Nx g _⟩
 . unfold Builtin.clear_
   simp[Cc ht,hz,hzc,bh,-List.map_replicate]
 . have h1:=setRow_heap w g _ ((xs.map (Value.int k)).toArray.toList.take off++(List.replicate (m+1) (0:Int)).map (Value.int k)++(xs.map (Value.int k)).toArray.toList.drop (off+((List.replicate (m+1) (0:Int)).map (Value.int k)).length)).toArray e (0,0) hb
   unfold IB ia;rw[IV];simpa [splice]using h1
def kj(xs:List Int):List Int:=xs.foldl (λacc x=>if acc.getLast?=some x then acc else acc++[x]) []
theorem qz(xs:List Int)(x:Int):kj (xs++[x])=if(kj xs).getLast?=some x then kj xs else kj xs++[x]:=by
 unfold kj;rw[List.foldl_append];rfl
theorem Gr(xs:List Int):∀k,(kj (xs.take k)).getLast?=(xs.take k).getLast?:=by
 intro k;induction k with
 |zero=>simp[kj]
 |succ k ih=>
  by_cases hk:k<xs.length
  . rw[iw hk,qz]
    split
    . rename_i h;rw[h];simp[-List.take_append_getElem]
    . simp[-List.take_append_getElem]
  . rw[fR ae]
    rw[fR ae]at ih;exact ih
theorem BK(xs:List Int)(k:Nat)(hk:k<xs.length):(xs.take (k+1)).getLast?=some xs[k]:=by
 rw[iw hk];simp[-List.take_append_getElem]
theorem RC(xs:List Int)(k:Nat)(hk:k+1<xs.length)(h:xs[k+1]=xs[k]):kj (xs.take (k+2))=kj (xs.take (k+1)):=by
 rw[iw hk,qz,Gr,BK xs k ae,h,aA rfl]
theorem RB(xs:List Int)(k:Nat)(hk:k+1<xs.length)(h:xs[k+1]≠xs[k]):kj (xs.take (k+2))=kj (xs.take (k+1))++[xs[k+1]]:=by
 rw[iw hk,qz,Gr,BK xs k ae,ax (λh'=>h (by injection h' with h';exact h'.symm))]
theorem Ls(xs:List Int):kj (xs.take 1)=xs.take 1:=by
 cases xs with
 |nil=>simp[kj]
 |cons x xs=>simp[kj]
def Wg(w:World)(g n c:Nat)(xs:List Int)(e:Ending)(w':World):Prop:=
 ∃zs,e= .returned (.slice (some ⟨g,0,none⟩) (kj xs).length c)/\IB .u64 22 w' g zs/\zs.take (kj xs).length=kj xs/\Ch (At g) w w'
def oT(w:World)(g n:Nat)(xs:List Int)(p k:Nat)(wr:World):Prop:=
 ∃ys:List Int,IB .u64 22 wr g ys/\ys.length=n/\ys.take k=kj (xs.take p)/\k=(kj (xs.take p)).length/\k+1<=p/\(∀j,p<=j+1->ys[j]?=xs[j]?)/\Ch (At g) w wr
theorem oT.keep{w wr:World}{g n p k:Nat}{xs:List Int}(h:oT w g n xs p k wr)(nq:Nat):oT w g n xs p k (wr.drewN nq):=by
 obtain⟨ys,h1,h2,h3,h4,h5,h6,h7⟩:=h;exact⟨ys,h1.drewN nq,h2,h3,h4,h5,h6,h7.drewN nq⟩
theorem oT.skip{w wr:World}{g n p k:Nat}{xs:List Int}(h:oT w g n xs (p+1) k wr)(hx:xs.length=n)(hp:p+1<n)(he:xs[p+1]?=xs[p]?):oT w g n xs (p+2) k wr:=by
 obtain⟨ys,h1,h2,h3,h4,h5,h6,h7⟩:=h
 have e:kj (xs.take (p+2))=kj (xs.take (p+1)):=RC xs p ae (by
  rw[dG ae,dG ae]at he;injection he)
 exact⟨ys,h1,h2,by rw[e];exact h3,by rw[e];exact h4,by omega,λj hj=>h6 j ae,h7⟩
theorem oT.take{w wr:World}{g n p k:Nat}{xs:List Int}(h:oT w g n xs (p+1) k wr)(hx:xs.length=n)(hp:p+1<n)(v:Int)(hv:xs[p+1]?=some v)(he:xs[p+1]?≠xs[p]?):
 oT w g n xs (p+2) (k+1) (wr.setCell ⟨g,k,none⟩ (.int .u64 v)):=by
 obtain⟨ys,h1,h2,h3,h4,h5,h6,h7⟩:=h;have hv':xs[p+1]'(by omega)=v:=by rw[dG ae]at hv;injection hv
 have e:kj (xs.take (p+2))=kj (xs.take (p+1))++[v]:=by
  rw[RB xs p ae (λh=>he (by rw[dG ae,dG ae,h])),hv']
 have hk:k<ys.length:=by omega
 refine⟨ys.set k v,h1.set k v,by simpa using h2,?_,by rw[e];simp;omega,by omega,λj hj=> ?_,h7.bj k _⟩
 . rw[e,iw (by simpa using hk),List.take_set_of_le (Nat.le_refl k),h3]
   simp
 . rw[De,ax ae]
   exact h6 j ae
theorem Gs(w:World)(g n:Nat)(xs:List Int)(hn:xs.length=n)(h1:1<=n)(hm:n<=1000000)(hI:IB .u64 22 w g xs):
 Calls prog 85 #[.slice (some ⟨g,0,none⟩) n n] w (Wg w g n n xs):=by
 have HN:=ag hn;have HI:=ag hI;have eh:=hI.lt;clear hn hI;by_cases h2:n<2
 . obtain rfl:n=1:=by omega
   have HC:Hid (kj xs=xs):=by
    have:=Ls xs;rwa[fR (by rw[HN.out];omega)]at this
   go_enter func85,ntmps85
   go_wp2;go_ret;refine⟨xs,?_,HI.out,?_,Ch.refl _ _⟩
   . rw[HC.out,HN.out];rfl
   . rw[HC.out,sO]
 . have Ju:¬(n:Int)<2:=by omega
   go_enter func85,ntmps85
   go_wp2;go_loopw [3,4,5,10,11,12,13,14,15,16,17,18,19,20,21,22,23,24,25,26,27,28,29,30,31,32,33,34,35,36,37,38,39,40,41,42,43,44,45,46,47,48,49,50,51,52,53,54,55,56,57,58,59,2] (λi _ _ _ _ _ _ _ _ _ _ _ _ _ _ _ _ _ _ _ _ _ _ _ _ _ _ _ _ _ _ _ _ _ _ _ _ _ _ _ _ _ _ _ _ _ _ _ _ _ _ _ _ _ wr=>∃k m:Nat,1<=k/\k<=n/\i= .int .i64 k/\kj (xs.take k)=xs.take k/\wr=w.drewN m) (λi _ _ _ _ _ _ _ _ _ _ _ _ _ _ _ _ _ _ _ _ _ _ _ _ _ _ _ _ _ _ _ _ _ _ _ _ _ _ _ _ _ _ _ _ _ _ _ _ _ _ _ _ _ _=>n-(intOf i).toNat)
   case atStart=>exact⟨1,0,by omega,by omega,rfl,Ls xs,rfl⟩
   case round=>
    obtain⟨k,m,iy,hk,rfl,Hd,rfl⟩:=hrel;have HCP:=ag Hd;clear Hd;by_cases aM:k<n
    . obtain⟨j,rfl⟩:∃j,k=j+1:=⟨k-1,by omega⟩
      obtain⟨x1,lC⟩:∃x,xs[j+1]?=some x:=⟨xs[j+1]'(by rw[HN.out];exact aM),dG _⟩;obtain⟨x0,ux⟩:∃x,xs[j]?=some x:=⟨xs[j]'(by rw[HN.out];omega),dG _⟩;obtain⟨W,hW⟩:=aH (w.drewN m);have HIW:Hid (IB .u64 22 W g xs):=by show IB _ _ _ _ _;rw[<-hW];exact HI.out.drewN m
      have BG:Hid (Ch (At g) w W):=by show Ch _ _ _;rw[<-hW];exact(Ch.refl _ _).drewN m
      have c0:W.cell? ⟨g,j,none⟩=some (.int .u64 x0):=by
       rw[HIW.out.cell (by rw[HN.out];omega)];rw[dG (by rw[HN.out];omega)]at ux;injection ux with ux;rw[ux]
      have c1:W.cell? ⟨g,j+1,none⟩=some (.int .u64 x1):=by
       rw[HIW.out.cell (by rw[HN.out];omega)];rw[dG (by rw[HN.out];omega)]at lC;injection lC with lC;rw[lC]
      have hgW:g<W.heap.size:=HIW.out.lt;have q1:((j+1:Nat):Int)=(j:Int)+1:=by omega
      have q2:(j:Int)+1-1=(j:Int):=by omega
      have q3:IntKind.i64.wrap ((j:Int)+1-1)=(j:Int):=by rw[q2];exact b9 _ ae
      have q4:((j:Int)+1).toNat=j+1:=by omega
      have Au:=ag lC;have HX0:=ag ux;have dx:(j:Int)+1<(n:Int):=by omega
      rw[hW];have HW:=ag hW;clear hW lC ux;rw[q1];by_cases he:x1=x0
      . subst he
        have W9:(x1==x1)=true:=by simp
        have jc:Hid (oT w g n xs (j+2) (j+1) W):=by
         show oT _ _ _ _ _ _ _
         have hlj:j+1<xs.length:=by rw[HN.out];exact aM
         have e:kj (xs.take (j+2))=xs.take (j+1):=by
          rw[RC xs j hlj (by
           have a:=Au.out;have b:=HX0.out;rw[dG ae]at a b;injection a with a;injection b with b;rw[a,b])]
          exact HCP.out
         exact⟨xs,HIW.out,HN.out,by rw[e],by rw[e,gf];omega,by omega,λ_ _=>rfl,BG.out⟩
        go_upto_region 6 with(fail)
        go_quiet (fail)
        go_wp2;have R_:=ag (jc.out.keep nq);clear jc c0 c1 HIW BG Au HX0 HW W9 hgW q1 q2 q3 q4;obtain⟨W1,fV⟩:=aH (W.drewN nq);rw[fV]at R_ |-;clear fV;go_loopw [5,3,29,30,31,32,33,34,35,36,37,38,39,40,41,42,43,44,45,46,47,48,49,50,51,52,53] (λa b _ _ _ _ _ _ _ _ _ _ _ _ _ _ _ _ _ _ _ _ _ _ _ _ _ wr=>∃k2 kk:Nat,1<=k2/\j+1+k2<=n/\a= .int .i64 k2/\b= .int .i64 kk/\oT w g n xs (j+1+k2) kk wr) (λa _ _ _ _ _ _ _ _ _ _ _ _ _ _ _ _ _ _ _ _ _ _ _ _ _ _ _=>n-(intOf a).toNat)
        case atStart=>exact⟨1,j+1,by omega,by omega,rfl,by go_num,R_.out⟩
        case round=>
         obtain⟨k2,kk,fC,wL,rfl,rfl,hIn⟩:=hrel;have HIn:=ag hIn;obtain⟨ys,Lh,hyl,uT,kG,hkp,hint,py⟩:=hIn;have ie:=Lh.lt;obtain⟨e,rfl⟩:∃e,k2=e+1:=⟨k2-1,by omega⟩;have q1:((e+1:Nat):Int)=(e:Int)+1:=by omega
         have q2:(e:Int)+1-1=(e:Int):=by omega
         have q3:IntKind.i64.wrap ((e:Int)+1-1)=(e:Int):=by rw[q2];exact b9 _ ae
         have q4:((e:Int)+1).toNat=e+1:=by omega
         by_cases ju:j+1+(e+1)<n
         . have Zc6:(e:Int)+1<((n-(j+1):Nat):Int):=by omega
           have hl3:e+1<n-(j+1):=by omega
           have Bk:e<n-(j+1):=by omega
           obtain⟨y1,WE⟩:∃x,xs[j+1+(e+1)]?=some x:=⟨xs[j+1+(e+1)]'(by rw[HN.out];exact ju),dG _⟩;obtain⟨y0,SA⟩:∃x,xs[j+1+e]?=some x:=⟨xs[j+1+e]'(by rw[HN.out];omega),dG _⟩
           have c1:wr.cell? ⟨g,j+1+(e+1),none⟩=some (.int .u64 y1):=by
            have:=hint (j+1+(e+1)) ae;rw[WE,dG ae]at this;rw[Lh.cell ae];injection this with this;rw[this]
           have c0:wr.cell? ⟨g,j+1+e,none⟩=some (.int .u64 y0):=by
            have:=hint (j+1+e) ae;rw[SA,dG ae]at this;rw[Lh.cell ae];injection this with this;rw[this]
           obtain⟨yk,ck⟩:∃v,wr.cell? ⟨g,kk,none⟩=some v:=⟨_,Lh.cell ae⟩;have fk:=Lh.frozen kk;have zF:kk<n:=by omega
           have HY1:=ag WE;have Xx:=ag SA;rw[q1];clear hint uT kG Lh hyl py hkp WE SA;by_cases aG:y1=y0
           . subst aG
             have hb:(y1 !=y1)=false:=by simp
             go_upto_region 11 with(fail)
             go_quiet (fail)
             go_wp2;refine⟨⟨e+2,kk,by omega,by omega,by go_num,rfl,?_⟩,by simp[intOf];omega⟩;have:=(HIn.out.keep nq).skip (p:=j+1+e) HN.out ju (HY1.out.trans Xx.out.symm);exact this
           . have hb:(y1 !=y0)=true:=by simpa using aG
             go_upto_region 11 with(fail)
             go_quiet (fail)
             go_wp2;refine⟨⟨e+2,kk+1,by omega,by omega,by go_num,by go_num,?_⟩,by simp[intOf];omega⟩;have:=(HIn.out.keep nq).take (p:=j+1+e) HN.out ju y1 HY1.out (by rw[show j+1+e+1=j+1+(e+1) by omega,HY1.out,Xx.out];simpa using aG);exact this
         . obtain rfl:n=j+1+(e+1):=by omega
           have Zc6:¬(e:Int)+1<((j+1+(e+1)-(j+1):Nat):Int):=by omega
           have zF:kk<j+1+(e+1):=by omega
           have ZeN:¬((j+1+(e+1):Nat):Int)<(kk:Int):=by omega
           have ZeM:¬j+1+(e+1)<kk:=by omega
           have ZeL:¬j+1+(e+1)=kk:=by omega
           obtain⟨w2,CG,Rb,o7⟩:=yH (P:=prog) wr 96 0 22 .u64 22 underlying96 krQ g kk (j+1+(e+1)-kk) (j+1+(e+1)-kk) ys Lh ae ae;have pA:=ag CG;have Om:=ag Rb;have fo:=ag o7
           have HF:Hid (kk=(kj xs).length/\ys.take kk=kj xs):=by
            show _/\_
            have ex:xs.take (j+1+(e+1))=xs:=fR (by rw[HN.out];omega);rw[ex]at uT kG;exact⟨kG,uT⟩
           have yd:=ag py;have Zeg:kk<=ys.length:=by omega
           clear hint uT kG Lh hyl py CG Rb o7;rw[q1];go_wp2;rw[pA.out];go_wp2;go_ret;refine⟨_,?_,Om.out,?_,yd.out.trans fo.out (λ_ h _=>h)⟩
           . rw[<-HF.out.1];rfl
           . rw[<-HF.out.1,<-HF.out.2]
             unfold splice;rw[KT (by rw[gf];omega),Ca,Nat.min_self]
      . have W9:(x1==x0)=false:=by simpa using he
        go_upto_region 6 with(fail)
        go_quiet (fail)
        go_wp2;refine⟨⟨j+2,m+nq,by omega,by omega,by go_num,?_,by rw[<-HW.out,World.drewN_drewN]⟩,by simp[intOf];omega⟩;have hlj:j+1<xs.length:=by rw[HN.out];exact aM
        have a:=Au.out;have b:=HX0.out;rw[dG ae]at a b;injection a with a;injection b with b;rw[RB xs j hlj (by rw[a,b];exact he),HCP.out,<-iw hlj]
    . obtain rfl:k=n:=by omega
      go_wp2;go_ret;have hE:kj xs=xs:=by have:=HCP.out;rwa[fR (by rw[HN.out];omega)]at this
      exact⟨xs,by rw[hE,HN.out];rfl,HI.out.drewN m,by rw[hE,sO],(Ch.refl _ _).drewN m⟩
def cG(off:Int):Int:=off-off%64
theorem FD(w:World)(off:Int)(h:0<=off/\off<18446744073709551616):Calls prog 83 #[.int .u64 off] w λe w'=>e= .returned (.int .u64 (cG off))/\w=w':=by
 obtain⟨h1,h2⟩:=h;have e1:IntKind.u64.wrap (off-off%64)=off-off%64:=bY _ ae;unfold cG;go_enter func83,ntmps83
 go_wp2;go_ret;exact⟨rfl,rfl⟩
theorem jr:(prog.info? 164).map (λi=>(i.zero,i.size,i.bytes))=some (some (.agg #[.int .u8 0, .int .u64 0, .int .u64 0]),3,24):=by kernel_rfl
theorem rX{P:Program}(t e:TypeId)(n:Nat)(ht:P.underlying t=some (.slice e))(bp:(P.info? e).map (λi=>(i.zero,i.size,i.bytes))=some (some (.int .u64 0),1,8))(hn:n<=1000000)(w:World):
 (Instr.makeSlice t (.int .i64 0) (.int .i64 (n:Int))).run P w= .ok (.slice (some ⟨w.heap.size,0,none⟩) 0 n) (w.alloc (.cells (ia .u64 (List.replicate n (0:Int))) e)):=by
 cases hi:P.info? e with
 |none=>rw[hi]at bp;cases bp
 |some i=>
  rw[hi]at bp;simp only[Option.map_some,sP,rY]at bp;obtain⟨hz,hs,hb⟩:=bp;have hr:=run_make (P:=P) w t e i (.int .u64 0) ht hi hz .i64 .i64 0 n ae ae (by rw[hb];omega) ae;rw[hr,hs];simp only[Int.toNat_natCast,wo,Int.toNat_zero];congr 3;congr 1;simp only[madeCells,Value.cells,ia,Fm];apply Array.ext
  . simp
  . intro i h1 h2
    simp[Fa]
theorem mX{P:Program}{w:World}{ops:Array Oper}{rest:List Oper}{o:Oper}{a:Act}{Q:Exit->Act->World->Prop}(DM:o.guard=none)(s x:Operand)(t:TypeId)
 (ho:o.op= .call {callee:= .builtin .append,args:= #[s,x],argTypes:= #[t,t]}) (e:TypeId) (ht:P.underlying t=some (.slice e)) (bp:(P.info? e).map (λi=>(i.zero,i.size,i.bytes))=some (some (.int .u64 0),1,8))
 (g k c:Nat) (ad:Addr) (d:Nat) (v:Int) (xs:List Int) (AE:a.eval s= .slice (some ⟨g,0,none⟩) k c) (MK:a.eval x= .slice (some ad) 1 d) (hI:IB .u64 e w g xs) (hk:k<c) (hc:c<=xs.length) (hv:w.cell? (ad.add 0)=some (.int .u64 v))
 (h:wpList P ops Q rest (a.put o.dst (.slice (some ⟨g,0,none⟩) (k+1) c)) (w.setCell ⟨g,k,none⟩ (.int .u64 v))):wpList P ops Q (o::rest) a w:=by
 refine Kv DM λK hK=> ?_
 cases hi:P.info? e with
 |none=>rw[hi]at bp;cases bp
 |some i=>
  rw[hi]at bp;simp only[Option.map_some,sP,rY]at bp;obtain⟨hz,hs,hb⟩:=bp
  have gL:=KQ (P:=P) w t o.type e i ht hi g 0 k c ad 1 d [.int .u64 v] (by rw[hs];rfl) (λj u hj=>by
   cases j with
   |zero=>simp at hj;subst hj;exact hv
   |succ j=>simp at hj) (λu hu=>by simp at hu;subst hu;rfl) ae
   (λj hj=>by
      obtain rfl:j=0:=by simpa using hj
      rw[hs,show 0+k*1+0=k by omega,hI.cell ae];rfl) (λj hj=>hI.frozen _)
  have e1:w.setCells g (0+k*i.size) [.int .u64 v]=w.setCell ⟨g,k,none⟩ (.int .u64 v):=by rw[hs];simp[World.setCells]
  rw[e1]at gL;unfold Oper.wp execOp;simp only[ho,resolve,invoke,builtin,Ku,Sem.run_pure,Result.andThen_ok,KD,oV,wu,AE,MK,gL];exact hK _ _ h
def cT(ws:List (Int×Int)):List Ins:=ws.map λp=>(1,p.1,p.2)
def eC(ls:List Int):List Ins:=ls.map λl=>(2,l,0)
def starts(ws:List (Int×Int)):List Int:=ws.map λp=>cG p.1
def bD(ws:List (Int×Int)):List Ins:=cT ws++eC (kj (starts ws))++[(3,0,0)]
theorem q_(a b c:Int):∀u∈([.int .u8 a, .int .u64 b, .int .u64 c]:List Value),u.oneCell'=true:=by
 intro u hu;simp only[dr,fH,gF]at hu;rcases hu with rfl|rfl|rfl<;>rfl
theorem dE(w:World)(e:TypeId)(a b c:Value):∀(j:Nat) (u:Value),[a,b,c][j]?=some u->(w.alloc (.cells #[a,b,c] e)).cell? ((⟨w.heap.size,0,none⟩:Addr).add j)=some u:=by
 intro j u hu;have h1:(⟨w.heap.size,0,none⟩:Addr).add j=⟨w.heap.size,0+j,none⟩:=by unfold Addr.add;split<;>simp_all
 rw[h1,cY,(CB.new w e #[a,b,c]).cell];have:j=0\/j=1\/j=2\/3<=j:=by omega
 rcases this with rfl|rfl|rfl|h
 . simpa using hu
 . simpa using hu
 . simpa using hu
 . rw[oY (by simpa using h)]at hu;cases hu
def kK(ws:List (Int×Int))(n k:Nat):List Int:=starts (ws.take k)++List.replicate (n-k) 0
theorem ur(ws:List (Int×Int))(n k:Nat)(hw:ws.length=n)(hk:k<=n):(kK ws n k).length=n:=by simp[kK,starts];omega
theorem Cy(ws:List (Int×Int))(n k:Nat)(hw:ws.length=n)(hk:k<n):(kK ws n k).set k (cG (ws[k]'(by omega)).1)=kK ws n (k+1):=by
 have kG:k<ws.length:=by omega
 unfold kK starts;rw[iw kG,PU _ _ (by simp;omega)];obtain⟨m,hm⟩:∃m,n-k=m+1:=⟨n-k-1,by omega⟩;have h2:n-(k+1)=m:=by omega
 have h3:k-(List.map (λp=>cG p.1) (List.take k ws)).length=0:=by simp;omega
 rw[hm,h2,h3,List.replicate_succ,List.set_cons_zero,yL];simp[-List.take_append_getElem]
theorem Cz(ws:List (Int×Int))(n:Nat)(hw:ws.length=n):kK ws n n=starts ws:=by
 unfold kK;rw[fR ae,wA];simp
def qH(w:World)(g n:Nat)(ws:List (Int×Int))(k:Nat)(A:Option Addr)(c:Nat)(wr:World):Prop:=
 Sl 164 3 wr A k c (bw (cT (ws.take k)))/\IB .u64 22 wr g (kK ws n k)/\Below w.heap.size w wr/\∀b,ah A b->w.heap.size<=b/\b≠g
theorem JG(xs:List Int):∀k,(kj (xs.take k)).length<=k:=by
 intro k;induction k with
 |zero=>simp[kj]
 |succ k ih=>
  by_cases hk:k<xs.length
  . rw[iw hk,qz]
    split
    . omega
    . rw[dO];simp;exact ih
  . rw[fR ae]at ih |-
    omega
theorem Aa(xs:List Int):(kj xs).length<=xs.length:=by have:=JG xs xs.length;rwa[sO]at this
def xZ(w:World)(g n:Nat)(ws:List (Int×Int))(zs cs:List Int)(j:Nat)(A:Option Addr)(c:Nat)(wr:World):Prop:=
 Sl 164 3 wr A (n+j) c (bw (cT ws++eC (cs.take j)))/\IB .u64 22 wr g zs/\Below w.heap.size w wr/\∀b,ah A b->w.heap.size<=b/\b≠g
def jO(w:World)(ps:List Ins)(e:Ending)(w':World):Prop:=
 ∃A c,e= .returned (.slice A ps.length c)/\Sl 164 3 w' A ps.length c (bw ps)/\Below w.heap.size w w'/\∀b,ah A b->w.heap.size<=b
theorem Mz(w:World)(A:Option Addr)(n c:Nat)(ws:List (Int×Int))(hn:ws.length=n)(h1:1<=n)(hm:n<=12)(hS:Sl 95 2 w A n c (az ws))(hr:∀p∈ws,0<=p.1/\p.1<18446744073709551616)(hs:(starts ws).Pairwise (· <= ·)):
 Calls prog 56 #[.slice A n c] w (jO w (bD ws)):=by
 have HN:=ag hn;have HS:=ag hS;have HR:=ag hr;have HSo:=ag hs;have e0:((n:Int)==0)=false:=by simp;omega
 have zE:∀W:World,(Instr.makeSlice 96 (.int .i64 0) (.int .i64 (n:Int))).run prog W= .ok (.slice (some ⟨W.heap.size,0,none⟩) 0 n) (W.alloc (.cells (ia .u64 (List.replicate n 0)) 22)):=rX 96 22 n underlying96 iO ae;clear hn hS hr hs;go_enter func56,ntmps56
 go_wp2
 have jc:Hid (qH w w.heap.size n ws 0 none 0 (w.alloc (.cells (ia .u64 (List.replicate n 0)) 22))):=by
  refine⟨Sl.nil,?_,ai (bZ _ _) _,by simp[ah]⟩;have:kK ws n 0=List.replicate n 0:=by simp[kK,starts]
  rw[this];exact IB.new _ _
 obtain⟨g,hg⟩:=aH w.heap.size;obtain⟨W,hW⟩:=aH (w.alloc (.cells (ia .u64 (List.replicate n 0)) 22));have R_:Hid (qH w g n ws 0 none 0 W):=by show qH _ _ _ _ _ _ _ _;rw[<-hg,<-hW];exact jc.out
 have vL:w.heap.size<=g:=by omega
 rw[hg,hW];clear zE hg hW jc;go_loopw [17,3,4,6,18,19,20,21,22,23,24,25,26,27,28,29,30,31,32,33,34,35] (λi p l _ _ _ _ _ _ _ _ _ _ _ _ _ _ _ _ _ _ _ wr=>∃(k:Nat) (A':Option Addr) (c':Nat),k<=n/\i= .int .i64 k/\p= .slice A' k c'/\l= .slice (some ⟨g,0,none⟩) k n/\qH w g n ws k A' c' wr) (λi p l _ _ _ _ _ _ _ _ _ _ _ _ _ _ _ _ _ _ _ _=>n-(intOf i).toNat)
 case atStart=>exact⟨0,none,0,by omega,rfl,rfl,rfl,R_.out⟩
 case round=>
  clear R_;obtain⟨k,A',c',hk,rfl,rfl,rfl,hP,hI,hB,hO⟩:=hrel;have HP:=ag hP;have HI:=ag hI;have HB:=ag hB;have HO:=ag hO;by_cases aM:k<n
  . have kG:k<ws.length:=by rw[HN.out];exact aM
    obtain⟨gw,ow,hA,hl,c1,c2⟩:=(HS.out.keep (λb hb=>hB.block b (HS.out.lt hb))).wr kG;obtain⟨⟨of,v⟩,hp⟩:∃p,ws[k]=p:=⟨_,rfl⟩;have Ei:=HR.out _ (fq kG);rw[hp]at c1 c2 Ei;have VW:=ag hp;have QL:0<=of/\of<18446744073709551616:=Ei;have J0:=ag QL;subst hA;rw[show 2*k=k*2 by omega]at c1 c2;have hgn:¬gw=wr.heap.size:=by omega
    have ie:=hI.lt;clear hP hI hB hO hp Ei QL;go_wp2_with (at_builtin;refine ay rfl (.tmp 21) (.tmp 27) 133 rfl 164 (.agg #[.int .u8 0, .int .u64 0, .int .u64 0]) 3 24 rfl ae underlying133 jr ae A' k c' (bw (cT (ws.take k))) ⟨wr.heap.size+1,0,none⟩ 1 1 [.int .u8 1, .int .u64 of, .int .u64 v] rfl rfl (HP.out.keep (λb hb=>((ai (ai (bZ _ _) _) _:Below wr.heap.size wr _).block b (HP.out.lt hb)))) rfl ae (by have:=dE (wr.alloc (.cells #[.int .u64 of, .int .u64 v] 95)) 164 (.int .u8 1) (.int .u64 of) (.int .u64 v);simpa using this) (q_ _ _ _) ae ?_;intro A2 Lv w2 w_ dh JW mV;have lR:wr.heap.size+2<=w2.heap.size:=(by have:=dh.out.size;simpa using this);have js:∀b,wr.heap.size<=b->¬ah A' b:=(λb hb ho=>by have:=HP.out.lt ho;omega);have m0:w2.cell? ⟨wr.heap.size,0,none⟩=some (.int .u64 of):=((dh.out.cells _ _ (by simp;omega) (js _ (a_ _))).trans (by go_simp));have CV:Hid (IB .u64 22 w2 g (kK ws n k)):=(((HI.out.alloc _).alloc _).ch dh.out (λho=>(HO.out g ho).2 rfl));have m1:wr.heap.size<w2.heap.size:=ae;clear js)
    go_wp2_with (first|(go_at_call 83;refine(FD _ of J0.out).mono ?_;rintro e w' ⟨rfl,rfl⟩)|(at_builtin;refine mX rfl (.tmp 29) (.tmp 33) 96 rfl 22 underlying96 iO g k n ⟨w2.heap.size,0,none⟩ 1 (cG of) (kK ws n k) rfl rfl (CV.out.alloc _) aM (by rw[ur ws n k HN.out hk];exact a_ _) (by simp[go_sem]) ?_))
    refine⟨⟨k+1,A2,Lv,by omega,by go_num,rfl,rfl,?_,?_,?_,?_⟩,by simp[intOf];omega⟩
    . have hx:=w_.out
      have e1:bw (cT (ws.take (k+1)))=bw (cT (ws.take k))++[.int .u8 1, .int .u64 of, .int .u64 v]:=by
       rw[iw kG,VW.out,cT,yL,fi];rfl
      rw[e1];refine hx.keep (λb hb=> ?_);have xN:=hx.lt hb
      have Hf:b≠g:=by
       rcases JW.out b hb with h|h
       . exact(HO.out b h).2
       . rw[h];simp;omega
      rw[ft _ _ _ _ Hf,d_ _ _ _ xN]
    . have:=(CV.out.alloc (.cells #[.int .u64 (cG of)] 22)).set k (cG of)
      rw[<-Cy ws n k HN.out aM,VW.out];exact this
    . refine gZ (ai (bM (ai (ai HB.out _) _) dh.out (λb hb=>(HO.out b hb).1)) _) vL _
    . intro b hb
      rcases JW.out b hb with h|h
      . exact HO.out b h
      . have:=HB.out.size
        rw[h];simp;omega
  . obtain rfl:k=n:=by omega
    have SV:IB .u64 22 wr g (starts ws):=by rw[<-Cz ws k HN.out];exact hI
    have hP':Sl 164 3 wr A' k c' (bw (cT ws)):=by rw[fR (by rw[HN.out];omega)]at hP;exact hP
    have oK:(starts ws).length=k:=by simp[starts,HN.out]
    have JY:=ag (ZaS wr (some ⟨g,0,none⟩) k k (starts ws) oK h1 hm SV.eV HSo.out);have Sg:=ag (λm=>Gs (wr.drewN m) g k (starts ws) oK h1 ae (SV.drewN m));have XC:=ag hP';clear hP hI hB hO SV hP' HP HI oK;go_wp2_with (first|(go_at_call 84;refine JY.out.mono ?_;rintro e w' ⟨rfl,m,rfl⟩)|(go_at_call 85;refine(Sg.out m).mono ?_;rintro e w3 ⟨zs,rfl,hZ,hzt,o7⟩;have HZ:=ag hZ;have VP:=ag hzt;have fo:=ag o7;clear hZ hzt o7))
    have CV:Hid (xZ w g k ws zs (kj (starts ws)) 0 A' c' w3):=by
     refine⟨?_,HZ.out,bM (iT HB.out m) fo.out (λb hb=>by rw[show b=g from hb];exact vL),HO.out⟩;have h1:=XC.out.keep (w':=w3) (λb hb=>fo.out.block b (XC.out.lt hb) (λh=>(HO.out b hb).2 h));simpa [eC]using h1
    have hzl:(kj (starts ws)).length<=k:=by have:=Aa (starts ws);simp[starts]at this;rw[HN.out]at this;exact this
    obtain⟨cs,hcs⟩:=aH (kj (starts ws));obtain⟨q,hq⟩:=aH cs.length;have Ax:=ag hcs;have HQ:=ag hq;rw[hcs]at CV VP hzl |-;rw[hq]at VP hzl |-;clear hcs hq JY Sg HZ fo HB HO XC;go_loopw [41,3,8,42,43,44,45,46,47,48,49,50] (λi p _ _ _ _ _ _ _ _ _ _ wr=>∃(j:Nat) (A':Option Addr) (c':Nat),j<=q/\i= .int .i64 j/\p= .slice A' (k+j) c'/\xZ w g k ws zs cs j A' c' wr) (λi _ _ _ _ _ _ _ _ _ _ _ _=>q-(intOf i).toNat)
    case atStart=>exact⟨0,_,_,by omega,rfl,rfl,CV.out⟩
    case round=>
     clear CV;obtain⟨j,A1,c1,hj,rfl,rfl,hP,hI,hB,hO⟩:=hrel;have HP:=ag hP;have HI:=ag hI;have HB:=ag hB;have HO:=ag hO;have ie:=hI.lt;by_cases mT:j<q
     . have oZ:j<cs.length:=by rw[HQ.out];exact mT
       obtain⟨l,hl⟩:=aH (cs[j]);have ZcB:q<=zs.length:=by have:=bP List.length VP.out;rw[gf,HQ.out]at this;omega
       have hzj:zs[j]'(by omega)=l:=by
        have h1:(zs.take q)[j]'(by rw[gf];omega)=l:=by
         have h2:=VP.out;simp only[h2];exact hl
        rwa[PG]at h1
       have cj:wr.cell? ⟨g,j,none⟩=some (.int .u64 l):=by rw[hI.cell ae,hzj]
       have HL:=ag hl;have El:j<k:=by omega
       clear hP hI hB hO hl hzj;go_wp2_with (at_builtin;refine ay rfl (.tmp 45) (.tmp 48) 133 rfl 164 (.agg #[.int .u8 0, .int .u64 0, .int .u64 0]) 3 24 rfl ae underlying133 jr ae A1 (k+j) c1 (bw (cT ws++eC (cs.take j))) ⟨wr.heap.size,0,none⟩ 1 1 [.int .u8 2, .int .u64 l, .int .u64 0] rfl rfl (HP.out.keep (λb hb=>d_ _ _ _ (HP.out.lt hb))) rfl ae (dE wr 164 _ _ _) (q_ _ _ _) ae ?_;intro A2 Lv w2 w_ dh JW mV)
       refine⟨⟨j+1,A2,Lv,by omega,by go_num,rfl,?_,?_,?_,?_⟩,by simp[intOf];omega⟩
       . have e1:bw (cT ws++eC (cs.take (j+1)))=bw (cT ws++eC (cs.take j))++[.int .u8 2, .int .u64 l, .int .u64 0]:=by
          rw[iw oZ,HL.out,eC,yL,<-iZ,fi];rfl
         rw[e1];exact w_.out
       . exact(HI.out.alloc _).ch dh.out (λho=>(HO.out g ho).2 rfl)
       . exact bM (ai HB.out _) dh.out (λb hb=>(HO.out b hb).1)
       . intro b hb
         have:=HB.out.size;rcases JW.out b hb with h|h
         . exact HO.out b h
         . rw[h];simp;omega
     . obtain rfl:j=q:=by omega
       clear hP hI hB hO;go_wp2_with (at_builtin;refine ay rfl (.tmp 51) (.tmp 53) 133 rfl 164 (.agg #[.int .u8 0, .int .u64 0, .int .u64 0]) 3 24 rfl ae underlying133 jr ae A1 (k+j) c1 (bw (cT ws++eC (cs.take j))) ⟨wr.heap.size,0,none⟩ 1 1 [.int .u8 3, .int .u64 0, .int .u64 0] rfl rfl (HP.out.keep (λb hb=>d_ _ _ _ (HP.out.lt hb))) rfl ae (dE wr 164 _ _ _) (q_ _ _ _) ae ?_;intro A2 Lv w2 w_ dh JW mV)
       go_ret
       have hE:bD ws=cT ws++eC (cs.take j)++[(3,0,0)]:=by
        rw[bD,Ax.out,fR (by rw[HQ.out];exact a_ _)]
       have hlen:(bD ws).length=k+j+1:=by
        rw[hE];simp[cT,eC,HN.out,HQ.out];omega
       refine⟨A2,Lv,?_,?_,?_,?_⟩
       . rw[hlen];rfl
       . rw[hlen,hE,fi];exact w_.out
       . exact bM (ai HB.out _) dh.out (λb hb=>(HO.out b hb).1)
       . intro b hb
         have:=HB.out.size;rcases JW.out b hb with h|h
         . exact(HO.out b h).1
         . rw[h];simp;omega
structure Clean(S:aq)(n:Nat)(xs:List Int)(N:Nat):Prop where
 good:Good S N
 nl:S.bA.length=n
 cur:S.cur=xs
 cg:S.cg=xs
 off:S.off=false
 armed:S.armed=false
 bL:∀(q:Nat) (l:Ln),S.bA[q]?=some l->l.bL=[]
 err:∀j,(S.a8 j).err=0
 notes:∀j x,(S.a8 j).notes x=none
structure GG(S:aq)(i n:Nat)(xs:List Int)(ws:List (Int×Int))(ls:List Int)(N:Nat):Prop where
 good:Good S N
 nl:S.bA.length=n
 cur:S.cur=aO xs ws
 cg:S.cg=xs
 off:S.off=false
 armed:S.armed=false
 bL:∀(q:Nat) (l:Ln),S.bA[q]?=some l->l.bL=ws.filter λp=>decide (p.1/64=(q:Int))
 err:∀j,(S.a8 j).err=0
 other:∀j,j≠i->∀x,(S.a8 j).notes x=none
 notes:∀(q:Nat),(64*(q:Int)∈ls/\q<n)\/(S.a8 i).notes (q:Int)=none
 note:∀(q:Nat) (l:Ln),S.bA[q]?=some l->64*(q:Int)∈ls->(S.a8 i).notes (q:Int)=some (l.done+(l.bL.length:Int))
section
variable{S:aq}{i n N:Nat}{xs:List Int}{ws:List (Int×Int)}{ls:List Int}
theorem Clean.G1(h:Clean S n xs N)(i:Nat):GG S i n xs [] [] N:=
 ⟨h.good,h.nl,h.cur,h.cg,h.off,h.armed,λq l hl=>by rw[h.bL q l hl];rfl,h.err,λj _ x=>h.notes j x,λq=> .inr (h.notes i q),λq l _ hm=>by cases hm⟩
theorem vU(ho:S.off=false)(ha:S.armed=false):S.lG true=true/\S.cnt i true={S with exec:=IntKind.u64.wrap (S.exec+1)}:=by
 simp[aq.lG,aq.cnt,aq.Dn,ho,ha]
theorem O4(ho:S.off=false)(ha:S.armed=false){k:Nat}(hk:k<8*S.bA.length)(v:Int):S.store i (8*(k:Int)) v=({S with exec:=IntKind.u64.wrap (S.exec+1)}:aq).write k v:=by
 have hw:S.cQ (8*(k:Int))=true:=by unfold aq.cQ;simp;omega
 have hq:((8*(k:Int))/8).toNat=k:=by omega
 unfold aq.store;rw[hw,(vU (i:=i) ho ha).1,aA rfl,hq,(vU ho ha).2]
theorem GG.store(h:GG S i n xs ws [] N){k:Nat}(hk:k<8*n)(v:Int):GG (S.store i (8*(k:Int)) v) i n xs (ws++[(8*(k:Int),v)]) [] (N+1):=by
 have hG:=h.good.store i (8*(k:Int)) v ae;have hE:=O4 (i:=i) h.off h.armed (k:=k) (by rw[h.nl];exact hk) v;rw[hE]at hG |-;refine⟨hG,by simp[aq.write,h.nl],?_,h.cg,h.off,h.armed,?_,h.err,h.other,λq=> .inr (by have:=h.notes q;simp only[fH,false_and,false_or]at this;exact this),λq l _ hm=>by cases hm⟩
 . rw[qE,show((8*(k:Int))/8).toNat=k by omega]
   show S.cur.set k v=_
   rw[h.cur]
 . intro q l hl
   have aM:q<S.bA.length:=by
    have:=(ki.1 hl).1;simpa [aq.write]using this
   have h0:=h.bL q S.bA[q] (by simp[aM]);simp only[aq.write,PR,dG aM]at hl;rw[KL];by_cases hq:k/8=q
   . simp[hq]at hl
     subst hl;have:(8*(k:Int))/64=(q:Int):=by omega
     simp[h0,this]
   . simp[hq]at hl
     subst hl;have:¬(8*(k:Int))/64=(q:Int):=by omega
     simp[h0,this]
theorem GG.flush(h:GG S i n xs ws ls N){q:Nat}(hq:q<n)(hN:N<1000000):GG (S.flush i (64*(q:Int))) i n xs ws (ls++[64*(q:Int)]) (N+1):=by
 have hG:=h.good.flush i (64*(q:Int)) ae ae;have nQ:S.Sz (64*(q:Int))=true:=by unfold aq.Sz;simp[h.nl];omega
 have hE:S.flush i (64*(q:Int))=({S with exec:=IntKind.u64.wrap (S.exec+1)}:aq).note i q:=by
  unfold aq.flush;rw[nQ,(vU (i:=i) h.off h.armed).1,aA rfl,(vU h.off h.armed).2,show((64*(q:Int))/64).toNat=q by omega]
 rw[hE]at hG |-;have gg:q<S.bA.length:=by rw[h.nl];exact hq
 obtain⟨a1,a2,_⟩:=h.good.ln q S.bA[q] (by simp[gg]);have hw:IntKind.u64.wrap (S.bA[q].done+(S.bA[q].bL.length:Int))=S.bA[q].done+(S.bA[q].bL.length:Int):=bY _ ae;refine⟨hG,h.nl,h.cur,h.cg,h.off,h.armed,h.bL,λj=> ?_,λj hj x=> ?_,λr=> ?_,λr l hl hm=> ?_⟩
 . by_cases hj:j=i
   . subst hj;simp[aq.note,h.err]
   . simp[aq.note,hj,h.err]
 . simp[aq.note,hj,h.other j hj x]
 . by_cases hr:r=q
   . subst hr;left;exact⟨by simp,hq⟩
   . have DG:¬(r:Int)=(q:Int):=by omega
     rcases h.notes r with h1|h1
     . left;exact⟨by simp[h1.1],h1.2⟩
     . right;simp[aq.note,DG,h1]
 . have jB:S.bA[r]?=some l:=hl
   by_cases hr:r=q
   . subst hr
     have:S.bA[r]=l:=by rw[dG gg]at jB;injection jB
     subst this;simp[aq.note,gg,hw]
   . have DG:¬(r:Int)=(q:Int):=by omega
     simp only[gG,gH]at hm;rcases hm with hm|hm
     . simp[aq.note,DG,h.note r l jB hm]
     . exfalso;omega
theorem Bu(j:Nat):∀(ws:List (Int×Int)) (xs:List Int),(∀p∈ws,0<=p.1)->(aO xs (ws.filter λp=>decide (p.1/64=((j/8:Nat):Int))))[j]?=(aO xs ws)[j]?:=by
 intro ws;induction ws with
 |nil=>intro xs _;rfl
 |cons p ws ih=>
  intro xs hp;have po:=hp p smQ;have ih':=λxs=>ih xs (λq hq=>hp q (by simp[hq]))
  by_cases hd:p.1/64=((j/8:Nat):Int)
  . rw[List.filter_cons_of_pos (by simpa using hd)]
    exact ih' _
  . rw[List.filter_cons_of_neg (by simpa using hd),ih' xs]
    show _=(aO (xs.set (p.1/8).toNat p.2) ws)[j]?
    refine uK _ j _ _ smQ ?_;rw[De,ax ae]
theorem GG.fence(h:GG S i n xs ws ls N)(hi:i<8)(hN:N<1000000)(hw:∀p∈ws,0<=p.1/\cG p.1∈ls):Clean (S.fence i) n (aO xs ws) (N+1):=by
 have hG:=(h.good.fence hi ae).mono (lM N);obtain⟨c1,c2⟩:=vU (i:=i) h.off h.armed
 have hE:S.fence i=((({S with exec:=IntKind.u64.wrap (S.exec+1)}:aq).upto (({S with exec:=IntKind.u64.wrap (S.exec+1)}:aq).due i))).fN i:=by
  unfold aq.fence;rw[c1,aA rfl,c2]
 rw[hE]at hG |-;obtain⟨T,hT⟩:∃T:aq,T={S with exec:=IntKind.u64.wrap (S.exec+1)}:=⟨_,rfl⟩;have hTl:T.bA=S.bA:=by rw[hT]
 have hTt:T.a8=S.a8:=by rw[hT]
 have hTp:T.cg=xs:=by rw[hT];exact h.cg
 have hTc:T.cur=aO xs ws:=by rw[hT];exact h.cur
 rw[<-hT]at hG |-
 have M1:∀(q:Nat) (l:Ln),S.bA[q]?=some l->T.due i q=l.bL.length:=by
  intro q l hl;obtain⟨a1,a2,_⟩:=h.good.ln q l hl;unfold aq.due;rw[hTt,hTl,hl];rcases h.notes q with hm|hm
  . rw[h.note q l hl hm.1];simp;omega
  . rw[hm]
    have:l.bL=[]:=by
     rw[h.bL q l hl,Cr];intro p hp hd;have U3:p.1/64=(q:Int):=by simpa using hd
     have hs:=(hw p hp).2;unfold cG at hs;have:p.1-p.1%64=64*(q:Int):=by omega
     rw[this]at hs;rw[h.note q l hl hs]at hm;cases hm
    rw[this];rfl
 have hlen:(T.upto (T.due i)).cg.length=xs.length:=by rw[(cd _).1,hTp]
 refine⟨hG,?_,hTc,?_,by rw[hT];exact h.off,by rw[hT];exact h.armed,?_,λj=> ?_,λj x=> ?_⟩
 . show(T.upto (T.due i)).bA.length=n
   rw[(cd _).2,hTl];exact h.nl
 . show(T.upto (T.due i)).cg=_
   apply yV
   intro j;by_cases hj:j<xs.length
   . rw[mY _ j (by rw[hTp];exact hj),hTp,hTl]
     have oZ:j/8<S.bA.length:=by
      have:=h.good.np;rw[h.cg]at this;omega
     obtain⟨l,hl⟩:∃l,S.bA[j/8]?=some l:=⟨_,dG oZ⟩;rw[hl,M1 _ l hl];simp only[Option.map_some,Option.getD_some,sO];rw[h.bL _ l hl];exact Bu j ws xs (λp hp=>(hw p hp).1)
   . rw[oY (by rw[hlen];omega),oY (by rw[bX];omega)]
 . intro q l hl
   have hl:(T.upto (T.due i)).bA[q]?=some l:=hl;rw[jz,hTl]at hl;obtain⟨l0,h0,rfl⟩:=KS.1 hl;simp[M1 q l0 h0]
 . show(((T.upto (T.due i)).fN i).a8 j).err=0
   have e1:((T.upto (T.due i)).a8)=S.a8:=hTt;by_cases hj:j=i
   . subst hj;simp[aq.fN,e1,h.err]
   . simp[aq.fN,hj,e1,h.err]
 . show(((T.upto (T.due i)).fN i).a8 j).notes x=none
   have e1:((T.upto (T.due i)).a8)=S.a8:=hTt;by_cases hj:j=i
   . subst hj;simp[aq.fN]
   . simp[aq.fN,hj,e1,h.other j hj x]
theorem GG.stores(hi:i<8):∀(vs:List (Int×Int)) {S:aq} {ws:List (Int×Int)} {N:Nat},GG S i n xs ws [] N->(∀p∈vs,∃k:Nat,p.1=8*(k:Int)/\k<8*n)->GG (S.nv i (cT vs)) i n xs (ws++vs) [] (N+vs.length):=by
 intro vs;induction vs with
 |nil=>intro S ws N h _;simpa [cT,aq.nv]using h
 |cons p vs ih=>
  intro S ws N h hp;obtain⟨k,iy,fC⟩:=hp p smQ;have h1:=h.store fC p.2;have h2:=ih h1 (λq hq=>hp q (by simp[hq]));have e:(8*(k:Int),p.2)=p:=by rw[<-iy]
  rw[e,<-iy]at h2;simp only[iZ,List.singleton_append]at h2;simp only[List.length_cons];rw[show N+(vs.length+1)=N+1+vs.length by omega];exact h2
theorem GG.Vo(hi:i<8):∀(ks:List Int) {S:aq} {ls:List Int} {N:Nat},GG S i n xs ws ls N->N+ks.length<1000000->(∀l∈ks,∃q:Nat,l=64*(q:Int)/\q<n)->GG (S.nv i (eC ks)) i n xs ws (ls++ks) (N+ks.length):=by
 intro ks;induction ks with
 |nil=>intro S ls N h _ _;simpa [eC,aq.nv]using h
 |cons l ks ih=>
  intro S ls N h hN hp;simp only[List.length_cons]at hN |-;obtain⟨q,rfl,hq⟩:=hp l smQ;have h1:=h.flush hq ae;have h2:=ih h1 ae (λq hq=>hp q (by simp[hq]));simp only[iZ,List.singleton_append]at h2;rw[show N+(ks.length+1)=N+1+ks.length by omega];exact h2
theorem Uj(ys:List Int):∀k,∀x,x∈kj (ys.take k)↔x∈ys.take k:=by
 intro k;induction k with
 |zero=>intro x;simp[kj]
 |succ k ih=>
  intro x;by_cases hk:k<ys.length
  . rw[iw hk,qz]
    split
    . rename_i hl
      rw[gG,ih x];constructor
      . exact λh=> .inl h
      . rintro(h|h)
        . exact h
        . simp at h
          subst h;exact(ih _).1 (List.mem_of_getLast? hl)
    . rw[gG,gG,ih x]
  . rw[fR ae]
    have:=ih x;rwa[fR ae]at this
theorem qb(ys:List Int)(x:Int):x∈kj ys↔x∈ys:=by have:=Uj ys ys.length x;rwa[sO]at this
theorem wa(S:aq)(i:Nat)(ps qs:List Ins):S.nv i (ps++qs)=(S.nv i ps).nv i qs:=by simp[aq.nv]
theorem Clean.stores(h:Clean S n xs N)(hi:i<8)(vs:List (Int×Int))(hv:∀p∈vs,∃k:Nat,p.1=8*(k:Int)/\k<8*n)(hN:N+(bD vs).length<1000000):Clean (S.nv i (bD vs)) n (aO xs vs) (N+(bD vs).length):=by
 have hl:(bD vs).length=vs.length+(kj (starts vs)).length+1:=by simp[bD,cT,eC];omega
 rw[hl]at hN |-;have h1:=GG.stores hi vs (h.G1 i) hv;rw[List.nil_append]at h1
 have h2:=GG.Vo hi (kj (starts vs)) h1 ae (λl hl=>by
  rw[qb]at hl;obtain⟨p,hp,rfl⟩:=iJ.1 hl;obtain⟨k,iy,fC⟩:=hv p hp;refine⟨k/8,?_,by omega⟩;unfold cG;omega)
 rw[List.nil_append]at h2
 have h3:=h2.fence hi ae (λp hp=>by
  obtain⟨k,iy,fC⟩:=hv p hp;exact⟨by omega,by rw[qb];exact iJ.2 ⟨p,hp,rfl⟩⟩)
 unfold bD;rw[wa,wa];rw[show N+(vs.length+(kj (starts vs)).length+1)=N+vs.length+(kj (starts vs)).length+1 by omega];exact h3
end
def oU(xs:List Int):List Int:=xs.mergeSort λx y=>decide (x<=y)
theorem BP(xs:List Int):(oU xs).Perm xs:=List.mergeSort_perm _ _
theorem TU(xs:List Int)(h:xs.Pairwise (· <= ·)):oU xs=xs:=List.mergeSort_of_pairwise (by simpa using h)
theorem pN(xs:List Int):(oU xs).length=xs.length:=(BP xs).length_eq
theorem FB{xs:List Int}{x:Int}:x∈oU xs↔x∈xs:=(BP xs).mem_iff
def bN(ws:List (Int×Int)):List Ins:=cT ws++eC (kj (oU (starts ws)))++[(3,0,0)]
theorem Il(ws:List (Int×Int))(h:(starts ws).Pairwise (· <= ·)):bN ws=bD ws:=by unfold bN bD;rw[TU _ h]
section
variable{ws:List (Int×Int)}{n:Nat}
theorem Im{j:Nat}(hj:j<ws.length):(bN ws).getD j (0,0,0)=(1,(ws.getD j (0,0)).1,(ws.getD j (0,0)).2):=by
 unfold bN;rw[iZ,eY,nY (by simpa [cT]using hj)];simp[cT,hj]
theorem Io{j:Nat}(hj:ws.length<=j):((bN ws).getD j (0,0,0)).1≠1:=by
 unfold bN;rw[iZ,eY,nZ (by simpa [cT]using hj)];generalize j-(cT ws).length=q;rw[List.getElem?_append];split
 . rename_i hq
   rw[dG hq];simp[eC]
 . generalize q-(eC (kj (oU (starts ws)))).length=r
   cases r with
   |zero=>simp
   |succ r=>simp
theorem lA:(bN ws).length=ws.length+(kj (oU (starts ws))).length+1:=by simp[bN,cT,eC];omega
end
section
variable{F:Nat->Prop}{d:Nat}{t:Nat->Nat}{w:World}{S:aq}{N:Nat}
theorem OD(h:DV F d t w S)(i:Nat)(hi:i<8)(hO:S.off=false)(k:Nat)(v:Int)(hk:S.cur[k]?=some v):
 Calls prog 68 #[.pointer (some ⟨t i,0,none⟩), .int .u64 (8*(k:Int))] w λe w'=>e= .returned (.int .u64 v)/\w=w':=by
 obtain⟨_,L,rfl,h3,_⟩:=h;obtain⟨hl,hv⟩:=ki.1 hk;have:=LZ w d L S h3 i hi hO k hl;rwa[hv]at this
theorem LQ(h:DV F d t w S)(i:Nat)(hi:i<8):Calls prog 65 #[.pointer (some ⟨t i,0,none⟩)] w λe w'=>e= .returned (.int .i64 (S.a8 i).err)/\w=w':=by
 obtain⟨_,L,rfl,h3,_⟩:=h;exact Wn w d L S h3 i hi
theorem Wi(h:DV F d t w S)(i:Nat)(hi:i<8):Calls prog 221 #[.pointer (some ⟨t i,0,none⟩)] w λe w'=>e= .returned (.int .u64 ((S.bA.length:Int)*64))/\w=w':=by
 obtain⟨_,L,rfl,h3,_⟩:=h;exact XQ w d L S h3 i hi
theorem kL(h:DV F d t w S)(i:Nat)(hi:i<8):Calls prog 37 #[.pointer (some ⟨d,0,none⟩), .int .i64 (i:Int)] w λe w'=>e= .returned (.pointer (some ⟨t i,0,none⟩))/\w=w':=by
 obtain⟨_,L,rfl,h3,_⟩:=h;exact Nr w d L S h3 i hi
end
structure On(S:aq)(n:Nat)(xs:List Int)(N:Nat):Prop where
 good:Good S N
 nl:S.bA.length=n
 cur:S.cur=xs
 off:S.off=false
 armed:S.armed=false
 err:∀j,(S.a8 j).err=0
theorem Ym(xs:List Int)(n:Nat)(hx:xs.length=8*n):On (jW xs n) n xs 0:=by
 refine⟨⟨by simpa [jW]using hx,by simpa [jW]using hx,λq l hl=> ?_,λi hi=>⟨Nat.le_refl _,λx c hc=>by simp[jW]at hc⟩⟩,by simp[jW],rfl,rfl,rfl,λ_=>rfl⟩;simp only[jW,IA]at hl;split at hl
 . injection hl with hl;subst hl;simp
 . cases hl
theorem On.length{S:aq}{n:Nat}{xs:List Int}{N:Nat}(h:On S n xs N):xs.length=8*n:=by rw[<-h.cur,h.good.nc,h.nl]
theorem On.mono{S:aq}{n:Nat}{xs:List Int}{N M:Nat}(h:On S n xs N)(hM:N<=M):On S n xs M:=⟨h.good.mono hM,h.nl,h.cur,h.off,h.armed,h.err⟩
theorem On.store{S:aq}{n:Nat}{xs:List Int}{N:Nat}(h:On S n xs N)(i k:Nat)(hk:k<8*n)(v:Int):On (S.store i (8*(k:Int)) v) n (xs.set k v) (N+1):=by
 have hG:=h.good.store i (8*(k:Int)) v ae;have hw:S.cQ (8*(k:Int))=true:=by unfold aq.cQ;simp[h.nl];omega
 have hq:((8*(k:Int))/8).toNat=k:=by omega
 have hE:S.store i (8*(k:Int)) v=({S with exec:=IntKind.u64.wrap (S.exec+1)}:aq).write k v:=by
  unfold aq.store;rw[hw,hq];simp[aq.lG,aq.cnt,aq.Dn,h.off,h.armed]
 rw[hE]at hG |-;exact⟨hG,by simp[aq.write,h.nl],by show S.cur.set k v=_;rw[h.cur],h.off,h.armed,h.err⟩
end Go.Proofs.YtjkpjakodomnmaaGreatDoor
