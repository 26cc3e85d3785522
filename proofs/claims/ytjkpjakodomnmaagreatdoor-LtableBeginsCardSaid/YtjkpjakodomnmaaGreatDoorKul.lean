/- The reference's next; machines of a run that is over (merged -/
import Derived.Test.YtjkpjakodomnmaaGreatDoorKtau
set_option linter.unusedVariables false
set_option linter.unusedSimpArgs false
set_option maxRecDepth 100000
set_option maxHeartbeats 16000000
namespace Go.Proofs.YtjkpjakodomnmaaGreatDoor
open Go.RowKit Go.Proofs.Tryz
def RqC(w:World)(g o:Nat)(t:RQ):Prop:=w.cell? ⟨g,o,none⟩=some (.int .i64 (t.c.kind:Int))/\w.cell? ⟨g,o+1,none⟩=some (.int .u64 t.c.key)/\w.cell? ⟨g,o+2,none⟩=some (.int .u64 t.c.val)/\w.cell? ⟨g,o+3,none⟩=some (.int .u64 t.c.old)/\w.cell? ⟨g,o+4,none⟩=some (.int .i64 t.bg)/\w.cell? ⟨g,o+5,none⟩=some (.int .i64 t.en)/\
 w.cell? ⟨g,o+6,none⟩=some (.bool t.ended)/\w.cell? ⟨g,o+7,none⟩=some (.int .u64 t.got)/\w.cell? ⟨g,o+8,none⟩=some (.int .i64 t.err)
def Bz(w:World)(g off m:Nat)(l:List RQ):Prop:=
 g<w.heap.size/\∀k,k<m->RqC w g (off+k*9) (l.getD k du)
theorem Bz.bl{w w':World}{g off m:Nat}{l:List RQ}(h:Bz w g off m l)(hB:Below w.heap.size w w'):Bz w' g off m l:=by
 refine⟨cD h.1 hB.size,λk hk=> ?_⟩;have hc:∀o,w'.cell? ⟨g,o,none⟩=w.cell? ⟨g,o,none⟩:=λo=>hB.cell (p:=⟨g,o,none⟩) h.1
 unfold RqC;simp only[hc];exact h.2 k hk
def xz(w:World)(g off m:Nat)(bs:List Bool):Prop:=g<w.heap.size/\∀k,k<m->w.cell? ⟨g,off+k,none⟩=some (.bool (bs.getD k true))
theorem xz.bl{w w':World}{g off m:Nat}{l:List Bool}(h:xz w g off m l)(hB:Below w.heap.size w w'):xz w' g off m l:=
 ⟨cD h.1 hB.size,λk hk=>(hB.cell (p:=⟨g,off+k,none⟩) h.1).trans (h.2 k hk)⟩
def Qh(l:List RQ)(used:List Bool)(i k:Nat):Bool:= !(decide (k≠i)&&(!used.getD k true&&yK (l.getD k du) (l.getD i du)))
theorem fG(f:Nat->Bool)(j:Nat):(List.range (j+1)).all f=((List.range j).all f&&f j):=by simp[xf]
theorem ku(f:Nat->Bool){j m:Nat}(h:j<m)(hf:f j=false):(List.range m).all f=false:=by
 rw[PD];intro ha;rw[ir]at ha;rw[ha j (by simpa using h)]at hf;cases hf
theorem vg(w:World)(g off m c:Nat)(l:List RQ)(hl:l.length=m)(hm:m<=1000)(hP:Bz w g off m l)(gu ou cu:Nat)(used:List Bool)(hU:xz w gu ou m used)(i:Nat)(hi:i<m):
 Calls prog 74 #[.slice (some ⟨g,off,none⟩) m c, .slice (some ⟨gu,ou,none⟩) m cu, .int .i64 (i:Int)] w λr w'=>r= .returned (.bool (eR l used i))/\Below w.heap.size w w':=by
 have HP:=ag hP;have HU:=ag hU;have eh:=hP.1;have hgu:=hU.1;have cu0:=hU.2 i hi;have hiI:(i:Int)<(m:Int):=by omega
 have Eb:Hid (eR l used i=(!used.getD i true&&(List.range m).all (Qh l used i))):=by show _=_;rw[<-hl];rfl
 obtain⟨ui,YM⟩:∃b,used.getD i true=b:=⟨_,rfl⟩;rw[YM]at cu0 Eb;cases ui with
 |true=>
  clear hP hU YM;go_enter func74,ntmps74
  go_wp2;exact bH (v:= .bool false) (by simp[results,results74,go_sem]) rfl ⟨by rw[Eb.out];rfl,by exact aC⟩
 |false=>
  clear hP hU YM;go_enter func74,ntmps74
  go_wp2;go_loopw [14,6,7,15,16,17,18,19,20,21,22,23,24,25,26,27,28,29,30,31,32,33,34,35,36,37,38,39,40,41,42,43,44,45,46,47] (λi' _ _ _ _ _ _ _ _ _ _ _ _ _ _ _ _ _ _ _ _ _ _ _ _ _ _ _ _ _ _ _ _ _ _ _ wr=>∃j:Nat,j<=m/\i'= .int .i64 j/\(List.range j).all (Qh l used i)=true/\Below w.heap.size w wr) (λi' _ _ _ _ _ _ _ _ _ _ _ _ _ _ _ _ _ _ _ _ _ _ _ _ _ _ _ _ _ _ _ _ _ _ _ _=>m-(intOf i').toNat)
  case atStart=>exact⟨0,by omega,rfl,by simp,bZ _ _⟩
  case round=>
   obtain⟨j,hj,rfl,aS,hB⟩:=hrel;have iV:=ag aS;have HB:=ag hB;by_cases aM:j<m
   . have dx:(j:Int)<(m:Int):=by omega
     have uy:=fG (Qh l used i) j;rw[aS,B5]at uy;have HNF:=ag (ku (Qh l used i) aM);have fX:=ag uy;have fK:g<wr.heap.size:=cD eh hB.size;have QW:gu<wr.heap.size:=cD hgu hB.size;have cuj:=(HU.out.bl hB).2 j aM;obtain⟨_,_,_,_,_,a3,a4,_,_⟩:=(HP.out.bl hB).2 j aM;obtain⟨_,_,_,_,b2,_,_,_,_⟩:=(HP.out.bl hB).2 i hi;have fx:Hid (Qh l used i j= !(decide (j≠i)&&(!used.getD j true&&((l.getD j du).ended&&decide ((l.getD j du).en<(l.getD i du).bg))))):=rfl;generalize used.getD j true=uj at cuj fx;generalize (l.getD j du).ended=ed at a4 fx;generalize (l.getD j du).en=en at a3 fx;generalize (l.getD i du).bg=bg at b2 fx;clear aS hB uy;by_cases eb:j=i
     . have hd:((j:Int) !=(i:Int))=false:=by simp;omega
       go_wp2;go_quiet (fail)
       go_wp2;exact⟨⟨j+1,by omega,by go_num,by rw[fX.out,fx.out];simp[eb],HB.out.trans ((by exact aC:Below wr.heap.size wr _).mono HB.out.size)⟩,by simp[intOf];omega⟩
     . have hd:((j:Int) !=(i:Int))=true:=by simp;omega
       cases uj with
       |true=>
        go_wp2;go_quiet (fail)
        go_wp2;exact⟨⟨j+1,by omega,by go_num,by rw[fX.out,fx.out];simp,HB.out.trans ((by exact aC:Below wr.heap.size wr _).mono HB.out.size)⟩,by simp[intOf];omega⟩
       |false=>
        cases ed with
        |false=>
         go_wp2;go_quiet (fail)
         go_wp2;exact⟨⟨j+1,by omega,by go_num,by rw[fX.out,fx.out];simp,HB.out.trans ((by exact aC:Below wr.heap.size wr _).mono HB.out.size)⟩,by simp[intOf];omega⟩
        |true=>
         by_cases G_:en<bg
         . have Hb:decide (en<bg)=true:=kx G_
           go_wp2;go_quiet (fail)
           go_wp2;exact bH (v:= .bool false) (by simp[results,results74,go_sem]) rfl ⟨by rw[Eb.out,HNF.out (by rw[fx.out];simp[eb,G_])];rfl,HB.out.trans ((by exact aC:Below wr.heap.size wr _).mono HB.out.size)⟩
         . have Hb:decide (en<bg)=false:=oX G_
           go_wp2;go_quiet (fail)
           go_wp2;exact⟨⟨j+1,by omega,by go_num,by rw[fX.out,fx.out];simp[G_],HB.out.trans ((by exact aC:Below wr.heap.size wr _).mono HB.out.size)⟩,by simp[intOf];omega⟩
   . obtain rfl:j=m:=by omega
     clear aS hB;go_wp2;exact bH (v:= .bool true) (by simp[results,results74,go_sem]) rfl ⟨by rw[Eb.out,iV.out];rfl,HB.out⟩
theorem fe.ZdC{K:TK}{q0:List (Int×Int)}{cs:List (TC×Nat)}{ms:List TM}{ord:List Nat}(h:fe K q0 cs ms ord):exq K.NN (ms.map fp) (dY K.NN ms q0 ord) ms.length q0 (List.replicate ms.length false)=true:=by
 obtain⟨σ,Tm,L,T,fl,N,lf,now,g1,_⟩:=h;have:=g1.Gl;rwa[vk]at this
theorem RS{w w1 w2:World}{d p q n lines NN N:Nat}{t:Nat->Nat}{σ:PwS}{xs:List Int}{L:Nat->Int}{Tr:Nat->TT}{fl:List Nat}(oL:w.heap.size<=q)(hR:o_ (mC w q) p d q n lines NN t w1 [] N σ xs L Tr fl)(eD:Below w.heap.size w w1)(dy:Below w1.heap.size w1 w2):
 ∃κ,o_ κ p d q n lines NN t w2 [] N σ xs L Tr fl/\Below w.heap.size w w2/\∀b,b<w.heap.size->κ b=1:=by
 refine⟨_,hR.ch dy,eD.trans (dy.mono eD.size),λb hb=> ?_⟩;rw[bc (cD hb eD.size)];unfold mC;rw[ax ae,aA hb]
theorem JK{κ:Nat->Nat}{w w2 w3:World}(hb:Below w.heap.size w w2)(hk:∀b,b<w.heap.size->κ b=1)(hC:Ch (λb=>κ b=0\/κ b=2) w2 w3):Below w.heap.size w w3:=
 bM hb hC (λb h=>by
  by_cases aM:b<w.heap.size
  . have:=hk b aM;omega
  . omega)
def Ui(t:RQ)(a:Nat):Array Value:=
 #[.pointer (some ⟨a,0,none⟩), .int .i64 (t.c.kind:Int), .int .u64 t.c.key, .int .u64 t.c.val, .int .u64 t.c.old, .int .i64 t.bg, .int .i64 t.en, .bool t.ended, .int .u64 t.got, .int .i64 t.err, .bool true, .bool true]
def Od(w:World)(A:Option Addr)(M:Nat)(ts:List RQ):Prop:=
 ∀i,i<M->(ts.getD i du).err≠7/\∃gS oS g a,A=some ⟨gS,oS,none⟩/\gS<w.heap.size/\w.cell? ⟨gS,oS+i,none⟩=some (.pointer (some ⟨g,0,none⟩))/\CB w g 40 (Ui (ts.getD i du) a)
theorem Od.bl{w w':World}{A:Option Addr}{M:Nat}{ts:List RQ}(h:Od w A M ts)(hB:Below w.heap.size w w'):Od w' A M ts:=by
 intro i hi;obtain⟨h0,gS,oS,g,a,h1,h2,h3,h4⟩:=h i hi;exact⟨h0,gS,oS,g,a,h1,cD h2 hB.size,(hB.cell (p:=⟨gS,oS+i,none⟩) h2).trans h3,h4.keep (hB.block g h4.lt)⟩
theorem VO.Yv{κ:Nat->Nat}{w:World}{A:Option Addr}{c:Nat}{ms:List TM}(h:VO κ w A c ms)(cM:∀m∈ms,∃v e,m.ph= .fin v e/\(e=0\/e=4\/e=5\/e=6)):Od w A ms.length (ms.map fp):=by
 obtain⟨gs,oz,hS,hg,_,hm⟩:=h;intro i hi;have QX:ms[i]?=some ms[i]:=dG hi;obtain⟨v,e,hf,he⟩:=cM _ (fq hi);obtain⟨oM,_⟩:=hm i _ QX;obtain⟨gS,oS,hA,eh,hc⟩:=hS.at_ (j:=i) (by simp[hg,hi])
 have hx:(gs.map xF)[i]'(by simp[hg,hi])= .pointer (some ⟨gs.getD i 0,0,none⟩):=by
  rw[vo,eY,dG (by rw[hg];exact hi)];rfl
 rw[hx]at hc;have hq:fp ms[i]=⟨ms[i].c,ms[i].bg,ms[i].en,true,v,e⟩:=by unfold fp;rw[hf]
 rw[jU QX,hq];refine⟨by show e≠7;omega,gS,oS,gs.getD i 0,oz.getD i 0,hA,eh,hc,?_⟩
 have Zd:zi ms[i] (oz.getD i 0)=Ui ⟨ms[i].c,ms[i].bg,ms[i].en,true,v,e⟩ (oz.getD i 0):=by
  unfold zi Ui;rw[hf];rfl
 rw[Zd]at oM;exact oM
theorem VO.maQ{κ:Nat->Nat}{w:World}{A:Option Addr}{c:Nat}{K:TK}{ms:List TM}{q0:List (Int×Int)}{cs:List (TC×Nat)}{ord:List Nat}(h:VO κ w A c ms)(hr:fe K q0 cs ms ord):Od w A ms.length (ms.map fp):=
 h.Yv (λm hm=>hr.err hm)
theorem eZ.kd{K:TK}{q0:List (Int×Int)}{σ:PwS}{ms:List TM}{Tm:Nat}{L:Nat->Int}{T:Nat->TT}{fl:List Nat}{ord:List Nat}{N:Nat}(h:eZ K q0 σ ms Tm L T fl ord N)(k:Nat):((ms.map fp).getD k du).c.kind<=3:=by
 by_cases hk:k<ms.length
 . have hg:ms[k]?=some ms[k]:=dG hk
   rw[jU hg,(kS ms[k]).1];exact(h.ok k _ hg).vl.2.2.2.2
 . rw[eY,oY (by simp;omega)]
   exact im 3
theorem fe.kd{K:TK}{q0:List (Int×Int)}{cs:List (TC×Nat)}{ms:List TM}{ord:List Nat}(h:fe K q0 cs ms ord)(k:Nat):((ms.map fp).getD k du).c.kind<=3:=by
 obtain⟨σ,Tm,L,T,fl,N,lf,now,g1,_⟩:=h;exact g1.kd k
theorem TF(ms:List TM)(h:∀m∈ms,m.th<3):(oh ms 0).length+(oh ms 1).length+(oh ms 2).length=ms.length:=by
 induction ms with
 |nil=>rfl
 |cons m ms ih=>
  have:=ih (λx hx=>h x (by simp[hx]));have hm:=h m smQ;unfold oh at this |-;simp only[sN,vk]at this |-;rcases(by omega:m.th=0\/m.th=1\/m.th=2)with e|e|e<;>simp[e]<;>omega
theorem Yy(cs:List (TC×Nat)):(eL cs 0).length+(eL cs 1).length+(eL cs 2).length<=cs.length:=by
 induction cs with
 |nil=>exact a_ _
 |cons c cs ih=>
  unfold eL at ih |-;simp only[sN,vk]at ih |-;by_cases e0:c.2=0
  . simp[e0];omega
  . by_cases e1:c.2=1
    . simp[e1];omega
    . by_cases e2:c.2=2
      . simp[e2];omega
      . simp[e0,e1,e2];omega
theorem fe.len{K:TK}{q0:List (Int×Int)}{cs:List (TC×Nat)}{ms:List TM}{ord:List Nat}(h:fe K q0 cs ms ord):ms.length<=cs.length:=by
 obtain⟨σ,Tm,L,T,fl,N,lf,now,_,g2,g3,_,_⟩:=h;have nQ:∀t,t<3->oh ms t=eL cs t:=λt ht=>by have:=g2.seq t ht;rw[g3 t ht,vh]at this;exact this
 have h1:=TF ms (λm hm=>by
  obtain⟨i,hi⟩:=ze.1 hm;exact(g2.a8 i m hi).1)
 rw[nQ 0 ae,nQ 1 ae,nQ 2 ae]at h1;have:=Yy cs;omega
end Go.Proofs.YtjkpjakodomnmaaGreatDoor
