/- Proved: the law LtableFree of bedrocklaw36 returns true for every input and leaves its arguments as they were, as a tied card (Rows.LtableFreeCardSaid). Condition: the listed table of the program's is as its initialiser lays it, which the card ties to the program's text. -/
import Derived.Test.YtjkpjakodomnmaaGreatDoorCards
import Derived.Test.YtjkpjakodomnmaaGreatDoorKwb
import Derived.ProofKit
import Derived.OpenShut
import Derived.ShutString
import Derived.ChangeOld
import Derived.Below
import Derived.SevenTiedAt
import Derived.Lib.SmallJoins
set_option linter.unusedVariables false
set_option linter.unusedSimpArgs false
set_option maxRecDepth 100000
set_option maxHeartbeats 16000000
namespace Go.Proofs.YtjkpjakodomnmaaGreatDoor.ltableFree
open Go.ChangeShapes Go.WideShapes Go.ChangeAt Go.RowKit
open Go.ChangeMaps (open_string shut_string)
theorem walk(w:World)(hT:Tab w)(a0:Int)(w0:(Lit.int .i64 a0).wf=true)(b0:Option Addr)(MD Ny:Nat)(z0:List aW)(c0:rQ w b0 MD Ny z0)(a1:Option Addr)(nF nL:Nat)(z1:List Int)(w1:uL .i64 w a1 nF nL z1)(z2:aW)(w2:oF z2):
 Calls Tryz.prog 8 #[.agg #[.int .i64 a0, .slice b0 MD Ny], .slice a1 nF nL,Pq z2] w λe w'=>e= .returned (.bool true)/\Below w.heap.size w w':=by
 obtain⟨ys,hl,hc,hm,hR,hy⟩:=uu w1;exact zu w hT a0 (wf_i64 w0) b0 MD Ny z0 c0 a1 nF nL ys hl ae hR (λx h=>by have:=wf_i64 (hy x h);omega) z2 w2
theorem own:ownKnob Tryz.prog.godebug=none:=by kernel_rfl
theorem laidOut:laidOutB Tryz.prog=true:=by kernel_rfl
theorem fM(os:Os)(args:Array Value):laidMetH Tryz.prog Rows.ltableFreeRow.laid ((World.doorLaid Tryz.prog 400 os).forCall (λ_ _=>0) ⟨#[],args,[]⟩).memory:=
 Ck (fuel:=8) (Ce 8 krQ krQ) krQ krQ
theorem lifted(os:Os)(started:os.Started)(H:Type)(enc:TypeId×Value->H):
 ReturnsInHanded {} Tryz.checked os 8 .any (λw args=>(Rows.ltableFreeSpec.pre enc Tryz.prog Tryz.f8 [] false w args/\laidMetH Tryz.prog Rows.ltableFreeRow.laid w)/\sizedMet enc Tryz.prog Tryz.f8 (OpenSpec.ofChange Rows.ltableFreeSpec) false w args)
  (Rows.ltableFreeSpec.post enc Tryz.prog Tryz.f8 false true false false):=by
 refine Mo (C:=Tryz.checked) (X:=λw _=>laidMetH Tryz.prog Rows.ltableFreeRow.laid w) (λ_ _ _ hh h=>h.of_heap hh) own started krQ Tryz.func8
  (Mm (enc:=enc) (C:=Tryz.checked) (os:=os) (X:=λw _=>laidMetH Tryz.prog Rows.ltableFreeRow.laid w) false (World.doorLaid Tryz.prog 400 os) #[.agg #[.int .i64 0, .slice none 0 0], .slice none 0 0, .agg #[.int .i64 0, .int .i64 0, .int .u64 0, .int .u64 0, .int .u64 0]] 8 rfl (Cp krQ krQ) krQ krQ krQ (fM os _)) ?_
 intro W base args ds gs before j7 hW _ _ hL _;have zK:Tab W:=tab_of_laid hL;have hval:∀(j:Nat) t v,Tryz.f8.params[j]?=some t->args[j]?=some v->Value.okWide Tryz.prog W .any base t v:=j7;have Gb:=hW;obtain⟨p,q,xp,hV,rfl,MX,oy⟩:=hW;have hA:DataW.TrodAll enc Tryz.prog W 0 (λ_=>true) true Tryz.f8.params.toList args.toList ds p:=xp;rw[Tryz.params8]at hA hval;obtain⟨v0,vs0,d0,ds0,p0,q0,Ga,rfl,rfl,h0,r0⟩:=trodAll_cons hA;obtain⟨v1,vs1,d1,ds1,p1,q1,rfl,rfl,rfl,h1,r1⟩:=trodAll_cons r0;obtain⟨v2,vs2,d2,ds2,p2,q2,rfl,rfl,rfl,h2,r2⟩:=trodAll_cons r1;obtain⟨rfl,rfl,rfl⟩:=trodAll_nil r2;obtain rfl:args= #[v0,v1,v2]:=by cases args;simp_all
 obtain⟨rfl,rfl⟩:=trodVars_none hV;have k0:=h0;have Qo:∀x∈p0,x.block<W.heap.size:=by obtain⟨m,hm⟩:=k0;exact sK m _ _ _ hm
 have k1:=h1;have Um:∀x∈p1,x.block<W.heap.size:=by obtain⟨m,hm⟩:=k1;exact sK m _ _ _ hm
 have k2:=h2;have Yx:∀x∈p2,x.block<W.heap.size:=by obtain⟨m,hm⟩:=k2;exact sK m _ _ _ hm
 obtain⟨u00,u01,y00,y01,n0,rfl,rfl,rfl,t00,t01⟩:=Go.Joins.open_agg2 Tryz.underlying73 krQ krQ (hval 0 73 v0 rfl rfl) h0;obtain⟨a0,e0,_,x0⟩:=mG Tryz.underlying3 t00;simp only[tV,mF]at e0;subst e0
 obtain⟨b0,MD,Ny,o0⟩:∃b len cap,u01= .slice b len cap:=by
  rcases Go.Deep.open_slice Tryz.underlying34 t01 with⟨hcs,_⟩|⟨x,l,c,m,n,D,Pl,hcs,_⟩
  . simp only[tV,mF]at hcs
    exact⟨none,0,0,hcs⟩
  . simp only[tV,mF]at hcs
    exact⟨some x,l,c,hcs⟩
 subst o0;obtain⟨z0,w0⟩:∃cs,rQ W b0 MD Ny cs:=xI Tryz.underlying34 Tryz.underlying33 krQ rfl rfl rfl rfl rfl krQ krQ krQ krQ krQ Tryz.underlying3 Tryz.underlying3 Tryz.underlying22 Tryz.underlying22 Tryz.underlying22 t01;obtain⟨a1,nF,nL,rfl⟩:=okWide_slice Tryz.underlying23 (hval 1 23 v1 rfl rfl)
 obtain⟨z1,w1⟩:∃zs,uL .i64 W a1 nF nL zs:=by
  obtain⟨fuel,hf⟩:=h1;rcases open_ints Tryz.underlying23 Tryz.underlying3 krQ hf with⟨hcs,_⟩|⟨x,l,c,zs,hcs,_,hl,hm,hz,_,hcell,QC⟩
  . simp[Value.cells]at hcs
    obtain⟨rfl,rfl,rfl⟩:=hcs;exact⟨[], .inl ⟨rfl,rfl,rfl,rfl⟩⟩
  . simp[Value.cells]at hcs
    obtain⟨rfl,rfl,rfl⟩:=hcs;exact⟨zs, .inr ⟨_,rfl,hl,hm,by simpa using hz,hcell,QC⟩⟩
 obtain⟨z2,rfl,w2⟩:=vw Tryz.underlying33 krQ rfl rfl rfl rfl rfl krQ krQ krQ krQ krQ Tryz.underlying3 Tryz.underlying3 Tryz.underlying22 Tryz.underlying22 Tryz.underlying22 (hval 2 33 v2 rfl rfl) h2;clear xp j7;refine(walk W zK a0 x0 b0 MD Ny z0 w0 a1 nF nL z1 w1 z2 w2).mono λe W' ⟨he,wX⟩=> ?_
 subst he;exact⟨_,rfl,_,_,_,[],_,[],Gb,trodAll_mk1 (BU Tryz.underlying4 _),(sM (lu laidOut krQ (kB krQ) k0 wX Qo) (sM (lu laidOut krQ (kB krQ) k1 wX Um) (sM (lu laidOut krQ (kB krQ) k2 wX Yx) trodAll_mk0))),rfl,wX.frame _,λh=>by cases h⟩
theorem over:Rows.ltableFreeRow.holds Tryz.pinned (OpenSpec.ofChange Rows.ltableFreeSpec):=
 Cs 8 Tryz.f8 rfl rfl rfl rfl rfl rfl rfl ⟨rfl,rfl,rfl,rfl,rfl⟩ rfl rfl rfl rfl rfl krQ Tryz.func8 krQ
  (kB krQ) (by unfold Func.isWrapper;first|(rw[aA (by decide+kernel)];kernel_rfl)|(rw[ax (by decide+kernel)];exact⟨rfl,rfl⟩))
  (λos started H enc _=>lifted os started H enc)
theorem card_holds:Rows.LtableFreeCardSaid:=
 Claim7.holds_tied_plain_at .later [] [.data] true (true,Rows.ltableFreeCard.stood.harness.2) false
  over (λ_ h=>by cases h) krQ (λ_ h=>by cases h) ltableFree_row_tie rfl ⟨rfl,rfl⟩ krQ rfl
  (λf fn hf hfn=>by
     obtain rfl:f=8:=Option.some.inj ((show Tryz.prog.funcNamed "bedrock/bedrocklaw36.LtableFree" =some 8 by kernel_rfl).symm.trans hf)|>.symm;obtain rfl:fn=Tryz.f8:=(Option.some.inj (Tryz.func8.symm.trans hfn)).symm
     exact⟨by kernel_rfl,λj t ht=>by
      have aS:(Tryz.f8.params.all λu=> !Tryz.prog.wantsStandIn u)=true:=by kernel_rfl
      rw[Cj]at aS;obtain⟨hj,QU⟩:=Dj.1 ht;have:=aS j hj;rw[QU]at this;exact(show Tryz.prog.wantsStandIn t=false by simpa using this)⟩)
  krQ
#print axioms card_holds
end Go.Proofs.YtjkpjakodomnmaaGreatDoor.ltableFree
