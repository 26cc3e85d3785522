/- Proved: the law LtableBegins of bedrocklaw36 returns true for every input and leaves its arguments as they were, as a tied card (Rows.LtableBeginsCardSaid). Condition: the listed table of the program's is as its initialiser lays it, which the card ties to the program's text. -/
import Derived.Test.YtjkpjakodomnmaaGreatDoorCards
import Derived.Test.YtjkpjakodomnmaaGreatDoorKuz
import Derived.Test.YtjkpjakodomnmaaGreatDoorKur
import Derived.ProofKit
import Derived.OpenShut
import Derived.ShutString
import Derived.ChangeOld
import Derived.Below
import Derived.SevenTiedAt
import Derived.Lib.SmallJoins
set_option linter.unusedVariables false
set_option linter.unusedSimpArgs false
set_option maxRecDepth 100000
set_option maxHeartbeats 16000000
namespace Go.Proofs.YtjkpjakodomnmaaGreatDoor.ltableBegins
open Go.ChangeShapes Go.WideShapes Go.ChangeAt Go.RowKit
open Go.ChangeMaps (open_string shut_string)
theorem walk(w:World)(hT:Tab w)(z0:aW)(w0:oF z0):
 Calls Tryz.prog 4 #[Pq z0] w λe w'=>e= .returned (.bool true)/\Below w.heap.size w w':=
 vD w hT z0 w0
theorem own:ownKnob Tryz.prog.godebug=none:=by kernel_rfl
theorem laidOut:laidOutB Tryz.prog=true:=by kernel_rfl
theorem fM(os:Os)(args:Array Value):laidMetH Tryz.prog Rows.ltableBeginsRow.laid ((World.doorLaid Tryz.prog 400 os).forCall (λ_ _=>0) ⟨#[],args,[]⟩).memory:=
 Ck (fuel:=8) (Ce 8 krQ krQ) krQ krQ
theorem lifted(os:Os)(started:os.Started)(H:Type)(enc:TypeId×Value->H):
 ReturnsInHanded {} Tryz.checked os 4 .any (λw args=>(Rows.ltableBeginsSpec.pre enc Tryz.prog Tryz.f4 [] false w args/\laidMetH Tryz.prog Rows.ltableBeginsRow.laid w)/\sizedMet enc Tryz.prog Tryz.f4 (OpenSpec.ofChange Rows.ltableBeginsSpec) false w args)
  (Rows.ltableBeginsSpec.post enc Tryz.prog Tryz.f4 false true false false):=by
 refine Mo (C:=Tryz.checked) (X:=λw _=>laidMetH Tryz.prog Rows.ltableBeginsRow.laid w) (λ_ _ _ hh h=>h.of_heap hh) own started krQ Tryz.func4
  (Mm (enc:=enc) (C:=Tryz.checked) (os:=os) (X:=λw _=>laidMetH Tryz.prog Rows.ltableBeginsRow.laid w) false (World.doorLaid Tryz.prog 400 os) #[.agg #[.int .i64 0, .int .i64 0, .int .u64 0, .int .u64 0, .int .u64 0]] 8 rfl (Cp krQ krQ) krQ krQ krQ (fM os _)) ?_
 intro W base args ds gs before j7 hW _ _ hL _;have zK:Tab W:=tab_of_laid hL;have hval:∀(j:Nat) t v,Tryz.f4.params[j]?=some t->args[j]?=some v->Value.okWide Tryz.prog W .any base t v:=j7;have Gb:=hW;obtain⟨p,q,xp,hV,rfl,MX,oy⟩:=hW;have hA:DataW.TrodAll enc Tryz.prog W 0 (λ_=>true) true Tryz.f4.params.toList args.toList ds p:=xp;rw[Tryz.params4]at hA hval;obtain⟨v0,vs0,d0,ds0,p0,q0,Ga,rfl,rfl,h0,r0⟩:=trodAll_cons hA;obtain⟨rfl,rfl,rfl⟩:=trodAll_nil r0;obtain rfl:args= #[v0]:=by cases args;simp_all
 obtain⟨rfl,rfl⟩:=trodVars_none hV;have k0:=h0;have Qo:∀x∈p0,x.block<W.heap.size:=by obtain⟨m,hm⟩:=k0;exact sK m _ _ _ hm
 obtain⟨z0,rfl,w0⟩:=vw Tryz.underlying33 krQ rfl rfl rfl rfl rfl krQ krQ krQ krQ krQ Tryz.underlying3 Tryz.underlying3 Tryz.underlying22 Tryz.underlying22 Tryz.underlying22 (hval 0 33 v0 rfl rfl) h0;clear xp j7;refine(walk W zK z0 w0).mono λe W' ⟨he,wX⟩=> ?_
 subst he;exact⟨_,rfl,_,_,_,[],_,[],Gb,trodAll_mk1 (BU Tryz.underlying4 _),(sM (lu laidOut krQ (kB krQ) k0 wX Qo) trodAll_mk0),rfl,wX.frame _,λh=>by cases h⟩
theorem over:Rows.ltableBeginsRow.holds Tryz.pinned (OpenSpec.ofChange Rows.ltableBeginsSpec):=
 Cs 4 Tryz.f4 rfl rfl rfl rfl rfl rfl rfl ⟨rfl,rfl,rfl,rfl,rfl⟩ rfl rfl rfl rfl rfl krQ Tryz.func4 krQ
  (kB krQ) (by unfold Func.isWrapper;first|(rw[aA (by decide+kernel)];kernel_rfl)|(rw[ax (by decide+kernel)];exact⟨rfl,rfl⟩))
  (λos started H enc _=>lifted os started H enc)
theorem card_holds:Rows.LtableBeginsCardSaid:=
 Claim7.holds_tied_plain_at .later [] [.data] true (true,Rows.ltableBeginsCard.stood.harness.2) false
  over (λ_ h=>by cases h) krQ (λ_ h=>by cases h) ltableBegins_row_tie rfl ⟨rfl,rfl⟩ krQ rfl
  (λf fn hf hfn=>by
     obtain rfl:f=4:=Option.some.inj ((show Tryz.prog.funcNamed "bedrock/bedrocklaw36.LtableBegins" =some 4 by kernel_rfl).symm.trans hf)|>.symm;obtain rfl:fn=Tryz.f4:=(Option.some.inj (Tryz.func4.symm.trans hfn)).symm
     exact⟨by kernel_rfl,λj t ht=>by
      have aS:(Tryz.f4.params.all λu=> !Tryz.prog.wantsStandIn u)=true:=by kernel_rfl
      rw[Cj]at aS;obtain⟨hj,QU⟩:=Dj.1 ht;have:=aS j hj;rw[QU]at this;exact(show Tryz.prog.wantsStandIn t=false by simpa using this)⟩)
  krQ
#print axioms card_holds
end Go.Proofs.YtjkpjakodomnmaaGreatDoor.ltableBegins
