/- The base, part 1 (merged). -/
import Derived.WalkKit
import Derived.Handy
import Derived.Outline
import Derived.Lib.Hide
import Derived.Deep.QuietTactic
import Derived.BigQuiet
import Derived.Deep.Draws
import Derived.Deep.OwnRows
import Derived.Deep.LoopGhost
import Derived.Laws.CopyOwn
import Derived.Laws.BitsAllLaws
import Derived.Maps.AppendAt
import Derived.Deep.AppendLies
import Derived.RegionTactic
import Derived.OwnWalk
import Derived.ArgAppend
import Derived.Test.YtjkpjakodomnmaaGreatDoorProg
import Derived.Maps.OwnSet
import Derived.Maps.OwnOps
set_option linter.unusedVariables false
set_option linter.unusedSimpArgs false
set_option maxRecDepth 100000
set_option maxHeartbeats 16000000
namespace Go.Proofs.Tryz
end Go.Proofs.Tryz
namespace Go.Proofs.YtjkpjakodomnmaaGreatDoor
open Go.RowKit Go.Proofs.Tryz
abbrev Cj:=@Array.all_eq_true
abbrev PI:=@Array.empty_append
abbrev P3:=@Array.getElem?_append_left
abbrev PV:=@Array.getElem?_eq_none
abbrev Dj:=@Array.getElem?_eq_some_iff
abbrev xg:=@Array.getElem?_setIfInBounds
abbrev PY:=@Array.setIfInBounds_comm
abbrev PB:=@Array.size_append
abbrev PQ:=@Array.toList_append
abbrev d_:=@Go.RowKit.Below.heap_alloc
abbrev ft:=@Go.RowKit.Below.heap_setCell
abbrev bZ:=@Go.RowKit.Below.refl
abbrev lu:=@Go.RowKit.Below.trod
abbrev kz:=@Bool.and_eq_true
abbrev PD:=@Bool.eq_false_iff
abbrev Ps:=@Bool.eq_iff_iff
abbrev eS:=@Bool.false_eq_true
abbrev PE:=@Bool.not_eq_true'
abbrev AY:=@Bool.or_eq_false_iff
abbrev Kz:=@Bool.or_eq_true
abbrev tY:=@Bool.or_false
abbrev B5:=@Bool.true_and
abbrev mG:=@DataW.trod_int
abbrev sK:=@DataW.trod_lt
abbrev KG:=@DataW.trod_struct
abbrev KH:=@Decidable.not_not
abbrev Wv:=@Go.WideShapes.okWide_struct
abbrev PF:=@Int.emod_eq_of_lt
abbrev vr:=@Int.eq_ofNat_of_zero_le
abbrev Kw:=@Int.mul_assoc
abbrev Ff:=@Int.mul_comm
abbrev IC:=@Int.tdiv_eq_ediv_of_nonneg
abbrev ID:=@Int.tmod_eq_emod_of_nonneg
abbrev Cf:=@IntKind.wrap_u64
abbrev b9:=@IntWalk.i64_in
abbrev bY:=@IntWalk.u64_in
abbrev ag:=@Lib.hid
abbrev Wx:=@List.Nodup.length_le_of_subset
abbrev zd:=@List.Perm.append_left
abbrev PZ:=@List.Perm.eq_of_pairwise
abbrev wB:=@List.Perm.refl
abbrev ir:=@List.all_eq_true
abbrev KI:=@List.any_eq_false
abbrev Px:=@List.any_eq_true
abbrev iZ:=@List.append_assoc
abbrev vh:=@List.append_nil
abbrev tV:=@List.cons.injEq
abbrev P5:=@List.drop_append_of_le_length
abbrev PW:=@List.drop_of_length_le
abbrev jm:=@List.drop_succ_cons
abbrev Fg:=@List.drop_take
abbrev iq:=@List.drop_zero
abbrev E9:=@List.eq_nil_of_length_eq_zero
abbrev Cg:=@List.ext_getElem
abbrev yV:=@List.ext_getElem?
abbrev KL:=@List.filter_append
abbrev sN:=@List.filter_cons
abbrev Cr:=@List.filter_eq_nil_iff
abbrev yZ:=@List.filter_eq_self
abbrev yW:=@List.find?_eq_none
abbrev P0:=@List.find?_range_eq_some
abbrev Fh:=@List.find?_some
abbrev Cl:=@List.flatMap_append
abbrev yM:=@List.flatMap_cons
abbrev KB:=@List.flatMap_nil
abbrev eY:=@List.getD_eq_getElem?_getD
abbrev nY:=@List.getElem?_append_left
abbrev nZ:=@List.getElem?_append_right
abbrev Fk:=@List.getElem?_drop
abbrev dG:=@List.getElem?_eq_getElem
abbrev oY:=@List.getElem?_eq_none
abbrev ki:=@List.getElem?_eq_some_iff
abbrev AX:=@List.getElem?_map
abbrev PR:=@List.getElem?_modify
abbrev Cn:=@List.getElem?_of_mem
abbrev KN:=@List.getElem?_range
abbrev IA:=@List.getElem?_replicate
abbrev De:=@List.getElem?_set
abbrev rE:=@List.getElem?_set_ne
abbrev nX:=@List.getElem?_set_self
abbrev Fl:=@List.getElem?_take
abbrev PS:=@List.getElem?_toArray
abbrev Ci:=@List.getElem_inj
abbrev vo:=@List.getElem_map
abbrev fq:=@List.getElem_mem
abbrev y_:=@List.getElem_of_mem
abbrev PJ:=@List.getElem_range
abbrev PG:=@List.getElem_take
abbrev dO:=@List.length_append
abbrev yU:=@List.length_drop
abbrev PT:=@List.length_filter_le
abbrev vk:=@List.length_map
abbrev yO:=@List.length_replicate
abbrev lO:=@List.length_set
abbrev gf:=@List.length_take
abbrev yL:=@List.map_append
abbrev oV:=@List.map_cons
abbrev wu:=@List.map_nil
abbrev Fm:=@List.map_replicate
abbrev yR:=@List.map_set
abbrev KD:=@List.map_toArray
abbrev gG:=@List.mem_append
abbrev iu:=@List.mem_append_left
abbrev i_:=@List.mem_append_right
abbrev dr:=@List.mem_cons
abbrev pV:=@List.mem_cons_of_mem
abbrev yX:=@List.mem_cons_self
abbrev xe:=@List.mem_filter
abbrev Fj:=@List.mem_flatMap
abbrev ze:=@List.mem_iff_getElem?
abbrev iJ:=@List.mem_map
abbrev Mn:=@List.mem_of_find?_eq_some
abbrev AZ:=@List.mem_of_getElem?
abbrev za:=@List.mem_of_mem_take
abbrev B6:=@List.mem_range
abbrev gH:=@List.mem_singleton
abbrev tW:=@List.nodup_append
abbrev rD:=@List.nodup_cons
abbrev Py:=@List.nodup_range
abbrev fH:=@List.not_mem_nil
abbrev Fo:=@List.pairwise_append
abbrev yY:=@List.pairwise_cons
abbrev A8:=@List.pairwise_iff_getElem
abbrev Cq:=@List.perm_append_comm
abbrev P4:=@List.perm_ext_iff_of_nodup
abbrev KE:=@List.perm_middle
abbrev xf:=@List.range_succ
abbrev cV:=@List.setIfInBounds_toArray
abbrev PU:=@List.set_append_right
abbrev yS:=@List.set_set
abbrev Df:=@List.size_toArray
abbrev KP:=@List.take_append_drop
abbrev Ct:=@List.take_append_getElem
abbrev KT:=@List.take_append_of_le_length
abbrev B_:=@List.take_left
abbrev sO:=@List.take_length
abbrev fR:=@List.take_of_length_le
abbrev iw:=@List.take_succ_eq_append_getElem
abbrev Ca:=@List.take_take
abbrev Ky:=@Maps.int_keyed
abbrev PH:=@Maps.keyOf_int_mk
abbrev sL:=@Nat.add_assoc
abbrev sJ:=@Nat.add_mul
abbrev PK:=@Nat.add_sub_cancel
abbrev P6:=@Nat.and_two_pow_sub_one_eq_mod
abbrev Pt:=@Nat.div_le_self
abbrev Di:=@Nat.eq_of_testBit_eq
abbrev BZ:=@Nat.le_of_eq
abbrev tU:=@Nat.le_of_lt
abbrev a_:=@Nat.le_refl
abbrev lM:=@Nat.le_succ
abbrev f_:=@Nat.le_trans
abbrev KM:=@Nat.lt_of_le_of_lt
abbrev cD:=@Nat.lt_of_lt_of_le
abbrev vn:=@Nat.min_eq_left
abbrev Pz:=@Nat.mod_eq_of_lt
abbrev yP:=@Nat.mod_lt
abbrev Fa:=@Nat.mod_one
abbrev Kt:=@Nat.mul_comm
abbrev Cm:=@Nat.mul_le_mul_left
abbrev zc:=@Nat.mul_le_mul_right
abbrev wo:=@Nat.mul_one
abbrev E_:=@Nat.not_le
abbrev Fb:=@Nat.or_comm
abbrev yN:=@Nat.pow_le_pow_right
abbrev P2:=@Nat.shiftRight_eq_div_pow
abbrev wA:=@Nat.sub_self
abbrev Pu:=@Nat.testBit_and
abbrev vq:=@Nat.testBit_lt_two_pow
abbrev PX:=@Nat.testBit_mod_two_pow
abbrev PA:=@Nat.testBit_succ
abbrev Ww:=@Nat.testBit_two_pow_sub_one
abbrev Fi:=@Nat.testBit_xor
abbrev KA:=@Nat.two_pow_pos
abbrev yT:=@Nat.xor_assoc
abbrev Dg:=@Nat.xor_lt_two_pow
abbrev B0:=@Nat.xor_zero
abbrev cY:=@Nat.zero_add
abbrev im:=@Nat.zero_le
abbrev cC:=@Ne.symm
abbrev Cs:=@OpenClaim.holds_of_wide
abbrev KS:=@Option.map_eq_some_iff
abbrev Pv:=@Option.some.inj
abbrev sP:=@Option.some.injEq
abbrev rY:=@Prod.mk.injEq
abbrev KF:=@Region.free_spec
abbrev KO:=@Region.noSelect_spec
abbrev Ku:=@Sem.run_bind
abbrev KJ:=@Value.slice.injEq
abbrev sR:=@World.block_lt_of_cell?
abbrev Co:=@World.cell?_of_block
abbrev mF:=@and_true
abbrev vp:=@beq_eq_false_iff_ne
abbrev yQ:=@beq_iff_eq
abbrev bH:=@bodyPost_ret
abbrev bP:=@congrArg
abbrev oX:=@decide_eq_false
abbrev kx:=@decide_eq_true
abbrev sQ:=@decide_eq_true_eq
abbrev B3:=@decide_false
abbrev wm:=@eq_comm
abbrev Fc:=@getD_set_ne
abbrev PN:=@grownCap_le_maxLen
abbrev Cb:=@heap_alloc_new
abbrev dF:=@if_false
abbrev ax:=@if_neg
abbrev aA:=@if_pos
abbrev cR:=@if_true
abbrev lq:=@mem_ready
abbrev KK:=@not_true_eq_false
abbrev PO:=@of_decide_eq_false
abbrev kB:=@of_decide_eq_true
abbrev gF:=@or_false
abbrev tX:=@ready_mono
abbrev Mo:=@returnsInHanded_of_change_and
abbrev Pw:=@run_append_grow
abbrev KQ:=@run_append_room_cells
abbrev Cc:=@run_underlying
abbrev BU:=@Go.RowKit.shut_bool
abbrev sM:=@trodAll_cons_mk
abbrev Ks:=@u32_xor_nat
abbrev Fe:=@u64_and_nat
abbrev BW:=@u64_or_nat
abbrev Kv:=@wpList_plain
abbrev cE:=@wpQuiet_nil
abbrev Cd:=@wp_loop_rounds
abbrev Dh:=@wp_region_quiet_lit
theorem ae{p:Prop}(h:p:=by omega):p:=h
theorem krQ{p:Prop}(h:p:=by kernel_rfl):p:=h
theorem smQ{p:Prop}(h:p:=by simp):p:=h
theorem asQ{p:Prop}(h:p:=by assumption):p:=h
theorem oH{p:Prop}(h:p:=by first|(simp;done)|(simp;omega)|omega):p:=h
theorem puQ:(∀(a:Act) (d:Tmp) (v:Value),a.put (some d) v={a with tmps:=a.tmps.setIfInBounds d v})/\(∀(a:Act) (v:Value),a.put none v=a)/\(∀(l:List Value) (i:Nat) (x:Value),l.toArray.setIfInBounds i x=(l.set i x).toArray)/\(∀(y:Value) (l:List Value) (x:Value),(y::l).set 0 x=x::l)/\(∀(y:Value) (l:List Value) (i:Nat) (x:Value),(y::l).set (i+1) x=y::l.set i x):=⟨λ_ _ _=>rfl,λ_ _=>rfl,λ_ _ _=>cV ..,λ_ _ _=>rfl,λ_ _ _ _=>rfl⟩
theorem aH{α:Sort _}(a:α):∃x,a=x:=⟨a,rfl⟩
theorem T_{k:IntKind}{a b:Int}(h:a=b):Ending.returned (.int k a)= .returned (.int k b):=by rw[h]
def Rd(k:IntKind)(w:World)(A:Option Addr)(xs:List Int):Prop:=
 xs=[]\/∃b off,A=some ⟨b,off,none⟩/\b<w.heap.size/\∀i (h:i<xs.length),w.cell? ⟨b,off+i,none⟩=some (.int k xs[i])
section
variable{w w':World}{A:Option Addr}{k:IntKind}{xs:List Int}
theorem Rd.nil:Rd k w A []:= .inl rfl
theorem Rd.at_(h:Rd k w A xs){i:Nat}(hi:i<xs.length):
 ∃b off,A=some ⟨b,off,none⟩/\b<w.heap.size/\w.cell? ⟨b,off+i,none⟩=some (.int k xs[i]):=by
 rcases h with h|⟨b,off,h1,h2,h3⟩
 . subst h;simp at hi
 . exact⟨b,off,h1,h2,h3 i hi⟩
theorem Rd.keep(h:Rd k w A xs)(hs:w.heap.size<=w'.heap.size)(hc:∀b o,b<w.heap.size->w'.cell? ⟨b,o,none⟩=w.cell? ⟨b,o,none⟩):Rd k w' A xs:=by
 rcases h with h|⟨b,off,h1,h2,h3⟩
 . exact .inl h
 . exact .inr ⟨b,off,h1,cD h2 hs,λi hi=>(hc _ _ h2).trans (h3 i hi)⟩
theorem Rd.below(h:Rd k w A xs)(hb:Below w.heap.size w w'):Rd k w' A xs:=
 h.keep hb.size λb o aM=>hb.cell (p:=⟨b,o,none⟩) aM
theorem Rd.alloc(h:Rd k w A xs)(o:Obj):Rd k (w.alloc o) A xs:=
 h.below ((bZ _ _).alloc (a_ _) o)
end
theorem Bv{α:Type}(p:α->Bool)(xs:List α)(k:Nat)(hk:k<xs.length)(h:(xs.take k).all p=true)(hx:p xs[k]=true):(xs.take (k+1)).all p=true:=by
 rw[iw hk,List.all_append,h];simp[hx]
theorem all_false{α:Type}(p:α->Bool)(xs:List α)(k:Nat)(hk:k<xs.length)(hx:p xs[k]=false):xs.all p=false:=by
 rw[List.all_eq_false];exact⟨xs[k],fq hk,by simp[hx]⟩
theorem D7{α:Type}(p:α->Bool)(xs:List α)(k:Nat)(hk:¬k<xs.length)(h:(xs.take k).all p=true):xs.all p=true:=by
 rwa[fR ae]at h
theorem below_drewN{B:Nat}{a w:World}(h:Below B a w)(n:Nat):Below B a (w.drewN n):=⟨h.os,h.tape,h.output,h.size,h.block⟩
def At(g b:Nat):Prop:=b=g
@[go_sem] theorem Zd_ (g b:Nat):At g b↔b=g:=Iff.rfl
structure Ch(S:Nat->Prop)(w w':World):Prop where
 os:w'.os=w.os
 tape:w'.tape=w.tape
 output:w'.output=w.output
 size:w.heap.size<=w'.heap.size
 block:∀k,k<w.heap.size->¬S k->w'.heap[k]?=w.heap[k]?
section
variable{S T:Nat->Prop}{w w' Tq:World}
theorem Ch.refl(S:Nat->Prop)(w:World):Ch S w w:=⟨rfl,rfl,rfl,a_ _,λ_ _ _=>rfl⟩
theorem Ch.trans(h:Ch S w w')(k:Ch T w' Tq)(hT:∀b,T b->b<w.heap.size->S b):Ch S w Tq:=
 ⟨k.os.trans h.os,k.tape.trans h.tape,k.output.trans h.output,f_ h.size k.size,
  λb hb hS=>(k.block b (cD hb h.size) (λht=>hS (hT b ht hb))).trans (h.block b hb hS)⟩
theorem Ch.mono(h:Ch S w w')(hT:∀b,S b->b<w.heap.size->T b):Ch T w w':=
 ⟨h.os,h.tape,h.output,h.size,λb hb hS=>h.block b hb (λht=>hS (hT b ht hb))⟩
theorem Ch.au(h:Below w.heap.size w w'):Ch S w w':=⟨h.os,h.tape,h.output,h.size,λb hb _=>h.block b hb⟩
theorem Ch.tP{B:Nat}(h:Ch S w w')(hB:B<=w.heap.size)(hS:∀b,S b->B<=b):Below B w w':=
 ⟨h.os,h.tape,h.output,h.size,λb hb=>h.block b (cD hb hB) (λhs=>by have:=hS b hs;omega)⟩
theorem Ch.alloc(h:Ch S w w')(o:Obj):Ch S w (w'.alloc o):=
 ⟨h.os,h.tape,h.output,f_ h.size smQ,λb hb hS=>(d_ w' o b (cD hb h.size)).trans (h.block b hb hS)⟩
theorem Ch.setCell(h:Ch S w w'){a:Addr}(ha:S a.block\/w.heap.size<=a.block)(u:Value):Ch S w (w'.setCell a u):=
 ⟨h.os,h.tape,h.output,by simpa using h.size,λb hb hS=>(Below.heap_setCell w' a u b (by
  rintro rfl;rcases ha with ha|ha
  . exact hS ha
  . omega)).trans (h.block b hb hS)⟩
theorem Ch.bj{g:Nat}(h:Ch (At g) w w')(i:Nat)(u:Value):Ch (At g) w (w'.setCell ⟨g,i,none⟩ u):=h.setCell (a:=⟨g,i,none⟩) (.inl rfl) u
theorem Ch.drew(h:Ch S w w'):Ch S w w'.drew:=⟨h.os,h.tape,h.output,h.size,h.block⟩
theorem Ch.drewN(h:Ch S w w')(n:Nat):Ch S w (w'.drewN n):=⟨h.os,h.tape,h.output,h.size,h.block⟩
theorem Ch.cells(h:Ch S w w'):∀b o,b<w.heap.size->¬S b->w'.cell? ⟨b,o,none⟩=w.cell? ⟨b,o,none⟩:=
 λb o hb hS=>Co (w:=w) (a:=⟨b,o,none⟩) (h.block b hb hS)
theorem Ch.jE(h:Ch S w w'):∀b o,b<w.heap.size->¬S b->w'.frozen? ⟨b,o,none⟩=w.frozen? ⟨b,o,none⟩:=
 λb o hb hS=>World.frozen?_of_block (w:=w) (a:=⟨b,o,none⟩) (h.block b hb hS)
end
def BX(w:World):Type:={w':World //Below w.heap.size w w'}
def BX.w{w:World}(x:BX w):World:=x.1
instance (w:World):Inhabited (BX w):=⟨⟨w,bZ _ _⟩⟩
section
variable{w:World}(x:BX w)
theorem BX.below:Below w.heap.size w x.w:=x.2
theorem BX.size:w.heap.size<=x.w.heap.size:=x.2.size
@[go_sem] theorem BX.cell (b o:Nat) (h:b<w.heap.size):x.w.cell? ⟨b,o,none⟩=w.cell? ⟨b,o,none⟩:=x.2.cell (p:=⟨b,o,none⟩) h
@[go_sem] theorem BX.frozen (b o:Nat) (h:b<w.heap.size):x.w.frozen? ⟨b,o,none⟩=w.frozen? ⟨b,o,none⟩:=x.2.frozen (p:=⟨b,o,none⟩) h
@[go_sem] theorem BX.lt_size {n:Nat} (h:n<w.heap.size):n<x.w.heap.size:=cD h x.size
@[go_sem] theorem BX.Zad {n:Nat} (x:BX (w.drewN n)) (b o:Nat) (h:b<w.heap.size):x.w.cell? ⟨b,o,none⟩=w.cell? ⟨b,o,none⟩:=x.cell b o h
@[go_sem] theorem BX.Vm {n:Nat} (x:BX (w.drewN n)) (b o:Nat) (h:b<w.heap.size):x.w.frozen? ⟨b,o,none⟩=w.frozen? ⟨b,o,none⟩:=x.frozen b o h
@[go_sem] theorem BX.Zbc {n m:Nat} (x:BX (w.drewN n)) (h:m<w.heap.size):m<x.w.heap.size:=x.lt_size h
@[go_sem] theorem BX.ZaG (x:BX w.drew) (b o:Nat) (h:b<w.heap.size):x.w.cell? ⟨b,o,none⟩=w.cell? ⟨b,o,none⟩:=x.cell b o h
@[go_sem] theorem BX.Xl (x:BX w.drew) (b o:Nat) (h:b<w.heap.size):x.w.frozen? ⟨b,o,none⟩=w.frozen? ⟨b,o,none⟩:=x.frozen b o h
@[go_sem] theorem BX.Zck {m:Nat} (x:BX w.drew) (h:m<w.heap.size):m<x.w.heap.size:=x.lt_size h
theorem aE{w w':World}(h:Below w.heap.size w w'):∃x:BX w,w'=x.w:=⟨⟨w',h⟩,rfl⟩
theorem bK{P:Program}{f:FuncId}{args:Array Value}{v:Value}{w:World}{x:BX w}(h:Calls P f args x.w λe w'=>e= .returned v/\Below x.w.heap.size x.w w'):
 Calls P f args x.w λe Tq=>e= .returned v/\∃y:BX w,Tq=y.w:=
 h.mono λ_ _ ⟨he,hb⟩=>⟨he,⟨_,x.below.trans (hb.mono x.size)⟩,rfl⟩
theorem RO{P:Program}{f:FuncId}{args:Array Value}{v:Value}{w:World}{x:BX w}(h:Calls P f args x.w λe w'=>e= .returned v/\∃n,w'=x.w.drewN n):
 Calls P f args x.w λe Tq=>e= .returned v/\∃y:BX w,Tq=y.w:=
 h.mono λ_ _ ⟨he,n,hb⟩=>⟨he,⟨x.w.drewN n,below_drewN x.below n⟩,hb⟩
end
section
variable{a w:World}
theorem ai(h:Below a.heap.size a w)(o:Obj):Below a.heap.size a (w.alloc o):=h.alloc h.size o
theorem ru(h:Below a.heap.size a w):Below a.heap.size a w.drew:=h.drew
theorem iT(h:Below a.heap.size a w)(n:Nat):Below a.heap.size a (w.drewN n):=below_drewN h n
theorem ji(h:Below a.heap.size a w)(x:BX w):Below a.heap.size a x.w:=h.trans (x.below.mono h.size)
theorem gZ(h:Below a.heap.size a w){p:Addr}(hp:a.heap.size<=p.block)(u:Value):Below a.heap.size a (w.setCell p u):=h.setCell hp u
theorem aC{p:Prop}(h:p:=by repeat(first|with_reducible(first|exact bZ _ _|refine ai ?_ _|refine ru ?_|refine iT ?_ _|refine ji ?_ _|exact BX.below _|refine gZ ?_ (by first|(exact a_ _)|(simp;done)|(simp;omega)) _)|assumption)):p:=h
theorem bM{S:Nat->Prop}{w':World}(h:Below a.heap.size a w)(k:Ch S w w')(hS:∀b,S b->a.heap.size<=b):Below a.heap.size a w':=h.trans (k.tP h.size hS)
end
theorem cy{P:Program}{id:Nat}{Q:Exit->Act->World->Prop}{a:Act}{w:World}{l:List Oper}(hm:P.follows .mixedOrders=true)(hB:Region.lexB .any l.toArray=true)
 (h:wpQuiet P l.toArray (λw'=>∃x:BX w,w'=x.w) (λa'=>∀w',(∃x:BX w,w'=x.w)->Q .normal a' w') l a):(Code.region id l.toArray true).wp P Q a w:=
 wp_region_quiet (C:=λw'=>∃x:BX w,w'=x.w) hm hB ⟨⟨w.drew,(bZ _ _).drew⟩,rfl⟩ (by simpa using h)
def ia(k:IntKind)(xs:List Int):Array Value:=(xs.map (Value.int k)).toArray
@[go_sem] theorem YH (k:IntKind) (xs:List Int) (i:Nat) (v:Int):(ia k xs).setIfInBounds i (.int k v)=ia k (xs.set i v):=by
 simp[ia,yR]
def IB(k:IntKind)(e:TypeId)(w:World)(g:Nat)(xs:List Int):Prop:=w.heap[g]?=some (.cells (ia k xs) e (0,0))
section
variable{k:IntKind}{e:TypeId}{w w':World}{g:Nat}{xs:List Int}
theorem IB.lt(h:IB k e w g xs):g<w.heap.size:=by
 rcases Nat.lt_or_ge g w.heap.size with aM|Ha
 . exact aM
 . unfold IB at h;rw[PV Ha]at h;cases h
theorem IB.cell(h:IB k e w g xs){i:Nat}(hi:i<xs.length):w.cell? ⟨g,i,none⟩=some (.int k xs[i]):=by
 unfold IB at h;simp[World.cell?,h,hi,ia]
theorem IB.frozen(h:IB k e w g xs)(i:Nat):w.frozen? ⟨g,i,none⟩=false:=by
 unfold IB at h;simp[World.frozen?,h]
theorem IB.set(h:IB k e w g xs)(i:Nat)(v:Int):IB k e (w.setCell ⟨g,i,none⟩ (.int k v)) g (xs.set i v):=by
 unfold IB at h |-;simp[World.setCell,Array.getElem?_modify,h,YH]
theorem IB.keep(h:IB k e w g xs)(hb:w'.heap[g]?=w.heap[g]?):IB k e w' g xs:=hb.trans h
theorem IB.far(h:IB k e w g xs){p:Addr}(hp:g≠p.block)(u:Value):IB k e (w.setCell p u) g xs:=(ft w p u g hp).trans h
theorem IB.alloc(h:IB k e w g xs)(o:Obj):IB k e (w.alloc o) g xs:=(d_ w o g h.lt).trans h
theorem IB.ch{S:Nat->Prop}(h:IB k e w g xs)(hc:Ch S w w')(hS:¬S g):IB k e w' g xs:=(hc.block g h.lt hS).trans h
theorem IB.below{B:Nat}(h:IB k e w g xs)(hb:Below B w w')(hg:g<B):IB k e w' g xs:=(hb.block g hg).trans h
theorem IB.drewN(h:IB k e w g xs)(n:Nat):IB k e (w.drewN n) g xs:=h
theorem IB.new(w:World)(xs:List Int):IB k e (w.alloc (.cells (ia k xs) e)) w.heap.size xs:=Cb w _
theorem IB.rd(h:IB k e w g xs)(off n:Nat):Rd k w (some ⟨g,off,none⟩) ((xs.drop off).take n):=by
 refine .inr ⟨g,off,rfl,h.lt,λi hi=> ?_⟩;have:off+i<xs.length:=by simp at hi;omega
 rw[h.cell this];simp
theorem IB.eV(h:IB k e w g xs):Rd k w (some ⟨g,0,none⟩) xs:=by
 have:=h.rd 0 xs.length;simpa using this
end
theorem Nx{w:World}(g:Nat)(cs:Array Value):Ch (At g) w (w.setRow g cs):=
 ⟨rfl,rfl,rfl,by simp,λk _ hS=>setRow_other w g k cs (λh=>hS h)⟩
theorem IV{α β:Type}(f:α->β)(L:List α)(off:Nat)(cs:List α):(splice L off cs).map f=splice (L.map f) off (cs.map f):=by
 simp[splice]
theorem AV{P:Program}(t e:TypeId)(k kl kc:IntKind)(n:Nat)(ht:P.underlying t=some (.slice e))(oP:Nat)(bp:(P.info? e).map (λi=>(i.zero,i.size,i.bytes))=some (some (.int k 0),1,oP))
 (AG:oP<=8) (hn:n<=35184372088832) (w:World):
 (Instr.makeSlice t (.int kl (n:Int)) (.int kc (n:Int))).run P w= .ok (.slice (some ⟨w.heap.size,0,none⟩) n n) (w.alloc (.cells (ia k (List.replicate n (0:Int))) e)):=by
 cases hi:P.info? e with
 |none=>rw[hi]at bp;cases bp
 |some i=>
  rw[hi]at bp;simp only[Option.map_some,sP,rY]at bp;obtain⟨hz,hs,hb⟩:=bp;have hr:=run_make (P:=P) w t e i (.int k 0) ht hi hz kl kc n n ae ae (by rw[hb];have h9:oP*n<=8*n:=zc n AG;have:((oP*n:Nat):Int)=(oP:Int)*(n:Int):=Int.natCast_mul _ _;omega) ae;rw[hr,hs];simp only[Int.toNat_natCast,wo];congr 3;congr 1;simp only[madeCells,Value.cells,ia,Fm];apply Array.ext
  . simp
  . intro i h1 h2
    simp[Fa]
theorem sG{P:Program}(t e:TypeId)(k kl kc:IntKind)(z:Int)(n:Nat)(hz:z=(n:Int))(ht:P.underlying t=some (.slice e))(oP:Nat)(bp:(P.info? e).map (λi=>(i.zero,i.size,i.bytes))=some (some (.int k 0),1,oP))
 (AG:oP<=8) (hn:n<=35184372088832) (w:World):
 (Instr.makeSlice t (.int kl z) (.int kc z)).run P w= .ok (.slice (some ⟨w.heap.size,0,none⟩) n n) (w.alloc (.cells (ia k (List.replicate n (0:Int))) e)):=by
 subst hz;exact AV t e k kl kc n ht oP bp AG hn w
def Rz(x:Nat):Nat:=x/2^^^(if x%2=1 then 2197175160 else 0)
def crTi:Nat->Nat->Nat
 |0,x=>x
 |n+1,x=>crTi n (Rz x)
theorem Ry:Rz 0=0:=by decide
theorem Vw(a b:Nat):Rz (a^^^b)=Rz a^^^Rz b:=by
 unfold Rz
 have h1:(a^^^b)/2=a/2^^^b/2:=by
  have:=Nat.shiftRight_xor_distrib (a:=a) (b:=b) (i:=1);simpa [Nat.shiftRight_succ]using this
 have h2:(a^^^b)%2=(a%2)^^^(b%2):=by
  have:=Nat.xor_mod_two_pow (a:=a) (b:=b) (n:=1);simpa using this
 rw[h1,h2];rcases Nat.mod_two_eq_zero_or_one a with ha|ha<;>rcases Nat.mod_two_eq_zero_or_one b with hb|hb<;>rw[ha,hb]
 . simp
 . simp[yT]
 . simp only[show((1:Nat)^^^0)=1 from rfl,cR,show¬((0:Nat)=1) by decide,dF,B0]
   rw[yT,Nat.xor_comm (b/2),<-yT]
 . simp only[show((1:Nat)^^^1)=0 from rfl,cR,show¬((0:Nat)=1) by decide,dF,B0]
   rw[yT,<-yT 2197175160,Nat.xor_comm 2197175160,yT,Nat.xor_self,B0]
theorem zX(n:Nat):∀a b,crTi n (a^^^b)=crTi n a^^^crTi n b:=by
 induction n with
 |zero=>intro a b;rfl
 |succ n ih=>intro a b;rw[crTi,Vw,ih];rfl
theorem Nu(n:Nat):crTi n 0=0:=by
 induction n with
 |zero=>rfl
 |succ n ih=>rw[crTi,Ry,ih]
theorem z_(n m x:Nat):crTi (n+m) x=crTi m (crTi n x):=by
 induction n generalizing x with
 |zero=>rw[cY];rfl
 |succ n ih=>rw[Nat.succ_add,crTi,ih];rfl
theorem Vx(x:Nat):Rz (2*x)=x:=by
 unfold Rz;rw[ax ae,B0];omega
theorem zZ(n x:Nat):crTi n (x*2^n)=x:=by
 induction n generalizing x with
 |zero=>simp[crTi]
 |succ n ih=>rw[crTi,show x*2^(n+1)=2*(x*2^n) by rw[Nat.pow_succ,<-Nat.mul_assoc,Kt 2],Vx,ih]
theorem Zaa{x:Nat}(h:0<x)(hx:x<2^32):0<Rz x/\Rz x<2^32:=by
 unfold Rz;have hl:x/2^^^(if x%2=1 then 2197175160 else 0)<2^32:=Dg ae (by split<;>omega)
 refine⟨?_,hl⟩;by_cases ho:x%2=1
 . rw[aA ho]
   apply Nat.pos_of_ne_zero
   intro h0;have:(x/2^^^2197175160).testBit 31=false:=by rw[h0];exact Nat.zero_testBit _
   rw[Fi,vq (show x/2<2^31 by omega),show Nat.testBit 2197175160 31=true by decide]at this;cases this
 . rw[ax ho,B0];omega
theorem xT(n:Nat){x:Nat}(hx:x<2^32):crTi n x<2^32:=by
 by_cases h:x=0
 . rw[h,Nu];decide
 . induction n generalizing x with
   |zero=>exact hx
   |succ n ih=>
    have:=Zaa (by omega:0<x) hx;exact ih this.2 ae
def nibT:List Nat:=[0,274646895,549293790,820201905,1098587580,1361435347,1640403810,1905808397,2197175160,2460548119,2722870694,2987750089,3280807620,3553878443,3811616794,4084100981]
theorem Yk:∀n,n<16->crTi 4 n=nibT.getD n 0:=by decide
theorem BQ(x k:Nat):x=(x/2^k*2^k)^^^(x%2^k):=by
 apply Di
 intro i;rw[Fi,PX,Nat.testBit_mul_two_pow,Nat.testBit_div_two_pow];by_cases h:k<=i
 . have:¬i<k:=by omega
   simp[h,this,Nat.sub_add_cancel h]
 . have:i<k:=by omega
   simp[h,this]
theorem zY(k x:Nat):crTi k x=x/2^k^^^crTi k (x%2^k):=by
 conv=>lhs;rw[BQ x k]
 rw[zX,zZ]
theorem CP(x:Nat):crTi 4 x=x/16^^^nibT.getD (x%16) 0:=by
 rw[zY 4 x,Yk _ ae]
def crW:Nat->List Nat->Nat
 |r,[]=>r
 |r,w::ws=>crW (crTi 64 (r^^^w)) ws
theorem JF(ws:List Nat)(r:Nat)(hr:r<2^32)(CE:∀w∈ws,w<2^64):crW r ws<2^32:=by
 induction ws generalizing r with
 |nil=>exact hr
 |cons w ws ih=>
  refine ih _ ?_ (λx hx=>CE x (by simp[hx]));rw[zX];refine Dg (xT _ hr) ?_;have hw:=CE w smQ;rw[show(64:Nat)=32+32 from rfl,z_,zY 32 w];refine xT _ (Dg ae (xT _ (yP _ (by decide))))
def RA(ws:List Nat):Nat:=4294967295^^^crW 4294967295 ws
def Fits(ws:List Int):Prop:=∀x∈ws,0<=x/\x<18446744073709551616
def tD(ws:List Int)(i:Nat):Int:=ws[i/8]?.getD 0/2^(i%8*8)%256
def gY(ws:List Int):List Int:=(List.range (8*ws.length)).map (tD ws)
theorem jA(ws:List Int):(gY ws).length=8*ws.length:=by simp[gY]
theorem Ad(ws:List Int)(i:Nat)(h:i<(gY ws).length):(gY ws)[i]=tD ws i:=by
 simp[gY]
def qC(ws:List Int)(k:Nat):List Int:=(gY ws).take k++List.replicate (8*ws.length-k) 0
theorem JJ(ws:List Int):qC ws 0=List.replicate (8*ws.length) 0:=by simp[qC]
theorem NA(ws:List Int):qC ws (8*ws.length)=gY ws:=by
 unfold qC;rw[fR (by rw[jA];omega),wA];simp
theorem Dv(ws:List Int)(k:Nat)(hk:k<=8*ws.length):(qC ws k).length=8*ws.length:=by simp[qC,jA];omega
theorem Nz(ws:List Int)(k:Nat)(hk:k<8*ws.length):(qC ws k).set k (tD ws k)=qC ws (k+1):=by
 have kG:k<(gY ws).length:=by rw[jA];exact hk
 unfold qC;rw[iw kG,Ad,PU _ _ (by simp;omega)];obtain⟨m,hm⟩:∃m,8*ws.length-k=m+1:=⟨8*ws.length-k-1,by omega⟩;have e1:k-((gY ws).take k).length=0:=by simp;omega
 rw[e1,hm,List.replicate_succ,List.set_cons_zero,show 8*ws.length-(k+1)=m by omega];simp
theorem Uf(v:Int)(hv:0<=v/\v<18446744073709551616)(s:Nat)(hs:s<8):bits .or .u64 (v%2^(s*8)) (IntKind.u64.wrap (v/2^(s*8)%256*2^(s*8)))=v%2^((s+1)*8):=by
 obtain⟨n,rfl⟩:=vr hv.1;have hp:∀k:Nat,(2:Int)^k=((2^k:Nat):Int):=λk=>(Int.natCast_pow 2 k).symm
 have key:n%2^(s*8)+2^(s*8)*(n/2^(s*8)%256)=n%2^((s+1)*8):=by
  rw[show(s+1)*8=s*8+8 by omega,Nat.pow_add,Nat.mod_mul]
 have aM:n%2^(s*8)<2^(s*8):=yP _ (KA _);have wT:n%2^((s+1)*8)<18446744073709551616:=KM (Nat.mod_le _ _) ae;have h2:=Nat.two_pow_add_eq_or_of_lt aM (n/2^(s*8)%256);rw[hp (s*8),hp ((s+1)*8)];generalize 2^(s*8)=a at*;generalize 2^((s+1)*8)=b at*
 have e1:((n:Nat):Int)/(a:Int)%256*(a:Int)=((a*(n/a%256):Nat):Int):=by
  rw[Int.natCast_mul,Int.natCast_emod,Int.natCast_ediv,Ff];rfl
 have e2:((n:Nat):Int)%(a:Int)=((n%a:Nat):Int):=(Int.natCast_emod n a).symm;have e3:((n:Nat):Int)%(b:Int)=((n%b:Nat):Int):=(Int.natCast_emod n b).symm;rw[e1,e2,e3,bY _ ae,bits_or_u64_nat _ _ ae ae,Fb,<-h2];congr 1;omega
def My(ws:List Int):List Nat:=ws.map Int.toNat
theorem K0{ws:List Int}(h:Fits ws):∀w∈My ws,w<2^64:=by
 intro w hw;obtain⟨x,hx,rfl⟩:=iJ.1 hw;have:=h x hx;omega
def aR(ws:List Int):Int:=(RA (My ws):Nat)
def ah(A:Option Addr)(b:Nat):Prop:=A.map (·.block)=some b
def CB(w:World)(g:Nat)(e:TypeId)(cs:Array Value):Prop:=w.heap[g]?=some (.cells cs e (0,0))
section
variable{w w':World}{g:Nat}{e:TypeId}{cs:Array Value}
theorem CB.lt(h:CB w g e cs):g<w.heap.size:=(Dj.1 h).1
theorem CB.cell(h:CB w g e cs)(i:Nat):w.cell? ⟨g,i,none⟩=cs[i]?:=by
 unfold CB at h;simp[World.cell?,h]
theorem CB.ik(h:CB w g e cs){i:Nat}{v:Value}(hv:cs[i]?=some v):w.cell? ⟨g,i,none⟩=some v:=(h.cell i).trans hv
theorem CB.frozen(h:CB w g e cs)(i:Nat):w.frozen? ⟨g,i,none⟩=false:=by
 unfold CB at h;simp[World.frozen?,h]
theorem CB.set(h:CB w g e cs)(i:Nat)(v:Value):CB (w.setCell ⟨g,i,none⟩ v) g e (cs.setIfInBounds i v):=by
 unfold CB at h |-;simp[World.setCell,Array.getElem?_modify,h]
theorem CB.keep(h:CB w g e cs)(hb:w'.heap[g]?=w.heap[g]?):CB w' g e cs:=hb.trans h
theorem CB.far(h:CB w g e cs){p:Addr}(hp:g≠p.block)(u:Value):CB (w.setCell p u) g e cs:=(ft w p u g hp).trans h
theorem CB.alloc(h:CB w g e cs)(o:Obj):CB (w.alloc o) g e cs:=(d_ w o g h.lt).trans h
theorem CB.ch{S:Nat->Prop}(h:CB w g e cs)(hc:Ch S w w')(hS:¬S g):CB w' g e cs:=(hc.block g h.lt hS).trans h
theorem CB.below(h:CB w g e cs)(hb:Below w.heap.size w w'):CB w' g e cs:=(hb.block g h.lt).trans h
theorem CB.bx(h:CB w g e cs)(x:BX w):CB x.w g e cs:=h.below x.below
theorem CB.drewN(h:CB w g e cs)(n:Nat):CB (w.drewN n) g e cs:=h
theorem CB.drew(h:CB w g e cs):CB w.drew g e cs:=h
theorem CB.new(w:World)(e:TypeId)(cs:Array Value):CB (w.alloc (.cells cs e)) w.heap.size e cs:=Cb w _
theorem CB.br(w:World)(e:TypeId)(cs:Array Value)(hg:g=w.heap.size):CB (w.alloc (.cells cs e)) g e cs:=by subst hg;exact CB.new w e cs
end
def Sl(e:TypeId)(size:Nat)(w:World)(A:Option Addr)(n c:Nat)(xs:List Value):Prop:=
 xs.length=n*size/\((A=none/\n=0/\c=0)\/
  ∃g off cur,A=some ⟨g,off,none⟩/\CB w g e cur/\n<=c/\c<=maxLen/\off+c*size<=cur.size/\(cur.toList.drop off).take (n*size)=xs)
section
variable{e:TypeId}{size:Nat}{w w':World}{A:Option Addr}{n c:Nat}{xs:List Value}
theorem Sl.nil:Sl e size w none 0 0 []:=⟨by simp, .inl ⟨rfl,rfl,rfl⟩⟩
theorem Sl.lt(h:Sl e size w A n c xs){b:Nat}(hb:ah A b):b<w.heap.size:=by
 rcases h.2 with⟨rfl,_⟩|⟨g,off,cur,rfl,hC,_⟩
 . simp[ah]at hb
 . have:g=b:=by simpa [ah]using hb
   subst this;exact hC.lt
theorem Sl.keep(h:Sl e size w A n c xs)(hb:∀b,ah A b->w'.heap[b]?=w.heap[b]?):Sl e size w' A n c xs:=by
 refine⟨h.1,?_⟩;rcases h.2 with h2|⟨g,off,cur,hA,hC,r⟩
 . exact .inl h2
 . exact .inr ⟨g,off,cur,hA,hC.keep (hb g (by rw[hA];simp[ah])),r⟩
theorem Sl.ch{S:Nat->Prop}(h:Sl e size w A n c xs)(hc:Ch S w w')(hS:∀b,ah A b->¬S b):Sl e size w' A n c xs:=h.keep λb hb=>hc.block b (h.lt hb) (hS b hb)
theorem Sl.cells(h:Sl e size w A n c xs):∀b,A=some b->∀(j:Nat) (u:Value),xs[j]?=some u->w.cell? (b.add j)=some u:=by
 intro b hb j u hu;rcases h.2 with⟨rfl,_⟩|⟨g,off,cur,hA,hC,hn,hm,vM,ht⟩
 . cases hb
 . rw[hA]at hb
   injection hb with hb;subst hb;have h1:(⟨g,off,none⟩:Addr).add j=⟨g,off+j,none⟩:=by unfold Addr.add;split<;>simp_all
   rw[h1,hC.cell];rw[<-ht]at hu
   have hj:j<n*size:=by
    have:=(ki.1 hu).1;simp at this;omega
   rw[Fl,aA hj,Fk]at hu;simpa using hu
theorem Sl.at_(h:Sl e size w A n c xs){j:Nat}(hj:j<xs.length):∃g off,A=some ⟨g,off,none⟩/\g<w.heap.size/\w.cell? ⟨g,off+j,none⟩=some xs[j]:=by
 have hc:=h.cells;rcases h.2 with⟨_,hn,_⟩|⟨g,off,cur,hA,hC,_⟩
 . have:=h.1;rw[hn]at this;simp at this;rw[this]at hj;simp at hj
 . have h1:(⟨g,off,none⟩:Addr).add j=⟨g,off+j,none⟩:=by unfold Addr.add;split<;>simp_all
   have:=hc _ hA j xs[j] (by simp[hj]);rw[h1]at this;exact⟨g,off,hA,hC.lt,this⟩
theorem Sl.drop(h:Sl e size w A n c xs)(k:Nat)(hk:k<=n):∀g off,A=some ⟨g,off,none⟩->Sl e size w (some ⟨g,off+k*size,none⟩) (n-k) (c-k) (xs.drop (k*size)):=by
 intro g0 Zef xp;have e1:(n-k)*size+k*size=n*size:=by rw[<-sJ];congr 1;omega
 refine⟨by rw[yU,h.1];omega,?_⟩;rcases h.2 with⟨rfl,_⟩|⟨g,off,cur,hA,hC,hn,hm,vM,ht⟩
 . cases xp
 . rw[hA]at xp
   injection xp with xp;injection xp with xp Zdz;subst xp Zdz;have e2:(c-k)*size+k*size=c*size:=by rw[<-sJ];congr 1;omega
   refine .inr ⟨g,off+k*size,cur,rfl,hC,by omega,by omega,by omega,?_⟩;rw[<-ht,Fg,List.drop_drop];congr 1;omega
theorem Sl.take(h:Sl e size w A n c xs)(k:Nat)(hk:k<=n):Sl e size w A k c (xs.take (k*size)):=by
 have e1:(n-k)*size+k*size=n*size:=by rw[<-sJ];congr 1;omega
 refine⟨by rw[gf,h.1];omega,?_⟩;rcases h.2 with⟨rfl,h1,h2⟩|⟨g,off,cur,hA,hC,hn,hm,vM,ht⟩
 . exact .inl ⟨rfl,by omega,h2⟩
 . refine .inr ⟨g,off,cur,hA,hC,by omega,hm,vM,?_⟩
   rw[<-ht,Ca,vn ae]
end
theorem mg(g:Nat):∀(vs:List Value) (o:Nat) (w:World),Ch (At g) w (w.setCells g o vs)
 |[],_,w=>Ch.refl _ _
 |v::r,o,w=>((Ch.refl (At g) w).bj o v).trans (mg g r (o+1) _) (λ_ h _=>h)
theorem mo{g:Nat}{e:TypeId}:∀(vs:List Value) (o:Nat) (w:World) (cur:Array Value),CB w g e cur->o+vs.length<=cur.size->
 CB (w.setCells g o vs) g e (cur.toList.take o++vs++cur.toList.drop (o+vs.length)).toArray
 |[],o,w,cur,h,hl=>by
  have:(cur.toList.take o++[]++cur.toList.drop (o+0)).toArray=cur:=by simp
  simp only[List.length_nil];rw[this];exact h
 |v::r,o,w,cur,h,hl=>by
  simp only[List.length_cons]at hl;have h1:=mo r (o+1) _ _ (h.set o v) (by simp;omega)
  have e1:((cur.setIfInBounds o v).toList.take (o+1)++r++(cur.setIfInBounds o v).toList.drop (o+1+r.length))=(cur.toList.take o++(v::r)++cur.toList.drop (o+(v::r).length)):=by
   rw[Array.toList_setIfInBounds];have ho:o<cur.toList.length:=by simp;omega
   rw[iw (by simpa using ho),List.take_set_of_le (Nat.le_refl o),List.drop_set_of_lt ae];simp[sL,Nat.add_comm 1]
  rw[<-e1];exact h1
theorem mB{P:Program}(w:World)(t ty e:TypeId)(zv:Value)(size oP:Nat)(I7:zv.cells.size=size)(lR:0<size)(ht:P.underlying t=some (.slice e))(bp:(P.info? e).map (λi=>(i.zero,i.size,i.bytes))=some (some zv,size,oP))(AG:oP<=64)
 (A:Option Addr) (n c:Nat) (xs:List Value) (cL:Sl e size w A n c xs) (ad:Addr) (m d:Nat) (ys:List Value) (hm:ys.length=m*size) (DK:0<m) (hr:∀j u,ys[j]?=some u->w.cell? (ad.add j)=some u) (hf:∀u∈ys,u.oneCell'=true)
 (hbound:n+m<=1000000000):
 ∃A' c' w',(Builtin.append_ #[t,t] ty #[.slice A n c, .slice (some ad) m d]).run P w= .ok (.slice A' (n+m) c') w'/\Sl e size w' A' (n+m) c' (xs++ys)/\Ch (ah A) w w'/\(∀b,ah A' b->ah A b\/b=w.heap.size)/\(c<n+m->A'=some ⟨w.heap.size,0,none⟩):=by
 cases hi:P.info? e with
 |none=>rw[hi]at bp;cases bp
 |some i=>
  rw[hi]at bp;simp only[Option.map_some,sP,rY]at bp;obtain⟨hz,hs,hb⟩:=bp;subst hs hb;have Q4:(n+m)*i.bytes<=(n+m)*64:=Cm _ AG;have hmx:n+m<=maxLen:=by unfold maxLen;omega
  have hlen:(xs++ys).length=(n+m)*i.size:=by rw[dO,cL.1,hm,sJ]
  have grown:∀(old:Nat),old<n+m->Sl e i.size (w.drew.alloc (.cells (xs.toArray++ys.toArray++Builtin.zeroCells zv.cells (grownCap w (n+m) old e-(n+m))) e)) (some ⟨w.heap.size,0,none⟩) (n+m) (grownCap w (n+m) old e) (xs++ys):=by
   intro old ho;have Ha:=grownCap_ge w (n+m) old e;have je:grownCap w (n+m) old e<=maxLen:=PN w (n+m) old e hmx;refine⟨hlen, .inr ⟨w.heap.size,0,_,rfl,Cb w.drew _,Ha,je,?_,?_⟩⟩
   . simp only[PB,Df,size_zeroCells,I7,cL.1,hm,<-sJ,cY]
     apply zc
     omega
   . simp only[PQ,iZ,iq]
     rw[<-iZ,<-hlen];exact B_
  have py:∀o:Obj,Ch (ah A) w (w.drew.alloc o):=λo=>(Ch.drew (Ch.refl _ _)).alloc o
  rcases cL.2 with⟨rfl,rfl,rfl⟩|⟨g,off,cur,rfl,hC,MP,je,vM,uT⟩
  . have hx:xs=[]:=E9 (by simpa using cL.1)
    subst hx;have gL:=run_append_nil (P:=P) w t ty e i zv ht hi hz ad m d ys hm hr DK ae (by simp only[cY]at Q4;omega);have ie:=grown 0 ae;simp only[cY,List.nil_append,PI]at ie |-;exact⟨_,_,_,gL,ie,py _,λb hb=> .inr (by simpa [ah]using hb.symm),λ_=>rfl⟩
  . by_cases qj:n+m<=c
    . have e0:n*i.size+m*i.size<=c*i.size:=by rw[<-sJ];exact zc _ qj
      have gL:=KQ (P:=P) w t ty e i ht hi g off n c ad m d ys hm hr hf qj
       (λj hj=>by rw[hC.cell];have:off+n*i.size+j<cur.size:=by omega
                  simp[this]) (λj hj=>hC.frozen _)
      refine⟨_,_,_,gL,⟨hlen, .inr ⟨g,off,_,rfl,mo ys (off+n*i.size) w cur hC ae,qj,je,?_,?_⟩⟩,(mg g ys _ w).mono (λb hb _=>by unfold At at hb;subst hb;simp[ah]),λb hb=> .inl hb,λh=>by omega⟩
      . simp only[Df,dO,gf,yU,Array.length_toList]
        omega
      . rw[<-uT,sJ]
        have jB:(cur.toList.take (off+n*i.size)).length=off+n*i.size:=by simp;omega
        simp only[iZ];rw[P5 (by rw[jB];omega),Fg];rw[show off+n*i.size-off=n*i.size by omega];have ju:((cur.toList.drop off).take (n*i.size)).length=n*i.size:=by rw[uT];exact cL.1
        rw[<-hm,<-ju];rw[<-iZ];rw[show((cur.toList.drop off).take ((cur.toList.drop off).take (n*i.size)).length)=(cur.toList.drop off).take (n*i.size) by rw[ju]];rw[<-dO];exact B_
    . have gL:=Pw (P:=P) w t ty e i zv ht hi hz ⟨g,off,none⟩ n c xs cL.1 (cL.cells _ rfl) ad m d ys hm hr ae ae (growslice_fits ae ae)
      exact⟨_,_,_,gL,grown c ae,py _,λb hb=> .inr (by simpa [ah]using hb.symm),λ_=>rfl⟩
structure Ln where
 done:Int
 bL:List (Int×Int)
structure Thr where
 err:Int
 notes:Int->Option Int
 Es:Nat
structure aq where
 cg:List Int
 cur:List Int
 bA:List Ln
 a8:Nat->Thr
 off:Bool
 armed:Bool
 left:Int
 exec:Int
structure Lay where
 pb:Nat
 pc:Nat
 cb:Nat
 cc:Nat
 lb:Nat
 ha:Nat->Option Addr
 hc:Nat->Nat
 t:Nat->Nat
 m:Nat->Nat
 role:Nat->Nat
def bE(xs:List Int):List Value:=xs.map (Value.int .u64)
def az(ws:List (Int×Int)):List Value:=ws.flatMap λp=>[.int .u64 p.1, .int .u64 p.2]
def qy(L:Lay)(S:aq):Array Value:=
 #[.slice (some ⟨L.pb,0,none⟩) S.cg.length L.pc, .slice (some ⟨L.cb,0,none⟩) S.cur.length L.cc, .slice (some ⟨L.lb,0,none⟩) S.bA.length S.bA.length,
  .pointer (some ⟨L.t 0,0,none⟩), .pointer (some ⟨L.t 1,0,none⟩), .pointer (some ⟨L.t 2,0,none⟩), .pointer (some ⟨L.t 3,0,none⟩), .pointer (some ⟨L.t 4,0,none⟩), .pointer (some ⟨L.t 5,0,none⟩), .pointer (some ⟨L.t 6,0,none⟩), .pointer (some ⟨L.t 7,0,none⟩),
  .bool S.off, .bool S.armed, .int .i64 S.left, .int .u64 S.exec]
def pG(d:Nat)(L:Lay)(S:aq)(i:Nat):Array Value:= #[.pointer (some ⟨d,0,none⟩), .int .i64 (i:Int), .int .i64 (S.a8 i).err, .map (some (L.m i))]
def Ar(w:World)(b:Nat)(nt:Int->Option Int)(n:Nat):Prop:=
 ∃D:DataW Unit,w.ownsMap prog 3 (plainElem prog 22) b n D/\
  ∀x,(Lit.int .i64 x).wf=true->Maps.has D (.int .i64 x)=(nt x).isSome/\∀c,nt x=some c->∀z,D.atKey (.int .i64 x) z= .lit (.int .u64 c)
theorem Ar.keep{w w':World}{b:Nat}{nt:Int->Option Int}{n:Nat}(h:Ar w b nt n)(hb:w'.heap[b]?=w.heap[b]?):Ar w' b nt n:=by
 obtain⟨D,⟨es,clock,h1,r⟩,h2⟩:=h;exact⟨D,⟨es,clock,hb.trans h1,r⟩,h2⟩
structure dw(w:World)(d:Nat)(L:Lay)(S:aq):Prop where
 dev:CB w d 100 (qy L S)
 cg:Sl 22 1 w (some ⟨L.pb,0,none⟩) S.cg.length L.pc (bE S.cg)
 cur:Sl 22 1 w (some ⟨L.cb,0,none⟩) S.cur.length L.cc (bE S.cur)
 np:S.cg.length=8*S.bA.length
 nc:S.cur.length=8*S.bA.length
 nl:1<=S.bA.length/\S.bA.length<=4096
 lf:0<=S.left/\S.left<9223372036854775808
 ex:0<=S.exec/\S.exec<18446744073709551616
 FG:∃cs,CB w L.lb 197 cs/\cs.size=2*S.bA.length/\∀i (h:i<S.bA.length),cs[2*i]?=some (.int .u64 S.bA[i].done)/\cs[2*i+1]?=some (.slice (L.ha i) S.bA[i].bL.length (L.hc i))
 Jk:∀i (h:i<S.bA.length),Sl 95 2 w (L.ha i) S.bA[i].bL.length (L.hc i) (az S.bA[i].bL)
 a8:∀i,i<8->CB w (L.t i) 161 (pG d L S i)
 IL:∀i,i<8->Ar w (L.m i) (S.a8 i).notes (S.a8 i).Es
 rd:L.role d=1
 rp:L.role L.pb=2
 rc:L.role L.cb=3
 rl:L.role L.lb=4
 rt:∀i,i<8->L.role (L.t i)=5+i
 rm:∀i,i<8->L.role (L.m i)=13+i
 rh:∀i,i<S.bA.length->∀b,ah (L.ha i) b->L.role b=21+i
 fr:∀b,L.role b≠0->b<w.heap.size
def Fp(L:Lay)(b:Nat):Prop:=L.role b≠0
section
variable{w w':World}{d:Nat}{L:Lay}{S:aq}
theorem dw.keep(h:dw w d L S)(hb:∀b,Fp L b->w'.heap[b]?=w.heap[b]?)(hs:w.heap.size<=w'.heap.size):dw w' d L S where
 dev:=h.dev.keep (hb d (by unfold Fp;rw[h.rd];omega))
 cg:=h.cg.keep λb bG=>hb b (by have:L.pb=b:=by simpa [ah]using bG
                               subst this;unfold Fp;rw[h.rp];omega)
 cur:=h.cur.keep λb bG=>hb b (by have:L.cb=b:=by simpa [ah]using bG
                                 subst this;unfold Fp;rw[h.rc];omega)
 np:=h.np
 nc:=h.nc
 nl:=h.nl
 lf:=h.lf
 ex:=h.ex
 FG:=by
  obtain⟨cs,h1,h2⟩:=h.FG;exact⟨cs,h1.keep (hb _ (by unfold Fp;rw[h.rl];omega)),h2⟩
 Jk:=λi hi=>(h.Jk i hi).keep λb bG=>hb b (by unfold Fp;rw[h.rh i hi b bG];omega)
 a8:=λi hi=>(h.a8 i hi).keep (hb _ (by unfold Fp;rw[h.rt i hi];omega))
 IL:=λi hi=>(h.IL i hi).keep (hb _ (by unfold Fp;rw[h.rm i hi];omega))
 rd:=h.rd
 rp:=h.rp
 rc:=h.rc
 rl:=h.rl
 rt:=h.rt
 rm:=h.rm
 rh:=h.rh
 fr:=λb bG=>cD (h.fr b bG) hs
theorem dw.ch{T:Nat->Prop}(h:dw w d L S)(hc:Ch T w w')(hT:∀b,Fp L b->¬T b):dw w' d L S:=h.keep (λb hb=>hc.block b (h.fr b hb) (hT b hb)) hc.size
theorem dw.below(h:dw w d L S)(hb:Below w.heap.size w w'):dw w' d L S:=h.keep (λb bG=>hb.block b (h.fr b bG)) hb.size
theorem dw.lt(h:dw w d L S):d<w.heap.size:=h.dev.lt
theorem dw.AR(h:dw w d L S){i:Nat}(hi:i<8):L.t i<w.heap.size:=(h.a8 i hi).lt
theorem dw.ZaM(h:dw w d L S){i:Nat}(hi:i<8):w.cell? ⟨d,3+i,none⟩=some (.pointer (some ⟨L.t i,0,none⟩)):=by
 rw[h.dev.cell];have:i=0\/i=1\/i=2\/i=3\/i=4\/i=5\/i=6\/i=7:=by omega
 rcases this with rfl|rfl|rfl|rfl|rfl|rfl|rfl|rfl<;>rfl
end
def Qz(x y:Int):Int:=if y<x then y else x
section
variable{P:Program}(w:World)
@[go_sem high] theorem T4 (ts:Array TypeId) (t:TypeId) (k k':IntKind) (x y:Int):(Builtin.min_ ts t #[.int k x, .int k' y]).run P w= .ok (.int k (Qz x y)) w:=run_min_int2 w ts t k k' x y
end
section
variable{w w':World}{d:Nat}{L:Lay}{S S':aq}
theorem dw.X0(h:dw w d L S){i:Nat}(hi:i<8)(hb:∀b,Fp L b->b≠L.t i->w'.heap[b]?=w.heap[b]?)(hs:w.heap.size<=w'.heap.size)(e:Int)
 (hc:CB w' (L.t i) 161 #[.pointer (some ⟨d,0,none⟩), .int .i64 (i:Int), .int .i64 e, .map (some (L.m i))]):
 dw w' d L {S with a8:=λj=>if j=i then{S.a8 i with err:=e}else S.a8 j}:=by
 have aG:∀b,Fp L b->L.role b≠5+i->w'.heap[b]?=w.heap[b]?:=λb hf hr=>hb b hf (by rintro rfl;exact hr (h.rt i hi))
 refine{dev:=h.dev.keep (aG d (by unfold Fp;rw[h.rd];omega) (by rw[h.rd];omega)),cg:=h.cg.keep λb bG=> ?_,cur:=h.cur.keep λb bG=> ?_,np:=h.np,nc:=h.nc,nl:=h.nl,lf:=h.lf,ex:=h.ex,FG:= ?_,Jk:=λj hj=>(h.Jk j hj).keep λb bG=>aG b (by unfold Fp;rw[h.rh j hj b bG];omega) (by rw[h.rh j hj b bG];omega),a8:=λj hj=> ?_,IL:=λj hj=> ?_,rd:=h.rd,rp:=h.rp,rc:=h.rc,rl:=h.rl,rt:=h.rt,rm:=h.rm,rh:=h.rh,fr:=λb bG=>cD (h.fr b bG) hs}
 . have:L.pb=b:=by simpa [ah]using bG
   subst this;exact aG _ (by unfold Fp;rw[h.rp];omega) (by rw[h.rp];omega)
 . have:L.cb=b:=by simpa [ah]using bG
   subst this;exact aG _ (by unfold Fp;rw[h.rc];omega) (by rw[h.rc];omega)
 . obtain⟨cs,h1,h2⟩:=h.FG
   exact⟨cs,h1.keep (aG _ (by unfold Fp;rw[h.rl];omega) (by rw[h.rl];omega)),h2⟩
 . by_cases eb:j=i
   . subst eb
     simpa [pG]using hc
   . have:=(h.a8 j hj).keep (aG _ (by unfold Fp;rw[h.rt j hj];omega) (by rw[h.rt j hj];omega))
     simpa [pG,eb]using this
 . have:=(h.IL j hj).keep (aG _ (by unfold Fp;rw[h.rm j hj];omega) (by rw[h.rm j hj];omega))
   by_cases eb:j=i
   . subst eb;simpa using this
   . simpa [eb]using this
theorem dw.Iu(h:dw w d L S)(hb:∀b,Fp L b->b≠d->w'.heap[b]?=w.heap[b]?)(hs:w.heap.size<=w'.heap.size)(off armed:Bool)(left exec:Int)(uU:0<=left/\left<9223372036854775808)(hex:0<=exec/\exec<18446744073709551616)
 (hc:CB w' d 100 (qy L {S with off:=off,armed:=armed,left:=left,exec:=exec})):
 dw w' d L {S with off:=off,armed:=armed,left:=left,exec:=exec}:=by
 have aG:∀b,Fp L b->L.role b≠1->w'.heap[b]?=w.heap[b]?:=λb hf hr=>hb b hf (by rintro rfl;exact hr h.rd)
 refine{dev:=hc,cg:=h.cg.keep λb bG=> ?_,cur:=h.cur.keep λb bG=> ?_,np:=h.np,nc:=h.nc,nl:=h.nl,lf:=uU,ex:=hex,FG:= ?_,Jk:=λj hj=>(h.Jk j hj).keep λb bG=>aG b (by unfold Fp;rw[h.rh j hj b bG];omega) (by rw[h.rh j hj b bG];omega),a8:=λj hj=>(h.a8 j hj).keep (aG _ (by unfold Fp;rw[h.rt j hj];omega) (by rw[h.rt j hj];omega)),IL:=λj hj=>(h.IL j hj).keep (aG _ (by unfold Fp;rw[h.rm j hj];omega) (by rw[h.rm j hj];omega)),rd:=h.rd,rp:=h.rp,rc:=h.rc,rl:=h.rl,rt:=h.rt,rm:=h.rm,rh:=h.rh,fr:=λb bG=>cD (h.fr b bG) hs}
 . have:L.pb=b:=by simpa [ah]using bG
   subst this;exact aG _ (by unfold Fp;rw[h.rp];omega) (by rw[h.rp];omega)
 . have:L.cb=b:=by simpa [ah]using bG
   subst this;exact aG _ (by unfold Fp;rw[h.rc];omega) (by rw[h.rc];omega)
 . obtain⟨cs,h1,h2⟩:=h.FG
   exact⟨cs,h1.keep (aG _ (by unfold Fp;rw[h.rl];omega) (by rw[h.rl];omega)),h2⟩
theorem dw.Lu(h:dw w d L S):w.cell? ⟨d,1,none⟩=some (.slice (some ⟨L.cb,0,none⟩) S.cur.length L.cc):=h.dev.cell 1
theorem dw.FI(h:dw w d L S):w.cell? ⟨d,2,none⟩=some (.slice (some ⟨L.lb,0,none⟩) S.bA.length S.bA.length):=h.dev.cell 2
theorem dw.KX(h:dw w d L S):w.cell? ⟨d,11,none⟩=some (.bool S.off):=h.dev.cell 11
theorem dw.RX(h:dw w d L S):w.cell? ⟨d,12,none⟩=some (.bool S.armed):=h.dev.cell 12
theorem dw.Xm(h:dw w d L S):w.cell? ⟨d,13,none⟩=some (.int .i64 S.left):=h.dev.cell 13
theorem dw.Ox(h:dw w d L S):w.cell? ⟨d,14,none⟩=some (.int .u64 S.exec):=h.dev.cell 14
theorem dw.t0(h:dw w d L S){i:Nat}(hi:i<8):w.cell? ⟨L.t i,0,none⟩=some (.pointer (some ⟨d,0,none⟩)):=(h.a8 i hi).cell 0
theorem dw.t2(h:dw w d L S){i:Nat}(hi:i<8):w.cell? ⟨L.t i,2,none⟩=some (.int .i64 (S.a8 i).err):=(h.a8 i hi).cell 2
theorem dw.t3(h:dw w d L S){i:Nat}(hi:i<8):w.cell? ⟨L.t i,3,none⟩=some (.map (some (L.m i))):=(h.a8 i hi).cell 3
end
def aq.Db(S:aq)(i:Nat)(e:Int):aq:={S with a8:=λj=>if j=i then{S.a8 i with err:=e}else S.a8 j}
def aq.fail(S:aq)(i:Nat)(e:Int):aq:=if(S.a8 i).err=0 then S.Db i e else S
theorem Rr(w:World)(d:Nat)(L:Lay)(S:aq)(h:dw w d L S):
 Calls prog 123 #[.pointer (some ⟨d,0,none⟩)] w λe w'=>e= .returned (.int .i64 (S.bA.length:Int))/\w=w':=by
 have h2:=h.FI;have hl:=h.lt;clear h;go_enter func123,ntmps123
 go_wp2;go_ret;exact⟨rfl,rfl⟩
theorem uH(w:World)(d:Nat)(L:Lay)(S:aq)(h:dw w d L S):
 Calls prog 88 #[.pointer (some ⟨d,0,none⟩)] w λe w'=>e= .returned (.int .u64 ((S.bA.length:Int)*64))/\w=w':=by
 have hn:=h.nl;have H:=ag h;have e1:IntKind.u64.wrap (S.bA.length:Int)=(S.bA.length:Int):=bY _ ae;have e2:IntKind.u64.wrap ((S.bA.length:Int)*64)=(S.bA.length:Int)*64:=bY _ ae;clear h;go_enter func88,ntmps88
 go_wp2_with (go_at_call 123;refine(Rr _ d L S H.out).mono ?_;rintro e w' ⟨rfl,rfl⟩)
 go_ret;exact⟨rfl,rfl⟩
theorem Nr(w:World)(d:Nat)(L:Lay)(S:aq)(h:dw w d L S)(i:Nat)(hi:i<8):
 Calls prog 37 #[.pointer (some ⟨d,0,none⟩), .int .i64 (i:Int)] w λe w'=>e= .returned (.pointer (some ⟨L.t i,0,none⟩))/\w=w':=by
 have ht:=h.ZaM hi;have hl:=h.lt;have h1:¬(8:Int)<=(i:Int):=by omega
 clear h;go_enter func37,ntmps37
 go_wp2;go_ret;exact⟨rfl,rfl⟩
theorem Wn(w:World)(d:Nat)(L:Lay)(S:aq)(h:dw w d L S)(i:Nat)(hi:i<8):
 Calls prog 65 #[.pointer (some ⟨L.t i,0,none⟩)] w λe w'=>e= .returned (.int .i64 (S.a8 i).err)/\w=w':=by
 have h0:=h.t0 hi;have h2:=h.t2 hi;have hl:=h.AR hi;clear h;go_enter func65,ntmps65
 go_wp2;go_ret;exact⟨rfl,rfl⟩
theorem XQ(w:World)(d:Nat)(L:Lay)(S:aq)(h:dw w d L S)(i:Nat)(hi:i<8):
 Calls prog 221 #[.pointer (some ⟨L.t i,0,none⟩)] w λe w'=>e= .returned (.int .u64 ((S.bA.length:Int)*64))/\w=w':=by
 have h0:=h.t0 hi;have hl:=h.AR hi;have H:=ag h;clear h;go_enter func221,ntmps221
 go_wp2_with (go_at_call 88;refine(uH _ d L S H.out).mono ?_;rintro e w' ⟨rfl,rfl⟩)
 go_ret;exact⟨rfl,rfl⟩
def aq.cQ(S:aq)(off:Int):Bool:=decide (off%8=0)&&decide (off<(S.bA.length:Int)*64)
def aq.Dn(S:aq)(valid:Bool):Bool:= !S.off&&valid
def aq.on(S:aq)(i:Nat)(valid:Bool):aq:=if S.off then S.fail i 3 else if valid then S else S.fail i 2
theorem VC{w w':World}{d:Nat}{L:Lay}{S:aq}(h:dw w d L S){i:Nat}(hi:i<8)(k:Nat)(v:Value):Ch (Fp L) w (w.setCell ⟨L.t i,k,none⟩ v):=
 (Ch.refl _ _).setCell (a:=⟨L.t i,k,none⟩) (.inl (by show Fp L (L.t i);unfold Fp;rw[h.rt i hi];omega)) v
theorem D5{w w':World}{d:Nat}{L:Lay}{S:aq}(h:dw w d L S)(k:Nat)(v:Value):Ch (Fp L) w (w.setCell ⟨d,k,none⟩ v):=
 (Ch.refl _ _).setCell (a:=⟨d,k,none⟩) (.inl (by show Fp L d;unfold Fp;rw[h.rd];omega)) v
theorem Ic(w:World)(d:Nat)(L:Lay)(S:aq)(h:dw w d L S)(i:Nat)(hi:i<8)(x:Int):
 Calls prog 126 #[.pointer (some ⟨L.t i,0,none⟩), .int .i64 x] w λe w'=>e= .returned (.tuple #[])/\dw w' d L (S.fail i x)/\Ch (Fp L) w w':=by
 have h2:=h.t2 hi;have hf:=(h.a8 i hi).frozen 2;have hl:=h.AR hi;have H:=ag h;clear h;by_cases he:(S.a8 i).err=0
 . have W9:((S.a8 i).err==0)=true:=by simpa using he
   have HE:Hid (S.fail i x=S.Db i x):=by show _=_;unfold aq.fail;rw[aA he]
   clear he;go_enter func126,ntmps126
   go_wp2;go_end0
   rw[HE.out];refine⟨rfl,H.out.X0 hi (λb _ hb=>ft w ⟨L.t i,2,none⟩ _ b hb) smQ x ?_,VC (w':=w) H.out hi 2 _⟩;exact(H.out.a8 i hi).set 2 (.int .i64 x)
 . have W9:((S.a8 i).err==0)=false:=by simpa using he
   have HE:Hid (S.fail i x=S):=by show _=_;unfold aq.fail;rw[ax he]
   clear he;go_enter func126,ntmps126
   go_wp2;go_end0
   rw[HE.out];exact⟨rfl,H.out,Ch.refl _ _⟩
theorem TJ(w:World)(d:Nat)(L:Lay)(S:aq)(h:dw w d L S)(i:Nat)(hi:i<8)(valid:Bool):
 Calls prog 95 #[.pointer (some ⟨L.t i,0,none⟩), .bool valid] w λe w'=>e= .returned (.bool (S.Dn valid))/\dw w' d L (S.on i valid)/\Ch (Fp L) w w':=by
 have h0:=h.t0 hi;have ho:=h.KX;have hl:=h.AR hi;have ju:=h.lt;have H:=ag h;clear h;cases hO:S.off
 . rw[hO]at ho
   cases valid
   . have HE:Hid (S.Dn false=false/\S.on i false=S.fail i 2):=by show _/\_;simp[aq.Dn,aq.on,hO]
     clear hO;go_enter func95,ntmps95
     go_wp2_with (go_at_call 126;refine(Ic _ d L S H.out i hi 2).mono ?_;rintro e w' ⟨rfl,hD,hC⟩;have HD:=ag hD;have HC:=ag hC;clear hD hC)
     go_ret;rw[HE.out.1,HE.out.2];exact⟨rfl,HD.out,HC.out⟩
   . have HE:Hid (S.Dn true=true/\S.on i true=S):=by show _/\_;simp[aq.Dn,aq.on,hO]
     clear hO;go_enter func95,ntmps95
     go_wp2;go_ret;rw[HE.out.1,HE.out.2];exact⟨rfl,H.out,Ch.refl _ _⟩
 . rw[hO]at ho
   have HE:Hid (S.Dn valid=false/\S.on i valid=S.fail i 3):=by show _/\_;simp[aq.Dn,aq.on,hO]
   clear hO;go_enter func95,ntmps95
   go_wp2_with (go_at_call 126;refine(Ic _ d L S H.out i hi 3).mono ?_;rintro e w' ⟨rfl,hD,hC⟩;have HD:=ag hD;have HC:=ag hC;clear hD hC)
   go_ret;rw[HE.out.1,HE.out.2];exact⟨rfl,HD.out,HC.out⟩
theorem Ia(w:World)(d:Nat)(L:Lay)(S:aq)(h:dw w d L S)(i:Nat)(hi:i<8)(off:Int)(mL:0<=off/\off<18446744073709551616):
 Calls prog 96 #[.pointer (some ⟨L.t i,0,none⟩), .int .u64 off] w λe w'=>e= .returned (.bool (S.cQ off))/\w=w':=by
 have h0:=h.t0 hi;have hl:=h.AR hi;have H:=ag h;obtain⟨o1,o2⟩:=mL;clear h;by_cases h8:off%8=0
 . have h8':(off%8==0)=true:=by simpa using h8
   have HE:Hid (S.cQ off=decide (off<(S.bA.length:Int)*64)):=by show _=_;simp[aq.cQ,h8]
   clear h8;go_enter func96,ntmps96
   go_wp2_with (go_at_call 88;refine(uH _ d L S H.out).mono ?_;rintro e w' ⟨rfl,rfl⟩)
   go_ret;rw[HE.out];exact⟨rfl,rfl⟩
 . have h8':(off%8==0)=false:=by simpa using h8
   have HE:Hid (S.cQ off=false):=by show _=_;simp[aq.cQ,h8]
   clear h8;go_enter func96,ntmps96
   go_wp2;go_ret;rw[HE.out];exact⟨rfl,rfl⟩
def aq.lG(S:aq)(valid:Bool):Bool:=S.Dn valid&& !(S.armed&&S.left==0)
def aq.cnt(S:aq)(i:Nat)(valid:Bool):aq:=
 if S.Dn valid=false then S.on i valid
 else if S.armed then(if S.left=0 then aq.fail {S with off:=true} i 3 else{S with left:=S.left-1,exec:=IntKind.u64.wrap (S.exec+1)})
 else{S with exec:=IntKind.u64.wrap (S.exec+1)}
theorem iE(x:Int):0<=IntKind.u64.wrap x/\IntKind.u64.wrap x<18446744073709551616:=by rw[Cf];omega
theorem kR(w:World)(d:Nat)(L:Lay)(S:aq)(h:dw w d L S)(i:Nat)(hi:i<8)(valid:Bool):
 Calls prog 143 #[.pointer (some ⟨L.t i,0,none⟩), .bool valid] w λe w'=>e= .returned (.bool (S.lG valid))/\dw w' d L (S.cnt i valid)/\Ch (Fp L) w w':=by
 have H:=ag h;have uU:=h.lf;clear h;cases dP:S.Dn valid
 . have HE:Hid (S.lG valid=false/\S.cnt i valid=S.on i valid):=by show _/\_;simp[aq.lG,aq.cnt,dP]
   go_enter func143,ntmps143
   go_wp2_with (go_at_call 95;refine(TJ _ d L S H.out i hi valid).mono ?_;rw[dP];rintro e w' ⟨rfl,hD,hC⟩;have HD:=ag hD;have HC:=ag hC;clear hD hC)
   go_ret;rw[HE.out.1,HE.out.2];exact⟨rfl,HD.out,HC.out⟩
 . have Lf:S.on i valid=S:=by
    unfold aq.Dn at dP;simp only[kz,PE]at dP;simp[aq.on,dP.1,dP.2]
   have HSo:=ag Lf;have BD:=ag dP;clear Lf dP
   have CI:Calls prog 95 #[.pointer (some ⟨L.t i,0,none⟩), .bool valid] w λe w'=>e= .returned (.bool true)/\dw w' d L S/\Ch (Fp L) w w':=by
    have:=TJ w d L S H.out i hi valid;rwa[BD.out,HSo.out]at this
   have jk:=ag CI;clear CI;cases hA:S.armed
   . have HE:Hid (S.lG valid=true/\S.cnt i valid={S with exec:=IntKind.u64.wrap (S.exec+1)}):=by show _/\_;simp[aq.lG,aq.cnt,BD.out,hA]
     go_enter func143,ntmps143
     go_wp2_with (go_at_call 95;refine jk.out.mono ?_;rintro e w1 ⟨rfl,hD,hC⟩;have k0:=hD.t0 hi;have k1:=hD.AR hi;have k2:=hD.lt;have k3:=hD.RX;have k4:=hD.Ox;have k5:=hD.dev.frozen 14;rw[hA]at k3;have HD:=ag hD;have HC:=ag hC;clear hD hC)
     go_ret;rw[HE.out.1,HE.out.2];refine⟨rfl,HD.out.Iu (λb _ hb=>ft w1 ⟨d,14,none⟩ _ b hb) smQ S.off S.armed S.left _ HD.out.lf (iE _) ?_,HC.out.trans (D5 (w':=w) HD.out 14 _) (λ_ h _=>h)⟩;exact HD.out.dev.set 14 _
   . by_cases hz:S.left=0
     . have HE:Hid (S.lG valid=false/\S.cnt i valid=aq.fail {S with off:=true} i 3):=by show _/\_;simp[aq.lG,aq.cnt,BD.out,hA,hz]
       have HZ:=ag hz;clear hz;go_enter func143,ntmps143
       go_wp2_with (go_at_call 95;refine jk.out.mono ?_;rintro e w1 ⟨rfl,hD,hC⟩;have k0:=hD.t0 hi;have k1:=hD.AR hi;have k2:=hD.lt;have k3:=hD.RX;have k4:=hD.Xm;have k6:=hD.KX;have k5:=hD.dev.frozen 11;rw[hA]at k3;rw[HZ.out]at k4;have HD:=ag hD;have HC:=ag hC;clear hD hC)
       have o6:dw (w1.setCell ⟨d,11,none⟩ (.bool true)) d L {S with off:=true}:=HD.out.Iu (λb _ hb=>ft w1 ⟨d,11,none⟩ _ b hb) smQ true S.armed S.left S.exec HD.out.lf HD.out.ex (HD.out.dev.set 11 _);refine(Ic _ d L {S with off:=true} o6 i hi 3).mono ?_;rintro e w2 ⟨rfl,Re,o7⟩;have XH:=ag Re;have fo:=ag o7;clear o6 Re o7;go_wp2;go_ret;rw[HE.out.1,HE.out.2];exact⟨rfl,XH.out,(HC.out.trans (D5 (w':=w) HD.out 11 _) (λ_ h _=>h)).trans fo.out (λ_ h _=>h)⟩
     . have HE:Hid (S.lG valid=true/\S.cnt i valid={S with left:=S.left-1,exec:=IntKind.u64.wrap (S.exec+1)}):=by show _/\_;simp[aq.lG,aq.cnt,BD.out,hA,hz]
       have hz':(S.left==0)=false:=by simpa using hz
       have jB:1<=S.left:=by omega
       have ju:S.left<=9223372036854775807:=by omega
       clear hz;go_enter func143,ntmps143
       go_wp2_with (go_at_call 95;refine jk.out.mono ?_;rintro e w1 ⟨rfl,hD,hC⟩;have k0:=hD.t0 hi;have k1:=hD.AR hi;have k2:=hD.lt;have k3:=hD.RX;have k4:=hD.Xm;have k6:=hD.Ox;have k5:=hD.dev.frozen 13;have k7:=hD.dev.frozen 14;rw[hA]at k3;have HD:=ag hD;have HC:=ag hC;clear hD hC)
       go_ret;rw[HE.out.1,HE.out.2];refine⟨rfl,HD.out.Iu (λb _ hb=>(ft _ ⟨d,14,none⟩ _ b hb).trans (ft w1 ⟨d,13,none⟩ _ b hb)) smQ S.off S.armed _ _ ae (iE _) ?_,(HC.out.trans (D5 (w':=w) HD.out 13 _) (λ_ h _=>h)).setCell (a:=⟨d,14,none⟩) (.inl (by show Fp L d;unfold Fp;rw[HD.out.rd];omega)) _⟩;exact(HD.out.dev.set 13 _).set 14 _
def aq.load(S:aq)(off:Int):Int:=if S.Dn (S.cQ off)then S.cur[(off/8).toNat]?.getD 0 else 0
theorem dW(xs:List Int):(bE xs).length=xs.length:=by simp[bE]
theorem vP(xs:List Int)(k:Nat)(h:k<xs.length):(bE xs)[k]'(by rw[dW];exact h)= .int .u64 xs[k]:=by simp[bE]
theorem dw.Rv{w:World}{d:Nat}{L:Lay}{S:aq}(h:dw w d L S){k:Nat}(hk:k<S.cur.length):w.cell? ⟨L.cb,k,none⟩=some (.int .u64 S.cur[k]):=by
 obtain⟨g,off,hA,_,hc⟩:=h.cur.at_ (j:=k) (by rw[dW];exact hk);injection hA with hA;injection hA with hA fL;subst hA fL;rw[vP _ k hk,cY]at hc;exact hc
theorem dw.Zae{w:World}{d:Nat}{L:Lay}{S:aq}(h:dw w d L S):L.cb<w.heap.size:=h.fr _ (by rw[h.rc];omega)
theorem sC{S:aq}{off:Int}(h:S.cQ off=true)(h0:0<=off):∃k:Nat,off=8*(k:Int)/\off/8=(k:Int)/\k<8*S.bA.length:=by
 unfold aq.cQ at h;simp only[kz,sQ]at h;refine⟨(off/8).toNat,by omega,by omega,by omega⟩
theorem XR(w:World)(d:Nat)(L:Lay)(S:aq)(h:dw w d L S)(i:Nat)(hi:i<8)(off:Int)(mL:0<=off/\off<18446744073709551616):
 Calls prog 68 #[.pointer (some ⟨L.t i,0,none⟩), .int .u64 off] w λe w'=>e= .returned (.int .u64 (S.load off))/\dw w' d L (S.on i (S.cQ off))/\Ch (Fp L) w w':=by
 have h0:=h.t0 hi;have hl:=h.AR hi;have H:=ag h;have J0:=ag mL;obtain⟨o1,o2⟩:=mL;clear h;obtain⟨b,hb⟩:=aH (S.cQ off)
 have CT:Hid (Calls prog 96 #[.pointer (some ⟨L.t i,0,none⟩), .int .u64 off] w λe w'=>e= .returned (.bool b)/\w=w'):=by
  have:=Ia w d L S H.out i hi off J0.out;rwa[hb]at this
 cases dP:S.Dn b
 . have HE:Hid (S.load off=0/\S.on i (S.cQ off)=S.on i b):=by show _/\_;simp[aq.load,hb,dP]
   have BD:Hid (Calls prog 95 #[.pointer (some ⟨L.t i,0,none⟩), .bool b] w λe w'=>e= .returned (.bool false)/\dw w' d L (S.on i b)/\Ch (Fp L) w w'):=by
    have:=TJ w d L S H.out i hi b;rwa[dP]at this
   clear hb dP;go_enter func68,ntmps68
   go_wp2_with (first|(go_at_call 96;refine CT.out.mono ?_;rintro e w' ⟨rfl,rfl⟩)|(go_at_call 95;refine BD.out.mono ?_;rintro e w1 ⟨rfl,hD,hC⟩;have HD:=ag hD;have HC:=ag hC;clear hD hC))
   go_ret;rw[HE.out.1,HE.out.2];exact⟨rfl,HD.out,HC.out⟩
 . have Lf:S.on i b=S/\b=true:=by
    unfold aq.Dn at dP;simp only[kz,PE]at dP;simp[aq.on,dP.1,dP.2]
   obtain⟨Lf,rfl⟩:=Lf;obtain⟨k,iy,fC,wL⟩:=sC hb o1;have hkc:k<S.cur.length:=by rw[H.out.nc];exact wL
   have HE:Hid (S.load off=S.cur[k]/\S.on i (S.cQ off)=S):=by
    show _/\_
    refine⟨?_,by rw[hb];exact Lf⟩;unfold aq.load;rw[hb,dP,aA rfl,fC];simp[hkc]
   have BD:Hid (Calls prog 95 #[.pointer (some ⟨L.t i,0,none⟩), .bool true] w λe w'=>e= .returned (.bool true)/\dw w' d L S/\Ch (Fp L) w w'):=by
    have:=TJ w d L S H.out i hi true;rwa[dP,Lf]at this
   clear hb dP Lf iy;go_enter func68,ntmps68
   go_wp2_with (first|(go_at_call 96;refine CT.out.mono ?_;rintro e w' ⟨rfl,rfl⟩)|(go_at_call 95;refine BD.out.mono ?_;rintro e w1 ⟨rfl,hD,hC⟩;have k0:=hD.t0 hi;have k1:=hD.AR hi;have k2:=hD.lt;have k3:=hD.Lu;have k4:=hD.Rv hkc;have k5:=hD.Zae;have HD:=ag hD;have HC:=ag hC;clear hD hC))
   go_ret;rw[HE.out.1,HE.out.2];exact⟨rfl,HD.out,HC.out⟩
end Go.Proofs.YtjkpjakodomnmaaGreatDoor
