/- The row of the law NaturalPairs, and its card: what its call does, from the interpreter's run; what it lists, tied to the program's text. -/
import Derived.Test.YtmfdlglhngmacaaGreatDoorYC
import Derived.Test.YtmfdlglhngmacaaGreatDoorProg
import Derived.Test.YtmfdlglhngmacaaGreatDoorYD
import Derived.Test.YtmfdlglhngmacaaGreatDoorYO
import Derived.Test.YtmfdlglhngmacaaGreatDoorTie
import Derived.Test.YtmfdlglhngmacaaGreatDoorCards
import Derived.WalkKit
import Derived.ProofKit
import Derived.OpenShut
import Derived.ShutString
import Derived.ChangeOld
import Derived.Below
import Derived.SizedLaws
import Derived.HandedShaped
import Derived.Carry
import Derived.SevenTiedAt
/-
  The slimmed code of the functions, printed by program, and that it is what is computed from the program.
-/
namespace Go.Lite
open Go Go.Proofs
set_option maxRecDepth 100000
-- thunk/thunklaw10.NaturalPairs
def c6:SFunc:=⟨74,(.seq (.ops [oP 6 (.move (.lit (.bool false)))])
 (.seq (.seq (.ops [oC 20 7 ([]),oP 21 (.not (.tmp 20))])
 (.cond (.tmp 21)
 (.seq (.ops [oP 6 (.move (.lit (.bool false)))])
 .ret)
 .skip))
 (.seq (.seq (.ops [oM 22 0,oC 23 8 ([.tmp 22]),oP 24 (.not (.tmp 23)),oM 25 24,oG 26 25 false (.move (.tmp 1)),.mk (some 27) (some (25,false)) (.call (.lit (.func 8 [])) [.tmp 26]),oG 28 25 false (.not (.tmp 27)),oP 29 (.pick (.tmp 25) (.lit (.bool true)) (.tmp 28))])
 (.cond (.tmp 29)
 (.seq (.ops [oP 6 (.move (.lit (.bool true)))])
 .ret)
 .skip))
 (.seq (.ops [oM 30 0,oC 31 9 ([.tmp 30]),oM 32 1,oC 33 9 ([.tmp 32]),oA 7 (.newc 28 [.int .i64 0,.str [],.nils,.nils]),oA 8 (.newc 28 [.int .i64 0,.str [],.nils,.nils]),oS 4 7 31,oS 4 8 33])
 (.seq (.draw [oN 34 4 7,oA 10 (.newc 28 [.int .i64 0,.str [],.nils,.nils]),oP 9 (.move (.lit (.str [99,97,114])))] [(oS 4 10 34,[],[])])
 (.seq (.seq (.ops [oM 35 2])
 (.cond (.tmp 35)
 (.draw [oN 36 4 8,oP 9 (.move (.lit (.str [99,100,114])))] [(oS 4 10 36,[],[])])
 .skip))
 (.seq (.ops [oM 38 9,oN 39 4 7,oN 40 4 8,oA 41 (.buildS [.int .i64 0,.str [],.nils,.nils,.int .i64 0,.str [],.nils,.nils] 2 [(0,4,.tmp 39),(4,4,.tmp 40)]),oP 42 (.build [.int .i64 0,.str [],.nils,.nils] [(0,1,.lit (.int .i64 10)),(1,1,.lit (.str [99,111,110,115])),(3,1,.tmp 41)]),oA 43 (.buildS [.int .i64 0,.str [],.nils,.nils] 1 [(0,4,.tmp 42)]),oP 44 (.build [.int .i64 0,.str [],.nils,.nils] [(0,1,.lit (.int .i64 10)),(1,1,.tmp 38),(3,1,.tmp 43)]),oC 45 12 ([.tmp 44,.lit .nils,.lit (.int .i64 3000)]),oM 37 45,oP 46 (.extract (.tmp 37) 0),oP 47 (.extract (.tmp 37) 1),oP 48 (.extract (.tmp 37) 2),oA 11 (.newc 34 [.int .i64 0,.str [],.int .i64 0]),oS 3 11 46,oM 12 47,oM 13 48])
 (.seq (.ops [oN 50 4 10,oC 51 12 ([.tmp 50,.lit .nils,.lit (.int .i64 2000)]),oM 49 51,oP 52 (.extract (.tmp 49) 0),oP 53 (.extract (.tmp 49) 1),oP 54 (.extract (.tmp 49) 2),oA 14 (.newc 34 [.int .i64 0,.str [],.int .i64 0]),oS 3 14 52,oM 15 53,oM 16 54])
 (.seq (.ops [oN 56 4 10,oC 57 13 ([.tmp 56,.lit .nils,.lit (.int .i64 2000)]),oM 55 57,oP 58 (.extract (.tmp 55) 0),oP 59 (.extract (.tmp 55) 1),oP 60 (.extract (.tmp 55) 2),oA 17 (.newc 34 [.int .i64 0,.str [],.int .i64 0]),oS 3 17 58,oM 18 59,oM 19 60])
 (.seq (.ops [oN 61 3 14,oN 62 3 17,oP 63 (.bin .eql (.many [(0,1),(1,2),(2,1)]) (.tmp 61) (.tmp 62)),oM 64 63,oG 65 64 true (.faddr 0 (.tmp 14)),oG 66 64 true (.load1 (.tmp 65)),oG 67 64 true (.bin .eql .none (.tmp 66) (.lit (.int .i64 6))),oG 68 64 true (.move (.tmp 67)),oG 69 68 false (.loadn 3 (.tmp 11)),oG 70 68 false (.loadn 3 (.tmp 14)),oG 71 68 false (.bin .eql (.many [(0,1),(1,2),(2,1)]) (.tmp 69) (.tmp 70)),oG 72 64 true (.pick (.tmp 68) (.lit (.bool true)) (.tmp 71)),oP 73 (.pick (.tmp 64) (.tmp 72) (.lit (.bool false))),oM 6 73])
 .ret)))))))))),[.tmp 6]⟩
theorem a7K (own:OwnT) (mode:FuncId→Nat):(qH Tryz.prog own mode).code 6=some c6:=by kernel_rfl
end Go.Lite
/-
  The law NaturalPairs.
-/
namespace Go.Lite
open Go Go.Proofs
set_option maxRecDepth 100000
set_option linter.unusedSimpArgs false
set_option linter.unusedVariables false
theorem a7L (j:Nat):vdot j≠[119]:=fun e=>by
 have:=congrArg (fun l:Str=>l[0]?) e
 simp[vdot]at this
/-- a term that was made is no name -/
theorem a99 {e:X}{m':Nat}(h:e.good [] 0 m'):∀ k t ns l,e= .mk k t ns l→k≠5:=by
 rintro k t ns l rfl h5
 obtain⟨_,_,h3,_⟩:=h
 have:=h3 h5
 simp at this
theorem a7t (l:List Raw) (hl:l.length≤9223372036854775807) (hf:Raw.fits l) (h:vE 13 l≤40):∃ e:X,Made e∧Roomy e∧(∀ k t ns l,e= .mk k t ns l→k≠5)∧Ret P6 9 [kC l] e.v:=by
 obtain⟨e,m',h1,h2,h3,h4⟩:=aDW l hl hf (by rw[←a7s 13 l h];exact h)
 have me:=aDk h1 h3
 have hb:=(nK e [] 0 m' h1).2
 have hn:e.nn≤100:=by rw[aED,hb,xS];omega
 exact⟨e,me,aBF me.wf me.tame (a1X e [] 0 m' h1) (by omega),a99 h1,h4.up⟩
theorem a3n {op:Str}(hop:op.length≤1000∧∀ c∈op,c<256) {a b:X}(ha:a.tame) (hb:b.tame):(uB op a b).tame:=
 ⟨⟨hop,fun h=>absurd h (by decide)⟩,by simp,by simp,⟨⟨⟨by decide,by decide⟩,fun h=>absurd h (by decide)⟩,by simp,by simp,ha,hb,trivial⟩,trivial⟩
set_option maxHeartbeats 16000000 in
theorem law6 (l m:List Raw) (sec:Bool) (hl:l.length≤9223372036854775807) (hf:Raw.fits l) (hl2:m.length≤9223372036854775807) (hf2:Raw.fits m):Ret P6 6 [kC l,kC m,.bool sec] (.bool true):=by
 have hargs:∀ H,qI shutV [kC l,kC m,.bool sec] H=some ([kC l,kC m,.bool sec],H):=fun H=>by simp -implicitDefEqProofs only[↓qA,ZZ,seval,XS,zA]
 by_cases hfew:vE 13 l≤40
 case neg=>
  refine Ret.of rfl (a7K _ _) rfl rfl hargs (known11.and ((a2l l hl hf).up.and (Ev.ge 1)) |>.mono fun n hn H=> ?_)
  obtain⟨e11,e12,hn⟩:=hn
  rw[decide_eq_false hfew]at e12
  simp -implicitDefEqProofs only[c6,↓qA,ZZ,seval,CM,zA,e11,e12,Ends,qC]
  exact⟨_,rfl⟩
 by_cases hfew2:vE 13 m≤40
 case neg=>
  refine Ret.of rfl (a7K _ _) rfl rfl hargs (known11.and ((a2l l hl hf).up.and ((a2l m hl2 hf2).up.and (Ev.ge 1))) |>.mono fun n hn H=> ?_)
  obtain⟨e11,e12,e12',hn⟩:=hn
  rw[decide_eq_true hfew]at e12
  rw[decide_eq_false hfew2]at e12'
  simp -implicitDefEqProofs only[c6,↓qA,ZZ,seval,CM,zA,e11,e12,e12',Ends,qC]
  exact⟨_,rfl⟩
 obtain⟨a,ma,ra,ta,e13⟩:=a7t l hl hf hfew
 obtain⟨b,mb,rb,tb,e13'⟩:=a7t m hl2 hf2 hfew2
 cases sec with
 | false=>
   obtain⟨o,ho,e1,e2⟩:=a3g ra 2000 (by omega)
   have ho3:outA (deep 3000) a [] 2000=some o:=aAJ (by unfold deep;omega) _ _ _ ho
   obtain⟨o',ho',go'⟩:=bH (uB carT a b) (by
    have:=ma.wf;have:=mb.wf
    refine⟨fun h=>absurd h (by decide),fun h=>absurd h (by decide),fun h=>absurd h (by decide),fun h=>absurd h (by decide),fun _=> .inl rfl,⟨fun h=>absurd h (by decide),fun h=>absurd h (by decide),fun h=>absurd h (by decide),fun h=>absurd h (by decide),fun _=> .inr rfl,ma.wf,mb.wf,trivial⟩,trivial⟩) [] 3000 (deep 3000+2) (by omega)
   have e3:=a0m (a3n (op:=carT) (by decide) ma.tame mb.tame) 3000 3000 rfl (by omega) ho'
   have key:o.kind≠6→o'.kind=o.kind∧o'.txt=o.txt:=fun h6=>by
    obtain⟨o2,h1,h2,h3⟩:=a5N (w:=[119]) (op:=carT) (b:=b) (.inl ⟨rfl,rfl⟩) ta tb ma.wf (ma.no _ a7L) (Nat.le_refl _) ho3 h6
    have:=Option.some.inj (h1.symm.trans ho')
    subst this
    exact⟨h2,h3⟩
   have hc2000:((2000:Nat):Int)=2000:=rfl
   rw[hc2000]at e1 e2
   obtain⟨ak,at',an,aa⟩:=a
   obtain⟨bk,bt,bn,ba⟩:=b
   rw[X.v_mk]at e13 e13' e1 e2
   have hx:∀ H,shutV (.agg [.int .i64 ak,.str at',qE an,vXs aa]) H=some (.agg [.int .i64 ak,.str at',qE an,vXs aa],H):=fun H=>by simp -implicitDefEqProofs only[↓qA,ZZ,seval,XS]
   have hx':∀ H,shutV (.agg [.int .i64 bk,.str bt,qE bn,vXs ba]) H=some (.agg [.int .i64 bk,.str bt,qE bn,vXs ba],H):=fun H=>by simp -implicitDefEqProofs only[↓qA,ZZ,seval,XS]
   simp only[uB,carT,kY,X.v_mk,vXs,kG,rA,List.flatMap_cons,List.flatMap_nil,List.length_cons,List.length_nil,X.cells_mk,List.cons_append,List.nil_append,List.append_nil,qE,vF,str1,Nat.reduceAdd]at e3
   simp only[show ∀ l:List X,kD true 4 X.cells l=vXs l from fun _=>rfl,show ∀ l:List Str,kD true 1 str1 l=qE l from fun _=>rfl]at e3
   refine Ret.of rfl (a7K _ _) rfl rfl hargs (known11.and ((a2l l hl hf).up.and ((a2l m hl2 hf2).up.and (e13.and (e13'.and (e2.and (Ev.ge 1)))))) |>.mono fun n hn H=> ?_)
   obtain⟨e11,e12,e12',e13,e13',e2,hn⟩:=hn
   obtain⟨n,rfl⟩:∃ k,n=k+1:=⟨n-1,by omega⟩
   rw[decide_eq_true hfew]at e12
   rw[decide_eq_true hfew2]at e12'
   cases h6:(o.kind==6)with
   | true=>
     simp -implicitDefEqProofs only[c6,↓qA,ZZ,seval,CM,XS,zA,e11,e12,e12',e13,e13',tH,hx,hx',e1,e2,e3,h6,dA,jN,zI,kK,Cap.es,Cap.full,beq_self_eq_true,Ends,qC]
     exact⟨_,rfl⟩
   | false=>
     obtain⟨k1,k2⟩:=key (by simpa using h6)
     rw[k1,k2]at e3
     simp -implicitDefEqProofs only[c6,↓qA,ZZ,seval,CM,XS,zA,e11,e12,e12',e13,e13',tH,hx,hx',e1,e2,e3,h6,dA,jN,zI,kK,Cap.es,Cap.full,beq_self_eq_true,Ends,qC]
     exact⟨_,rfl⟩
 | true=>
   obtain⟨o,ho,e1,e2⟩:=a3g rb 2000 (by omega)
   have ho3:outA (deep 3000) b [] 2000=some o:=aAJ (by unfold deep;omega) _ _ _ ho
   obtain⟨o',ho',go'⟩:=bH (uB cdrT a b) (by
    have:=ma.wf;have:=mb.wf
    refine⟨fun h=>absurd h (by decide),fun h=>absurd h (by decide),fun h=>absurd h (by decide),fun h=>absurd h (by decide),fun _=> .inl rfl,⟨fun h=>absurd h (by decide),fun h=>absurd h (by decide),fun h=>absurd h (by decide),fun h=>absurd h (by decide),fun _=> .inr rfl,ma.wf,mb.wf,trivial⟩,trivial⟩) [] 3000 (deep 3000+2) (by omega)
   have e3:=a0m (a3n (op:=cdrT) (by decide) ma.tame mb.tame) 3000 3000 rfl (by omega) ho'
   have key:o.kind≠6→o'.kind=o.kind∧o'.txt=o.txt:=fun h6=>by
    obtain⟨o2,h1,h2,h3⟩:=a5N (w:=[119]) (op:=cdrT) (a:=a) (.inr ⟨rfl,rfl⟩) ta tb mb.wf (mb.no _ a7L) (Nat.le_refl _) ho3 h6
    have:=Option.some.inj (h1.symm.trans ho')
    subst this
    exact⟨h2,h3⟩
   have hc2000:((2000:Nat):Int)=2000:=rfl
   rw[hc2000]at e1 e2
   obtain⟨ak,at',an,aa⟩:=a
   obtain⟨bk,bt,bn,ba⟩:=b
   rw[X.v_mk]at e13 e13' e1 e2
   have hx:∀ H,shutV (.agg [.int .i64 ak,.str at',qE an,vXs aa]) H=some (.agg [.int .i64 ak,.str at',qE an,vXs aa],H):=fun H=>by simp -implicitDefEqProofs only[↓qA,ZZ,seval,XS]
   have hx':∀ H,shutV (.agg [.int .i64 bk,.str bt,qE bn,vXs ba]) H=some (.agg [.int .i64 bk,.str bt,qE bn,vXs ba],H):=fun H=>by simp -implicitDefEqProofs only[↓qA,ZZ,seval,XS]
   simp only[uB,cdrT,kY,X.v_mk,vXs,kG,rA,List.flatMap_cons,List.flatMap_nil,List.length_cons,List.length_nil,X.cells_mk,List.cons_append,List.nil_append,List.append_nil,qE,vF,str1,Nat.reduceAdd]at e3
   simp only[show ∀ l:List X,kD true 4 X.cells l=vXs l from fun _=>rfl,show ∀ l:List Str,kD true 1 str1 l=qE l from fun _=>rfl]at e3
   refine Ret.of rfl (a7K _ _) rfl rfl hargs (known11.and ((a2l l hl hf).up.and ((a2l m hl2 hf2).up.and (e13.and (e13'.and (e2.and (Ev.ge 1)))))) |>.mono fun n hn H=> ?_)
   obtain⟨e11,e12,e12',e13,e13',e2,hn⟩:=hn
   obtain⟨n,rfl⟩:∃ k,n=k+1:=⟨n-1,by omega⟩
   rw[decide_eq_true hfew]at e12
   rw[decide_eq_true hfew2]at e12'
   cases h6:(o.kind==6)with
   | true=>
     simp -implicitDefEqProofs only[c6,↓qA,ZZ,seval,CM,XS,zA,e11,e12,e12',e13,e13',tH,hx,hx',e1,e2,e3,h6,dA,jN,zI,kK,Cap.es,Cap.full,beq_self_eq_true,Ends,qC]
     exact⟨_,rfl⟩
   | false=>
     obtain⟨k1,k2⟩:=key (by simpa using h6)
     rw[k1,k2]at e3
     simp -implicitDefEqProofs only[c6,↓qA,ZZ,seval,CM,XS,zA,e11,e12,e12',e13,e13',tH,hx,hx',e1,e2,e3,h6,dA,jN,zI,kK,Cap.es,Cap.full,beq_self_eq_true,Ends,qC]
     exact⟨_,rfl⟩
end Go.Lite
/- The row of the law NaturalPairs, and its card: what its call does, from the interpreter's run; what it lists, tied to the program's text. -/
namespace Go.Proofs.YtmfdlglhngmacaaGreatDoor.naturalPairs
open Go.ChangeShapes Go.WideShapes Go.ChangeAt Go.RowKit Go.Lite
open Go.ChangeMaps (open_string shut_string)
set_option linter.unusedVariables false
set_option maxRecDepth 100000
theorem own:ownKnob Tryz.prog.godebug=none:=by kernel_rfl
theorem laidOut:laidOutB Tryz.prog=true:=by kernel_rfl
theorem aAG (os:Os):laidMet Tryz.prog Rows.naturalPairsRow.laid ((a3f Tryz.prog os [(2,Rows.laid_math_bits_deBruijn32tab),(3,Rows.laid_math_bits_deBruijn64tab),(0,Rows.laid_internal_strconv_uint64pow10)]).forCall (fun _ _=>0) ⟨#[],#[.slice none 0 0,.slice none 0 0,.bool false],[]⟩).memory:=
 laidMet_of_run' 8 (by kernel_rfl) (by kernel_rfl)
theorem lifted (os:Os) (started:os.Started) (H:Type) (enc:TypeId×Value→H):
 ReturnsInHanded {} Tryz.checked os 6 .any (fun w args=>(Rows.naturalPairsSpec.pre enc Tryz.prog Tryz.f6 Rows.naturalPairsRow.domain false w args∧laidMet Tryz.prog Rows.naturalPairsRow.laid w)∧sizedMet enc Tryz.prog Tryz.f6 (OpenSpec.ofChange Rows.naturalPairsSpec) false w args) (Rows.naturalPairsSpec.post enc Tryz.prog Tryz.f6 false true false false):=by
 refine a4C (C:=Tryz.checked) (X:=fun w _=>laidMet Tryz.prog Rows.naturalPairsRow.laid w) own started (by kernel_rfl) Tryz.func6
  (ChangeSpec.witness_at (enc:=enc) (C:=Tryz.checked) (os:=os) (X:=fun w _=>laidMet Tryz.prog Rows.naturalPairsRow.laid w) false (a3f Tryz.prog os [(2,Rows.laid_math_bits_deBruijn32tab),(3,Rows.laid_math_bits_deBruijn64tab),(0,Rows.laid_internal_strconv_uint64pow10)]) #[.slice none 0 0,.slice none 0 0,.bool false] 8 rfl (by kernel_rfl) (by kernel_rfl) (by kernel_rfl) (by kernel_rfl) (by kernel_rfl) (aAG os)) ?_
 intro W base args ds gs before hval0 hW hcnd hsz0 hsh hlx _
 have hsz:(DataW.weightsEach Tryz.prog (Tryz.f6.params.toList++Rows.naturalPairsSpec.plain.varTypes Tryz.prog) (ds++gs)).all (· ≤ reachBytes)=true:=hsz0
 have hval:∀ (j:Nat) t v,Tryz.f6.params[j]? = some t→args[j]? = some v→Value.okWide Tryz.prog W .any base t v:=hval0
 have hW':=hW
 obtain⟨p,q,hA0,hV,rfl,hfz,hnd⟩:=hW
 have hA:DataW.TrodAll enc Tryz.prog W 0 (fun _=>true) true Tryz.f6.params.toList args.toList ds p:=hA0
 rw[Tryz.params6]at hA hval hsz
 obtain⟨v0,vs0,d0,ds0,p0,q0,hargs,rfl,rfl,h0,r0⟩:=trodAll_cons hA
 obtain⟨v1,vs1,d1,ds1,p1,q1,rfl,rfl,rfl,h1,r1⟩:=trodAll_cons r0
 obtain⟨v2,vs2,d2,ds2,p2,q2,rfl,rfl,rfl,h2,r2⟩:=trodAll_cons r1
 obtain⟨rfl,rfl,rfl⟩:=trodAll_nil r2
 obtain rfl:args= #[v0,v1,v2]:=by cases args;simp_all
 obtain⟨rfl,rfl⟩:=trodVars_none hV
 have k0:=h0
 have lt0:∀ x∈p0,x.block<W.heap.size:=by obtain⟨m,hm⟩:=k0;exact DataW.trod_lt m _ _ _ hm
 have o0:=(hval 0 22 v0 rfl rfl)
 obtain⟨z0,n0,c0,rfl⟩:=okWide_slice Tryz.underlying22 o0
 obtain⟨g0,y0⟩:=h0
 obtain⟨a0,⟨w0,x0⟩,e0⟩:=a2S Tryz.underlying22 Tryz.underlying56 (by kernel_rfl) ⟨_,rfl,rfl,Tryz.underlying3,by kernel_rfl⟩ ⟨_,rfl,rfl,Tryz.underlying3,by kernel_rfl⟩ ⟨_,rfl,rfl,rfl,by kernel_rfl⟩ g0 (.slice z0 n0 c0) _ (by simpa[Value.cells]using y0)
 have k1:=h1
 have lt1:∀ x∈p1,x.block<W.heap.size:=by obtain⟨m,hm⟩:=k1;exact DataW.trod_lt m _ _ _ hm
 have o1:=(hval 1 22 v1 rfl rfl)
 obtain⟨z1,n1,c1,rfl⟩:=okWide_slice Tryz.underlying22 o1
 obtain⟨g1,y1⟩:=h1
 obtain⟨a1,⟨w1,x1⟩,e1⟩:=a2S Tryz.underlying22 Tryz.underlying56 (by kernel_rfl) ⟨_,rfl,rfl,Tryz.underlying3,by kernel_rfl⟩ ⟨_,rfl,rfl,Tryz.underlying3,by kernel_rfl⟩ ⟨_,rfl,rfl,rfl,by kernel_rfl⟩ g1 (.slice z1 n1 c1) _ (by simpa[Value.cells]using y1)
 obtain⟨a2,rfl,rfl,rfl⟩:=open_bool Tryz.underlying4 (hval 2 4 v2 rfl rfl) h2
 refine(a4b hsh (a5g hlx) (law6 _ _ a2 w0 x0 w1 x1) (by simp only[VRels];exact⟨_,_,rfl,e0,_,_,rfl,e1,_,_,rfl,rfl,rfl⟩)).mono fun e W' ⟨he,bel⟩=> ?_
 subst he
 exact⟨_,rfl,_,_,_,[],_,[],hW',trodAll_mk1 (shut_bool Tryz.underlying4 _),(trodAll_cons_mk (Below.trod laidOut (by kernel_rfl) (of_decide_eq_true (by kernel_rfl)) k0 bel lt0) (trodAll_cons_mk (Below.trod laidOut (by kernel_rfl) (of_decide_eq_true (by kernel_rfl)) k1 bel lt1) (trodAll_cons_mk (shut_bool Tryz.underlying4 _) trodAll_mk0))),rfl,bel.frame _,fun h=>by cases h⟩
theorem over:Rows.naturalPairsRow.holds Tryz.pinned (OpenSpec.ofChange Rows.naturalPairsSpec):=
 OpenClaim.holds_of_wide 6 Tryz.f6 rfl rfl rfl rfl rfl rfl rfl ⟨rfl,rfl,rfl,rfl,rfl⟩ rfl rfl rfl rfl rfl (by kernel_rfl) Tryz.func6 (by kernel_rfl)
  (of_decide_eq_true (by kernel_rfl)) (by unfold Func.isWrapper;first|(rw[if_pos (by decide +kernel)];kernel_rfl)|(rw[if_neg (by decide +kernel)];exact⟨rfl,rfl⟩))
  (fun os started H enc _=>lifted os started H enc)
theorem card:Rows.NaturalPairsCardSaid:=
 Claim7.holds_tied_plain_at .later [] [.data, .data, .data] true (true, "3da4c160d97a7c4ab2323d69753ed077bd726e9de55bac15ab9e51916df506f2") true over (fun _ h => by cases h) (by kernel_rfl) (fun _ h => by cases h) naturalPairs_row_tie rfl ⟨rfl, rfl⟩ (by kernel_rfl) (by first | rfl | decide)
  (fun f fn h1 h2=>by
    obtain rfl:f=6:=Option.some.inj (h1.symm.trans (by kernel_rfl))
    obtain rfl:fn=Tryz.f6:=Option.some.inj (h2.symm.trans Tryz.func6)
    refine⟨by kernel_rfl,fun j t hj=> ?_⟩
    rw[Tryz.params6]at hj
    match j,hj with
    | 0,hj=>
      obtain rfl:t=22:=by simpa using hj.symm
      exact(by kernel_rfl:Tryz.pinned.checked.prog.wantsStandIn 22=false)
    | 1,hj=>
      obtain rfl:t=22:=by simpa using hj.symm
      exact(by kernel_rfl:Tryz.pinned.checked.prog.wantsStandIn 22=false)
    | 2,hj=>
      obtain rfl:t=4:=by simpa using hj.symm
      exact(by kernel_rfl:Tryz.pinned.checked.prog.wantsStandIn 4=false)
    | j+3,hj=>simp at hj)
  (by kernel_rfl)
#print axioms card
end Go.Proofs.YtmfdlglhngmacaaGreatDoor.naturalPairs
namespace Go.Proofs.YtmfdlglhngmacaaGreatDoor
/-- The card, under a short name, for the claim. -/
theorem naturalPairs_holds:Rows.NaturalPairsCardSaid:=naturalPairs.card
end Go.Proofs.YtmfdlglhngmacaaGreatDoor
