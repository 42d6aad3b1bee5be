/- The row of the law NaturalTerms, and its card: what its call does, from the interpreter's run; what it lists, tied to the program's text. -/
import Derived.Test.YtmfdlglhngmacaaGreatDoorXC
import Derived.Test.YtmfdlglhngmacaaGreatDoorProg
import Derived.Test.YtmfdlglhngmacaaGreatDoorXD
import Derived.Test.YtmfdlglhngmacaaGreatDoorXO
import Derived.Test.YtmfdlglhngmacaaGreatDoorTie
import Derived.Test.YtmfdlglhngmacaaGreatDoorCards
import Derived.WalkKit
import Derived.ProofKit
import Derived.OpenShut
import Derived.ShutString
import Derived.ChangeOld
import Derived.Below
import Derived.SizedLaws
import Derived.HandedShaped
import Derived.Carry
import Derived.SevenTiedAt
/-
  The slimmed code of the functions, printed by program, and that it is what is computed from the program.
-/
namespace Go.Lite
open Go Go.Proofs
set_option maxRecDepth 100000
-- thunk/thunklaw10.NaturalTerms
def a8c:SCode:=
 (.seq (.seq (.ops [oM 29 9,oJ 30 .lss 29 3])
 (.cond (.tmp 30)
 .skip
 (.exit 0)))
 (.seq (.block 1 (.seq (.draw [oN 34 4 7,oM 35 8,oM 36 9,oP 37 (.iaddr 1 (.tmp 35) (.tmp 36)),oL 38 37,oA 10 (.newc 34 [.int .i64 0,.str [],.int .i64 0])] [(oC 39 12 ([.tmp 34,.lit .nils,.tmp 38]),[],[oM 33 39,oP 40 (.extract (.tmp 33) 0),oP 41 (.extract (.tmp 33) 1),oP 42 (.extract (.tmp 33) 2)]),(oS 3 10 40,[],[oM 11 41,oM 12 42])])
 (.seq (.draw [oN 44 4 7,oM 45 8,oM 46 9,oP 47 (.iaddr 1 (.tmp 45) (.tmp 46)),oL 48 47,oA 13 (.newc 34 [.int .i64 0,.str [],.int .i64 0])] [(oC 49 13 ([.tmp 44,.lit .nils,.tmp 48]),[],[oM 43 49,oP 50 (.extract (.tmp 43) 0),oP 51 (.extract (.tmp 43) 1),oP 52 (.extract (.tmp 43) 2)]),(oS 3 13 50,[],[oM 14 51,oM 15 52])])
 (.seq (.ops [oN 53 3 10,oN 54 3 13,oP 55 (.bin .neq (.many [(0,1),(1,2),(2,1)]) (.tmp 53) (.tmp 54)),oM 56 55,oG 57 56 false (.move (.tmp 11)),oG 58 56 false (.move (.tmp 14)),oG 59 56 false (.bin .neq .none (.tmp 57) (.tmp 58)),oP 60 (.pick (.tmp 56) (.lit (.bool true)) (.tmp 59)),oM 61 60,oG 62 61 false (.move (.tmp 12)),oG 63 61 false (.move (.tmp 15)),oG 64 61 false (.bin .neq .none (.tmp 62) (.tmp 63)),oP 65 (.pick (.tmp 61) (.lit (.bool true)) (.tmp 64))])
 (.cond (.tmp 65)
 (.seq (.ops [oP 6 (.move (.lit (.bool false)))])
 .ret)
 .skip)))))
 (.ops [oM 31 9,oJ 32 .add 31 1,oM 9 32])))
def c3:SFunc:=⟨66,(.seq (.ops [oP 6 (.move (.lit (.bool false)))])
 (.seq (.seq (.ops [oC 16 7 ([]),oP 17 (.not (.tmp 16))])
 (.cond (.tmp 17)
 (.seq (.ops [oP 6 (.move (.lit (.bool false)))])
 .ret)
 .skip))
 (.seq (.seq (.ops [oM 18 0,oC 19 8 ([.tmp 18]),oP 20 (.not (.tmp 19))])
 (.cond (.tmp 20)
 (.seq (.ops [oP 6 (.move (.lit (.bool true)))])
 .ret)
 .skip))
 (.seq (.ops [oM 21 0,oC 22 9 ([.tmp 21]),oA 7 (.newc 28 [.int .i64 0,.str [],.nils,.nils]),oS 4 7 22])
 (.seq (.seq (.ops [oM 23 2])
 (.cond (.tmp 23)
 (.ops [oN 24 4 7,oC 25 10 ([.tmp 24]),oS 4 7 25])
 .skip))
 (.seq (.ops [oM 26 1,oC 27 11 ([.tmp 26,.lit (.int .i64 60)]),oA 28 (.buildS [.int .i64 0,.int .i64 0,.int .i64 0] 3 [(0,1,.lit (.int .i64 2000)),(1,1,.tmp 27),(2,1,.lit (.int .i64 0))]),oM 8 28])
 (.seq (.seq (.ops [oI 9 0])
 (.block 0 (.loop a8c)))
 (.seq (.ops [oP 6 (.move (.lit (.bool true)))])
 .ret)))))))),[.tmp 6]⟩
theorem aDK (own:OwnT) (mode:FuncId→Nat):(qG Tryz.prog own mode).code 3=some c3:=by kernel_rfl
end Go.Lite
/-
  The law NaturalTerms.
-/
namespace Go.Lite
open Go Go.Proofs
set_option maxRecDepth 100000
set_option linter.unusedSimpArgs false
set_option linter.unusedVariables false
/-- behind the term: at each of three fuels both tell the same -/
theorem a1o {e:X}(r:Roomy e) (w:Nat) (hw:w<60):Ev fun n=>∀ (fr:Fr) (H:Heap) (KK:Ex→Fr→Heap→R) (Q:AV→Heap→Prop),HLow H→1≤H.n→H.t.get 0=some (.row e.cells 0 false (some 28))→fr 7= .ptr (.new 0) 0→fr 8= .lst 1 3 true [.int .i64 2000,.int .i64 w,.int .i64 0]→fr 9= .int .i64 (0:Nat)→
 (∀ fr' H',Gives (KK (.exit 0) fr' H') Q)→Gives (zO (qB P6 n) n a8c n fr H KK) Q:=by
 have hE:∀ F∈[2000,w,0],Ev fun n=>∃ o:O Str,(∀ H,a4V e.v F H=some (.ret (.tuple [.agg [.int .i64 o.kind,.str o.txt,.int .i64 0],.int .i64 o.st.steps,.int .i64 o.st.uses]),H))∧∀ H,qB P6 n 13 [e.v,.lst 0 0 true [],.int .i64 F] H=some (.ret (.tuple [.agg [.int .i64 o.kind,.str o.txt,.int .i64 0],.int .i64 o.st.steps,.int .i64 o.st.uses]),H):=fun F hF=>by
  obtain⟨o,_,h1,h2⟩:=a8t r F (by simp at hF;omega)
  exact Ev.mono h2 fun n hn=>⟨o,h1,hn⟩
 refine((Ev.list _ hE).and (Ev.ge 10)).mono fun n hn fr H KK Q low hn1 g0 r7 r8 r9 hend=> ?_
 obtain⟨eV,hn⟩:=hn
 obtain⟨n,rfl⟩:∃ k,n=k+1:=⟨n-1,by omega⟩
 obtain⟨ek,et,en,ea⟩:=e
 rw[X.cells_mk]at g0
 have hx:∀ H,shutV (.agg [.int .i64 ek,.str et,qE en,vXs ea]) H=some (.agg [.int .i64 ek,.str et,qE en,vXs ea],H):=fun H=>by simp -implicitDefEqProofs only[↓qA,ZZ,seval,XS]
 refine qM 3 (fun i fr H=>HLow H∧1≤H.n∧H.t.get 0=some (.row [.int .i64 ek,.str et,qE en,vXs ea] 0 false (some 28))∧fr 7= .ptr (.new 0) 0∧fr 8= .lst 1 3 true [.int .i64 2000,.int .i64 w,.int .i64 0]∧fr 9= .int .i64 i) ?_ ?_ _ 0 _ _ (by omega) (by omega) ⟨low,hn1,g0,r7,r8,r9⟩
 · rintro i fr H K' hi ⟨lo,h1,g0,r7,r8,r9⟩ hKe hKr hK
   obtain⟨F,hF⟩:∃ F,([2000,w,0]:List Nat)[i]? = some F:=⟨([2000,w,0]:List Nat)[i]'(by simpa using hi),List.getElem?_eq_getElem _⟩
   have hdrop:(([AV.int .i64 2000,.int .i64 w,.int .i64 0]:List AV).drop (i*1)).take 1=[.int .i64 F]:=by
    match i,hi,hF with
    | 0,_,hF=>cases hF;rfl
    | 1,_,hF=>cases hF;rfl
    | 2,_,hF=>cases hF;rfl
   obtain⟨o,eA,eB⟩:=eV i F hF
   rw[X.v_mk]at eA eB
   have hlt:(i:Int)<3:=by omega
   have hw2:IntKind.i64.wrap ((i:Int)+1)=((i+1:Nat):Int):=qR (n:=1000) (by omega) (by omega)
   have m0:¬0=H.n:=by omega
   simp -implicitDefEqProofs only[a8c,↓qA,ZZ,seval,CM,XS,r7,r8,r9,hi,hlt,hdrop,g0,m0,a8m,hx,eA,eB,hw2,bne_self_eq_false,beq_self_eq_true]
   refine hK _ _ ⟨?_,?_,?_,?_,?_,?_⟩
   · repeat' (first|exact lo|refine HLow.push ?_|refine HLow.put ?_ (by simp only[xJ,h_n];omega))
   · simp only[xJ,h_n];omega
   · simp only[qD,qF,xJ,h_n]
     repeat rw[if_neg (by omega)]
     exact g0
   all_goals simp -implicitDefEqProofs only[↓qA,ZZ,Nat.reduceBEq,reduceIte,Nat.reduceAdd,Nat.reduceLeDiff,Nat.reduceEqDiff,Nat.reduceBneDiff,r7,r8]
 · rintro fr H K' ⟨lo,h1,g0,r7,r8,r9⟩ hKe hKr
   have hlt:¬((3:Nat):Int)<3:=by omega
   simp -implicitDefEqProofs only[a8c,↓qA,ZZ,seval,CM,XS,r8,r9,hlt,hKe]
   exact hend _ _
set_option maxHeartbeats 16000000 in
theorem law3 (l:List Raw) (z:Int) (nb:Bool) (hl:l.length≤9223372036854775807) (hf:Raw.fits l):Ret P6 3 [kE l,.int .i64 z,.bool nb] (.bool true):=by
 have hargs:∀ H,qI shutV [kE l,.int .i64 z,.bool nb] H=some ([kE l,.int .i64 z,.bool nb],H):=fun H=>by simp -implicitDefEqProofs only[↓qA,ZZ,seval,XS,zP]
 by_cases hfew:vE 13 l≤40
 case neg=>
  refine Ret.of rfl (aDK _ _) rfl rfl hargs (known11.and ((aDJ l hl hf).up.and (Ev.ge 1)) |>.mono fun n hn H=> ?_)
  obtain⟨e11,e12,hn⟩:=hn
  rw[decide_eq_false hfew]at e12
  simp -implicitDefEqProofs only[c3,↓qA,ZZ,seval,CM,zP,e11,e12,Ends,qC]
  exact⟨_,rfl⟩
 obtain⟨e,me,ne,re,rn,e13⟩:=a9N l hl hf hfew
 obtain⟨w0,w1⟩:=a3Q z (b:=60) (by decide) (by decide)
 obtain⟨w,hw⟩:∃ w:Nat,within z 60=(w:Int):=⟨(within z 60).toNat,by omega⟩
 have e15:=aF7 z 60 (by decide)
 rw[hw]at e15
 have v18:=(aEN e ne.fit ne.cnt).up
 have tA:=a1o re w (by omega)
 have tB:=a1o rn w (by omega)
 generalize (e.nrm 0).1=e' at rn v18 tB
 obtain⟨ek,et,en,ea⟩:=e
 obtain⟨fk,ft,fn,fa⟩:=e'
 rw[X.v_mk]at e13
 rw[X.v_mk,X.v_mk]at v18
 rw[X.cells_mk]at tA tB
 have hx:∀ H,shutV (.agg [.int .i64 ek,.str et,qE en,vXs ea]) H=some (.agg [.int .i64 ek,.str et,qE en,vXs ea],H):=fun H=>by simp -implicitDefEqProofs only[↓qA,ZZ,seval,XS]
 refine Ret.of rfl (aDK _ _) rfl rfl hargs (known11.and ((aDJ l hl hf).up.and (e13.and (v18.and (e15.and (tA.and (tB.and (Ev.ge 10))))))) |>.mono fun n hn H=> ?_)
 obtain⟨e11,e12,e13,v18,e15,tA,tB,hn⟩:=hn
 rw[decide_eq_true hfew]at e12
 cases nb with
 | false=>
   simp -implicitDefEqProofs only[c3,↓qA,ZZ,seval,CM,XS,zP,e11,e12,e13,e15,hx]
   refine tA _ _ _ _ ?_ ?_ ?_ ?_ ?_ ?_ ?_
   · repeat' (first|exact HLow.bare|refine HLow.push ?_|refine HLow.put ?_ (by simp only[xJ,h_n,zQ];omega))
   · simp only[xJ,h_n,zQ];omega
   · simp -implicitDefEqProofs only[↓qA,ZZ,seval,X.cells_mk]
   · simp -implicitDefEqProofs only[↓qA,ZZ,seval]
   · simp -implicitDefEqProofs only[↓qA,ZZ,seval]
   · simp -implicitDefEqProofs only[↓qA,ZZ,Nat.reduceBEq,reduceIte,Nat.reduceAdd,Nat.reduceLeDiff,Nat.reduceEqDiff,Nat.reduceBneDiff];rfl
   · intro fr' H'
     simp -implicitDefEqProofs only[↓qA,ZZ,seval,qC]
     exact⟨_,rfl⟩
 | true=>
   simp -implicitDefEqProofs only[c3,↓qA,ZZ,seval,CM,XS,zP,e11,e12,e13,e15,v18,hx]
   refine tB _ _ _ _ ?_ ?_ ?_ ?_ ?_ ?_ ?_
   · repeat' (first|exact HLow.bare|refine HLow.push ?_|refine HLow.put ?_ (by simp only[xJ,h_n,zQ];omega))
   · simp only[xJ,h_n,zQ];omega
   · simp -implicitDefEqProofs only[↓qA,ZZ,seval,X.cells_mk]
   · simp -implicitDefEqProofs only[↓qA,ZZ,seval]
   · simp -implicitDefEqProofs only[↓qA,ZZ,seval]
   · simp -implicitDefEqProofs only[↓qA,ZZ,Nat.reduceBEq,reduceIte,Nat.reduceAdd,Nat.reduceLeDiff,Nat.reduceEqDiff,Nat.reduceBneDiff];rfl
   · intro fr' H'
     simp -implicitDefEqProofs only[↓qA,ZZ,seval,qC]
     exact⟨_,rfl⟩
end Go.Lite
/- The row of the law NaturalTerms, and its card: what its call does, from the interpreter's run; what it lists, tied to the program's text. -/
namespace Go.Proofs.YtmfdlglhngmacaaGreatDoor.naturalTerms
open Go.ChangeShapes Go.WideShapes Go.ChangeAt Go.RowKit Go.Lite
open Go.ChangeMaps (open_string shut_string)
set_option linter.unusedVariables false
set_option maxRecDepth 100000
theorem own:ownKnob Tryz.prog.godebug=none:=by kernel_rfl
theorem laidOut:laidOutB Tryz.prog=true:=by kernel_rfl
theorem aAk (os:Os):laidMet Tryz.prog Rows.naturalTermsRow.laid ((a2T Tryz.prog os [(2,Rows.laid_math_bits_deBruijn32tab),(3,Rows.laid_math_bits_deBruijn64tab),(0,Rows.laid_internal_strconv_uint64pow10)]).forCall (fun _ _=>0) ⟨#[],#[.slice none 0 0,.int .i64 0,.bool false],[]⟩).memory:=
 laidMet_of_run' 8 (by kernel_rfl) (by kernel_rfl)
theorem lifted (os:Os) (started:os.Started) (H:Type) (enc:TypeId×Value→H):
 ReturnsInHanded {} Tryz.checked os 3 .any (fun w args=>(Rows.naturalTermsSpec.pre enc Tryz.prog Tryz.f3 Rows.naturalTermsRow.domain false w args∧laidMet Tryz.prog Rows.naturalTermsRow.laid w)∧sizedMet enc Tryz.prog Tryz.f3 (OpenSpec.ofChange Rows.naturalTermsSpec) false w args) (Rows.naturalTermsSpec.post enc Tryz.prog Tryz.f3 false true false false):=by
 refine a3D (C:=Tryz.checked) (X:=fun w _=>laidMet Tryz.prog Rows.naturalTermsRow.laid w) own started (by kernel_rfl) Tryz.func3
  (ChangeSpec.witness_at (enc:=enc) (C:=Tryz.checked) (os:=os) (X:=fun w _=>laidMet Tryz.prog Rows.naturalTermsRow.laid w) false (a2T Tryz.prog os [(2,Rows.laid_math_bits_deBruijn32tab),(3,Rows.laid_math_bits_deBruijn64tab),(0,Rows.laid_internal_strconv_uint64pow10)]) #[.slice none 0 0,.int .i64 0,.bool false] 8 rfl (by kernel_rfl) (by kernel_rfl) (by kernel_rfl) (by kernel_rfl) (by kernel_rfl) (aAk os)) ?_
 intro W base args ds gs before hval0 hW hcnd hsz0 hsh hlx _
 have hsz:(DataW.weightsEach Tryz.prog (Tryz.f3.params.toList++Rows.naturalTermsSpec.plain.varTypes Tryz.prog) (ds++gs)).all (· ≤ reachBytes)=true:=hsz0
 have hval:∀ (j:Nat) t v,Tryz.f3.params[j]? = some t→args[j]? = some v→Value.okWide Tryz.prog W .any base t v:=hval0
 have hW':=hW
 obtain⟨p,q,hA0,hV,rfl,hfz,hnd⟩:=hW
 have hA:DataW.TrodAll enc Tryz.prog W 0 (fun _=>true) true Tryz.f3.params.toList args.toList ds p:=hA0
 rw[Tryz.params3]at hA hval hsz
 obtain⟨v0,vs0,d0,ds0,p0,q0,hargs,rfl,rfl,h0,r0⟩:=trodAll_cons hA
 obtain⟨v1,vs1,d1,ds1,p1,q1,rfl,rfl,rfl,h1,r1⟩:=trodAll_cons r0
 obtain⟨v2,vs2,d2,ds2,p2,q2,rfl,rfl,rfl,h2,r2⟩:=trodAll_cons r1
 obtain⟨rfl,rfl,rfl⟩:=trodAll_nil r2
 obtain rfl:args= #[v0,v1,v2]:=by cases args;simp_all
 obtain⟨rfl,rfl⟩:=trodVars_none hV
 have k0:=h0
 have lt0:∀ x∈p0,x.block<W.heap.size:=by obtain⟨m,hm⟩:=k0;exact DataW.trod_lt m _ _ _ hm
 have o0:=(hval 0 22 v0 rfl rfl)
 obtain⟨z0,n0,c0,rfl⟩:=okWide_slice Tryz.underlying22 o0
 obtain⟨g0,y0⟩:=h0
 obtain⟨a0,⟨w0,x0⟩,e0⟩:=a9p Tryz.underlying22 Tryz.underlying56 (by kernel_rfl) ⟨_,rfl,rfl,Tryz.underlying3,by kernel_rfl⟩ ⟨_,rfl,rfl,Tryz.underlying3,by kernel_rfl⟩ ⟨_,rfl,rfl,rfl,by kernel_rfl⟩ g0 (.slice z0 n0 c0) _ (by simpa[Value.cells]using y0)
 obtain⟨a1,rfl,rfl,rfl,w1⟩:=open_int Tryz.underlying3 (hval 1 3 v1 rfl rfl) h1
 obtain⟨a2,rfl,rfl,rfl⟩:=open_bool Tryz.underlying4 (hval 2 4 v2 rfl rfl) h2
 refine(a4z hsh (a4U hlx) (law3 _ a1 a2 w0 x0) (by simp only[VRels];exact⟨_,_,rfl,e0,_,_,rfl,rfl,_,_,rfl,rfl,rfl⟩)).mono fun e W' ⟨he,bel⟩=> ?_
 subst he
 exact⟨_,rfl,_,_,_,[],_,[],hW',trodAll_mk1 (shut_bool Tryz.underlying4 _),(trodAll_cons_mk (Below.trod laidOut (by kernel_rfl) (of_decide_eq_true (by kernel_rfl)) k0 bel lt0) (trodAll_cons_mk (shut_int Tryz.underlying3 w1) (trodAll_cons_mk (shut_bool Tryz.underlying4 _) trodAll_mk0))),rfl,bel.frame _,fun h=>by cases h⟩
theorem over:Rows.naturalTermsRow.holds Tryz.pinned (OpenSpec.ofChange Rows.naturalTermsSpec):=
 OpenClaim.holds_of_wide 3 Tryz.f3 rfl rfl rfl rfl rfl rfl rfl ⟨rfl,rfl,rfl,rfl,rfl⟩ rfl rfl rfl rfl rfl (by kernel_rfl) Tryz.func3 (by kernel_rfl)
  (of_decide_eq_true (by kernel_rfl)) (by unfold Func.isWrapper;first|(rw[if_pos (by decide +kernel)];kernel_rfl)|(rw[if_neg (by decide +kernel)];exact⟨rfl,rfl⟩))
  (fun os started H enc _=>lifted os started H enc)
theorem card:Rows.NaturalTermsCardSaid:=
 Claim7.holds_tied_plain_at .later [] [.data, .data, .data] true (true, "3da4c160d97a7c4ab2323d69753ed077bd726e9de55bac15ab9e51916df506f2") true over (fun _ h => by cases h) (by kernel_rfl) (fun _ h => by cases h) naturalTerms_row_tie rfl ⟨rfl, rfl⟩ (by kernel_rfl) (by first | rfl | decide)
  (fun f fn h1 h2=>by
    obtain rfl:f=3:=Option.some.inj (h1.symm.trans (by kernel_rfl))
    obtain rfl:fn=Tryz.f3:=Option.some.inj (h2.symm.trans Tryz.func3)
    refine⟨by kernel_rfl,fun j t hj=> ?_⟩
    rw[Tryz.params3]at hj
    match j,hj with
    | 0,hj=>
      obtain rfl:t=22:=by simpa using hj.symm
      exact(by kernel_rfl:Tryz.pinned.checked.prog.wantsStandIn 22=false)
    | 1,hj=>
      obtain rfl:t=3:=by simpa using hj.symm
      exact(by kernel_rfl:Tryz.pinned.checked.prog.wantsStandIn 3=false)
    | 2,hj=>
      obtain rfl:t=4:=by simpa using hj.symm
      exact(by kernel_rfl:Tryz.pinned.checked.prog.wantsStandIn 4=false)
    | j+3,hj=>simp at hj)
  (by kernel_rfl)
#print axioms card
end Go.Proofs.YtmfdlglhngmacaaGreatDoor.naturalTerms
namespace Go.Proofs.YtmfdlglhngmacaaGreatDoor
/-- The card, under a short name, for the claim. -/
theorem naturalTerms_holds:Rows.NaturalTermsCardSaid:=naturalTerms.card
end Go.Proofs.YtmfdlglhngmacaaGreatDoor
