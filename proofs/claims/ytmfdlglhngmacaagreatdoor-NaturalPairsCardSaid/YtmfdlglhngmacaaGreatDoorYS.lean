/-
  Several texts in one: QEvalC, QEvalD, QPrint, QPrintB, QRun.
-/
import Derived.Test.YtmfdlglhngmacaaGreatDoorYR
import Derived.Test.YtmfdlglhngmacaaGreatDoorYN
set_option linter.unusedSimpArgs false
set_option linter.unusedVariables false
set_option linter.defProp false
set_option maxRecDepth 100000
/-
  The reference's eval: choices, applications; the machine as a whole.
-/
namespace Go.Lite
open Go Go.Proofs
theorem EndQ.keep {F km:Nat}{H H':Heap}{k:Int}{t:Str}{s:S}(h:EndQ F km H k t s) (low:HLow H') (g:H'.t.get km=H.t.get km):EndQ F km H' k t s:=⟨low,by rw[g];exact h.m,h.ne⟩
set_option maxHeartbeats 4000000 in
theorem evQ8 {F m:Nat}(ih:EvalQ F m) (t:Str) (ns:List Str) (c a b:X) (env:Env) (s:S) (o:O V) (hr:Room (.mk 8 t ns [c,a,b]) env) (h:((evalA F m c env s.tick).bind fun r=>r.bind fun v s=>evalA F m (if v.isFalse then b else a) env s)=some o):Ev (a0N F 8 t ns [c,a,b] env s o):=by
 have rc:Room c env:=hr.sub (by omega) (by simp)
 have ra:Room a env:=hr.sub (by omega) (by simp)
 have rb:Room b env:=hr.sub (by omega) (by simp)
 have hB:Ev fun n=>∀ p,evalA F m c env s.tick=some p→∀ v s1,p= .val v s1→∀ q,evalA F m (if v.isFalse then b else a) env s1=some q→∀ km H bs ev,StZ F km H bs s1 1→EnvZ H bs env ev→GiveQ F km H bs (qB P5 n 29 [.ptr (.new km) 0,(if v.isFalse then b else a).v,ev] H) q:=
  Ev.opt fun p hp=>Ev.val fun v s1 _=>ih.get _ env s1 (by split<;>assumption)
 refine Ev.succ (((ih.get c env s.tick rc).and (hB.and ((a3E a).and ((a3E b).and (Ev.ge 3))))).mono fun n hn km H bs ev st he hF=> ?_)
 obtain⟨eC,eB,eOa,eOb,hn⟩:=hn
 rw[qG (P:=P5) (sf:=c29) rfl (bR _ _) rfl rfl]
 have p:=a1y [.int .i64 8,.str t,qE ns,vXs [c,a,b]] st he hF
 have hz:((0:Int) != 0)=false:=rfl
 obtain⟨q,hq,h⟩:=Option.bind_eq_some_iff.1 h
 have hC:=eC q hq km _ bs ev (p.st.weak (by omega)) p.env
 obtain⟨kx,tx,nx,lx⟩:=c
 obtain⟨ka,ta,na,la⟩:=a
 obtain⟨kb,tb,nb,lb⟩:=b
 have i0:xV 4 (vXs [.mk kx tx nx lx,.mk ka ta na la,.mk kb tb nb lb]) 0=some (.ptr (.val (X.mk kx tx nx lx).cells) 0):=xR rfl
 have i1:xV 4 (vXs [.mk kx tx nx lx,.mk ka ta na la,.mk kb tb nb lb]) 1=some (.ptr (.val (X.mk ka ta na la).cells) 0):=xR rfl
 have i2:xV 4 (vXs [.mk kx tx nx lx,.mk ka ta na la,.mk kb tb nb lb]) 2=some (.ptr (.val (X.mk kb tb nb lb).cells) 0):=xR rfl
 rw[X.v_mk]at hC
 cases q with
 | stop kk tt s'=>
   obtain rfl:=(Option.some.inj h).symm
   obtain⟨c0,c1,c2,c3,c4,c5,c6,c7,c8,c9,H',z1,⟨⟨f0,f1,f2,f3,f4⟩,f5,f6,f7,f8,f9⟩,z3,z4⟩:=hC
   obtain⟨f0,z,rfl⟩:=f0
   obtain⟨f1,t',rfl⟩:=f1
   have g0':=z4.get _ _ p.g0 (qR (by decide) (by decide))
   have g1':=z4.get _ _ p.g1 (qR (by decide) (by decide))
   have l0:=z3.low.lt g0'
   have l1:=z3.low.lt g1'
   have lm:=z3.low.lt z3.m
   have n0:¬H.n=H'.n:=by omega
   have n0':¬H'.n=H.n:=by omega
   have n1:¬H.n+1=H'.n:=by omega
   have n1':¬H'.n=H.n+1:=by omega
   have k1:KeepQ H' ((H'.push (.row [AV.int .i64 0,.str [],.nilp,.nilp,.int .i64 0,.str [],.nils,.nils,.nils,.nils] 0 false (some 88))).put H'.n (.row [.int .i64 z,.str t',c2,c3,c4,c5,c6,c7,c8,c9] 0 false (some 88))):=(HKeep.push z3.low).own z3.low (Nat.le_refl _) (by rw[h_n];omega)
   have hov:Over F km s'.steps s'.uses kk tt ((H'.push (.row [AV.int .i64 0,.str [],.nilp,.nilp,.int .i64 0,.str [],.nils,.nils,.nils,.nils] 0 false (some 88))).put H'.n (.row [.int .i64 z,.str t',c2,c3,c4,c5,c6,c7,c8,c9] 0 false (some 88))):=
    ⟨z3.low.push.put (by rw[h_n];omega),by rw[qD,if_neg (by omega),qF,if_neg (by omega)];exact z3.m,z3.ne⟩
   have eOa:=eOa F km _ _ _ _ _ ev hov
   have eOb:=eOb F km _ _ _ _ _ ev hov
   rw[X.v_mk,X.cells_mk]at eOa eOb
   simp only[zO,h_n]at eOa eOb
   -- what is returned then
   have hfin:∀ (row:List AV),GiveQ F km H bs (some (.ret (.agg [AV.int .i64 0,.str [],.nilp,.nilp,.int .i64 0,.str [],.nils,.nils,.nils,.nils]),(((((H'.push (.row [AV.int .i64 0,.str [],.nilp,.nilp,.int .i64 0,.str [],.nils,.nils,.nils,.nils] 0 false (some 88))).put H'.n (.row [.int .i64 z,.str t',c2,c3,c4,c5,c6,c7,c8,c9] 0 false (some 88))).push (.row row 0 false (some 28))).push (.row [AV.int .i64 0,.str [],.nilp,.nilp,.int .i64 0,.str [],.nils,.nils,.nils,.nils] 0 false (some 88))).put (H'.n+1+1) (.row [AV.int .i64 0,.str [],.nilp,.nilp,.int .i64 0,.str [],.nils,.nils,.nils,.nils] 0 false (some 88))).put (H.n+1) (.row [AV.int .i64 0,.str [],.nilp,.nilp,.int .i64 0,.str [],.nils,.nils,.nils,.nils] 0 false (some 88)))) (.stop kk tt s'):=fun row=>by
    have k5:=((((p.kp.trans z4).trans k1).trans (HKeep.push hov.1 (ob:= .row row 0 false (some 28)))).pushed p.low (ob:= .row [AV.int .i64 0,.str [],.nilp,.nilp,.int .i64 0,.str [],.nils,.nils,.nils,.nils] 0 false (some 88)))
    have k6:=(k5.own p.low (j:=H'.n+1+1) (by have:=(p.kp.trans z4).n;omega) (by simp only[zO,h_n];omega) (ob:= .row [AV.int .i64 0,.str [],.nilp,.nilp,.int .i64 0,.str [],.nils,.nils,.nils,.nils] 0 false (some 88))).own p.low (j:=H.n+1) (by omega) (by simp only[zO,h_n];omega) (ob:= .row [AV.int .i64 0,.str [],.nilp,.nilp,.int .i64 0,.str [],.nils,.nils,.nils,.nils] 0 false (some 88))
    have nkm:¬km=H.n+1:=p.n1
    refine⟨_,_,_,_,_,_,_,_,_,_,_,rfl,⟨⟨⟨rfl,_,rfl⟩,⟨rfl,_,rfl⟩,rfl,rfl,rfl⟩,rfl,rfl,rfl,rfl,rfl⟩,⟨?_,?_,z3.ne⟩,k6⟩
    · exact((hov.1.push.push).put (by simp only[zO,h_n];omega)).put (by simp only[zO,h_n];omega)
    · rw[qD,if_neg nkm,qD,if_neg (by omega),qF,if_neg (by simp only[zO,h_n];omega),qF,if_neg (by simp only[zO,h_n];omega)];exact hov.2.1
   have n2:¬H.n+1=H'.n+1:=by omega
   have n2':¬H'.n+1=H.n+1:=by omega
   have n3:¬H.n+1=H'.n+1+1:=by omega
   have n3':¬H'.n+1+1=H.n+1:=by omega
   cases hk:(z==2)with
   | false=>
     simp -implicitDefEqProofs only[c29,↓qA,ZZ,seval,CL,XS,p.gm,p.n0,p.n1,p.m0,p.m1,hz,p.w,p.lt,Int.reduceBEq,Int.reduceLE,Int.reduceToNat,i0,i1,i2,X.cells_mk,z1,f2,f3,f4,f5,f6,f7,f8,f9,g0',g1',n0,n0',n1,n1',n2,n2',n3,n3',hk,eOa]
     exact hfin _
   | true=>
     cases ht:(t'==[35,102])with
     | true=>
       simp -implicitDefEqProofs only[c29,↓qA,ZZ,seval,CL,XS,p.gm,p.n0,p.n1,p.m0,p.m1,hz,p.w,p.lt,Int.reduceBEq,Int.reduceLE,Int.reduceToNat,i0,i1,i2,X.cells_mk,z1,f2,f3,f4,f5,f6,f7,f8,f9,g0',g1',n0,n0',n1,n1',n2,n2',n3,n3',hk,ht,eOb]
       exact hfin _
     | false=>
       simp -implicitDefEqProofs only[c29,↓qA,ZZ,seval,CL,XS,p.gm,p.n0,p.n1,p.m0,p.m1,hz,p.w,p.lt,Int.reduceBEq,Int.reduceLE,Int.reduceToNat,i0,i1,i2,X.cells_mk,z1,f2,f3,f4,f5,f6,f7,f8,f9,g0',g1',n0,n0',n1,n1',n2,n2',n3,n3',hk,ht,eOa]
       exact hfin _
 | val v s1 =>
   have h:evalA F m (if v.isFalse then .mk kb tb nb lb else .mk ka ta na la) env s1=some o:=h
   obtain⟨cs,H',x,q1,q2,q3,q4⟩:=hC
   obtain⟨ty,c2,c3,c4,c5,c6,c7,c8,c9,rfl,hty,_,_,⟨f2,f3,f4,f5⟩,⟨f6,f7,f8,f9⟩⟩:=q2.ten
   have k4:=p.kp.trans q4
   have st5:=(q3.push (ob:= .row [AV.int .i64 0,.str [],.nilp,.nilp,.int .i64 0,.str [],.nils,.nils,.nils,.nils] 0 false (some 88))).box (k:=H'.n) (t:=88) (by rw[qF,if_pos rfl]) (by decide) (ob:= .row [.int .i64 v.kind,.str ty,c2,c3,c4,c5,c6,c7,c8,c9] 0 false (some 88))
   have k5:KeepQ H' ((H'.push (.row [AV.int .i64 0,.str [],.nilp,.nilp,.int .i64 0,.str [],.nils,.nils,.nils,.nils] 0 false (some 88))).put H'.n (.row [.int .i64 v.kind,.str ty,c2,c3,c4,c5,c6,c7,c8,c9] 0 false (some 88))):=(HKeep.push q3.low).own q3.low (Nat.le_refl _) (by rw[h_n];omega)
   have he5:=(he.keep (x:=x) k4.stayQ).stay k5.stayQ
   have hg:=(eB _ hq v s1 rfl o h km _ (bs++x) ev (st5.weak (by omega)) he5).more
   have g0':=q4.get _ _ p.g0 (qR (by decide) (by decide))
   have l0:=q3.low.lt g0'
   have n0:¬H.n=H'.n:=by omega
   have n1:¬H'.n=H.n:=by omega
   have g1:=k5.get _ _ (q4.get _ _ p.g1 (qR (by decide) (by decide))) (qR (by decide) (by decide))
   cases hk:(v.kind==2)with
   | false=>
     have hf:v.isFalse=false:=by simp[V.isFalse,hk]
     rw[hf]at hg
     simp only[Bool.false_eq_true,if_false,X.v_mk]at hg
     simp -implicitDefEqProofs only[c29,↓qA,ZZ,seval,CL,XS,p.gm,p.n0,p.n1,p.m0,p.m1,hz,p.w,p.lt,Int.reduceBEq,Int.reduceLE,Int.reduceToNat,i0,i1,i2,X.cells_mk,q1,hk,f2,f3,f4,f5,f6,f7,f8,f9,g0',n0,n1]
     refine xH (k:=H.n+1) hg (k4.trans k5) st.low (by omega) g1 rfl rfl (by decide) ?_
     intro fr' H' cs hb hk hl
     simp -implicitDefEqProofs only[↓qA,ZZ,seval,hb,hk,hl,List.take_of_length_le (Nat.le_of_eq hl)]
   | true=>
     have hk2:v.kind=2:=by simpa using hk
     have hf:v.isFalse=(ty==[35,102]):=by rw[V.isFalse,hk,hty];rfl
     rw[hf]at hg
     cases ht:(ty==[35,102])with
     | true=>
       rw[ht]at hg
       simp only[if_true,X.v_mk]at hg
       simp -implicitDefEqProofs only[c29,↓qA,ZZ,seval,CL,XS,p.gm,p.n0,p.n1,p.m0,p.m1,hz,p.w,p.lt,Int.reduceBEq,Int.reduceLE,Int.reduceToNat,i0,i1,i2,X.cells_mk,q1,hk,ht,f2,f3,f4,f5,f6,f7,f8,f9,g0',n0,n1]
       refine xH (k:=H.n+1) hg (k4.trans k5) st.low (by omega) g1 rfl rfl (by decide) ?_
       intro fr' H' cs hb hk hl
       simp -implicitDefEqProofs only[↓qA,ZZ,seval,hb,hk,hl,List.take_of_length_le (Nat.le_of_eq hl)]
     | false=>
       rw[ht]at hg
       simp only[Bool.false_eq_true,if_false,X.v_mk]at hg
       simp -implicitDefEqProofs only[c29,↓qA,ZZ,seval,CL,XS,p.gm,p.n0,p.n1,p.m0,p.m1,hz,p.w,p.lt,Int.reduceBEq,Int.reduceLE,Int.reduceToNat,i0,i1,i2,X.cells_mk,q1,hk,ht,f2,f3,f4,f5,f6,f7,f8,f9,g0',n0,n1]
       refine xH (k:=H.n+1) hg (k4.trans k5) st.low (by omega) g1 rfl rfl (by decide) ?_
       intro fr' H' cs hb hk hl
       simp -implicitDefEqProofs only[↓qA,ZZ,seval,hb,hk,hl,List.take_of_length_le (Nat.le_of_eq hl)]
end Go.Lite
/-
  The reference's machine as a whole.
-/
namespace Go.Lite
open Go Go.Proofs
set_option maxHeartbeats 4000000 in
theorem evQ7 {F m:Nat}(ih:EvalQ F m) (ihA:a2r F m) (t:Str) (ns:List Str) (f:X) (la:List X) (env:Env) (s:S) (o:O V) (hr:Room (.mk 7 t ns (f::la)) env) (h:((evalA F m f env s.tick).bind fun r=>r.bind fun v s=>applyA F m v (xN env la s).1 (xN env la s).2)=some o):Ev (a0N F 7 t ns (f::la) env s o):=by
 have hll:la.length≤1000:=by have:=hr.1;rw[X.tame]at this;have:=this.2.2.1;simp at this;omega
 have rf:Room f env:=hr.sub (by omega) (by simp)
 have hB:Ev fun n=>∀ p,evalA F m f env s.tick=some p→∀ v s1,p= .val v s1→∀ q,applyA F m v (xN env la s1).1 (xN env la s1).2=some q→∀ km H bs cs lv,StZ F km H bs (xN env la s1).2 0→ValZ H bs v cs→LisZ H bs (xN env la s1).1 lv→GiveQ F km H bs (qB P5 n 58 [.ptr (.new km) 0,.agg cs,lv] H) q:=
  Ev.opt fun p hp=>Ev.val fun v s1 _=>Ev.opt fun q hq=>ihA _ _ _ _ hq
 refine Ev.succ (((ih.get f env s.tick rf).and (hB.and ((Ev.list la fun x hx=>a6E x env (hr.sub (by omega) (by simp[hx]))).and (apply_over.and (Ev.ge 1002))))).mono fun n hn km H bs ev st he hF=> ?_)
 obtain⟨eF,eB,e53,eO,hn⟩:=hn
 rw[qG (P:=P5) (sf:=c29) rfl (bR _ _) rfl rfl]
 have p:=a1y [.int .i64 7,.str t,qE ns,vXs (f::la)] st he hF
 have hz:((0:Int) != 0)=false:=rfl
 obtain⟨q,hq,h⟩:=Option.bind_eq_some_iff.1 h
 have hC:=eF q hq km _ bs ev (p.st.weak (by omega)) p.env
 obtain⟨kx,tx,nx,lx⟩:=f
 have i0:xV 4 (vXs (.mk kx tx nx lx::la)) 0=some (.ptr (.val (X.mk kx tx nx lx).cells) 0):=xR rfl
 rw[X.v_mk]at hC
 cases q with
 | stop kk tt s'=>
   obtain rfl:=(Option.some.inj h).symm
   obtain⟨c0,c1,c2,c3,c4,c5,c6,c7,c8,c9,H',z1,⟨⟨f0,f1,f2,f3,f4⟩,f5,f6,f7,f8,f9⟩,z3,z4⟩:=hC
   have g0':=z4.get _ _ p.g0 (qR (by decide) (by decide))
   have g1':=z4.get _ _ p.g1 (qR (by decide) (by decide))
   have l0:=z3.low.lt g0'
   have l1:=z3.low.lt g1'
   have lm:=z3.low.lt z3.m
   have n0:¬H.n=H'.n:=by omega
   have n0':¬H'.n=H.n:=by omega
   have n1:¬H.n+1=H'.n:=by omega
   have n1':¬H'.n=H.n+1:=by omega
   have k1:KeepQ H' ((H'.push (.row [AV.int .i64 0,.str [],.nilp,.nilp,.int .i64 0,.str [],.nils,.nils,.nils,.nils] 0 false (some 88))).put H'.n (.row [c0,c1,c2,c3,c4,c5,c6,c7,c8,c9] 0 false (some 88))):=(HKeep.push z3.low).own z3.low (Nat.le_refl _) (by rw[h_n];omega)
   have lowG:HLow ((H'.push (.row [AV.int .i64 0,.str [],.nilp,.nilp,.int .i64 0,.str [],.nils,.nils,.nils,.nils] 0 false (some 88))).put H'.n (.row [c0,c1,c2,c3,c4,c5,c6,c7,c8,c9] 0 false (some 88))):=k1.low z3.low
   have g0G:=k1.get _ _ g0' (qR (by decide) (by decide))
   have g1G:=k1.get _ _ g1' (qR (by decide) (by decide))
   have g7G:((H'.push (.row [AV.int .i64 0,.str [],.nilp,.nilp,.int .i64 0,.str [],.nils,.nils,.nils,.nils] 0 false (some 88))).put H'.n (.row [c0,c1,c2,c3,c4,c5,c6,c7,c8,c9] 0 false (some 88))).t.get H'.n=some (.row [c0,c1,c2,c3,c4,c5,c6,c7,c8,c9] 0 false (some 88)):=by rw[qD,if_pos rfl]
   have gmG:((H'.push (.row [AV.int .i64 0,.str [],.nilp,.nilp,.int .i64 0,.str [],.nils,.nils,.nils,.nils] 0 false (some 88))).put H'.n (.row [c0,c1,c2,c3,c4,c5,c6,c7,c8,c9] 0 false (some 88))).t.get km=some (mRow F s'.steps s'.uses kk tt):=by rw[qD,if_neg (by omega),qF,if_neg (by omega)];exact z3.m
   simp -implicitDefEqProofs only[c29,↓qA,ZZ,seval,CL,XS,p.gm,p.n0,p.n1,p.m0,p.m1,hz,p.w,p.lt,Int.reduceBEq,Int.reduceLE,Int.reduceToNat,i0,X.cells_mk,z1,f0,f1,f2,f3,f4,f5,f6,f7,f8,f9,g0',g1',n0,n0',n1,n1']
   refine a6h (P:=fun r=>GiveQ F km H bs r (.stop kk tt s')) (bs:=bs) (f:= .mk kx tx nx lx) (k4:=H.n) hll (by omega) e53 lowG (he.stay ((p.kp.trans z4).trans k1).stayQ) g0G rfl rfl rfl (by simp -implicitDefEqProofs only[↓qA,ZZ,Nat.reduceBEq,reduceIte,Nat.reduceAdd,Nat.reduceLeDiff,Nat.reduceEqDiff,Nat.reduceBneDiff];rfl) ?_
   intro fr' H6 lv low6 same6 hlv flv q8 q0 q2 q4 q6 q7
   simp -implicitDefEqProofs only[↓qA,ZZ,seval]at q0 q2 q4 q6 q7
   have g76:=same6.get _ _ g7G fun h=>h
   have g16:=same6.get _ _ g1G fun h=>h
   have gm6:=same6.get _ _ gmG fun h=>h
   have l16:=low6.lt g16
   have n61:¬H.n+1=H6.n:=by omega
   have n62:¬H.n+1=H6.n+1:=by omega
   have eO':=eO F km _ _ _ _ H6 c0 c1 c2 c3 c4 c5 c6 c7 c8 c9 lv la.length ⟨low6,gm6,z3.ne⟩ hlv ⟨⟨f0.1,f1.1,f2,f3,f4⟩,f5,f6,f7,f8,f9⟩
   simp -implicitDefEqProofs only[↓qA,ZZ,seval,CL,q8,q0,q4,q6,q7,g76,f0,f1,f2,f3,f4,f5,f6,f7,f8,f9,flv,eO',n61,n62,g16]
   have kA:=((p.kp.trans z4).trans k1).trans same6.keepQ
   have k8:=(kA.trans (HKeep.push low6 (ob:= .row [c0,c1,c2,c3,c4,c5,c6,c7,c8,c9] 0 false (some 88)))).pushed p.low (ob:= .row [AV.int .i64 0,.str [],.nilp,.nilp,.int .i64 0,.str [],.nils,.nils,.nils,.nils] 0 false (some 88))
   have nA:=kA.n
   have k9:=(k8.own p.low (j:=H6.n+1) (by omega) (by simp only[h_n];omega) (ob:= .row [c0,c1,c2,c3,c4,c5,c6,c7,c8,c9] 0 false (some 88))).own p.low (j:=H.n+1) (by omega) (by simp only[zO,h_n];omega) (ob:= .row [c0,c1,c2,c3,c4,c5,c6,c7,c8,c9] 0 false (some 88))
   have lm6:=low6.lt gm6
   have nk:=p.n1
   refine⟨_,_,_,_,_,_,_,_,_,_,_,rfl,⟨⟨f0,f1,f2,f3,f4⟩,f5,f6,f7,f8,f9⟩,⟨?_,?_,z3.ne⟩,k9⟩
   · exact((low6.push.push).put (by simp only[h_n];omega)).put (by simp only[zO,h_n];omega)
   · rw[qD,if_neg nk,qD,if_neg (by omega),qF,if_neg (by simp only[h_n];omega),qF,if_neg (by omega)];exact gm6
 | val v s1=>
   have h:applyA F m v (xN env la s1).1 (xN env la s1).2=some o:=h
   obtain⟨cs,H',x,q1,q2,q3,q4⟩:=hC
   obtain⟨ty,c2,c3,c4,c5,c6,c7,c8,c9,rfl,hty,_,_,⟨f2,f3,f4,f5⟩,⟨f6,f7,f8,f9⟩⟩:=q2.ten
   have k4:=p.kp.trans q4
   have st5:=(q3.push (ob:= .row [AV.int .i64 0,.str [],.nilp,.nilp,.int .i64 0,.str [],.nils,.nils,.nils,.nils] 0 false (some 88))).box (k:=H'.n) (t:=88) (by rw[qF,if_pos rfl]) (by decide) (ob:= .row [.int .i64 v.kind,.str ty,c2,c3,c4,c5,c6,c7,c8,c9] 0 false (some 88))
   have k5:KeepQ H' ((H'.push (.row [AV.int .i64 0,.str [],.nilp,.nilp,.int .i64 0,.str [],.nils,.nils,.nils,.nils] 0 false (some 88))).put H'.n (.row [.int .i64 v.kind,.str ty,c2,c3,c4,c5,c6,c7,c8,c9] 0 false (some 88))):=(HKeep.push q3.low).own q3.low (Nat.le_refl _) (by rw[h_n];omega)
   have he5:=(he.keep (x:=x) k4.stayQ).stay k5.stayQ
   have g0':=q4.get _ _ p.g0 (qR (by decide) (by decide))
   have g1':=q4.get _ _ p.g1 (qR (by decide) (by decide))
   have l0:=q3.low.lt g0'
   have l1:=q3.low.lt g1'
   have n0:¬H.n=H'.n:=by omega
   have n0':¬H'.n=H.n:=by omega
   have g0G:=k5.get _ _ g0' (qR (by decide) (by decide))
   have g1G:=k5.get _ _ g1' (qR (by decide) (by decide))
   have g7G:((H'.push (.row [AV.int .i64 0,.str [],.nilp,.nilp,.int .i64 0,.str [],.nils,.nils,.nils,.nils] 0 false (some 88))).put H'.n (.row [.int .i64 v.kind,.str ty,c2,c3,c4,c5,c6,c7,c8,c9] 0 false (some 88))).t.get H'.n=some (.row [.int .i64 v.kind,.str ty,c2,c3,c4,c5,c6,c7,c8,c9] 0 false (some 88)):=by rw[qD,if_pos rfl]
   simp -implicitDefEqProofs only[c29,↓qA,ZZ,seval,CL,XS,p.gm,p.n0,p.n1,p.m0,p.m1,hz,p.w,p.lt,Int.reduceBEq,Int.reduceLE,Int.reduceToNat,i0,X.cells_mk,q1,f2,f3,f4,f5,f6,f7,f8,f9,g0',n0,n0']
   refine a6s (P:=fun r=>GiveQ F km H bs r o) (F:=F) (km:=km) (s:=s1) (bs:=bs++x) (f:= .mk kx tx nx lx) (k4:=H.n) hll (by omega) e53 st5 he5 g0G rfl rfl rfl (by simp -implicitDefEqProofs only[↓qA,ZZ,Nat.reduceBEq,reduceIte,Nat.reduceAdd,Nat.reduceLeDiff,Nat.reduceEqDiff,Nat.reduceBneDiff];rfl) ?_
   intro fr' H6 y lv st6 lis6 k6 r8 r0 r2 r4 r6 r7
   simp -implicitDefEqProofs only[↓qA,ZZ,seval]at r0 r2 r4 r6 r7
   have g76:=k6.get _ _ g7G (qR (by decide) (by decide))
   have g16:=k6.get _ _ g1G (qR (by decide) (by decide))
   have hg:=(eB _ hq v s1 rfl o h km H6 ((bs++x)++y) _ lv st6 ((q2.stay k5.stayQ).keep (x:=y) k6.stayQ) lis6).more.more
   have fl:=lis6.flat
   simp -implicitDefEqProofs only[↓qA,ZZ,seval,CL,r0,r6,r7,r8,g76,f2,f3,f4,f5,f6,f7,f8,f9,fl]
   refine xH (k:=H.n+1) hg ((k4.trans k5).trans k6) st.low (by omega) g16 rfl r6 (by decide) ?_
   intro fr' H' cs hb hk hl
   simp -implicitDefEqProofs only[↓qA,ZZ,seval,hb,hk,hl,List.take_of_length_le (Nat.le_of_eq hl)]
set_option maxHeartbeats 2000000 in
theorem aAb {F:Nat}(k:Int) (t:Str) (ns:List Str) (l:List X) (env:Env) (s:S):Ev fun n=>∀ km H bs ev,StZ F km H bs s 1→EnvZ H bs env ev→s.steps+1>F→
 GiveQ F km H bs (qB P5 n 29 [.ptr (.new km) 0,.agg [.int .i64 k,.str t,qE ns,vXs l],ev] H) (.stop 6 [] s.tick):=by
 refine Ev.succ ((stop50.and (Ev.ge 3)).mono fun n hn km H bs ev st he hF=> ?_)
 obtain⟨e50,hn⟩:=hn
 rw[qG (P:=P5) (sf:=c29) rfl (bR _ _) rfl rfl]
 have st2:StZ F km (boxH H [.int .i64 k,.str t,qE ns,vXs l]) bs s 1:=st.push.push
 have k2:KeepQ H (boxH H [.int .i64 k,.str t,qE ns,vXs l]):=(HKeep.push st.low).pushed st.low
 have g6:=pY (H:=H) (row:=[.int .i64 k,.str t,qE ns,vXs l])
 have k3:=k2.trans (KeepQ.cell st2.m (.inr rfl) st2.low (ob:=mRow F (s.steps+1) s.uses 0 []))
 have lm:=st.low.lt st.m
 have hs:=st.steps
 have hsm:=st.small
 have gm:=st.m
 simp only[mRow]at gm k3
 have n0:¬km=H.n:=by omega
 have n1:¬km=H.n+1:=by omega
 have m0:¬H.n=km:=by omega
 have m1:¬H.n+1=km:=by omega
 have hw:=gT (n:=s.steps) (by omega)
 have hgt:((s.steps+1:Nat):Int)>(F:Int):=by omega
 have hz:((0:Int) != 0)=false:=rfl
 have low3:HLow ((boxH H [.int .i64 k,.str t,qE ns,vXs l]).put km (.row [.int .i64 (s.steps+1:Nat),.int .i64 s.uses,.int .i64 F,.int .i64 0,.str [],.int .i64 0] 0 false (some 83))):=k3.low st.low
 have g63:((boxH H [.int .i64 k,.str t,qE ns,vXs l]).put km (.row [.int .i64 (s.steps+1:Nat),.int .i64 s.uses,.int .i64 F,.int .i64 0,.str [],.int .i64 0] 0 false (some 83))).t.get (H.n+1)=some (.row [AV.int .i64 0,.str [],.nilp,.nilp,.int .i64 0,.str [],.nils,.nils,.nils,.nils] 0 false (some 88)):=by rw[qD,if_neg (by omega)];exact g6
 have hg:=e50 F km ((boxH H [.int .i64 k,.str t,qE ns,vXs l]).put km (.row [.int .i64 (s.steps+1:Nat),.int .i64 s.uses,.int .i64 F,.int .i64 0,.str [],.int .i64 0] 0 false (some 83))) bs 6 [] s.tick low3 (by rw[qD,if_pos rfl];rfl) (by decide)
 simp -implicitDefEqProofs only[c29,↓qA,ZZ,seval,CL,XS,gm,n0,n1,m0,m1,hz,hw,hgt]
 refine xH (k:=H.n+1) hg k3 st.low (by omega) g63 rfl rfl (by decide) ?_
 intro fr' H' cs hb hk hl
 simp -implicitDefEqProofs only[↓qA,ZZ,seval,hb,hk,hl,List.take_of_length_le (Nat.le_of_eq hl)]
theorem aEY {F m:Nat}(ih:EvalQ F m) (ihF:bJ F m) (ihA:a2r F m):EvalQ F (m+1):=by
 rintro⟨k,t,ns,l⟩ env s o ht h
 rw[jR]at h
 by_cases hF:s.tick.steps>F
 · rw[if_pos hF]at h
   obtain rfl:=Option.some.inj h
   refine Ev.mono (aAb (F:=F) k t ns l env s) fun n hn=> ?_
   intro km H bs ev st he
   rw[X.v_mk]
   exact hn km H bs ev st he hF
 rw[if_neg hF]at h
 suffices Ev (a0N F k t ns l env s o)from this.mono fun n hn km H bs ev st he=>by
  rw[X.v_mk];exact hn km H bs ev st he hF
 unfold bT at h
 by_cases h5:k=5
 · subst h5
   rw[if_pos rfl]at h
   exact evQ5 ihF t ns l env s o ht h
 rw[if_neg h5]at h
 by_cases h6:k=6
 · subst h6
   rw[if_pos rfl]at h
   obtain rfl:=Option.some.inj h
   exact evQ6 t ns l env s ht
 rw[if_neg h6]at h
 by_cases h7:k=7
 · subst h7
   rw[if_pos rfl]at h
   cases l with
   | nil=>simp at h
   | cons f la=>exact evQ7 ih ihA t ns f la env s o ht h
 rw[if_neg h7]at h
 by_cases h8:k=8
 · subst h8
   rw[if_pos rfl]at h
   rcases l with _|⟨c,_|⟨a,_|⟨b,_|⟨d,l⟩⟩⟩⟩
   all_goals first
    | (simp at h;done)
    | exact evQ8 ih t ns c a b env s o ht h
 rw[if_neg h8]at h
 by_cases h9:k=9
 · subst h9
   rw[if_pos rfl]at h
   cases hb:l[ns.length]? with
   | none=>rw[hb]at h;simp at h
   | some b=>
     rw[hb]at h
     exact evQ9 ih t ns l b env s o ht hb h
 rw[if_neg h9]at h
 by_cases h10:k=10
 · subst h10
   rw[if_pos rfl]at h
   rcases l with _|⟨a,_|⟨b,_|⟨c,l⟩⟩⟩
   · simp at h
   · exact aD4 t ns [a] env s o (a90 ih ihF t ns a env s.tick o ht h)
   · refine aD4 t ns [a,b] env s o ?_
     by_cases hc:t=kY
     · subst hc
       simp only[sJ,if_true]at h
       obtain rfl:=Option.some.inj h
       exact a8n ns a b env s.tick ht
     · exact aBH ih t ns a b env s.tick o ht hc h
   · simp at h
 rw[if_neg h10]at h
 obtain rfl:=Option.some.inj h
 have htm:=ht.1
 rw[X.tame]at htm
 exact evQc k t ns l env s ⟨h5,h6,h7,h8,h9,h10⟩ htm.1
theorem a5S (F:Nat):∀ m,EvalQ F m∧bJ F m∧a2r F m:=by
 have key:∀ m,(∀ k,k<m+1→EvalQ F k)∧EvalQ F m∧bJ F m∧a2r F m:=by
  intro m
  induction m with
  | zero=>
    have e0:EvalQ F 0:=fun e env s o _ h=>by simp[evalA]at h
    have f0:bJ F 0:=fun c s o h=>by simp[qP]at h
    exact⟨(by
     intro k hk
     obtain rfl:k=0:=by omega
     exact e0),e0,f0,a7M fun k hk=>by omega⟩
  | succ m ih=>
    obtain⟨h1,h2,h3,h4⟩:=ih
    have e1:=aEY h2 h3 h4
    refine⟨fun k hk=> ?_,e1,aCh h2,a7M h1⟩
    by_cases hm:k=m+1
    · subst hm;exact e1
    · exact h1 k (by omega)
 exact fun m=>(key m).2
end Go.Lite
/-
  The reference prints a value.
-/
namespace Go.Lite
open Go Go.Proofs
def GiveT (F km:Nat) (H:Heap) (bs:List Nat) (r:R):O Str→Prop
 | .val out s=>∃ H' x,r=some (.ret (.str out),H')∧StZ F km H' (bs++x) s 0∧KeepQ H H'∧out.length≤2000
 | .stop k t s=>∃ u H',r=some (.ret (.str u),H')∧u.length≤2000∧EndQ F km H' k t s∧KeepQ H H'
theorem GiveT.more {F km:Nat}{H:Heap}{bs x:List Nat}{r:R}{o:O Str}(h:GiveT F km H (bs++x) r o):GiveT F km H bs r o:=by
 cases o with
 | val v s=>
   obtain⟨H',y,h1,h2,h3,h4⟩:=h
   rw[List.append_assoc]at h2
   exact⟨H',x++y,h1,h2,h3,h4⟩
 | stop a t s=>exact h
theorem add59:Ev fun n=>∀ F km H bs s (out t:Str),StZ F km H bs s 0→out.length≤2000→t.length≤1000→GiveT F km H bs (qB P5 n 63 [.ptr (.new km) 0,.str out,.str t] H) (sayA out t s):=by
 refine Ev.succ ((stop50.and (Ev.ge 3)).mono fun n hn F km H bs s out t st ho ht=> ?_)
 obtain⟨e50,hn⟩:=hn
 rw[qG (P:=P5) (sf:=c63) rfl (aAU _ _) rfl rfl]
 have hw:IntKind.i64.wrap ((out.length:Int)+(t.length:Int))=((out.length+t.length:Nat):Int):=by
  rw[wrap64 (by omega) (by omega)];omega
 unfold sayA
 by_cases hc:out.length+t.length>2000
 · have hg:((out.length+t.length:Nat):Int)>2000:=by omega
   rw[if_pos hc]
   obtain⟨c0,c1,c2,c3,c4,c5,c6,c7,c8,c9,H',z1,_,z3,z4⟩:=e50 F km H bs 7 [] s st.low st.m (by decide)
   simp -implicitDefEqProofs only[c63,↓qA,ZZ,seval,CL,hw,hg,z1]
   exact⟨[],H',rfl,by simp,z3,z4⟩
 · have hg:¬((out.length+t.length:Nat):Int)>2000:=by omega
   have hl:out.length+t.length≤4611686018427387904:=by omega
   rw[if_neg hc]
   simp -implicitDefEqProofs only[c63,↓qA,ZZ,seval,CL,hw,hg,hl]
   exact⟨H,[],rfl,by simpa using st,HKeep.refl,by rw[List.length_append];omega⟩
theorem print_over:Ev fun n=>∀ F km st us k t H (out:Str) cs,Over F km st us k t H→qB P5 n 31 [.ptr (.new km) 0,.str out,.agg cs] H=some (.ret (.str []),H.push (.row cs 0 false (some 88))):=by
 refine Ev.succ ((Ev.ge 3).mono fun n hn F km st us k t H out cs ⟨low,g,hk⟩=> ?_)
 rw[qG (P:=P5) (sf:=c31) rfl (a4R _ _) rfl rfl]
 have lk:=low.lt g
 have n0:¬km=H.n:=by omega
 have hb:(k != 0)=true:=by simpa using hk
 simp only[mRow]at g
 simp -implicitDefEqProofs only[c31,↓qA,ZZ,seval,CL,g,n0,hb]
def a1Z (F:Nat) (v:V) (s:S) (out:Str) (o:O Str) (n:Nat):Prop:=∀ km H bs cs,StZ F km H bs s 0→out.length≤2000→ValZ H bs v cs→GiveT F km H bs (qB P5 n 31 [.ptr (.new km) 0,.str out,.agg cs] H) o
def a1J (F m:Nat):Prop:=∀ out v s o,printA F m out v s=some o→Ev (a1Z F v s out o)
def wS (F:Nat) (a b:Nat) (s:S) (out:Str) (o:O Str) (m n:Nat):Prop:=∀ km H0 H bs cs k5 fr mm KK,StZ F km H bs s 0→out.length≤2000→ValZ H bs (.pair a b) cs→KeepQ H0 H→HLow H0→H0.n≤k5→
 fr 0= .ptr (.new km) 0→fr 1= .str out→fr 5= .ptr (.new k5) 0→H.t.get k5=some (.row cs 0 false (some 88))→m≤mm→
 (∀ fr' H',KK .ret fr' H'=some (.ret (fr' 6),H'))→
 (∀ fr' H' bs' w cs' s' out' o' d,StZ F km H' bs' s' 0→out'.length≤2000→ValZ H' bs' w cs'→KeepQ H0 H'→fr' 0= .ptr (.new km) 0→fr' 1= .str out'→fr' 5= .ptr (.new k5) 0→H'.t.get k5=some (.row cs' 0 false (some 88))→a5t F d w out' s'=some o'→
   (∀ s4 q,sayA out' [32,46,32] s'= .val (out'++[32,46,32]) s4→printA F d (out'++[32,46,32]) w s4=some q→a1Z F w s4 (out'++[32,46,32]) q n)→GiveT F km H0 bs' (KK (.exit 1) fr' H') o')→
 GiveT F km H0 bs (zQ (qB P5 n) n bK mm fr H KK) o
theorem StZ.over {F km:Nat}{H:Heap}{k:Int}{t:Str}{s:S}(h:EndQ F km H k t s):Over F km s.steps s.uses k t H:=⟨h.low,h.m,h.ne⟩
set_option maxHeartbeats 8000000 in
theorem a8L {F m:Nat}(ihF:bJ F m) (ihP:a1J F m) (ihR:∀ out a b s o,rowA F m out a b s=some o→Ev (wS F a b s out o m)):∀ out a b s o,rowA F (m+1) out a b s=some o→Ev (wS F a b s out o (m+1)):=by
 intro out a b s o h
 have hz:((0:Int)==0)=true:=rfl
 have hz':((0:Int) != 0)=false:=rfl
 cases h1:qP F m a s with
 | none=>rw[a1O h1]at h;cases h
 | some p=>
 have hA:=ihF a s p h1
 cases p with
 | stop k t s1=>
   rw[a1E h1]at h
   obtain rfl:=Option.some.inj h
   refine(hA.and print_over).mono fun n hn km H0 H bs cs k5 fr mm KK st ho hv kp low0 hk5 r0 r1 r5 g5 hm hret hK=> ?_
   obtain⟨eA,eO⟩:=hn
   obtain⟨mm,rfl⟩:∃ k,mm=k+1:=⟨mm-1,by omega⟩
   obtain⟨c2,c3,rfl,p2,p3⟩:=hv
   obtain⟨d0,d1,d2,d3,d4,d5,d6,d7,d8,d9,H',q1,_,q2,q3⟩:=eA km H bs c2 st p2
   have eO:=eO F km _ _ _ _ H' out [d0,d1,d2,d3,d4,d5,d6,d7,d8,d9] (StZ.over q2)
   have gm:=st.m
   have gm':=q2.m
   simp only[mRow]at gm gm'
   have hne:(k != 0)=true:=by simpa using q2.ne
   have nk:¬km=H'.n:=by have:=q2.low.lt q2.m;omega
   rw[qX]
   simp -implicitDefEqProofs only[bK,↓qA,ZZ,seval,CL,r0,r1,r5,gm,hz,g5,q1,eO,gm',nk,hne,hret]
   exact⟨[],_,rfl,by simp,q2.keep q2.low.push (by rw[qF,if_neg nk]),(kp.trans q3).pushed low0⟩
 | val v s1=>
 cases h2:printA F m out v s1 with
 | none=>rw[a1e h1 h2]at h;cases h
 | some q=>
 have hP:=ihP out v s1 q h2
 cases q with
 | stop k t s2=>
   rw[a2v h1 h2]at h
   obtain rfl:=Option.some.inj h
   refine(hA.and hP).mono fun n hn km H0 H bs cs k5 fr mm KK st ho hv kp low0 hk5 r0 r1 r5 g5 hm hret hK=> ?_
   obtain⟨eA,eP⟩:=hn
   obtain⟨mm,rfl⟩:∃ k,mm=k+1:=⟨mm-1,by omega⟩
   obtain⟨c2,c3,rfl,p2,p3⟩:=hv
   obtain⟨cs,H',x,q1,q2,q3,q4⟩:=eA km H bs c2 st p2
   obtain⟨u,H2,y1,y2,y3,y4⟩:=eP km H' (bs++x) cs q3 ho q2
   have gm:=st.m
   have gm':=y3.m
   simp only[mRow]at gm gm'
   have hne:(k != 0)=true:=by simpa using y3.ne
   rw[qX]
   simp -implicitDefEqProofs only[bK,↓qA,ZZ,seval,CL,r0,r1,r5,gm,hz,g5,q1,y1,gm',hne,hret]
   exact⟨[],_,rfl,by simp,y3,(kp.trans q4).trans y4⟩
 | val out2 s2=>
 cases h3:qP F m b s2 with
 | none=>rw[a1S h1 h2 h3]at h;cases h
 | some p2=>
 have hB:=ihF b s2 p2 h3
 cases p2 with
 | stop k t s3=>
   rw[a2x h1 h2 h3]at h
   obtain rfl:=Option.some.inj h
   refine(hA.and (hP.and hB)).mono fun n hn km H0 H bs cs k5 fr mm KK st ho hv kp low0 hk5 r0 r1 r5 g5 hm hret hK=> ?_
   obtain⟨eA,eP,eB⟩:=hn
   obtain⟨mm,rfl⟩:∃ k,mm=k+1:=⟨mm-1,by omega⟩
   obtain⟨c2,c3,rfl,p2,p3⟩:=hv
   obtain⟨cs,H',x,q1,q2,q3,q4⟩:=eA km H bs c2 st p2
   obtain⟨H2,y,y1,y2,y3,y4⟩:=eP km H' (bs++x) cs q3 ho q2
   obtain⟨d0,d1,d2,d3,d4,d5,d6,d7,d8,d9,H3,z1,⟨⟨f0,f1,f2,f3,f4⟩,f5,f6,f7,f8,f9⟩,z2,z3⟩:=eB km H2 _ c3 y2 (p3.more.more)
   have g5':=y3.get _ _ (q4.get _ _ g5 (qR (by decide) (by decide))) (qR (by decide) (by decide))
   have g5'':=z3.get _ _ g5' (qR (by decide) (by decide))
   have gm:=st.m
   have gm2:=y2.m
   have gm3:=z2.m
   simp only[mRow]at gm gm2 gm3
   have hne:(k != 0)=true:=by simpa using z2.ne
   have nk:¬km=k5:=yJ z2.m g5'' (by decide)
   rw[qX]
   simp -implicitDefEqProofs only[bK,↓qA,ZZ,seval,CL,r0,r1,r5,gm,hz,hz',g5,q1,y1,gm2,g5',z1,g5'',f0,f1,f2,f3,f4,f5,f6,f7,f8,f9,gm3,nk,hne,hret]
   exact⟨[],_,rfl,by simp,z2.keep (z2.low.put (z2.low.lt g5'')) (by rw[qD,if_neg nk]),(((kp.trans q4).trans y3).trans z3).own low0 hk5 (z2.low.lt g5'')⟩
 | val w s3=>
 rcases Classical.em (∃ c d,w= .pair c d)with⟨c,d,rfl⟩|hw
 · rw [a2I h1 h2 h3] at h
   have hR:Ev fun n=>∀ s4 q,sayA out2 [32] s3= .val (out2++[32]) s4→rowA F m (out2++[32]) c d s4=some q→wS F c d s4 (out2++[32]) q m n:=by
    cases hs:sayA out2 [32] s3 with
    | stop k t s4=>exact Ev.of fun n s4 q e=>by cases e
    | val o3 s4=>
      obtain⟨rfl,rfl⟩:=jC hs
      have:Ev fun n=>∀ q,rowA F m (out2++[32]) c d s4=some q→wS F c d s4 (out2++[32]) q m n:=Ev.opt fun q hq=>ihR _ _ _ _ q hq
      refine this.mono fun n hn s4 q e hq=> ?_
      simp only[O.val.injEq,true_and]at e
      subst e
      exact hn q hq
   refine(hA.and (hP.and (hB.and (hR.and add59)))).mono fun n hn km H0 H bs cs k5 fr mm KK st ho hv kp low0 hk5 r0 r1 r5 g5 hm hret hK=> ?_
   obtain⟨eA,eP,eB,eR,e59⟩:=hn
   obtain⟨mm,rfl⟩:∃ k,mm=k+1:=⟨mm-1,by omega⟩
   obtain⟨c2,c3,rfl,p2,p3⟩:=hv
   obtain⟨cs,H',x,q1,q2,q3,q4⟩:=eA km H bs c2 st p2
   obtain⟨H2,y,y1,y2,y3,y4⟩:=eP km H' (bs++x) cs q3 ho q2
   obtain⟨cw,H3,x3,z1,z2,z3,z4⟩:=eB km H2 _ c3 y2 (p3.more.more)
   have g5':=y3.get _ _ (q4.get _ _ g5 (qR (by decide) (by decide))) (qR (by decide) (by decide))
   have g5'':=z4.get _ _ g5' (qR (by decide) (by decide))
   have z2c:=z2
   obtain⟨d2,d3,rfl,pd2,pd3⟩:=z2
   have hd2:d2.flat=true:=by obtain⟨_,_,rfl⟩:=pd2;rfl
   have hd3:d3.flat=true:=by obtain⟨_,_,rfl⟩:=pd3;rfl
   have st4:=z3.box g5'' (by decide) (ob:= .row [.int .i64 5,.str [],d2,d3,.int .i64 0,.str [],.nils,.nils,.nils,.nils] 0 false (some 88))
   have kpA:=((kp.trans q4).trans y3).trans z4
   have kp4:=kpA.own low0 hk5 (z3.low.lt g5'') (ob:= .row [.int .i64 5,.str [],d2,d3,.int .i64 0,.str [],.nils,.nils,.nils,.nils] 0 false (some 88))
   have hsay:=e59 F km _ _ s3 out2 [32] st4 y4 (by decide)
   have gm:=st.m
   have gm2:=y2.m
   have gm3:=z3.m
   simp only[mRow]at gm gm2 gm3
   have nk:¬km=k5:=yJ z3.m g5'' (by decide)
   rw[qX]
   cases hs:sayA out2 [32] s3 with
   | stop k t s4=>
     rw[hs]at h hsay
     obtain rfl:=(Option.some.inj h).symm
     obtain⟨u,H5,w1,w2,w3,w4⟩:=hsay
     have gm5:=w3.m
     simp only[mRow]at gm5
     have hne:(k != 0)=true:=by simpa using w3.ne
     simp -implicitDefEqProofs only[bK,↓qA,ZZ,seval,CL,r0,r1,r5,gm,hz,hz',g5,q1,y1,gm2,g5',z1,g5'',Int.reduceBNe,hd2,hd3,gm3,nk,w1,gm5,hne,hret]
     exact⟨[],_,rfl,by simp,w3,kp4.trans w4⟩
   | val o3 s4=>
     rw[hs]at h hsay
     obtain⟨rfl,rfl⟩:=jC hs
     have h:rowA F m (out2++[32]) c d s4=some o:=h
     obtain⟨H5,x5,w1,w2,w3,w4⟩:=hsay
     have gm5:=w2.m
     simp only[mRow]at gm5
     simp -implicitDefEqProofs only[bK,↓qA,ZZ,seval,CL,r0,r1,r5,gm,hz,hz',g5,q1,y1,gm2,g5',z1,g5'',Int.reduceBNe,hd2,hd3,gm3,nk,w1,gm5]
     have g55:=w3.get _ _ (show(H3.put k5 (.row [.int .i64 5,.str [],d2,d3,.int .i64 0,.str [],.nils,.nils,.nils,.nils] 0 false (some 88))).t.get k5=_ by rw[qD,if_pos rfl]) (qR (by decide) (by decide))
     refine GiveT.more (x:=x) (GiveT.more (x:=y) (GiveT.more (x:=x3) (GiveT.more (x:=x5) (eR s4 o hs h km H0 H5 _ _ k5 _ mm KK w2 w4 ⟨d2,d3,rfl,pd2.more,pd3.more⟩ (kp4.trans w3) low0 hk5 ?_ ?_ ?_ g55 (by omega) hret hK))))
     all_goals simp -implicitDefEqProofs only[↓qA,ZZ,Nat.reduceBEq,reduceIte,Nat.reduceAdd,Nat.reduceLeDiff,Nat.reduceEqDiff,Nat.reduceBneDiff,r0,r5]
 · rw [a3w h1 h2 h3 (fun c d e => hw ⟨c, d, e⟩)] at h
   have hT:Ev fun n=>∀ s4 q,sayA out2 [32,46,32] s3= .val (out2++[32,46,32]) s4→printA F m (out2++[32,46,32]) w s4=some q→a1Z F w s4 (out2++[32,46,32]) q n:=by
    cases hs:sayA out2 [32,46,32] s3 with
    | stop k t s4=>exact Ev.of fun n s4 q e=>by cases e
    | val o3 s4=>
      obtain⟨rfl,rfl⟩:=jC hs
      have:Ev fun n=>∀ q,printA F m (out2++[32,46,32]) w s4=some q→a1Z F w s4 (out2++[32,46,32]) q n:=Ev.opt fun q hq=>ihP _ _ _ q hq
      refine this.mono fun n hn s4 q e hq=> ?_
      simp only[O.val.injEq,true_and]at e
      subst e
      exact hn q hq
   refine(hA.and (hP.and (hB.and hT))).mono fun n hn km H0 H bs cs k5 fr mm KK st ho hv kp low0 hk5 r0 r1 r5 g5 hm hret hK=> ?_
   obtain⟨eA,eP,eB,eT⟩:=hn
   obtain⟨mm,rfl⟩:∃ k,mm=k+1:=⟨mm-1,by omega⟩
   obtain⟨c2,c3,rfl,p2,p3⟩:=hv
   obtain⟨cs,H',x,q1,q2,q3,q4⟩:=eA km H bs c2 st p2
   obtain⟨H2,y,y1,y2,y3,y4⟩:=eP km H' (bs++x) cs q3 ho q2
   obtain⟨cw,H3,x3,z1,z2,z3,z4⟩:=eB km H2 _ c3 y2 (p3.more.more)
   have g5':=y3.get _ _ (q4.get _ _ g5 (qR (by decide) (by decide))) (qR (by decide) (by decide))
   have g5'':=z4.get _ _ g5' (qR (by decide) (by decide))
   have hb:(w.kind != 5)=true:=by
    cases w with
    | pair c d=>exact absurd ⟨_,_,rfl⟩ hw
    | fn e env g=>rfl
    | atom k t=>
      obtain⟨_,_,_,hk,_⟩:=z2
      simp only[V.kind,bne_iff_ne,ne_eq];omega
   obtain⟨tx,d2,d3,d4,d5,d6,d7,d8,d9,rfl,_,_,_,⟨f2,f3,f4,f5⟩,⟨f6,f7,f8,f9⟩⟩:=z2.ten
   have st4:=z3.box g5'' (by decide) (ob:= .row [.int .i64 w.kind,.str tx,d2,d3,d4,d5,d6,d7,d8,d9] 0 false (some 88))
   have kpA:=((kp.trans q4).trans y3).trans z4
   have kp4:=kpA.own low0 hk5 (z3.low.lt g5'') (ob:= .row [.int .i64 w.kind,.str tx,d2,d3,d4,d5,d6,d7,d8,d9] 0 false (some 88))
   have gm:=st.m
   have gm2:=y2.m
   have gm3:=z3.m
   simp only[mRow]at gm gm2 gm3
   have nk:¬km=k5:=yJ z3.m g5'' (by decide)
   rw[qX]
   simp -implicitDefEqProofs only[bK,↓qA,ZZ,seval,CL,r0,r1,r5,gm,hz,hz',g5,q1,y1,gm2,g5',z1,g5'',hb,f2,f3,f4,f5,f6,f7,f8,f9,gm3,nk]
   refine GiveT.more (x:=x) (GiveT.more (x:=y) (GiveT.more (x:=x3) (hK _ _ _ w _ s3 out2 o m st4 y4 (z2.stay (StayQ.put g5'' (by decide) (by decide))) kp4 ?_ ?_ ?_ (by rw[qD,if_pos rfl]) h eT)))
   all_goals simp -implicitDefEqProofs only[↓qA,ZZ,Nat.reduceBEq,reduceIte,Nat.reduceAdd,Nat.reduceLeDiff,Nat.reduceEqDiff,Nat.reduceBneDiff,r0,r5]
end Go.Lite
/-
  The reference prints a value: whole; what is read; Eval.
-/
namespace Go.Lite
open Go Go.Proofs
theorem stop_over:Ev fun n=>∀ F km st us k t H (a:Int) (b:Str),Over F km st us k t H→∃ H',qB P5 n 54 [.ptr (.new km) 0,.int .i64 a,.str b] H=some (.ret (.agg [AV.int .i64 0,.str [],.nilp,.nilp,.int .i64 0,.str [],.nils,.nils,.nils,.nils]),H')∧Over F km st us k t H'∧KeepQ H H':=by
 refine Ev.succ ((Ev.ge 3).mono fun n hn F km st us k t H a b ⟨low,g,hk⟩=> ?_)
 rw[qG (P:=P5) (sf:=c54) rfl (aAP _ _) rfl rfl]
 have lk:=low.lt g
 have nk:¬km=H.n:=by omega
 have hb:(k==0)=false:=by simpa using hk
 have g':=g
 simp only[mRow]at g
 simp -implicitDefEqProofs only[c54,↓qA,ZZ,seval,CL,g,nk,hb]
 refine⟨_,rfl,⟨low.push.put (by rw[h_n];omega),by rw[qD,if_neg nk,qF,if_neg nk];exact g',hk⟩,(HKeep.push low).own low (Nat.le_refl _) (by rw[h_n];omega)⟩
theorem add_over2:Ev fun n=>∀ F km st us k t H (out s:Str),Over F km st us k t H→out.length≤2000→s.length≤1000→∃ u H',qB P5 n 63 [.ptr (.new km) 0,.str out,.str s] H=some (.ret (.str u),H')∧u.length≤2000∧Over F km st us k t H'∧KeepQ H H':=by
 refine Ev.succ ((stop_over.and (Ev.ge 3)).mono fun n hn F km st us k t H out s ov ho hs=> ?_)
 obtain⟨e50,hn⟩:=hn
 rw[qG (P:=P5) (sf:=c63) rfl (aAU _ _) rfl rfl]
 have hw:IntKind.i64.wrap ((out.length:Int)+(s.length:Int))=((out.length+s.length:Nat):Int):=by
  rw[wrap64 (by omega) (by omega)];omega
 by_cases hc:out.length+s.length>2000
 · have hg:((out.length+s.length:Nat):Int)>2000:=by omega
   obtain⟨H',z1,z2,z3⟩:=e50 F km st us k t H 7 [] ov
   simp -implicitDefEqProofs only[c63,↓qA,ZZ,seval,CL,hw,hg,z1]
   exact⟨[],H',rfl,by simp,z2,z3⟩
 · have hg:¬((out.length+s.length:Nat):Int)>2000:=by omega
   have hl:out.length+s.length≤4611686018427387904:=by omega
   simp -implicitDefEqProofs only[c63,↓qA,ZZ,seval,CL,hw,hg,hl]
   exact⟨_,H,rfl,by rw[List.length_append];omega,ov,HKeep.refl⟩
set_option maxHeartbeats 8000000 in
theorem aC2 {F m : Nat} (ihR : ∀ out a b s o, rowA F m out a b s = some o → Ev (wS F a b s out o m)) : a1J F (m + 1) := by
 intro out v s o h
 have hz:((0:Int)==0)=true:=rfl
 have hz':((0:Int) != 0)=false:=rfl
 rw[yU]at h
 cases v with
 | atom k t=>
   obtain rfl:=Option.some.inj h
   refine Ev.succ ((add59.and plain58).mono fun n hn km H bs cs st ho hv=> ?_)
   obtain⟨e59,e58⟩:=hn
   obtain⟨e,rfl,hk1,hk4,hn,he⟩:=hv
   rw[qG (P:=P5) (sf:=c31) rfl (a4R _ _) rfl rfl]
   have st2:StZ F km ((H.push (.row [.int .i64 k,.str t,.nilp,.nilp,.int .i64 0,.str [],e,e,e,e] 0 false (some 88))).push (.row [.int .i64 k,.str t,.nilp,.nilp,.int .i64 0,.str [],e,e,e,e] 0 false (some 88))) bs s 0:=st.push.push
   have k2:KeepQ H ((H.push (.row [.int .i64 k,.str t,.nilp,.nilp,.int .i64 0,.str [],e,e,e,e] 0 false (some 88))).push (.row [.int .i64 k,.str t,.nilp,.nilp,.int .i64 0,.str [],e,e,e,e] 0 false (some 88))):=(HKeep.push st.low).pushed st.low
   have hs:=e59 F km _ bs s out t st2 ho hn.1.1
   have hd:decide (1≤k∧k≤4)=true:=decide_eq_true ⟨hk1,hk4⟩
   have e58':=fun H=>e58 k (.str t) .nilp .nilp (.int .i64 0) (.str []) e e e e H
   rw[hd]at e58'
   have gm:=st.m
   simp only[mRow]at gm
   have nk:¬km=H.n:=by have:=st.low.lt st.m;omega
   cases hq:sayA out t s with
   | stop k' t' s'=>
     rw[hq]at hs
     obtain⟨u,H',q1,q2,q3,q4⟩:=hs
     simp -implicitDefEqProofs only[c31,↓qA,ZZ,seval,CL,gm,nk,hz',e58',q1]
     exact⟨u,H',rfl,q2,q3,k2.trans q4⟩
   | val o' s'=>
     rw[hq]at hs
     obtain⟨H',x,q1,q2,q3,q4⟩:=hs
     simp -implicitDefEqProofs only[c31,↓qA,ZZ,seval,CL,gm,nk,hz',e58',q1]
     exact⟨H',x,rfl,q2,k2.trans q3,q4⟩
 | fn e env g=>
   obtain rfl:=Option.some.inj h
   obtain⟨ke,te,nse,ae⟩:=e
   refine Ev.succ ((add59.and plain58).mono fun n hn km H bs cs st ho hv=> ?_)
   obtain⟨e59,e58⟩:=hn
   obtain⟨t,c2,c3,c4,c5,c6,c7,c8,c9,rfl,_,_,_,⟨f2,f3,f4,f5⟩,⟨f6,f7,f8,f9⟩⟩:=hv.ten
   rw[qG (P:=P5) (sf:=c31) rfl (a4R _ _) rfl rfl]
   simp only[V.kind]at hv ⊢
   have st2:StZ F km ((H.push (.row [.int .i64 6,.str t,c2,c3,c4,c5,c6,c7,c8,c9] 0 false (some 88))).push (.row [.int .i64 6,.str t,c2,c3,c4,c5,c6,c7,c8,c9] 0 false (some 88))) bs s 0:=st.push.push
   have k2:KeepQ H ((H.push (.row [.int .i64 6,.str t,c2,c3,c4,c5,c6,c7,c8,c9] 0 false (some 88))).push (.row [.int .i64 6,.str t,c2,c3,c4,c5,c6,c7,c8,c9] 0 false (some 88))):=(HKeep.push st.low).pushed st.low
   have hs:=e59 F km _ bs s out [35,60,102,117,110,99,116,105,111,110,62] st2 ho (by decide)
   have hd:decide ((1:Int)≤6∧(6:Int)≤4)=false:=by decide
   have e58':=fun H=>e58 6 (.str t) c2 c3 c4 c5 c6 c7 c8 c9 H
   rw[hd]at e58'
   have gm:=st.m
   simp only[mRow]at gm
   have nk:¬km=H.n:=by have:=st.low.lt st.m;omega
   have n1:¬H.n=H.n+1:=by omega
   cases hq:sayA out [35,60,102,117,110,99,116,105,111,110,62] s with
   | stop k' t' s'=>
     rw[hq]at hs
     obtain⟨u,H',q1,q2,q3,q4⟩:=hs
     simp -implicitDefEqProofs only[c31,↓qA,ZZ,seval,CL,gm,nk,n1,hz',e58',Int.reduceBEq,q1]
     exact⟨u,H',rfl,q2,q3,k2.trans q4⟩
   | val o' s'=>
     rw[hq]at hs
     obtain⟨H',x,q1,q2,q3,q4⟩:=hs
     simp -implicitDefEqProofs only[c31,↓qA,ZZ,seval,CL,gm,nk,n1,hz',e58',Int.reduceBEq,q1]
     exact⟨H',x,rfl,q2,k2.trans q3,q4⟩
 | pair a b=>
   replace h:(sayA out [40] s).bind (fun out s=>rowA F m out a b s)=some o:=h
   have hR:Ev fun n=>∀ s4 q,sayA out [40] s= .val (out++[40]) s4→rowA F m (out++[40]) a b s4=some q→wS F a b s4 (out++[40]) q m n:=by
    cases hs:sayA out [40] s with
    | stop k t s4=>exact Ev.of fun n s4 q e=>by cases e
    | val o3 s4=>
      obtain⟨rfl,rfl⟩:=jC hs
      have:Ev fun n=>∀ q,rowA F m (out++[40]) a b s4=some q→wS F a b s4 (out++[40]) q m n:=Ev.opt fun q hq=>ihR _ _ _ _ q hq
      refine this.mono fun n hn s4 q e hq=> ?_
      simp only[O.val.injEq,true_and]at e
      subst e
      exact hn q hq
   refine Ev.succ ((add59.and (plain58.and (hR.and (print_over.and (add_over2.and (Ev.ge (m+3))))))).mono fun n hn km H bs cs st ho hv=> ?_)
   obtain⟨e59,e58,eR,eO,eA2,hn⟩:=hn
   have hvc:=hv
   obtain⟨c2,c3,rfl,p2,p3⟩:=hv
   rw[qG (P:=P5) (sf:=c31) rfl (a4R _ _) rfl rfl]
   have st2:StZ F km ((H.push (.row [.int .i64 5,.str [],c2,c3,.int .i64 0,.str [],.nils,.nils,.nils,.nils] 0 false (some 88))).push (.row [.int .i64 5,.str [],c2,c3,.int .i64 0,.str [],.nils,.nils,.nils,.nils] 0 false (some 88))) bs s 0:=st.push.push
   have k2:KeepQ H ((H.push (.row [.int .i64 5,.str [],c2,c3,.int .i64 0,.str [],.nils,.nils,.nils,.nils] 0 false (some 88))).push (.row [.int .i64 5,.str [],c2,c3,.int .i64 0,.str [],.nils,.nils,.nils,.nils] 0 false (some 88))):=(HKeep.push st.low).pushed st.low
   have g1:((H.push (.row [.int .i64 5,.str [],c2,c3,.int .i64 0,.str [],.nils,.nils,.nils,.nils] 0 false (some 88))).push (.row [.int .i64 5,.str [],c2,c3,.int .i64 0,.str [],.nils,.nils,.nils,.nils] 0 false (some 88))).t.get H.n=some (.row [.int .i64 5,.str [],c2,c3,.int .i64 0,.str [],.nils,.nils,.nils,.nils] 0 false (some 88)):=by rw[qF,if_neg (by rw[h_n];omega),qF,if_pos rfl]
   have hd:decide ((1:Int)≤5∧(5:Int)≤4)=false:=by decide
   have e58':=fun H=>e58 5 (.str []) c2 c3 (.int .i64 0) (.str []) .nils .nils .nils .nils H
   rw[hd]at e58'
   have hsay:=e59 F km _ bs s out [40] st2 ho (by decide)
   have gm:=st.m
   simp only[mRow]at gm
   have nk:¬km=H.n:=by have:=st.low.lt st.m;omega
   have n1:¬H.n=H.n+1:=by omega
   obtain⟨n,rfl⟩:∃ j,n=j+1:=⟨n-1,by omega⟩
   cases hs:sayA out [40] s with
   | stop k t s4=>
     rw[hs]at h hsay
     obtain rfl:=(Option.some.inj h).symm
     obtain⟨u,H5,w1,w2,w3,w4⟩:=hsay
     have gm5:=w3.m
     simp only[mRow]at gm5
     have hne:(k != 0)=true:=by simpa using w3.ne
     have hne':(k==0)=false:=by simpa using w3.ne
     simp -implicitDefEqProofs only[c31,↓qA,ZZ,seval,CL,gm,nk,n1,hz',e58',Int.reduceBEq,w1]
     rw[qX]
     simp -implicitDefEqProofs only[bK,↓qA,ZZ,seval,CL,gm5,hne,hne']
     exact⟨[],H5,rfl,by simp,w3,k2.trans w4⟩
   | val o3 s4 =>
     rw[hs]at h hsay
     obtain⟨rfl,rfl⟩:=jC hs
     have h:rowA F m (out++[40]) a b s4=some o:=h
     obtain⟨H5,x5,w1,w2,w3,w4⟩:=hsay
     have g15:=w3.get _ _ g1 (qR (by decide) (by decide))
     simp -implicitDefEqProofs only[c31,↓qA,ZZ,seval,CL,gm,nk,n1,hz',e58',Int.reduceBEq,w1]
     refine GiveT.more (x:=x5) (eR s4 o hs h km H H5 _ _ H.n _ (n+1) _ w2 w4 ⟨c2,c3,rfl,p2.more,p3.more⟩ (k2.trans w3) st.low (Nat.le_refl _) rfl rfl rfl g15 (by omega) (fun fr' H'=>by simp -implicitDefEqProofs only[↓qA,ZZ,seval]) ?_)
     intro fr' H' bs' w cs' s' out' o' d ps ho' hv' kp r0 r1 r5 g5 hT hPC
     obtain⟨tx,d2,d3,d4,d5,d6,d7,d8,d9,rfl,_,_,_,⟨f2,f3,f4,f5⟩,⟨f6,f7,f8,f9⟩⟩:=hv'.ten
     unfold a5t at hT
     have gm5:=ps.m
     simp only[mRow]at gm5
     by_cases hk3:w.kind=3
     · rw[if_pos hk3]at hT
       obtain rfl:=Option.some.inj hT
       have hb:(w.kind != 3)=false:=by simp[hk3]
       have hc:=e59 F km H' bs' s' out' [41] ps ho' (by decide)
       cases hq:sayA out' [41] s' with
       | stop k' t' s6=>
         rw[hq]at hc
         obtain⟨u,H7,q1,q2,q3,q4⟩:=hc
         simp -implicitDefEqProofs only[↓qA,ZZ,seval,CL,r0,r1,r5,g5,gm5,hz',hb,q1]
         exact⟨u,H7,rfl,q2,q3,kp.trans q4⟩
       | val o7 s7=>
         rw[hq]at hc
         obtain⟨H7,x,q1,q2,q3,q4⟩:=hc
         simp -implicitDefEqProofs only[↓qA,ZZ,seval,CL,r0,r1,r5,g5,gm5,hz',hb,q1]
         exact⟨H7,x,rfl,q2,kp.trans q3,q4⟩
     · rw [if_neg hk3] at hT
       have hb:(w.kind != 3)=true:=by simpa using hk3
       have hs2:=e59 F km H' bs' s' out' [32,46,32] ps ho' (by decide)
       cases hq:sayA out' [32,46,32] s' with
       | stop k' t' s6=>
         rw[hq]at hs2 hT
         obtain rfl:=(Option.some.inj hT).symm
         obtain⟨u,H7,q1,q2,q3,q4⟩:=hs2
         have g57:=q4.get _ _ g5 (qR (by decide) (by decide))
         have eO':=eO F km _ _ _ _ H7 u [.int .i64 w.kind,.str tx,d2,d3,d4,d5,d6,d7,d8,d9] (StZ.over q3)
         have nk7:¬km=H7.n:=by have:=q3.low.lt q3.m;omega
         have ov:Over F km s6.steps s6.uses k' t' (H7.push (.row [.int .i64 w.kind,.str tx,d2,d3,d4,d5,d6,d7,d8,d9] 0 false (some 88))):=⟨q3.low.push,by rw[qF,if_neg nk7];exact q3.m,q3.ne⟩
         obtain⟨u2,H8,y1,y2,y3,y4⟩:=eA2 F km _ _ _ _ _ [] [41] ov (by simp) (by decide)
         simp -implicitDefEqProofs only[↓qA,ZZ,seval,CL,r0,r1,r5,g5,gm5,hz',hb,f2,f3,f4,f5,f6,f7,f8,f9,q1,g57,eO',y1]
         exact⟨u2,H8,rfl,y2,⟨y3.1,y3.2.1,y3.2.2⟩,((kp.trans q4).pushed st.low).trans y4⟩
       | val o6 s6 =>
         rw[hq]at hs2 hT
         obtain⟨rfl,rfl⟩:=jC hq
         have hT:((printA F d (out'++[32,46,32]) w s6).bind fun r=>r.bind fun out s=>some (sayA out [41] s))=some o':=hT
         obtain⟨q,hq2,hT⟩:=Option.bind_eq_some_iff.1 hT
         obtain⟨H7,x,q1,q2,q3,q4⟩:=hs2
         have g57:=q3.get _ _ g5 (qR (by decide) (by decide))
         have hp:=hPC s6 q hq hq2 km H7 (bs'++x) _ q2 q4 (hv'.keep q3.stayQ)
         cases q with
         | stop k8 t8 s8=>
           obtain rfl:=(Option.some.inj hT).symm
           obtain⟨u,H8,z1,z2,z3,z4⟩:=hp
           obtain⟨u2,H9,y1,y2,y3,y4⟩:=eA2 F km _ _ _ _ _ u [41] (StZ.over z3) z2 (by decide)
           simp -implicitDefEqProofs only[↓qA,ZZ,seval,CL,r0,r1,r5,g5,gm5,hz',hb,f2,f3,f4,f5,f6,f7,f8,f9,q1,g57,z1,y1]
           exact⟨u2,H9,rfl,y2,⟨y3.1,y3.2.1,y3.2.2⟩,((kp.trans q3).trans z4).trans y4⟩
         | val o8 s8=>
           have hT:some (sayA o8 [41] s8)=some o':=hT
           obtain rfl:=Option.some.inj hT
           obtain⟨H8,y,z1,z2,z3,z4⟩:=hp
           have hc:=e59 F km H8 _ s8 o8 [41] z2 z4 (by decide)
           cases hq9:sayA o8 [41] s8 with
           | stop k' t' s9=>
             rw[hq9]at hc
             obtain⟨u,H9,y1,y2,y3,y4⟩:=hc
             simp -implicitDefEqProofs only[↓qA,ZZ,seval,CL,r0,r1,r5,g5,gm5,hz',hb,f2,f3,f4,f5,f6,f7,f8,f9,q1,g57,z1,y1]
             exact⟨u,H9,rfl,y2,y3,((kp.trans q3).trans z3).trans y4⟩
           | val o9 s9=>
             rw[hq9]at hc
             obtain⟨H9,y9,y1,y2,y3,y4⟩:=hc
             simp -implicitDefEqProofs only[↓qA,ZZ,seval,CL,r0,r1,r5,g5,gm5,hz',hb,f2,f3,f4,f5,f6,f7,f8,f9,q1,g57,z1,y1]
             refine GiveT.more (x:=x) (GiveT.more (x:=y) ⟨H9,y9,rfl,y2,((kp.trans q3).trans z3).trans y3,y4⟩)
theorem aEs (F:Nat):∀ m,a1J F m∧∀ out a b s o,rowA F m out a b s=some o→Ev (wS F a b s out o m):=by
 intro m
 induction m with
 | zero=>exact⟨fun out v s o h=>by simp[printA]at h,fun out a b s o h=>by simp[rowA]at h⟩
 | succ m ih=>exact⟨aC2 ih.2,a8L (a5S F m).2.1 ih.1 ih.2⟩
end Go.Lite
/-
  The reference's Eval: what it tells is what the machine comes to.
-/
namespace Go.Lite
open Go Go.Proofs
theorem aBI {H:Heap}{bs:List Nat}{t:Str}(h:bW 1 t):CellZ H bs (.done (.atom 1 t)) [.int .i64 2,.int .i64 0,.str [],.nils,.nils,.nils,.int .i64 1,.str t,.nilp,.nilp,.int .i64 0,.str [],.nils,.nils,.nils,.nils]:=
 ⟨[.int .i64 1,.str t,.nilp,.nilp,.int .i64 0,.str [],.nils,.nils,.nils,.nils],_,_,_,_,_,rfl,_,rfl,by decide,by decide,h,.inl rfl⟩
theorem a8J {H:Heap}{bs:List Nat}{a b:Nat}{ca cb:AV}(ha:PC bs a ca) (hb:PC bs b cb):CellZ H bs (.done (.pair a b)) [.int .i64 2,.int .i64 0,.str [],.nils,.nils,.nils,.int .i64 5,.str [],ca,cb,.int .i64 0,.str [],.nils,.nils,.nils,.nils]:=
 ⟨[.int .i64 5,.str [],ca,cb,.int .i64 0,.str [],.nils,.nils,.nils,.nils],_,_,_,_,_,rfl,ca,cb,rfl,ha,hb⟩
set_option maxHeartbeats 2000000 in
theorem aDI (l:List Str) (hl:∀ t∈l,bW 1 t) (hll:l.length≤1000000):Ev fun n=>∀ F km H bs s,StZ F km H bs s 0→∃ cv H' x,qB P5 n 30 [qE l] H=some (.ret cv,H')∧StZ F km H' (bs++x) (xZ l s).2 0∧PC (bs++x) (xZ l s).1 cv∧vO H H':=by
 refine Ev.succ ((Ev.ge (l.length+3)).mono fun n hn F km H bs s st=> ?_)
 rw[qG (P:=P5) (sf:=c30) rfl (aEb _ _) rfl rfl]
 simp -implicitDefEqProofs only[c30,↓qA,ZZ,seval,XS]
 refine zL (P:=fun r=>∃ cv H' x,r=some (.ret cv,H')∧StZ F km H' (bs++x) (xZ l s).2 0∧PC (bs++x) (xZ l s).1 cv∧vO H H') l.length (fun j fr H'=>∃ x cv,StZ F km H' (bs++x) (xZ (l.drop (l.length-j)) s).2 0∧PC (bs++x) (xZ (l.drop (l.length-j)) s).1 cv∧vO H H'∧fr 0=qE l∧fr 3=cv∧fr 4= .int .i64 (l.length-j:Nat)) ?_ ?_ n 0 _ _ (Nat.zero_le _) (by omega) ?_
 · rintro j fr H' K' hj ⟨x,cv,st',hp,same,q0,q3,q4⟩ hKe hKr hK
   have hgt:((l.length-j:Nat):Int)>0:=by omega
   have hw:IntKind.i64.wrap (((l.length-j:Nat):Int)-1)=((l.length-(j+1):Nat):Int):=by rw[wrap64 (by omega) (by omega)];omega
   have hi:l.length-(j+1)<l.length:=by omega
   have hd:l.drop (l.length-(j+1))=l[l.length-(j+1)]::l.drop (l.length-j):=by
    rw[List.drop_eq_getElem_cons hi]
    congr 2;omega
   have it:=yD (List.getElem?_eq_getElem hi)
   have hnum:=hl _ (List.getElem_mem hi)
   generalize l[l.length-(j+1)]=t at hd it hnum
   have sA:=st'.new (aBI (H:=H') (bs:=bs++x) hnum)
   have pA:PC ((bs++x)++[H'.n]) ((xZ (l.drop (l.length-j)) s).2.new (.done (.atom 1 t))).1 (.ptr (.new H'.n) 0):=by
    rw[show((xZ (l.drop (l.length-j)) s).2.new (.done (.atom 1 t))).1=(bs++x).length from st'.len.symm]
    exact PC.new
   have sB:=sA.new (a8J (H:=H'.push (.row [.int .i64 2,.int .i64 0,.str [],.nils,.nils,.nils,.int .i64 1,.str t,.nilp,.nilp,.int .i64 0,.str [],.nils,.nils,.nils,.nils] 0 false (some 126))) pA (hp.more (x:=[H'.n])))
   have fcv:cv.flat=true:=by obtain⟨_,_,rfl⟩:=hp;rfl
   simp -implicitDefEqProofs only[a7n,↓qA,ZZ,seval,q0,q3,q4,hgt,hw,it,fcv]
   refine hK _ _ ⟨x++[H'.n]++[H'.n+1],.ptr (.new (H'.n+1)) 0,?_,?_,?_,?_,?_,?_⟩
   · rw[hd,xZ]
     simpa only[List.append_assoc,h_n]using sB
   · rw[hd,xZ]
     have e:(((xZ (l.drop (l.length-j)) s).2.new (.done (.atom 1 t))).2.new (.done (.pair ((xZ (l.drop (l.length-j)) s).2.new (.done (.atom 1 t))).1 (xZ (l.drop (l.length-j)) s).1))).1=((bs++x)++[H'.n]).length:=sA.len.symm
     show PC (bs++(x++[H'.n]++[H'.n+1])) _ _
     rw[e,show bs++(x++[H'.n]++[H'.n+1])=((bs++x)++[H'.n])++[H'.n+1]by simp only[List.append_assoc]]
     exact PC.new
   · exact((same.pushed st.low).pushed st.low)
   all_goals simp -implicitDefEqProofs only[↓qA,ZZ,Nat.reduceBEq,reduceIte,Nat.reduceAdd,Nat.reduceLeDiff,Nat.reduceEqDiff,Nat.reduceBneDiff,q0]
 · rintro fr H' K' ⟨x,cv,st',hp,same,q0,q3,q4⟩ hKe hKr
   have hgt:¬((l.length-l.length:Nat):Int)>0:=by omega
   rw[Nat.sub_self,List.drop_zero]at st' hp
   simp -implicitDefEqProofs only[a7n,↓qA,ZZ,seval,q0,q3,q4,hgt,hKe]
   exact⟨cv,H',x,rfl,st',hp,same⟩
 · have h0:l.drop (l.length-0)=[]:=by simp
   refine⟨[H.n],.ptr (.new H.n) 0,?_,?_,HKeep.push st.low,?_,?_,?_⟩
   · rw[h0,xZ]
     exact st.new a0k
   · rw[h0,xZ,show(S.new s (.done (.atom 3 zD))).1=bs.length from st.len.symm]
     exact PC.new
   all_goals simp -implicitDefEqProofs only[↓qA,ZZ,Nat.reduceBEq,reduceIte,Nat.reduceAdd,Nat.reduceLeDiff,Nat.reduceEqDiff,Nat.reduceBneDiff,Nat.sub_zero]
set_option maxHeartbeats 8000000 in
theorem aEg (e:X) (hr:Room e [(xP,0)]) (F:Nat) (hF:F≤1099511627776) (l:List Str) (hl:∀ t∈l,bW 1 t) (hll:l.length≤1000000) {m:Nat}{o:O Str}(h:outA m e l F=some o):
 Ret P5 13 [e.v,qE l,.int .i64 F] (.tuple [.agg [.int .i64 o.kind,.str o.txt,.int .i64 0],.int .i64 o.st.steps,.int .i64 o.st.uses]):=by
 unfold outA at h
 obtain⟨p,hp,hh⟩:=Option.bind_eq_some_iff.1 h
 have hE:=(a5S F m).1 e _ _ p (show Room e [(xP,(xZ l ⟨[],0,0⟩).1)]from hr) hp
 have hP:Ev fun n=>∀ v s1,p= .val v s1→∀ q,printA F m [] v s1=some q→a1Z F v s1 [] q n:=Ev.val fun v s1 _=>Ev.opt fun q hq=>(aEs F m).1 [] v s1 q hq
 refine Ret.of rfl (aEo _ _) rfl rfl (fun H=>by
  obtain⟨k,t,ns,a⟩:=e
  rw[X.v_mk]
  simp -implicitDefEqProofs only[↓qA,ZZ,seval,XS]) ((hE.and (hP.and ((aDI l hl hll).and (print_over.and (Ev.ge 3))))).mono fun n hn H=> ?_)
 obtain⟨eE,eP,eL,eO,hn⟩:=hn
 obtain⟨k,t,ns,a⟩:=e
 rw[X.v_mk]at eE ⊢
 have low0:HLow H.bare:=HLow.bare
 -- the state at first
 have st0:StZ F 2 ((((H.bare.push (.row [.int .i64 k,.str t,qE ns,vXs a] 0 false (some 28))).push (.row [.int .i64 0,.str [],.int .i64 0] 0 false (some 34))).push (.row [.int .i64 0,.int .i64 0,.int .i64 F,.int .i64 0,.str [],.int .i64 0] 0 false (some 83))).push (.row [AV.int .i64 0,.str [],.nilp,.nilp,.int .i64 0,.str [],.nils,.nils,.nils,.nils] 0 false (some 88))) [] ⟨[],0,0⟩ 0:=by
  refine⟨low0.push.push.push.push,?_,List.nodup_nil,rfl,fun i b c hb=>by simp at hb,Nat.zero_le _,Nat.zero_le _,hF⟩
  rw[qF,if_neg (by simp only[h_n,vB];omega),qF,if_pos (by simp only[h_n,vB])];rfl
 obtain⟨cv,H1,x,z1,z2,z3,z4⟩:=eL F 2 _ [] _ st0
 have g0:=z4.get 0 _ (show _=some (Obj.row [.int .i64 k,.str t,qE ns,vXs a] 0 false (some 28))by rw[qF,if_neg (by simp only[h_n,vB];omega),qF,if_neg (by simp only[h_n,vB];omega),qF,if_neg (by simp only[h_n,vB];omega),qF,if_pos (by simp only[vB])]) fun h=>h
 have g1:=z4.get 1 _ (show _=some (Obj.row [.int .i64 0,.str [],.int .i64 0] 0 false (some 34))by rw[qF,if_neg (by simp only[h_n,vB];omega),qF,if_neg (by simp only[h_n,vB];omega),qF,if_pos (by simp only[h_n,vB])]) fun h=>h
 have g3:=z4.get 3 _ (show _=some (Obj.row [AV.int .i64 0,.str [],.nilp,.nilp,.int .i64 0,.str [],.nils,.nils,.nils,.nils] 0 false (some 88))by rw[qF,if_pos (by simp only[h_n,vB])]) fun h=>h
 have fcv:cv.flat=true:=by obtain⟨_,_,rfl⟩:=z3;rfl
 have kcv:vD cv=none:=by obtain⟨_,_,rfl⟩:=z3;rfl
 have st1:=z2.push (ob:= .row [.str xP,cv] 0 false none)
 have k1:vO H1 (H1.push (.row [.str xP,cv] 0 false none)):=HKeep.push z2.low
 have env1:EnvZ (H1.push (.row [.str xP,cv] 0 false none)) ([]++x) [(xP,(xZ l ⟨[],0,0⟩).1)] (.slice (.new H1.n) 0 1 (.fix 1 2)):=
  ⟨H1.n,[.str xP,cv],0,.fix 1 2,none,rfl,rfl,by simp,by rw[qF,if_pos rfl],.inl rfl,cv,[],rfl,z3,rfl⟩
 have hcall:=eE 2 _ _ _ (st1.weak (by omega)) env1
 have g01:=k1.get _ _ g0 fun h=>h
 have g11:=k1.get _ _ g1 fun h=>h
 have g31:=k1.get _ _ g3 fun h=>h
 have hz':((0:Int) != 0)=false:=rfl
 have n30:¬(3:Nat)=0:=by decide
 have n32:¬(3:Nat)=2:=by decide
 simp only[xP]at hcall
 cases p with
 | stop kk tt s1=>
   obtain rfl:=(Option.some.inj hh).symm
   obtain⟨c0,c1,c2,c3,c4,c5,c6,c7,c8,c9,H2,w1,⟨⟨f0,f1,f2,f3,f4⟩,f5,f6,f7,f8,f9⟩,w2,w3⟩:=hcall
   have g12:=w3.get _ _ g11 (qR (by decide) (by decide))
   have g32:=w3.get _ _ g31 (qR (by decide) (by decide))
   have gm:=w2.m
   have hne:(kk != 0)=true:=by simpa using w2.ne
   have l2:=w2.low.lt w2.m
   have ov:Over F 2 s1.steps s1.uses kk tt (H2.put 3 (.row [c0,c1,c2,c3,c4,c5,c6,c7,c8,c9] 0 false (some 88))):=⟨w2.low.put (w2.low.lt g32),by rw[qD,if_neg (by decide)];exact w2.m,w2.ne⟩
   have eO':=eO F 2 _ _ _ _ _ [] [c0,c1,c2,c3,c4,c5,c6,c7,c8,c9] ov
   simp only[mRow]at gm
   have l1:=w2.low.lt g12
   have m2:¬2=H2.n:=by omega
   have m1:¬1=H2.n:=by omega
   simp -implicitDefEqProofs only[c13,↓qA,ZZ,seval,CL,XS,z1,g0,fcv,kcv,w1,f0,f1,f2,f3,f4,f5,f6,f7,f8,f9,g32,eO',gm,m2,m1,hne,g12,Ends,qC]
   exact⟨_,rfl⟩
 | val v s1=>
   have hh:printA F m [] v s1=some o:=hh
   obtain⟨cs,H2,y,w1,w2,w3,w4⟩:=hcall
   obtain⟨tx,c2,c3,c4,c5,c6,c7,c8,c9,rfl,_,_,_,⟨f2,f3,f4,f5⟩,⟨f6,f7,f8,f9⟩⟩:=w2.ten
   have g12:=w4.get _ _ g11 (qR (by decide) (by decide))
   have g32:=w4.get _ _ g31 (qR (by decide) (by decide))
   have st4:=w3.box g32 (by decide) (ob:= .row [.int .i64 v.kind,.str tx,c2,c3,c4,c5,c6,c7,c8,c9] 0 false (some 88))
   have g13:(H2.put 3 (.row [.int .i64 v.kind,.str tx,c2,c3,c4,c5,c6,c7,c8,c9] 0 false (some 88))).t.get 1=some (.row [.int .i64 0,.str [],.int .i64 0] 0 false (some 34)):=by rw[qD,if_neg (by decide)];exact g12
   have hpr:=eP v s1 rfl o hh 2 _ _ _ st4 (by simp) (w2.stay (StayQ.put g32 (by decide) (by decide)))
   cases o with
   | stop kk tt s2=>
     obtain⟨u,H3,q1,q2,q3,q4⟩:=hpr
     have g14:=q4.get _ _ g13 (qR (by decide) (by decide))
     have gm:=q3.m
     have hne:(kk != 0)=true:=by simpa using q3.ne
     simp only[mRow]at gm
     simp -implicitDefEqProofs only[c13,↓qA,ZZ,seval,CL,XS,z1,g0,fcv,kcv,w1,f2,f3,f4,f5,f6,f7,f8,f9,g32,q1,gm,hne,g14,Ends,qC]
     exact⟨_,rfl⟩
   | val out s2=>
     obtain⟨H3,y2,q1,q2,q3,q4⟩:=hpr
     have g14:=q3.get _ _ g13 (qR (by decide) (by decide))
     have gm:=q2.m
     simp only[mRow]at gm
     simp -implicitDefEqProofs only[c13,↓qA,ZZ,seval,CL,XS,z1,g0,fcv,kcv,w1,f2,f3,f4,f5,f6,f7,f8,f9,g32,q1,gm,hz',g14,Ends,qC]
     exact⟨_,rfl⟩
end Go.Lite
