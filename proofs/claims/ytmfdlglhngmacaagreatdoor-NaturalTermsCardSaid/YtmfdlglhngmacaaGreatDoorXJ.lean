/-
  Several texts in one: TNGoodN, TNRef, TNRefB.
-/
import Derived.Test.YtmfdlglhngmacaaGreatDoorXI
import Derived.Test.YtmfdlglhngmacaaGreatDoorXT
set_option linter.unusedSimpArgs false
set_option linter.unusedVariables false
set_option linter.defProp false
set_option maxRecDepth 100000
/-
  What norm does to sizes, names that are bound, names that are free.
-/
namespace Go.Lite
open Go Go.Proofs
theorem a8Z (l:List X) (i c m:Nat) (h:i+l.length≤m):(X.nrms l m i c).2.1=[]:=by
 induction l generalizing i c with
 | nil=>simp[X.nrms]
 | cons x l ih=>
   simp only[List.length_cons]at h
   rw[X.nrms,if_neg (by omega)]
   exact ih _ _ (by omega)
theorem a4w (p:Str×X) (l:List (Str×X)) (e:X):(zH (p::l) e).atom=false:=rfl
theorem a5Y (x:X) (c:Nat):(x.nrm c).1.atom=x.atom:=by
 obtain⟨k,t,ns,l⟩:=x
 rw[X.nrm]
 cases hm:must k t with
 | none=>
   rw[Option.getD_none,a8Z l 0 c l.length (by omega)]
   rfl
 | some m=>
   rw[Option.getD_some]
   have hk:nZ k=false:=by
    rcases a8Y hm with⟨rfl,_⟩|⟨rfl,_,_⟩<;>rfl
   cases(X.nrms l m 0 c).2.1 with
   | nil=>rfl
   | cons p q=>rw[a4w];exact hk.symm
theorem a6J (l:List X) (h:∀ x∈l,∀ c,(x.nrm c).2=c+x.thick) (m i c:Nat):(X.nrms l m i c).2.2=c+X.thicks l m i:=by
 induction l generalizing i c with
 | nil=>simp[X.nrms,X.thicks]
 | cons x l ih=>
   have hx:=h x (by simp) c
   have ih:=fun i c=>ih (fun y hy=>h y (by simp[hy])) i c
   rw[X.nrms,X.thicks,a5Y]
   split
   · simp only[ih,hx];omega
   · simp only[ih,hx];omega
theorem a0l:∀ (x:X) (c:Nat),(x.nrm c).2=c+x.thick:=X.indA fun k t ns l ih c=>by
 rw[X.nrm,X.thick]
 exact a6J l ih _ _ _
def pcts (c n:Nat):List Str:=(List.range' (c+1) n).map pct
theorem a1E (c a b:Nat):pcts c (a+b)=pcts c a++pcts (c+a) b:=by
 unfold pcts
 rw[←List.map_append,show c+a+1=(c+1)+a by omega,List.range'_append_1]
theorem aAP (c:Nat):pcts c 1=[pct (c+1)]:=rfl
def wK (l:List (Str×X)):List Str:=l.flatMap fun p=>p.1::p.2.bnd
theorem a6b (l:List (Str×X)) (e:X):(zH l e).bnd=wK l++e.bnd:=by
 induction l with
 | nil=>simp[zH,wK]
 | cons p l ih=>
   show(bQ p.1 p.2 (zH l e)).bnd=_
   simp only[bQ,X.bnd,X.bnds,ih,wK,List.flatMap_cons,List.append_nil]
   simp
theorem aBB (l:List X) (h:∀ x∈l,∀ c,(x.nrm c).1.bnd.Perm (x.bnd++pcts c x.thick)) (m i c:Nat):
 (wK (X.nrms l m i c).2.1++X.bnds (X.nrms l m i c).1).Perm (X.bnds l++pcts c (X.thicks l m i)):=by
 induction l generalizing i c with
 | nil=>simp[X.nrms,X.thicks,X.bnds,wK,pcts]
 | cons x l ih=>
   have hx:=h x (by simp) c
   have hc:=a0l x c
   rw[X.nrms,X.thicks,a5Y]
   split
   · have:=ih (fun y hy=>h y (by simp[hy])) (i+1) ((x.nrm c).2+1)
     rw[hc]at this
     simp only[wK]at this ⊢
     simp only[X.bnds,List.flatMap_cons,hc,varX,X.bnd,List.nil_append]
     rw[a1E,a1E,aAP,List.cons_append,List.cons_append,List.append_assoc]
     have h1:=List.Perm.append hx this
     refine(List.Perm.cons _ h1).trans ?_
     rw[show c+(x.thick+1)=c+x.thick+1 by omega]
     simp only[List.append_assoc,List.cons_append,List.nil_append]
     generalize pcts c x.thick=A
     generalize pcts (c+x.thick+1) (X.thicks l m (i+1))=B
     generalize pct (c+x.thick+1)=p
     have h2:(x.bnd++(A++(X.bnds l++B))).Perm (x.bnd++(X.bnds l++(A++B))):=by
      refine List.Perm.append_left _ ?_
      rw[←List.append_assoc,←List.append_assoc]
      exact List.Perm.append_right _ List.perm_append_comm
     refine(List.Perm.cons _ h2).trans ?_
     rw[show x.bnd++(X.bnds l++(A++p::B))=(x.bnd++X.bnds l++A)++p::B by simp]
     refine List.Perm.trans ?_ List.perm_middle.symm
     simp
   · have:=ih (fun y hy=>h y (by simp[hy])) (i+1) (x.nrm c).2
     rw[hc]at this
     simp only[Nat.add_zero,X.bnds]
     rw[a1E,hc]
     rw[←List.append_assoc]
     have h0:(wK (X.nrms l m (i+1) (c+x.thick)).2.1++(x.nrm c).1.bnd++X.bnds (X.nrms l m (i+1) (c+x.thick)).1).Perm ((x.nrm c).1.bnd++(wK (X.nrms l m (i+1) (c+x.thick)).2.1++X.bnds (X.nrms l m (i+1) (c+x.thick)).1)):=by
      rw[←List.append_assoc]
      exact List.Perm.append_right _ List.perm_append_comm
     refine h0.trans ((List.Perm.append hx this).trans ?_)
     simp only[List.append_assoc]
     refine List.Perm.append_left _ ?_
     rw[←List.append_assoc,←List.append_assoc]
     exact List.Perm.append_right _ List.perm_append_comm
theorem aDa:∀ (x:X) (c:Nat),(x.nrm c).1.bnd.Perm (x.bnd++pcts c x.thick):=X.indA fun k t ns l ih c=>by
 have:=aBB l ih ((must k t).getD l.length) 0 c
 rw[X.nrm,X.thick,a6b,X.bnd,X.bnd]
 rw[←List.append_assoc,List.append_assoc ns]
 refine List.Perm.trans ?_ (List.Perm.append_left ns this)
 rw[←List.append_assoc]
 exact List.Perm.append_right _ List.perm_append_comm
theorem a9P (n:Nat):pct n≠[]:=by simp[pct]
theorem a7b (n:Nat):(varX (pct n)).right:=⟨.inr (.inr (.inr (.inr (.inl ⟨rfl,a9P n,rfl,rfl⟩)))),a9m,trivial⟩
theorem a2x (l:List (Str×X)) (e:X) (hl:∀ p∈l,p.1≠[]∧p.2.right) (he:e.right):(zH l e).right:=by
 induction l with
 | nil=>exact he
 | cons p l ih=>
   have h1:=ih fun q hq=>hl q (by simp[hq])
   have h2:=hl p (by simp)
   show(bQ p.1 p.2 (zH l e)).right
   exact⟨.inr (.inr (.inr (.inr (.inr (.inr (.inr (.inr (.inl ⟨rfl,rfl,by simp,rfl⟩)))))))),a90 h2.1,h2.2,h1,trivial⟩
theorem a6U (l:List X) (h:∀ x∈l,∀ c,(x.nrm c).1.right) (m i c:Nat):(∀ p∈(X.nrms l m i c).2.1,p.1≠[]∧p.2.right)∧(∀ y∈(X.nrms l m i c).1,y.right):=by
 induction l generalizing i c with
 | nil=>simp[X.nrms]
 | cons x l ih=>
   have hx:=h x (by simp) c
   have ih:=fun i c=>ih (fun y hy=>h y (by simp[hy])) i c
   rw[X.nrms]
   split
   · obtain⟨h1,h2⟩:=ih (i+1) ((x.nrm c).2+1)
     refine⟨fun p hp=> ?_,fun y hy=> ?_⟩
     · rcases List.mem_cons.1 hp with rfl|hp
       · exact⟨a9P _,hx⟩
       · exact h1 p hp
     · rcases List.mem_cons.1 hy with rfl|hy
       · exact a7b _
       · exact h2 y hy
   · obtain⟨h1,h2⟩:=ih (i+1) (x.nrm c).2
     refine⟨h1,fun y hy=> ?_⟩
     rcases List.mem_cons.1 hy with rfl|hy
     · exact hx
     · exact h2 y hy
theorem a3d:∀ (x:X),x.right→∀ c,(x.nrm c).1.right:=X.indA fun k t ns a ih hf c=>by
 obtain⟨f1,f2,f3⟩:=hf
 have f3:=(gD a).1 f3
 rw[X.nrm]
 obtain⟨h1,h2⟩:=a6U a (fun x hx=>ih x hx (f3 x hx)) ((must k t).getD a.length) 0 c
 exact a2x _ _ h1 ⟨by rw[a4Y];exact f1,f2,(gD _).2 h2⟩
end Go.Lite
/-
  The document's norm.
-/
namespace Go.Lite
open Go Go.Proofs
def aGe (x:X):Prop:=∀ c:Nat,(x.nrm c).2<100→Ev fun n=>∀ (H:Heap) (k0:Nat) (ty:Option Nat),HLow H→H.t.get k0=some (.row [.str [37,46],.int .i64 c] 0 false ty)→
 Gives (gL P5 n 23 [.ptr (.new k0) 0,x.v] H) fun v H'=>v=(x.nrm c).1.v∧H'.t.get k0=some (.row [.str [37,46],.int .i64 (x.nrm c).2] 0 false ty)∧HKeep (only k0) H H'
set_option maxHeartbeats 4000000 in
theorem aER : ∀ x : X, x.fit → aGe x := X.indA fun k t ns l ih hf c hc => by
 obtain⟨f1,f2,f3⟩:=hf
 have f3:=(X.fits_iff l).1 f3
 rw[X.nrm]at hc ⊢
 simp only[]at hc ⊢
 have ihe:Ev fun n=>∀ x∈l,∀ b∈List.range 100,(x.nrm b).2<100→∀ (H:Heap) (k0:Nat) (ty:Option Nat),HLow H→H.t.get k0=some (.row [.str [37,46],.int .i64 b] 0 false ty)→
  Gives (gL P5 n 23 [.ptr (.new k0) 0,x.v] H) fun v H'=>v=(x.nrm b).1.v∧H'.t.get k0=some (.row [.str [37,46],.int .i64 (x.nrm b).2] 0 false ty)∧HKeep (only k0) H H':=by
  refine Ev.all l fun x hx=>Ev.all _ fun b hb=> ?_
  by_cases h:(x.nrm b).2<100
  · exact(ih x hx (f3 x hx) b h).mono fun n hn _=>hn
  · exact Ev.of fun n h'=>absurd h' h
 have nme:Ev fun n=>∀ b∈List.range 100,b+1<100→∀ (H:Heap) (k0:Nat) (ty:Option Nat),HLow H→H.t.get k0=some (.row [.str [37,46],.int .i64 b] 0 false ty)→
  Gives (gL P5 n 44 [.ptr (.new k0) 0] H) fun v H'=>v= .str (pct (b+1))∧H'.t.get k0=some (.row [.str [37,46],.int .i64 (b+1:Nat)] 0 false ty)∧HKeep (only k0) H H':=by
  refine Ev.all _ fun b hb=> ?_
  by_cases h:b+1<100
  · exact(aDP b h).mono fun n hn _=>hn
  · exact Ev.of fun n h'=>absurd h' h
 have ate:Ev fun n=>∀ x∈l,∀ b∈List.range 100,∀ H,qB P5 n 43 [(x.nrm b).1.v] H=some (.ret (.bool (x.nrm b).1.atom),H):=Ev.all l fun x _=>Ev.all _ fun b _=>aBE _
 have vre:Ev fun n=>∀ b∈List.range 101,∀ H,qB P5 n 19 [.str (pct b)] H=some (.ret (varX (pct b)).v,H):=Ev.all _ fun b _=>aCd _
 have bde:Ev fun n=>∀ p∈(X.nrms l ((must k t).getD l.length) 0 c).2.1,∀ r∈List.range (l.length+1),∀ H,qB P5 n 18 [.str p.1,p.2.v,(zH ((X.nrms l ((must k t).getD l.length) 0 c).2.1.drop r) (.mk k t ns (X.nrms l ((must k t).getD l.length) 0 c).1)).v] H=
  some (.ret (bQ p.1 p.2 (zH ((X.nrms l ((must k t).getD l.length) 0 c).2.1.drop r) (.mk k t ns (X.nrms l ((must k t).getD l.length) 0 c).1))).v,H):=Ev.all _ fun p _=>Ev.all _ fun r _=>aDY _ _ _
 refine Ev.succ ((ihe.and (nme.and (ate.and ((aES k t ns l).and (vre.and (bde.and (Ev.ge (l.length+3)))))))).mono fun n hn H k0 ty low g0=> ?_)
 obtain⟨ihn,nmn,atn,e35,vrn,bdn,hge⟩:=hn
 rw[zD (P:=P5) (sf:=c23) (aFg _ _) rfl]
 refine xK ?_
 have hk0:=low.lt g0
 have n0:¬k0=H.n:=by omega
 have n1:¬k0=H.n+1:=by omega
 have n2:¬k0=H.n+2:=by omega
 have n3:¬k0=H.n+3:=by omega
 rw[X.v_mk]at e35
 have lowa:HLow ((((H.push (.row [.int .i64 k,.str t,qE ns,vXs l] 0 false (some 28))).push (.row [.int .i64 0,.str [],.nils,.nils] 0 false (some 28))).push (.row [] 0 true none)).push (.row [.int .i64 0,.str [],.nils,.nils] 0 false (some 28))):=low.push.push.push.push
 obtain⟨vn,H1,happ,nat1,low1,hn1,hrow1,kp1⟩:=a0o lowa ns f1
 have fvn:=nat1.flat
 have e0:=hrow1 H.n (by simp only[h_n];omega)
 have e1:=hrow1 (H.n+1) (by simp only[h_n];omega)
 have e3:=hrow1 (H.n+3) (by simp only[h_n];omega)
 have ek:=hrow1 k0 (by simp only[h_n];omega)
 have m1:¬H.n=H.n+1:=by omega
 have m2:¬H.n=H.n+2:=by omega
 have m3:¬H.n=H.n+3:=by omega
 have m4:¬H.n+1=H.n+2:=by omega
 have m5:¬H.n+1=H.n+3:=by omega
 have m6:¬H.n+1=H.n:=by omega
 have m7:¬H.n+3=H.n:=by omega
 have m8:¬H.n+3=H.n+1:=by omega
 simp -implicitDefEqProofs only[qF,h_n,m1,m2,m3,m4,m5,m6,n0,n1,n2,n3,g0,if_neg,if_pos,Nat.add_assoc,Nat.reduceAdd]at e0 e1 e3 ek
 have kpa:HKeep (only k0) H H1:=(((HKeep.push low).pushed low).pushed low).pushed low |>.trans (kp1.mono fun _ _ _ h=>h.elim)
 simp only[h_n,Nat.add_assoc,Nat.reduceAdd]at nat1 hn1
 generalize hm:(must k t).getD l.length=m at *
 simp -implicitDefEqProofs only[c23,↓qA,ZZ,Nat.reduceBEq,reduceIte,Nat.reduceAdd,Nat.reduceLeDiff,Nat.reduceEqDiff,Nat.reduceBneDiff,CL,XS,g0,n0,n1,n2,m1,m2,m3,m4,m5,m6,m7,m8,nC,happ,fvn,e0,e1,e3,e35]
 have hz:(∃ z:Nat,m=z∧sO k t=z)∨(m=l.length∧sO k t= -1):=by
  unfold sO
  cases h:must k t with
  | none=>rw[h]at hm;exact .inr ⟨hm.symm,rfl⟩
  | some z=>rw[h]at hm;exact .inl ⟨z,hm.symm,rfl⟩
 have hn1':H.n+3<H1.n:=by omega
 have nat2:=nat1.kept (X:=only (H.n+3)) (HKeep.put (X:=only (H.n+3)) (fun _=>rfl) hn1' (ob:= .row [.int .i64 k,.str t,vn,.nils] 0 false (some 28))) fun j o hj _=>qL (by omega)
 refine qM l.length (fun i fr H2=>∃ nv vv pv,Acc H.n H2 9 1 (X.nrms (l.take i) m 0 c).2.1.length (((X.nrms (l.take i) m 0 c).2.1.map Prod.fst).flatMap str1) nv∧Acc H.n H2 28 4 (X.nrms (l.take i) m 0 c).2.1.length (((X.nrms (l.take i) m 0 c).2.1.map Prod.snd).flatMap X.cells) vv∧
  Acc H.n H2 28 4 i ((X.nrms (l.take i) m 0 c).1.flatMap X.cells) pv∧NamesAt H.n H2 ns vn∧Apart nv vn∧Apart vv pv∧
  HLow H2∧HKeep (only k0) H H2∧H.n+3<H2.n∧H2.t.get k0=some (.row [.str [37,46],.int .i64 (X.nrms (l.take i) m 0 c).2.2] 0 false ty)∧
  fr 0= .ptr (.new k0) 0∧fr 3= .ptr (.new H.n) 0∧fr 4= .ptr (.new (H.n+1)) 0∧fr 5= .ptr (.new (H.n+3)) 0∧fr 6= .int .i64 (sO k t)∧fr 7=nv∧fr 8=vv∧fr 9= .int .i64 i∧
  H2.t.get H.n=some (.row [.int .i64 k,.str t,qE ns,vXs l] 0 false (some 28))∧H2.t.get (H.n+1)=some (.row [.int .i64 0,.str [],.nils,.nils] 0 false (some 28))∧H2.t.get (H.n+3)=some (.row [.int .i64 k,.str t,vn,pv] 0 false (some 28))) ?_ ?_ n 0 _ _ (by omega) (by omega) ?_
 · rintro i fr H2 K' hi ⟨nv, vv, pv, accn, accv, accp, nat, apn, apv, low2, kp, hn2, gk, r0, r3, r4, r5, r6, r7, r8, r9, gb0, gb1, gb3⟩ hKe hKr hK
   obtain⟨x,hx⟩:∃ x,l[i]? = some x:=⟨l[i],List.getElem?_eq_getElem hi⟩
   have hlt:(i:Int)<(l.length:Int):=by omega
   have hw:=qR hi (by omega)
   have hnt:=a8w hx m c
   have hle1:=a4q l m (i+1) c
   have hll2:=(nW (l.take i) m 0 c).1
   rw[List.length_take]at hll2
   rw[hnt]at hle1
   generalize X.nrms (l.take i) m 0 c=S at *
   obtain⟨ps,ls,b⟩:=S
   simp only[]at hnt hle1 gk accn accv accp hll2
   have hbx:(x.nrm b).2<100:=by
    split at hle1<;>simp only[]at hle1<;>omega
   have hb:b<100:=by have:=a7w x b;omega
   have ey:=atn x (List.mem_of_getElem? hx) b (List.mem_range.2 hb)
   have e1:=ihn x (List.mem_of_getElem? hx) b (List.mem_range.2 hb) hbx _ k0 ty low2 gk
   generalize x.nrm b=R at *
   obtain⟨y,b2⟩:=R
   simp only[]at e1 hnt hle1 hbx ey
   obtain⟨kx,tx,nx,lx⟩:=x
   obtain⟨ky,ty',ny,ly⟩:=y
   simp only[X.v_mk,X.cells_mk]at e1 ey
   have fn:=accn.flat
   have fv:=accv.flat
   have fp:=accp.flat
   simp -implicitDefEqProofs only[a6C,↓qA,ZZ,seval,CL,XS,r0,r3,r4,r5,r6,r7,r8,r9,gb0,gb1,gb3,hlt,xO hx]
   refine xD e1 ?_
   rintro w H5 ⟨rfl,gk5,kp5⟩
   have low5:=kp5.low low2
   have hk2:=low2.lt gk
   have hg0:=kp5.get _ _ gb0 (qL (Ne.symm n0))
   have hg1:=kp5.get _ _ gb1 (qL (Ne.symm n1))
   have hg3:=kp5.get _ _ gb3 (qL (Ne.symm n3))
   have hn5:=low5.lt hg3
   have accn5:=accn.kept kp5 fun j hj _=>qL (by omega)
   have accv5:=accv.kept kp5 fun j hj _=>qL (by omega)
   have accp5:=accp.kept kp5 fun j hj _=>qL (by omega)
   have nat5:=nat.kept kp5 fun j o hj _=>qL (by omega)
   have kp5':=kp.trans kp5
   have hk5:=low5.lt gk5
   have z0:¬H.n=H5.n:=by omega
   have z1:¬H.n+1=H5.n:=by omega
   have z3:¬H.n+3=H5.n:=by omega
   have zk:¬k0=H5.n:=by omega
   simp -implicitDefEqProofs only[↓qA,ZZ,seval,CL,XS,r0,r3,r4,r5,r6,r7,r8,r9]
   have low6:HLow ((H5.push (.row [.int .i64 0,.str [],.nils,.nils] 0 false (some 28))).put H5.n (.row [.int .i64 ky,.str ty',qE ny,vXs ly] 0 false (some 28))):=low5.push.put (by simp only[h_n];omega)
   have n6:((H5.push (.row [.int .i64 0,.str [],.nils,.nils] 0 false (some 28))).put H5.n (.row [.int .i64 ky,.str ty',qE ny,vXs ly] 0 false (some 28))).n=H5.n+1:=by rw[xJ,h_n]
   have g10:((H5.push (.row [.int .i64 0,.str [],.nils,.nils] 0 false (some 28))).put H5.n (.row [.int .i64 ky,.str ty',qE ny,vXs ly] 0 false (some 28))).t.get H5.n=some (.row [.int .i64 ky,.str ty',qE ny,vXs ly] 0 false (some 28)):=by rw[qD,if_pos rfl]
   have car6:∀ j cs tt,j<H5.n→H5.t.get j=some (.row cs 0 false tt)→((H5.push (.row [.int .i64 0,.str [],.nils,.nils] 0 false (some 28))).put H5.n (.row [.int .i64 ky,.str ty',qE ny,vXs ly] 0 false (some 28))).t.get j=some (.row cs 0 false tt):=fun j cs tt hj hg=>by
    rw[qD,if_neg (by omega),qF,if_neg (by omega)];exact hg
   have hgz:(H5.push (.row [.int .i64 0,.str [],.nils,.nils] 0 false (some 28))).t.get H5.n=some (.row [.int .i64 0,.str [],.nils,.nils] 0 false (some 28)):=by rw[qF,if_pos rfl]
   have accn6:=(accn5.push low5 (ob:= .row [.int .i64 0,.str [],.nils,.nils] 0 false (some 28))).put (by decide) hgz (ob:= .row [.int .i64 ky,.str ty',qE ny,vXs ly] 0 false (some 28))
   have accv6:=(accv5.push low5 (ob:= .row [.int .i64 0,.str [],.nils,.nils] 0 false (some 28))).put (by decide) hgz (ob:= .row [.int .i64 ky,.str ty',qE ny,vXs ly] 0 false (some 28))
   have accp6:=(accp5.push low5 (ob:= .row [.int .i64 0,.str [],.nils,.nils] 0 false (some 28))).put (by decide) hgz (ob:= .row [.int .i64 ky,.str ty',qE ny,vXs ly] 0 false (some 28))
   have hkz:HKeep (fun j _=>H5.n≤j) H5 ((H5.push (.row [.int .i64 0,.str [],.nils,.nils] 0 false (some 28))).put H5.n (.row [.int .i64 ky,.str ty',qE ny,vXs ly] 0 false (some 28))):=⟨by rw[n6];omega,fun j o hj ho=>by
    have:=low5.lt hj
    rw[qD,if_neg (by omega),qF,if_neg (by omega)];exact hj,fun _=>low6⟩
   have nat6:NamesAt H.n ((H5.push (.row [.int .i64 0,.str [],.nils,.nils] 0 false (some 28))).put H5.n (.row [.int .i64 ky,.str ty',qE ny,vXs ly] 0 false (some 28))) ns vn:=by
    rcases nat5 with h|h
    · exact .inl h
    · exact .inr ((h.push low5 (ob:= .row [.int .i64 0,.str [],.nils,.nils] 0 false (some 28))).put (by decide) hgz (ob:= .row [.int .i64 ky,.str ty',qE ny,vXs ly] 0 false (some 28)))
   have kp6:=(kp5'.pushed low (ob:= .row [.int .i64 0,.str [],.nils,.nils] 0 false (some 28))).own low (j:=H5.n) (by omega) (by simp only[h_n];omega) (ob:= .row [.int .i64 ky,.str ty',qE ny,vXs ly] 0 false (some 28))
   have gk6:=car6 _ _ _ hk5 gk5
   have gc0:=car6 _ _ _ (by omega) hg0
   have gc1:=car6 _ _ _ (by omega) hg1
   have gc3:=car6 _ _ _ hn5 hg3
   clear hkz
   generalize (H5.push (.row [.int .i64 0,.str [],.nils,.nils] 0 false (some 28))).put H5.n (.row [.int .i64 ky,.str ty',qE ny,vXs ly] 0 false (some 28))=H6 at *
   by_cases hcase:m≤i∧(X.mk ky ty' ny ly).atom=false
   · rw [if_pos hcase] at hnt hle1
     simp only[]at hle1
     obtain⟨hmi,hat⟩:=hcase
     rw[hat]at ey
     have hz':sO k t=(m:Int):=by
      rcases hz with⟨z,rfl,hz⟩|⟨rfl,hz⟩
      · exact hz
      · omega
     have hmi':(m:Int)≤(i:Int):=by omega
     have e2:=nmn b2 (List.mem_range.2 (by omega)) (by omega) H6 k0 ty low6 gk6
     have e25:=vrn (b2+1) (List.mem_range.2 (by omega))
     simp only[varX,X.v_mk]at e25
     simp -implicitDefEqProofs only[↓qA,ZZ,seval,CL,XS,r0,r3,r4,r5,r6,r7,r8,r9,hz',ge_iff_le,Int.natCast_nonneg,hmi',g10,gc3,ey]
     refine xD e2 ?_
     rintro w H7 ⟨rfl,gk7,kp7⟩
     have low7:=kp7.low low6
     have g107:=kp7.get _ _ g10 (qL (Ne.symm zk))
     have gd0:=kp7.get _ _ gc0 (qL (Ne.symm n0))
     have gd1:=kp7.get _ _ gc1 (qL (Ne.symm n1))
     have gd3:=kp7.get _ _ gc3 (qL (Ne.symm n3))
     have accn7:=accn6.kept kp7 fun j hj _=>qL (by omega)
     have accv7:=accv6.kept kp7 fun j hj _=>qL (by omega)
     have accp7:=accp6.kept kp7 fun j hj _=>qL (by omega)
     have nat7:=nat6.kept kp7 fun j o hj _=>qL (by omega)
     have kp7':=kp6.trans kp7
     have hn7:=low7.lt g107
     have hk7:=low7.lt gk7
     have l8a:=low7.push (ob:= .row [.str (pct (b2+1))] 0 true none)
     have l8b:=l8a.push (ob:= .row [.int .i64 ky,.str ty',qE ny,vXs ly] 0 true none)
     have accn8:=(accn7.push low7 (ob:= .row [.str (pct (b2+1))] 0 true none)).push l8a (ob:= .row [.int .i64 ky,.str ty',qE ny,vXs ly] 0 true none)
     have accv8:=(accv7.push low7 (ob:= .row [.str (pct (b2+1))] 0 true none)).push l8a (ob:= .row [.int .i64 ky,.str ty',qE ny,vXs ly] 0 true none)
     have accp8:=(accp7.push low7 (ob:= .row [.str (pct (b2+1))] 0 true none)).push l8a (ob:= .row [.int .i64 ky,.str ty',qE ny,vXs ly] 0 true none)
     have kp8':=(kp7'.pushed low (ob:= .row [.str (pct (b2+1))] 0 true none)).pushed low (ob:= .row [.int .i64 ky,.str ty',qE ny,vXs ly] 0 true none)
     obtain⟨H8,happ8,accn9,kp9,low9,hn9⟩:=accn8.one_more (e:=9) (bs:=16) (ys:=[.str (pct (b2+1))]) (by simp only[h_n];omega) l8b (by decide) rfl rfl (by omega)
     have accv9:=accn8.other accv8 (by decide) kp9
     have accp9:=accn8.other accp8 (by decide) kp9
     have apn9:Apart (.slice (.new (H7.n+1+1)) 0 (ls.length+1) (.gro 1)) vn:=nat7.apart_fresh low7 (by omega)
     have nat9:NamesAt H.n H8 ns vn:=by
      rcases nat7 with h|h
      · exact .inl h
      · exact .inr (accn8.beside ((h.push low7 (ob:= .row [.str (pct (b2+1))] 0 true none)).push l8a (ob:= .row [.int .i64 ky,.str ty',qE ny,vXs ly] 0 true none)) apn kp9)
     have kp9':=accn8.keeps kp8' low kp9
     have car8:∀ j cs tt,j<H7.n→H7.t.get j=some (.row cs 0 false tt)→H8.t.get j=some (.row cs 0 false tt):=fun j cs tt hj hg=>
      accn8.row (by decide) kp9 (by rw[qF,if_neg (by simp only[h_n];omega),qF,if_neg (by omega)];exact hg)
     have g108:=car8 _ _ _ hn7 g107
     simp only[h_n]at happ8 accn9 hn9
     obtain⟨H9,happ9,accvA,kpA,lowA,hnA⟩:=accv9.one_more (e:=28) (bs:=72) (ys:=[.int .i64 ky,.str ty',qE ny,vXs ly]) (by omega) low9 (by decide) rfl jS (by omega)
     have accnA:=accv9.other accn9 (by decide) kpA
     have accpA:=accv9.beside accp9 apv kpA
     have natA:NamesAt H.n H9 ns vn:=by
      rcases nat9 with h|h
      · exact .inl h
      · exact .inr (accv9.other h (by decide) kpA)
     have kpA':=accv9.keeps kp9' low kpA
     have carA:∀ j cs tt,j<H7.n→H7.t.get j=some (.row cs 0 false tt)→H9.t.get j=some (.row cs 0 false tt):=fun j cs tt hj hg=>accv9.row (by decide) kpA (car8 j cs tt hj hg)
     have g109:=carA _ _ _ hn7 g107
     have hn9':H5.n<H9.n:=by omega
     have lowB:=lowA.put hn9' (ob:= .row [.int .i64 5,.str (pct (b2+1)),qE [],vXs []] 0 false (some 28))
     have lowC:=lowB.push (ob:= .row [.int .i64 5,.str (pct (b2+1)),qE [],vXs []] 0 true none)
     have accnC:=(accnA.put (by decide) g109 (ob:= .row [.int .i64 5,.str (pct (b2+1)),qE [],vXs []] 0 false (some 28))).push lowB (ob:= .row [.int .i64 5,.str (pct (b2+1)),qE [],vXs []] 0 true none)
     have accvC:=(accvA.put (by decide) g109 (ob:= .row [.int .i64 5,.str (pct (b2+1)),qE [],vXs []] 0 false (some 28))).push lowB (ob:= .row [.int .i64 5,.str (pct (b2+1)),qE [],vXs []] 0 true none)
     have accpC:=(accpA.put (by decide) g109 (ob:= .row [.int .i64 5,.str (pct (b2+1)),qE [],vXs []] 0 false (some 28))).push lowB (ob:= .row [.int .i64 5,.str (pct (b2+1)),qE [],vXs []] 0 true none)
     have kpC':=(kpA'.own low (j:=H5.n) (by omega) hn9' (ob:= .row [.int .i64 5,.str (pct (b2+1)),qE [],vXs []] 0 false (some 28))).pushed low (ob:= .row [.int .i64 5,.str (pct (b2+1)),qE [],vXs []] 0 true none)
     obtain⟨HD,happD,accpD,kpD,lowD,hnD⟩:=accpC.one_more (e:=28) (bs:=72) (ys:=[.int .i64 5,.str (pct (b2+1)),qE [],vXs []]) (by simp only[h_n,xJ];omega) lowC (by decide) rfl jS (by omega)
     have accnD:=accpC.other accnC (by decide) kpD
     have apvD:Apart pv (.slice (.new H8.n) 0 (ls.length+1) (.gro 4)):=(accp9.fresh low9 (by omega)).symm
     have accvD:=accpC.beside accvC apvD kpD
     have natD:NamesAt H.n HD ns vn:=by
      rcases natA with h|h
      · exact .inl h
      · exact .inr (accpC.other ((h.put (by decide) g109 (ob:= .row [.int .i64 5,.str (pct (b2+1)),qE [],vXs []] 0 false (some 28))).push lowB (ob:= .row [.int .i64 5,.str (pct (b2+1)),qE [],vXs []] 0 true none)) (by decide) kpD)
     have kpD':=accpC.keeps kpC' low kpD
     have apvE:=(accvC.fresh lowC (k:=H9.n+1) (o:=0) (m:=i+1) (c:= .gro 4) (by simp only[h_n,xJ];omega)).symm
     have carD:∀ j cs tt,j<H5.n→H7.t.get j=some (.row cs 0 false tt)→HD.t.get j=some (.row cs 0 false tt):=fun j cs tt hj hg=>
      accpC.row (by decide) kpD (by rw[qF,if_neg (by simp only[xJ];omega),qD,if_neg (by omega)];exact carA j cs tt (by omega) hg)
     simp only[h_n,xJ]at happD accpD hnD
     have gkD:=carD _ _ _ hk5 gk7
     have gE0:=carD _ _ _ (by omega) gd0
     have gE1:=carD _ _ _ (by omega) gd1
     have gE3:=carD _ _ _ hn5 gd3
     have gA3:=carA _ _ _ (by omega) gd3
     have hnD':H.n+3<HD.n:=by omega
     have lowE:=lowD.put hnD' (ob:= .row [.int .i64 k,.str t,vn,.slice (.new (H9.n+1)) 0 (i+1) (.gro 4)] 0 false (some 28))
     have done:∀ fr',fr' 0= .ptr (.new k0) 0→fr' 3= .ptr (.new H.n) 0→fr' 4= .ptr (.new (H.n+1)) 0→fr' 5= .ptr (.new (H.n+3)) 0→fr' 6= .int .i64 (sO k t)→fr' 7= .slice (.new (H7.n+1+1)) 0 (ls.length+1) (.gro 1)→fr' 8= .slice (.new H8.n) 0 (ls.length+1) (.gro 4)→fr' 9= .int .i64 (i+1:Nat)→
      Gives (K' .normal fr' (HD.put (H.n+3) (.row [.int .i64 k,.str t,vn,.slice (.new (H9.n+1)) 0 (i+1) (.gro 4)] 0 false (some 28)))) fun v0 H'=>∃ v H'',shutV v0 H'=some (v,H'')∧v=(zH (X.nrms l m 0 c).snd.fst (X.mk k t ns (X.nrms l m 0 c).fst)).v∧H''.t.get k0=some (Obj.row [AV.str [37,46],AV.int IntKind.i64 (X.nrms l m 0 c).snd.snd] 0 false ty)∧HKeep (only k0) H H'':=fun fr' q0 q3 q4 q5 q6 q7 q8 q9=>by
      refine hK _ _ ⟨_,_,_,?_,?_,?_,?_,apn9,apvE,lowE,kpD'.own low (by omega) hnD',by rw[xJ];exact hnD',?_,q0,q3,q4,q5,q6,q7,q8,q9,by rw[qD,if_neg m3];exact gE0,by rw[qD,if_neg m5];exact gE1,by rw[qD,if_pos rfl]⟩
      · rw[hnt];simp only[List.map_append,List.map_cons,List.map_nil,List.length_append,List.length_singleton,kI];exact accnD.put (by decide) gE3
      · rw[hnt];simp only[List.map_append,List.map_cons,List.map_nil,List.length_append,List.length_singleton,kI,X.cells_mk];exact accvD.put (by decide) gE3
      · rw[hnt,kI,varX,X.cells_mk];exact accpD.put (by decide) gE3
      · rcases natD with h|h
        · exact .inl h
        · exact .inr (h.put (by decide) gE3)
      · rw[hnt,qD,if_neg n3];exact gkD
     have z7:¬H5.n=H7.n:=by omega
     have z7b:¬H5.n=H7.n+1:=by omega
     have z7c:¬H.n+3=H5.n:=by omega
     have z9:¬H5.n=H9.n:=by omega
     have z9b:¬H.n+3=H9.n:=by omega
     have fz:=accvA.flat
     simp -implicitDefEqProofs only[↓qA,ZZ,seval,CL,XS,r0,r3,r4,r5,r6,r7,r8,r9,g107,g108,g109,gA3,gE3,z7,z7b,z7c,z9,z9b,xZ,happ8,happ9,happD,e25,hw,fvn]
     refine done _ ?_ ?_ ?_ ?_ ?_ ?_ ?_ ?_<;>simp -implicitDefEqProofs only[↓qA,ZZ,seval,r0,r3,r4,r5,r6,r7,r8,r9]
   · rw [if_neg hcase] at hnt hle1
     have low7:=low6.push (ob:= .row [.int .i64 ky,.str ty',qE ny,vXs ly] 0 true none)
     have accp7:=accp6.push low6 (ob:= .row [.int .i64 ky,.str ty',qE ny,vXs ly] 0 true none)
     obtain⟨H8,happ8,accp8,kp8,low8,hn8⟩:=accp7.one_more (e:=28) (bs:=72) (ys:=[.int .i64 ky,.str ty',qE ny,vXs ly]) (by rw[h_n];omega) low7 (by decide) rfl jS (by omega)
     have accv8:=accp7.beside (accv6.push low6 (ob:= .row [.int .i64 ky,.str ty',qE ny,vXs ly] 0 true none)) apv.symm kp8
     have accn8:=accp7.other (accn6.push low6 (ob:= .row [.int .i64 ky,.str ty',qE ny,vXs ly] 0 true none)) (by decide) kp8
     have nat8:NamesAt H.n H8 ns vn:=by
      rcases nat6 with h|h
      · exact .inl h
      · exact .inr (accp7.other (h.push low6 (ob:= .row [.int .i64 ky,.str ty',qE ny,vXs ly] 0 true none)) (by decide) kp8)
     have apv8:=(accv6.fresh low6 (k:=H6.n+1) (o:=0) (m:=i+1) (c:= .gro 4) (by omega)).symm
     have car8:∀ j cs tt,j<H5.n→H6.t.get j=some (.row cs 0 false tt)→H8.t.get j=some (.row cs 0 false tt):=fun j cs tt hj hg=>
      accp7.row (by decide) kp8 (by rw[qF,if_neg (by omega)];exact hg)
     have kp8':=accp7.keeps (kp6.pushed low (ob:= .row [.int .i64 ky,.str ty',qE ny,vXs ly] 0 true none)) low kp8
     have gk8:=car8 _ _ _ hk5 gk6
     have gd0:=car8 _ _ _ (by omega) gc0
     have gd1:=car8 _ _ _ (by omega) gc1
     have gd3:=car8 _ _ _ hn5 gc3
     rw[h_n]at happ8 accp8 hn8
     have hn8':H.n+3<H8.n:=by omega
     have low9:=low8.put hn8' (ob:= .row [.int .i64 k,.str t,vn,.slice (.new (H6.n+1)) 0 (i+1) (.gro 4)] 0 false (some 28))
     have done:∀ fr',fr' 0= .ptr (.new k0) 0→fr' 3= .ptr (.new H.n) 0→fr' 4= .ptr (.new (H.n+1)) 0→fr' 5= .ptr (.new (H.n+3)) 0→fr' 6= .int .i64 (sO k t)→fr' 7=nv→fr' 8=vv→fr' 9= .int .i64 (i+1:Nat)→
      Gives (K' .normal fr' (H8.put (H.n+3) (.row [.int .i64 k,.str t,vn,.slice (.new (H6.n+1)) 0 (i+1) (.gro 4)] 0 false (some 28)))) fun v0 H'=>∃ v H'',shutV v0 H'=some (v,H'')∧v=(zH (X.nrms l m 0 c).snd.fst (X.mk k t ns (X.nrms l m 0 c).fst)).v∧H''.t.get k0=some (Obj.row [AV.str [37,46],AV.int IntKind.i64 (X.nrms l m 0 c).snd.snd] 0 false ty)∧HKeep (only k0) H H'':=fun fr' q0 q3 q4 q5 q6 q7 q8 q9=>by
      refine hK _ _ ⟨nv,vv,_,?_,?_,?_,?_,apn,apv8,low9,kp8'.own low (by omega) hn8',by rw[xJ];exact hn8',?_,q0,q3,q4,q5,q6,q7,q8,q9,by rw[qD,if_neg m3];exact gd0,by rw[qD,if_neg m5];exact gd1,by rw[qD,if_pos rfl]⟩
      · rw[hnt];exact accn8.put (by decide) gd3
      · rw[hnt];exact accv8.put (by decide) gd3
      · rw[hnt,kI,X.cells_mk];exact accp8.put (by decide) gd3
      · rcases nat8 with h|h
        · exact .inl h
        · exact .inr (h.put (by decide) gd3)
      · rw[hnt,qD,if_neg n3];exact gk8
     rcases hz with⟨z,rfl,hz⟩|⟨rfl,hz⟩
     · rw [hz] at r6 done
       by_cases hmi:m≤i
       · have hat:(X.mk ky ty' ny ly).atom=true:=by
          cases h:(X.mk ky ty' ny ly).atom with
          | true=>rfl
          | false=>exact absurd ⟨hmi,h⟩ hcase
         rw[hat]at ey
         have hmi':(m:Int)≤(i:Int):=by omega
         simp -implicitDefEqProofs only[↓qA,ZZ,seval,CL,XS,r0,r3,r4,r5,r6,r7,r8,r9,hz,ge_iff_le,Int.natCast_nonneg,hmi',g10,gc3,ey,xZ,happ8,hw,fvn,gd3]
         refine done _ ?_ ?_ ?_ ?_ ?_ ?_ ?_ ?_<;>simp -implicitDefEqProofs only[↓qA,ZZ,seval,r0,r3,r4,r5,r6,r7,r8,r9]
       · have hmi':¬(m:Int)≤(i:Int):=by omega
         simp -implicitDefEqProofs only[↓qA,ZZ,seval,CL,XS,r0,r3,r4,r5,r6,r7,r8,r9,hz,ge_iff_le,Int.natCast_nonneg,hmi',g10,gc3,ey,xZ,happ8,hw,fvn,gd3]
         refine done _ ?_ ?_ ?_ ?_ ?_ ?_ ?_ ?_<;>simp -implicitDefEqProofs only[↓qA,ZZ,seval,r0,r3,r4,r5,r6,r7,r8,r9]
     · rw[hz]at r6 done
       have hn0:¬(-1:Int)≥0:=by omega
       simp -implicitDefEqProofs only[↓qA,ZZ,seval,CL,XS,r0,r3,r4,r5,r6,r7,r8,r9,hz,hn0,g10,gc3,ey,xZ,happ8,hw,fvn,gd3]
       refine done _ ?_ ?_ ?_ ?_ ?_ ?_ ?_ ?_<;>simp -implicitDefEqProofs only[↓qA,ZZ,seval,r0,r3,r4,r5,r6,r7,r8,r9]
 · rintro fr H2 K' ⟨nv,vv,pv,accn,accv,accp,nat,apn,apv,low2,kp,hn2,gk,r0,r3,r4,r5,r6,r7,r8,r9,gb0,gb1,gb3⟩ hKe hKr
   rw[List.take_length]at accn accv accp gk
   have hsl:=nW l m 0 c
   generalize X.nrms l m 0 c=S at *
   obtain⟨ps,ls,b⟩:=S
   simp only[]at accn accv accp gk hsl hc bdn ⊢
   have hL:ls.length≤60:=by omega
   have ln:=accn.len
   simp -implicitDefEqProofs only[a6C,↓qA,ZZ,seval,CL,XS,r0,r3,r4,r5,r6,r7,r8,r9,gb0,gb1,gb3,Int.lt_irrefl,hKe,ln]
   have pre:∀ (r:Nat) (H5:Heap) (c0 c1 c2 c3:AV),HLow H5→((r=0∧c0= .int .i64 k∧c1= .str t∧c2=vn∧c3=pv∧NamesAt H.n H5 ns vn∧Acc H.n H5 28 4 l.length (ps.flatMap X.cells) pv)∨(0<r∧[c0,c1,c2,c3]=(zH (ls.drop (ls.length-r)) (.mk k t ns ps)).cells))→
    ∃ d0 d1 d2 d3 H6 H7,qZ 2048 c0 H5=some (d0,H5)∧qZ 2048 c1 H5=some (d1,H5)∧qZ 2048 c2 H5=some (d2,H6)∧qZ 2048 c3 H6=some (d3,H7)∧[d0,d1,d2,d3]=(zH (ls.drop (ls.length-r)) (.mk k t ns ps)).cells∧HKeep (fun j o=>blk vn j o∨blk pv j o) H5 H7∧HLow H7:=by
    intro r H5 c0 c1 c2 c3 low5 h
    rcases h with⟨rfl,rfl,rfl,rfl,rfl,h1,h2⟩|⟨hr,h⟩
    · obtain⟨H6,e1,k1⟩:=h1.shut 2047
      have h2':Acc H.n H6 28 4 l.length (ps.flatMap X.cells) c3:=by
       rcases h1 with⟨_,rfl⟩|h1
       · exact h2.kept k1 fun j _ _=>by rintro⟨_,_,_,e⟩;cases e
       · exact h1.other h2 (by decide) k1
      obtain⟨H7,e2,k2⟩:=h2'.shut (d:=2047) (by decide) (Still.flat X.still _)
      have hl7:=k2.low (k1.low low5)
      have hlen:ps.length=l.length:=by
       rcases h2 with⟨h3,h4,_⟩|⟨_,h4,_⟩
       · cases ps with
         | nil=>exact h3.symm
         | cons x ps=>have:=jN X.cells_len (x::ps);rw[h4]at this;simp at this
       · have:=jN X.cells_len ps;omega
      refine⟨_,_,_,_,H6,H7,jE,wW,e1,e2,?_,(k1.mono fun j o _ h=> .inl h).trans (k2.mono fun j o _ h=> .inr h),hl7⟩
      rw[Nat.sub_zero,List.drop_length]
      show _=(X.mk k t ns ps).cells
      rw[X.cells_mk,←hlen,a8e]
    · have hst:=X.still (zH (ls.drop (ls.length-r)) (.mk k t ns ps))
      rw[←h]at hst
      exact⟨c0,c1,c2,c3,H5,H5,hst c0 (by simp) _ _,hst c1 (by simp) _ _,hst c2 (by simp) _ _,hst c3 (by simp) _ _,h,HKeep.refl,low5⟩
   have bvn:∀ j o,blk vn j o→H.n≤j∧∃ cs,H2.t.get j=some (.row cs 1 false (some 9)):=fun j o ⟨o1,n1,c1,e⟩=>by
    rcases nat with⟨_,h⟩|h|⟨_,_,k',h3,h4,h5⟩
    · rw[h]at e;cases e
    · obtain⟨_,_,h⟩:=h;rw[h]at e;cases e
    · rw[h3]at e
      simp only[AV.slice.injEq,Blk.new.injEq]at e
      obtain⟨rfl,_⟩:=e
      exact⟨h4,_,h5⟩
   have bpv:∀ j o,blk pv j o→H.n≤j∧∃ cs,H2.t.get j=some (.row cs 4 false (some 28)):=fun j o ⟨o1,n1,c1,e⟩=>by
    rcases accp with⟨_,_,h⟩|⟨_,_,k',h3,h4,h5⟩
    · rw[h]at e;cases e
    · rw[h3]at e
      simp only[AV.slice.injEq,Blk.new.injEq]at e
      obtain⟨rfl,_⟩:=e
      exact⟨h4,_,h5⟩
   have nb:∀ j cs tt o,H2.t.get j=some (.row cs 0 false tt)→¬(blk vn j o∨blk pv j o):=fun j cs tt o hg hb=>by
    rcases hb with hb|hb
    · obtain⟨_,cs',h⟩:=bvn j o hb
      rw[hg]at h;cases h
    · obtain⟨_,cs',h⟩:=bpv j o hb
      rw[hg]at h;cases h
   have nbn:∀ j o,blk nv j o→¬(blk vn j o∨blk pv j o):=fun j o hb hc=>by
    have hg:∃ cs,H2.t.get j=some (.row cs 1 false (some 9)):=by
     obtain⟨o1,n1,c1,e⟩:=hb
     rcases accn with⟨_,_,h⟩|⟨_,_,k',h3,h4,h5⟩
     · rw[h]at e;cases e
     · rw[h3]at e
       simp only[AV.slice.injEq,Blk.new.injEq]at e
       obtain⟨rfl,_⟩:=e
       exact⟨_,h5⟩
    obtain⟨o1,n1,c1,e⟩:=hb
    rcases hc with⟨o2,n2,c2,e2⟩|hc
    · exact apn _ _ _ _ _ _ _ _ e e2 rfl
    · obtain⟨_,cs',h⟩:=bpv j o hc
      obtain⟨cs,hg⟩:=hg
      rw[hg]at h;cases h
   have nbv:∀ j o,blk vv j o→¬(blk vn j o∨blk pv j o):=fun j o hb hc=>by
    have hg:∃ cs,H2.t.get j=some (.row cs 4 false (some 28)):=by
     obtain⟨o1,n1,c1,e⟩:=hb
     rcases accv with⟨_,_,h⟩|⟨_,_,k',h3,h4,h5⟩
     · rw[h]at e;cases e
     · rw[h3]at e
       simp only[AV.slice.injEq,Blk.new.injEq]at e
       obtain⟨rfl,_⟩:=e
       exact⟨_,h5⟩
    obtain⟨o1,n1,c1,e⟩:=hb
    rcases hc with hc|⟨o2,n2,c2,e2⟩
    · obtain⟨_,cs',h⟩:=bvn j o hc
      obtain⟨cs,hg⟩:=hg
      rw[hg]at h;cases h
    · exact apv _ _ _ _ _ _ _ _ e e2 rfl
   refine qM ls.length (fun r fr H5=>∃ c0 c1 c2 c3,((r=0∧c0= .int .i64 k∧c1= .str t∧c2=vn∧c3=pv∧NamesAt H.n H5 ns vn∧Acc H.n H5 28 4 l.length (ps.flatMap X.cells) pv)∨(0<r∧[c0,c1,c2,c3]=(zH (ls.drop (ls.length-r)) (.mk k t ns ps)).cells))∧
    c0.flat=true∧c1.flat=true∧c2.flat=true∧c3.flat=true∧Acc H.n H5 9 1 ls.length ((ls.map Prod.fst).flatMap str1) nv∧Acc H.n H5 28 4 ls.length ((ls.map Prod.snd).flatMap X.cells) vv∧HLow H5∧HKeep (only k0) H H5∧H5.t.get k0=some (.row [.str [37,46],.int .i64 b] 0 false ty)∧
    H5.t.get (H.n+1)=some (.row [.int .i64 0,.str [],.nils,.nils] 0 false (some 28))∧H5.t.get (H.n+3)=some (.row [c0,c1,c2,c3] 0 false (some 28))∧fr 4= .ptr (.new (H.n+1)) 0∧fr 5= .ptr (.new (H.n+3)) 0∧fr 7=nv∧fr 8=vv∧fr 12= .int .i64 ((ls.length-r:Nat):Int)) ?_ ?_ n 0 _ _ (by omega) (by omega) ?_
   · rintro r fr H5 K2 hr ⟨c0,c1,c2,c3,hsh,l0,l1,l2,l3,an5,av5,low5,kp5,gk5,ge1,ge3,q4,q5,q7,q8,q12⟩ hKe2 hKr2 hK2
     obtain⟨d0,d1,d2,d3,H6,H7,s0,s1,s2,s3,hd,k7,low7⟩:=pre r H5 c0 c1 c2 c3 low5 hsh
     obtain⟨j,hj⟩:∃ j,ls.length-r=j+1:=⟨ls.length-r-1,by omega⟩
     have hjl:j<ls.length:=by omega
     have hj2:ls.length-(r+1)=j:=by omega
     rw[hj]at q12 hd
     obtain⟨p,hp⟩:∃ p,ls[j]? = some p:=⟨ls[j],List.getElem?_eq_getElem hjl⟩
     have hdrop:ls.drop j=p::ls.drop (j+1):=by
      rw[List.drop_eq_getElem_cons hjl,List.getElem?_eq_getElem hjl]at *
      simp only[Option.some.injEq]at hp
      rw[hp]
     have e27:=bdn p (List.mem_of_getElem? hp) (j+1) (List.mem_range.2 (by omega))
     rw[X.v,X.v,←hd]at e27
     have hbc:(zH (ls.drop j) (.mk k t ns ps)).cells=(bQ p.1 p.2 (zH (ls.drop (j+1)) (.mk k t ns ps))).cells:=by rw[hdrop];rfl
     generalize zH (ls.drop (j+1)) (.mk k t ns ps)=cur at *
     have an7:=an5.keep (H':=H7) fun i o hb hg=>by rw[hg];exact k7.get _ _ hg (nbn i _ hb)
     have av7:=av5.keep (H':=H7) fun i o hb hg=>by rw[hg];exact k7.get _ _ hg (nbv i _ hb)
     have gk7:=k7.get _ _ gk5 (nb _ _ _ _ gk)
     have gf1:=k7.get _ _ ge1 (nb _ _ _ _ gb1)
     have gf3:=k7.get _ _ ge3 (nb _ _ _ _ gb3)
     have kp7:HKeep (only k0) H H7:=⟨Nat.le_trans kp5.n k7.n,fun i o hi ho=>k7.get _ _ (kp5.get i o hi ho) fun hb=>by
      have:=low.lt hi
      rcases hb with hb|hb
      · have:=(bvn i o hb).1;omega
      · have:=(bpv i o hb).1;omega,fun _=>low7⟩
     have hn7:=low7.lt gf3
     have low8:=low7.put hn7 (ob:= .row [.int .i64 9,.str [],qE [p.1],vXs [p.2,cur]] 0 false (some 28))
     obtain⟨kn,hkn,gkn⟩:∃ kn,nv= .slice (.new kn) 0 ls.length (.gro 1)∧H5.t.get kn=some (.row ((ls.map Prod.fst).flatMap str1) 1 false (some 9)):=by
      rcases an5 with⟨h,_,_⟩|⟨_,_,kn,h1,_,h2⟩
      · omega
      · exact⟨kn,h1,h2⟩
     obtain⟨kv,hkv,gkv⟩:∃ kv,vv= .slice (.new kv) 0 ls.length (.gro 4)∧H5.t.get kv=some (.row ((ls.map Prod.snd).flatMap X.cells) 4 false (some 28)):=by
      rcases av5 with⟨h,_,_⟩|⟨_,_,kn,h1,_,h2⟩
      · omega
      · exact⟨kn,h1,h2⟩
     have q7':=q7
     have q8':=q8
     rw[hkn]at q7'
     rw[hkv]at q8'
     have hgn:((ls.map Prod.fst).flatMap str1)[j]? = some (.str p.1):=by
      have h1:=dV mX (ls.map Prod.fst) j
      rw[List.getElem?_map,hp]at h1
      simp only[Option.map_some,Nat.mul_one]at h1
      have h2:=congrArg (fun z=>z[0]?) h1
      simp only[List.getElem?_take,List.getElem?_drop]at h2
      simpa[str1]using h2
     have hgv:(((ls.map Prod.snd).flatMap X.cells).drop (j*4)).take 4=p.2.cells:=by
      have h1:=dV X.cells_len (ls.map Prod.snd) j
      rw[List.getElem?_map,hp]at h1
      exact h1
     obtain⟨s,y⟩:=p
     obtain⟨ky,ty',ny,ly⟩:=y
     simp only[bQ,X.cells_mk]at e27 hgv hgn hbc
     have hpos:((j+1:Nat):Int)>0:=by omega
     have hw1:IntKind.i64.wrap (((j+1:Nat):Int)-1)=(j:Int):=by rw[wrap64 (by omega) (by omega)];omega
     simp -implicitDefEqProofs only[a6S,↓qA,ZZ,seval,CL,XS,q4,q5,q7',q8',q12,gkn,gkv,ge1,ge3,hpos,hw1,hjl,Nat.mul_one,hgn,hgv,s0,s1,s2,s3,e27,gf3]
     refine hK2 _ _ ⟨_,_,_,_,.inr ⟨by omega,?_⟩,rfl,rfl,pX,uR,an7.put (by decide) gf3,av7.put (by decide) gf3,low8,kp7.own low (by omega) hn7,by rw[qD,if_neg n3];exact gk7,by rw[qD,if_neg m5];exact gf1,by rw[qD,if_pos rfl],?_⟩
     · rw[hj2,hbc]
     · simp -implicitDefEqProofs only[↓qA,ZZ,seval,q4,q5,q7,q8,hj2]
   · rintro fr H5 K2 ⟨c0,c1,c2,c3,hsh,l0,l1,l2,l3,an5,av5,low5,kp5,gk5,ge1,ge3,q4,q5,q7,q8,q12⟩ hKe2 hKr2
     rw[Nat.sub_self]at q12
     have hneg:¬((0:Nat):Int)>0:=by omega
     have hn1:=low5.lt ge1
     have low6:=low5.put hn1 (ob:= .row [c0,c1,c2,c3] 0 false (some 28))
     obtain⟨d0,d1,d2,d3,H6,H7,s0,s1,s2,s3,hd,k7,low7⟩:=pre ls.length _ c0 c1 c2 c3 low6 (hsh.imp_left fun⟨h1,h2,h3,h4,h5,h6,h7⟩=>⟨h1,h2,h3,h4,h5,h6.imp_right fun h=>h.put (by decide) ge1,h7.put (by decide) ge1⟩)
     rw[Nat.sub_self,List.drop_zero]at hd
     have hsv:shutV (.agg [c0,c1,c2,c3]) (H5.put (H.n+1) (.row [c0,c1,c2,c3] 0 false (some 28)))=some ((zH ls (.mk k t ns ps)).v,H7):=by
      rw[a0d,X.v,←hd]
      simp only[zK,kU,s0,s1,s2,s3,Option.bind_some,Option.map_some]
     simp -implicitDefEqProofs only[a6S,↓qA,ZZ,seval,CL,XS,q4,q5,q7,q8,q12,ge1,ge3,hneg,hKe2,l0,l1,l2,l3,qC]
     refine⟨_,_,hsv,rfl,?_,?_⟩
     · exact k7.get _ _ (by rw[qD,if_neg n1];exact gk5) (nb _ _ _ _ gk)
     · have k6:=kp5.own low (j:=H.n+1) (by omega) hn1 (ob:= .row [c0,c1,c2,c3] 0 false (some 28))
       exact⟨Nat.le_trans k6.n k7.n,fun j o hj ho=>k7.get _ _ (k6.get j o hj ho) fun hb=>by
        have:=low.lt hj
        rcases hb with hb|hb
        · have:=(bvn j o hb).1;omega
        · have:=(bpv j o hb).1;omega,fun _=>low7⟩
   · refine⟨_,_,_,_,.inl ⟨rfl,rfl,rfl,rfl,rfl,nat,accp⟩,rfl,rfl,nat.flat,accp.flat,accn,accv,low2,kp,gk,gb1,gb3,?_⟩
     simp -implicitDefEqProofs only[↓qA,ZZ,seval,r4,r5,r7,r8]
     rfl
 · refine⟨.nils,.nils,.nils,?_,?_,?_,nat2.weak (by omega),Apart.nils,Apart.nils,low1.put hn1',kpa.own low (by omega) hn1',by rw[xJ];exact hn1',?_⟩
   · rw[List.take_zero,X.nrms];exact Acc.nil
   · rw[List.take_zero,X.nrms];exact Acc.nil
   · rw[List.take_zero,X.nrms];exact Acc.nil
   · simp -implicitDefEqProofs only[↓qA,ZZ,Nat.reduceBEq,reduceIte,Nat.reduceAdd,Nat.reduceLeDiff,Nat.reduceEqDiff,Nat.reduceBneDiff,List.take_zero,X.nrms,ek,n3,e0,e1,e3,m3,m5]
     rfl
end Go.Lite
/-
  The document's Norm.
-/
namespace Go.Lite
open Go Go.Proofs
theorem aEN (x:X) (hf:x.fit) (hc:(x.nrm 0).2<100):Ret P5 10 [x.v] (x.nrm 0).1.v:=by
 refine Ret.of rfl (aFh _ _) rfl rfl (fun H=>by simp -implicitDefEqProofs only[kU,zK,X.shut,Option.bind_some,Option.map_some]) ?_
 refine(aER x hf 0 hc).mono fun n e H=> ?_
 obtain⟨k,t,ns,l⟩:=x
 have e:=e ((((H.bare.push (.row [.int .i64 k,.str t,qE ns,vXs l] 0 false (some 28))).push (.row [.int .i64 0,.str [],.nils,.nils] 0 false (some 28))).push (.row [.str [37,46],.int .i64 0] 0 false (some 60)))) 2 (some 60) (HLow.bare.push.push.push) (by simp[qF,h_n,zQ])
 generalize hR:(X.mk k t ns l).nrm 0=R at *
 obtain⟨y,c⟩:=R
 obtain⟨ky,ty,ny,ly⟩:=y
 simp only[X.v_mk]at e
 simp -implicitDefEqProofs only[c10,↓qA,ZZ,seval,CL,XS]
 refine xD e ?_
 rintro w H5 ⟨rfl,gk5,kp5⟩
 have g1:=kp5.get 1 (.row [.int .i64 0,.str [],.nils,.nils] 0 false (some 28)) (by simp[qF,h_n,zQ]) (qL (by decide))
 simp -implicitDefEqProofs only[↓qA,ZZ,seval,CL,XS,g1,Ends,qC]
 exact⟨_,rfl⟩
end Go.Lite
