/-
  Several texts in one: TNMakeD, TNMakeE, TNMakeF, TNTerm.
-/
import Derived.Test.YtmfdlglhngmacaaGreatDoorYI
set_option linter.unusedSimpArgs false
set_option linter.unusedVariables false
set_option linter.defProp false
set_option maxRecDepth 100000
/-
  The maker: names that are bound; functions.
-/
namespace Go.Lite
open Go Go.Proofs
theorem NamesAt.one_more {N:Nat}{H:Heap}{ns:List Str}{u:AV}(h:NamesAt N H ns u) (hN:N≤H.n) (low:HLow H) (hb:ns.length≤1048576) (s:Str):
 ∃ H',xC 9 1 16 H u (1,[.str s])=some (.slice (.new H.n) 0 (ns.length+1) (.gro 1),H')∧Acc N H' 9 1 (ns.length+1) ((ns++[s]).flatMap str1) (.slice (.new H.n) 0 (ns.length+1) (.gro 1))∧HKeep (blk u) H H'∧HLow H'∧H'.n=H.n+1:=by
 rcases h with⟨rfl,rfl⟩|h
 · refine⟨H.push (.row [.str s] 1 false (some 9)),?_,.inr ⟨by omega,rfl,H.n,rfl,hN,by rw[qF,if_pos rfl];rfl⟩,HKeep.push low,low.push,h_n⟩
   unfold xC
   rw[if_neg (by simp[a6Z])]
   simp only[]
   rw[if_neg (by omega),if_pos ⟨.inr trivial,trivial,by simp,by simp⟩]
   rfl
 · obtain⟨H',h1,h2,h3,h4,h5⟩:=h.one_more (bs:=16) (ys:=[.str s]) hN low (by decide) rfl rfl (by omega)
   exact⟨H',h1,by rw[jK];exact h2,h3,h4,h5⟩
theorem Acc.soft {N:Nat}{H:Heap}{ns:List Str}{u:AV}(h:Acc N H 9 1 ns.length (ns.flatMap str1) u):∃ H',kJ u H=some (qE ns,H')∧HKeep (blk u) H H':=by
 obtain⟨H',h1,h2⟩:=h.shutV (by decide) (Still.flat wF _)
 exact⟨H',sN h1,h2⟩
def a0y (H:Heap) (k0:Nat) (ty:Option Nat) (k q:Int) (l:List Raw) (sc:List Str) (m:Nat) (re ru ri:Nat) (ke:Int) (i:Nat) (fr:Fr) (H2:Heap):Prop:=
 ∃ v u, Acc H.n H2 9 1 i ((vds m i).flatMap str1) v ∧ NamesAt H.n H2 (sc ++ vds m i) u ∧ Apart v u ∧ HLow H2 ∧ HKeep (only k0) H H2 ∧ H2.t.get k0 = some (.row [.int .i64 (m + i : Nat)] 0 false ty) ∧
   fr 0= .ptr (.new k0) 0∧fr 4= .ptr (.new H.n) 0∧fr 6= .ptr (.new (H.n+1)) 0∧fr re= .ptr (.new (H.n+2)) 0∧fr ru=u∧fr ri= .int .i64 i∧
   H2.t.get H.n=some (.row [.int .i64 k,.int .i64 q,kC l] 0 false (some 56))∧H2.t.get (H.n+1)=some (.row [.int .i64 0,.str [],.nils,.nils] 0 false (some 28))∧H2.t.get (H.n+2)=some (.row [.int .i64 ke,.str [],v,.nils] 0 false (some 28))
theorem mR (m i:Nat):vds m (i+1)=vds m i++[vdot (m+i+1)]:=by rw[a4O,aCk]
set_option maxHeartbeats 4000000 in
theorem aAl {n N k0:Nat}{ty:Option Nat}{k q:Int}{l:List Raw}{sc:List Str}{m:Nat}{H:Heap}{KK:Ex→Fr→Heap→R}{Q:AV→Heap→Prop}(low:HLow H) (hk0:k0<H.n) (hN3:N≤3) (hge:10≤n) (hsc:sc.length≤m+10) (hm:m+N<1000)
 (e2:∀ H,qB P5 n 38 [.int .i64 q,.int .i64 2] H=some (.ret (.int .i64 (within q 2)),H)) (hN:(N:Int)=within q 2+1)
 (en:∀ b∈List.range 1000,b+1<1000→∀ (H:Heap) (k0:Nat) (ty:Option Nat),HLow H→H.t.get k0=some (.row [.int .i64 b] 0 false ty)→Gives (mD P5 n 22 [.ptr (.new k0) 0] H) fun v H'=>v= .str (vdot (b+1))∧H'.t.get k0=some (.row [.int .i64 (b+1:Nat)] 0 false ty)∧HKeep (only k0) H H')
 (fr:Fr) (H2:Heap) (h:a0y H k0 ty k q l sc m 7 8 9 6 0 fr H2) (hend:∀ fr H2,a0y H k0 ty k q l sc m 7 8 9 6 N fr H2→Gives (KK (.exit 1) fr H2) Q):
 Gives (zQ (qB P5 n) n a3M n fr H2 KK) Q:=by
 have n0:¬k0=H.n:=by omega
 have n1:¬k0=H.n+1:=by omega
 have n2:¬k0=H.n+2:=by omega
 refine qM N (fun i fr H2=>a0y H k0 ty k q l sc m 7 8 9 6 i fr H2) ?_ ?_ n 0 _ _ (by omega) (by omega) h
 · rintro i fr H2 K' hi ⟨v,u,accv,accu,hap,low2,kp,gk,r0,r4,r6,re,ru,ri,gb0,gb1,gb2⟩ hKe hKr hK
   have hlt:(i:Int)≤within q 2:=by omega
   have hw:=qY hi (by omega)
   have e5:=en (m+i) (List.mem_range.2 (by omega)) (by omega) H2 k0 ty low2 gk
   have fv:=accv.flat
   have fu:=accu.flat
   simp -implicitDefEqProofs only[a3M,↓qA,ZZ,seval,CL,XS,qU,qO,xO,qV,r0,r4,r6,re,ru,ri,gb0,gb1,gb2,e2,hlt]
   refine xL e5 ?_
   rintro w H5 ⟨rfl,gk5,kp5⟩
   have low5:=kp5.low low2
   have gc0:=kp5.get _ _ gb0 (qW (Ne.symm n0))
   have gc1:=kp5.get _ _ gb1 (qW (Ne.symm n1))
   have gc2:=kp5.get _ _ gb2 (qW (Ne.symm n2))
   have accv5:=accv.kept kp5 fun j hj _=>qW (by omega)
   have accu5:=accu.kept kp5 fun j o hj _=>qW (by omega)
   have kp6:=kp.trans kp5
   have hn5:=low5.lt gc2
   have hsl:(sc++vds m i).length=sc.length+i:=by rw[List.length_append,xS]
   generalize hs:vdot (m+i+1)=s at *
   have hlow5:=low5.push (ob:= .row [.str s] 0 true none)
   obtain⟨H7,happ,acc7,kp7,low7,hn7⟩:=(accv5.push low5 (ob:= .row [.str s] 0 true none)).one_more (e:=9) (bs:=16) (ys:=[.str s]) (by simp only[h_n];have:=kp6.n;omega) hlow5 (by decide) rfl rfl (by omega)
   have accu5':=accu5.kept (HKeep.push low5 (X:=fun _ _=>False) (ob:= .row [.str s] 0 true none)) fun j o _ _ h=>h
   have accu7:=accu5'.kept kp7 fun j o hj hb hx=>by
    obtain⟨o1,n1,c1,e1⟩:=hb
    obtain⟨o2,n2,c2,e2⟩:=hx
    exact hap _ _ _ _ _ _ _ _ e2 e1 rfl
   have kp8:=(accv5.push low5 (ob:= .row [.str s] 0 true none)).keeps (kp6.pushed low (ob:= .row [.str s] 0 true none)) low kp7
   have car7:∀ j cs tt,H5.t.get j=some (.row cs 0 false tt)→H7.t.get j=some (.row cs 0 false tt):=fun j cs tt hg=>
    (accv5.push low5).row (by decide) kp7 (by rw[qF,if_neg (by have:=low5.lt hg;omega)];exact hg)
   have lowA:=low7.push (ob:= .row [.str s] 0 true none)
   have accuA:=accu7.kept (HKeep.push low7 (X:=fun _ _=>False) (ob:= .row [.str s] 0 true none)) fun j o _ _ h=>h
   obtain⟨HC,happ2,accC,kpC,lowC,hnC⟩:=accuA.one_more (by simp only[h_n];have:=kp8.n;omega) lowA (by omega) s
   rw[hsl]at happ2 accC
   have accvA:=acc7.push low7 (ob:= .row [.str s] 0 true none)
   have hapA:=accuA.apart_fresh
   have accvC:=accvA.keep (H':=HC) fun j o hb hj=>by
    rw[hj]
    refine kpC.get j _ hj ?_
    rintro⟨o1,n1,c1,e1⟩
    obtain⟨o2,n2,c2,e2⟩:=hb
    exact(accu5'.apart_fresh hlow5 (Nat.le_refl _)) _ _ _ _ _ _ _ _ e2 e1 rfl
   have hapC:Apart (.slice (.new (H5.push (.row [.str s] 0 true none)).n) 0 (i+1) (.gro 1)) (.slice (.new (H7.push (.row [.str s] 0 true none)).n) 0 (sc.length+i+1) (.gro 1)):=(accvA.fresh lowA (Nat.le_refl _)).symm
   have kpD:HKeep (only k0) H HC:=⟨Nat.le_trans (kp8.pushed low (ob:= .row [.str s] 0 true none)).n kpC.n,fun j o hj hx=>kpC.get j o ((kp8.pushed low (ob:= .row [.str s] 0 true none)).get j o hj hx) (fun⟨o1,n1,c1,e1⟩=>by
    have hjl:=low j o hj
    rcases accuA with⟨_,h⟩|h
    · rw[e1]at h;cases h
    · have:=(h.below lowA e1).1;omega),fun l=>lowC⟩
   have car:∀ j cs tt,H5.t.get j=some (.row cs 0 false tt)→HC.t.get j=some (.row cs 0 false tt):=fun j cs tt hg=>by
    have h7:=car7 j cs tt hg
    refine kpC.get j _ (by rw[qF,if_neg (by have:=low7.lt h7;omega)];exact h7) ?_
    rintro⟨o1,n1,c1,e1⟩
    rcases accuA with⟨_,h⟩|⟨_,_,h⟩|⟨_,_,kk,h,_,h6⟩
    · rw[e1]at h;cases h
    · rw[e1]at h;cases h
    · rw[e1]at h
      simp only[AV.slice.injEq,Blk.new.injEq]at h
      rw[←h.1,qF,if_neg (by have:=low7.lt h7;omega),h7]at h6
      simp at h6
   have gd2:=car _ _ _ gc2
   simp only[h_n]at happ happ2 acc7 accC accvC hapC
   simp -implicitDefEqProofs only[↓qA,ZZ,seval,CL,XS,r0,r4,r6,re,ru,ri,gc0,gc1,gc2,fv,fu,zP,happ,happ2,gd2,hw]
   refine hK _ _ ⟨_,_,?_,?_,hapC,lowC.put (lowC.lt gd2),kpD.own low (by omega) (lowC.lt gd2),?_,?_,?_,?_,?_,?_,?_,?_,?_,?_⟩
   · rw[mR,jK,hs];exact accvC.put (by decide) gd2
   · rw[mR,←List.append_assoc,hs]
     refine .inr ?_
     rw[List.length_append,hsl]
     exact accC.put (by decide) gd2
   · rw[qD,if_neg n2];exact car _ _ _ gk5
   · exact r0
   · exact r4
   · exact r6
   · exact re
   · rfl
   · rfl
   · rw[qD,if_neg (by omega)];exact car _ _ _ gc0
   · rw[qD,if_neg (by omega)];exact car _ _ _ gc1
   · rw[qD,if_pos rfl]
 · rintro fr H2 K' h hKe hKr
   obtain⟨v,u,accv,accu,hap,low2,kp,gk,r0,r4,r6,re,ru,ri,gb0,gb1,gb2⟩:=h
   have hlt:¬(N:Int)≤within q 2:=by omega
   simp -implicitDefEqProofs only[a3M,↓qA,ZZ,seval,CL,XS,qU,r0,r4,r6,re,ru,ri,gb0,gb1,gb2,e2,hlt,hKe]
   refine hend _ _ ⟨v,u,accv,accu,hap,low2,kp,gk,?_,?_,?_,?_,?_,?_,gb0,gb1,gb2⟩<;>simp -implicitDefEqProofs only[↓qA,ZZ,seval,r0,r4,r6,re,ru,ri]
end Go.Lite
/-
  The maker: functions.
-/
namespace Go.Lite
open Go Go.Proofs
theorem name31_all:Ev fun n=>∀ b∈List.range 1000,b+1<1000→∀ (H:Heap) (k0:Nat) (ty:Option Nat),HLow H→H.t.get k0=some (.row [.int .i64 b] 0 false ty)→
 Gives (mD P5 n 22 [.ptr (.new k0) 0] H) fun v H'=>v= .str (vdot (b+1))∧H'.t.get k0=some (.row [.int .i64 (b+1:Nat)] 0 false ty)∧HKeep (only k0) H H':=by
 refine Ev.all _ fun b hb=> ?_
 by_cases h:b+1<1000
 · exact(aEV b h).mono fun n hn _=>hn
 · exact Ev.of fun n h'=>absurd h' h
theorem NamesAt.acc {N:Nat}{H:Heap}{ns:List Str}{u:AV}(h:NamesAt N H ns u) (hne:ns≠[]):Acc N H 9 1 ns.length (ns.flatMap str1) u:=by
 rcases h with⟨h,_⟩|h
 · exact absurd h hne
 · exact h
theorem Acc.slice {N:Nat}{H:Heap}{e es n:Nat}{cells:List AV}{v:AV}(h:Acc N H e es n cells v) (hn:n≠0):∃ k,v= .slice (.new k) 0 n (.gro es)∧N≤k∧H.t.get k=some (.row cells es false (some e)):=by
 rcases h with⟨h,_⟩|⟨_,_,h⟩
 · exact absurd h hn
 · exact h
theorem a0F {m N:Nat}{ns sc:List Str}(h:ns=vds m N):∀ s∈sc++ns,(∀ s∈sc,s≠[])→s≠[]:=fun s hs hne=>by
 rcases List.mem_append.1 hs with h1|h1
 · exact hne s h1
 · subst h
   obtain⟨j,rfl⟩:=a3U h1
   exact a4B j
set_option maxHeartbeats 4000000 in
theorem aAE (k q:Int) (l:List Raw) (hw:within k 16=4∨within k 16=5) (hp:nL (.mk k q l)):pR (.mk k q l):=fun sc m hsc hne hm=>by
 rw[Raw.cnt]at hm ⊢
 obtain⟨q0,q1⟩:=zF q 2 (by decide) (by decide)
 obtain⟨N,hN,hN1,hN2⟩:∃ N:Nat,(N:Int)=within q 2+1∧1≤N∧N≤2:=⟨1+(within q 2).toNat,by omega,by omega,by omega⟩
 have hlen2:(sc++vds m N).length=sc.length+N:=by rw[List.length_append,xS]
 have hne2:∀ s∈sc++vds m N,s≠[]:=fun s hs=>a0F rfl s hs hne
 have hc0:dL l 0≤Raw.cnts l:=by
  have h1:Raw.cnts (l.take 1)=Raw.cnts (l.take 0)+dL l 0:=a3d l 0
  have h2:=vT l 1
  rw[List.take_zero,Raw.cnts]at h1
  omega
 obtain⟨x,m',g1,g2,g3,g4⟩:=hp 0 (sc++vds m N) (m+N) (by omega) (by omega) hne2 (by simp only[Raw.l];omega)
 simp only[Raw.l]at g2 g3
 refine⟨.mk 6 [] (vds m N) [x],m',⟨.inr (.inr (.inr (.inr (.inr (.inl ⟨rfl,rfl,by rw[xS];omega,rfl⟩))))),by simp,fun h=>absurd h (by decide),by rw[xS],?_⟩,?_,by omega,?_⟩
 · rw[xS];exact⟨m',g1,rfl⟩
 · rw[X.nodes,if_neg (by decide)];simp only[X.nodess];omega
 refine Ev.succ (((jI k 16 (by decide)).and ((jI q 2 (by decide)).and (name31_all.and (g4.and (Ev.ge 10))))).mono fun n hn H k0 ty low g0=> ?_)
 obtain⟨e1,e2,en,e4,hge⟩:=hn
 rw[zR (P:=P5) (sf:=c21) (bQ _ _) rfl]
 refine xU ?_
 have hk0:=low.lt g0
 have n0:¬k0=H.n:=by omega
 have n1:¬k0=H.n+1:=by omega
 have n2:¬k0=H.n+2:=by omega
 have n3:¬k0=H.n+3:=by omega
 -- the names that are there, in a row of their own
 have low3:=(((low.push (ob:= .row [.int .i64 k,.int .i64 q,kC l] 0 false (some 56))).push (ob:= .row [.int .i64 0,.str [],.nils,.nils] 0 false (some 28))).push (ob:= .row [.int .i64 0,.str [],.nils,.nils] 0 false (some 28))).put (j:=H.n+2) (by simp only[h_n];omega) (ob:= .row [.int .i64 6,.str [],.nils,.nils] 0 false (some 28))
 have low4:=low3.push (ob:= .row [] 0 true none)
 obtain⟨u,G1,happ,accu,lowG,hnG,hG,kpG⟩:=a3L low4 sc (by omega)
 simp only[h_n,zO]at hnG hG accu
 have hGg:∀ j,j<H.n+1+1+1+1→G1.t.get j=_:=hG
 have fu:=accu.flat
 generalize hW:within k 16=w at *
 have hwe:(w==0)=false∧(w==1)=false∧(w==2)=false∧(w==3)=false:=by
  rcases hw with rfl|rfl<;>decide
 obtain⟨w0,w1,w2,w3⟩:=hwe
 rcases hw with rfl|rfl
 all_goals
  simp -implicitDefEqProofs only[c21,↓qA,ZZ,seval,CL,XS,qU,Raw.cells_mk,qO,xO,qV,e1,w0,w1,w2,w3,Int.reduceBEq,a0D,happ]
  refine aAl (ty:=ty) (k:=k) (q:=q) (l:=l) (sc:=sc) (m:=m) low hk0 (by omega) hge (by omega) (by omega) e2 hN en _ _ ?_ fun fr H2 h=> ?_
  · refine⟨.nils,u,Acc.nil,?_,Apart.nils,lowG,?_,?_⟩
    · have hv0:vds m 0=[]:=rfl
      rw[hv0,List.append_nil]
      exact accu.weak (by omega)
    · exact((((HKeep.push low).pushed low).pushed low).own low (by omega) (by simp only[h_n];omega) |>.pushed low).trans (kpG.mono fun _ _ _ h=>h.elim)
    · simp -implicitDefEqProofs only[↓qA,ZZ,Nat.reduceBEq,reduceIte,Nat.reduceAdd,Nat.reduceLeDiff,Nat.reduceEqDiff,Nat.reduceBneDiff,hGg k0 (by omega),hGg H.n (by omega),hGg (H.n+1) (by omega),hGg (H.n+2) (by omega),g0,n0,n1,n2,n3,Nat.add_zero]
      rfl
  · obtain⟨v,u,accv,accu,hap,low2,kp,gk,r0,r4,r6,re,ru,ri,gb0,gb1,gb2⟩:=h
    have accu:=accu.acc (by intro e;have:=congrArg List.length e;rw[hlen2]at this;simp at this;omega)
    have fv:=accv.flat
    have fu:=accu.flat
    obtain⟨H3,hsoft,kp3⟩:=accu.soft
    have low3:=kp3.low low2
    have kpa:=accu.keeps kp low kp3
    have e5:=e4 H3 k0 ty low3 (accu.row (by decide) kp3 gk)
    have gc0:=accu.row (by decide) kp3 gb0
    have gc1:=accu.row (by decide) kp3 gb1
    have gc2:=accu.row (by decide) kp3 gb2
    have accv3:=accu.beside accv hap.symm kp3
    obtain⟨kx,tx,nx,lx⟩:=x
    simp only[X.v_mk,Raw.cells_mk]at e5
    have hz:((0:Nat):Int)=0:=rfl
    rw[hz]at e5
    simp -implicitDefEqProofs only[↓qA,ZZ,seval,CL,XS,qU,qO,xO,qV,r0,r4,r6,re,ru,gb0,hsoft]
    refine xL e5 ?_
    rintro w H5 ⟨rfl,gk5,kp5⟩
    have low5:=kp5.low low3
    have gd1:=kp5.get _ _ gc1 (qW (Ne.symm n1))
    have gd2:=kp5.get _ _ gc2 (qW (Ne.symm n2))
    have accv5:=accv3.kept kp5 fun j hj _=>qW (by omega)
    have x1:¬H.n+1=H5.n:=by have:=low5.lt gd1;omega
    have x2:¬H.n+2=H5.n:=by have:=low5.lt gd2;omega
    have x3:¬H.n+1=H.n+2:=by omega
    have kp6:=((kpa.trans kp5).pushed low (ob:= .row [.int .i64 kx,.str tx,qE nx,vXs lx] 0 true none)).own low (j:=H.n+2) (by omega) (by simp only[h_n];have:=low5.lt gd2;omega) (ob:= .row [.int .i64 6,.str [],v,.lst 4 1 true [.int .i64 kx,.str tx,qE nx,vXs lx]] 0 false (some 28))
    have kp7:=kp6.own low (j:=H.n+1) (by omega) (by simp only[h_n,zO];have:=low5.lt gd2;omega) (ob:= .row [.int .i64 6,.str [],v,.lst 4 1 true [.int .i64 kx,.str tx,qE nx,vXs lx]] 0 false (some 28))
    have accv7:=((accv5.push low5 (ob:= .row [.int .i64 kx,.str tx,qE nx,vXs lx] 0 true none)).put (by decide) (k:=H.n+2) (by rw[qF,if_neg x2];exact gd2) (ob:= .row [.int .i64 6,.str [],v,.lst 4 1 true [.int .i64 kx,.str tx,qE nx,vXs lx]] 0 false (some 28))).put (by decide) (k:=H.n+1) (by rw[qD,if_neg x3,qF,if_neg x1];exact gd1) (ob:= .row [.int .i64 6,.str [],v,.lst 4 1 true [.int .i64 kx,.str tx,qE nx,vXs lx]] 0 false (some 28))
    obtain⟨H9,hsh,kp9⟩:=accv7.shut (d:=2047) (by decide) (Still.flat wF _)
    have hLv:AV.L true 1 ((vds m N).flatMap str1) N=qE (vds m N):=by rw[←a7D,xS]
    rw[hLv]at hsh
    have hx1:vXs [X.mk kx tx nx lx]= .lst 4 1 false [.int .i64 kx,.str tx,qE nx,vXs lx]:=by
     simp only[vXs,kG,List.flatMap_nil,X.cells_mk,List.length_nil,List.append_nil]
    simp -implicitDefEqProofs only[↓qA,ZZ,seval,CL,XS,r0,r4,r6,re,ru,fv,x1,x2,x3,gd1,gd2,qC,hsh,hx1]
    refine⟨_,_,rfl,rfl,?_,accv7.keeps kp7 low kp9⟩
    refine accv7.row (by decide) kp9 ?_
    rw[qD,if_neg n1,qD,if_neg n2,qF,if_neg (by have:=low5.lt gk5;omega)]
    exact gk5
end Go.Lite
/-
  The maker: bindings.
-/
namespace Go.Lite
open Go Go.Proofs
set_option maxHeartbeats 4000000 in
theorem a9I {n N k0:Nat}{ty:Option Nat}{k q:Int}{l:List Raw}{sc:List Str}{m:Nat}{H:Heap}{KK:Ex→Fr→Heap→R}{Q:AV→Heap→Prop}(low:HLow H) (hk0:k0<H.n) (hN3:N≤3) (hge:10≤n) (hsc:sc.length≤m+10) (hm:m+N<1000)
 (en:∀ b∈List.range 1000,b+1<1000→∀ (H:Heap) (k0:Nat) (ty:Option Nat),HLow H→H.t.get k0=some (.row [.int .i64 b] 0 false ty)→Gives (mD P5 n 22 [.ptr (.new k0) 0] H) fun v H'=>v= .str (vdot (b+1))∧H'.t.get k0=some (.row [.int .i64 (b+1:Nat)] 0 false ty)∧HKeep (only k0) H H')
 (fr:Fr) (H2:Heap) (h:a0y H k0 ty k q l sc m 13 14 16 9 0 fr H2∧fr 15= .int .i64 N) (hend:∀ fr H2,a0y H k0 ty k q l sc m 13 14 16 9 N fr H2→fr 15= .int .i64 N→Gives (KK (.exit 5) fr H2) Q):
 Gives (zQ (qB P5 n) n a4m n fr H2 KK) Q:=by
 have n0:¬k0=H.n:=by omega
 have n1:¬k0=H.n+1:=by omega
 have n2:¬k0=H.n+2:=by omega
 refine qM N (fun i fr H2=>a0y H k0 ty k q l sc m 13 14 16 9 i fr H2∧fr 15= .int .i64 N) ?_ ?_ n 0 _ _ (by omega) (by omega) h
 · rintro i fr H2 K' hi ⟨⟨v,u,accv,accu,hap,low2,kp,gk,r0,r4,r6,re,ru,ri,gb0,gb1,gb2⟩,r15⟩ hKe hKr hK
   have hlt:(i:Int)<(N:Int):=by omega
   have hw:=qY hi (by omega)
   have e5:=en (m+i) (List.mem_range.2 (by omega)) (by omega) H2 k0 ty low2 gk
   have fv:=accv.flat
   have fu:=accu.flat
   simp -implicitDefEqProofs only[a4m,↓qA,ZZ,seval,CL,XS,qU,qO,xO,qV,r0,r4,r6,re,ru,ri,gb0,gb1,gb2,r15,hlt]
   refine xL e5 ?_
   rintro w H5 ⟨rfl,gk5,kp5⟩
   have low5:=kp5.low low2
   have gc0:=kp5.get _ _ gb0 (qW (Ne.symm n0))
   have gc1:=kp5.get _ _ gb1 (qW (Ne.symm n1))
   have gc2:=kp5.get _ _ gb2 (qW (Ne.symm n2))
   have accv5:=accv.kept kp5 fun j hj _=>qW (by omega)
   have accu5:=accu.kept kp5 fun j o hj _=>qW (by omega)
   have kp6:=kp.trans kp5
   have hn5:=low5.lt gc2
   have hsl:(sc++vds m i).length=sc.length+i:=by rw[List.length_append,xS]
   generalize hs:vdot (m+i+1)=s at *
   have hlow5:=low5.push (ob:= .row [.str s] 0 true none)
   obtain⟨H7,happ,acc7,kp7,low7,hn7⟩:=(accv5.push low5 (ob:= .row [.str s] 0 true none)).one_more (e:=9) (bs:=16) (ys:=[.str s]) (by simp only[h_n];have:=kp6.n;omega) hlow5 (by decide) rfl rfl (by omega)
   have accu5':=accu5.kept (HKeep.push low5 (X:=fun _ _=>False) (ob:= .row [.str s] 0 true none)) fun j o _ _ h=>h
   have accu7:=accu5'.kept kp7 fun j o hj hb hx=>by
    obtain⟨o1,n1,c1,e1⟩:=hb
    obtain⟨o2,n2,c2,e2⟩:=hx
    exact hap _ _ _ _ _ _ _ _ e2 e1 rfl
   have kp8:=(accv5.push low5 (ob:= .row [.str s] 0 true none)).keeps (kp6.pushed low (ob:= .row [.str s] 0 true none)) low kp7
   have car7:∀ j cs tt,H5.t.get j=some (.row cs 0 false tt)→H7.t.get j=some (.row cs 0 false tt):=fun j cs tt hg=>
    (accv5.push low5).row (by decide) kp7 (by rw[qF,if_neg (by have:=low5.lt hg;omega)];exact hg)
   have lowA:=low7.push (ob:= .row [.str s] 0 true none)
   have accuA:=accu7.kept (HKeep.push low7 (X:=fun _ _=>False) (ob:= .row [.str s] 0 true none)) fun j o _ _ h=>h
   obtain⟨HC,happ2,accC,kpC,lowC,hnC⟩:=accuA.one_more (by simp only[h_n];have:=kp8.n;omega) lowA (by omega) s
   rw[hsl]at happ2 accC
   have accvA:=acc7.push low7 (ob:= .row [.str s] 0 true none)
   have hapA:=accuA.apart_fresh
   have accvC:=accvA.keep (H':=HC) fun j o hb hj=>by
    rw[hj]
    refine kpC.get j _ hj ?_
    rintro⟨o1,n1,c1,e1⟩
    obtain⟨o2,n2,c2,e2⟩:=hb
    exact(accu5'.apart_fresh hlow5 (Nat.le_refl _)) _ _ _ _ _ _ _ _ e2 e1 rfl
   have hapC:Apart (.slice (.new (H5.push (.row [.str s] 0 true none)).n) 0 (i+1) (.gro 1)) (.slice (.new (H7.push (.row [.str s] 0 true none)).n) 0 (sc.length+i+1) (.gro 1)):=(accvA.fresh lowA (Nat.le_refl _)).symm
   have kpD:HKeep (only k0) H HC:=⟨Nat.le_trans (kp8.pushed low (ob:= .row [.str s] 0 true none)).n kpC.n,fun j o hj hx=>kpC.get j o ((kp8.pushed low (ob:= .row [.str s] 0 true none)).get j o hj hx) (fun⟨o1,n1,c1,e1⟩=>by
    have hjl:=low j o hj
    rcases accuA with⟨_,h⟩|h
    · rw[e1]at h;cases h
    · have:=(h.below lowA e1).1;omega),fun l=>lowC⟩
   have car:∀ j cs tt,H5.t.get j=some (.row cs 0 false tt)→HC.t.get j=some (.row cs 0 false tt):=fun j cs tt hg=>by
    have h7:=car7 j cs tt hg
    refine kpC.get j _ (by rw[qF,if_neg (by have:=low7.lt h7;omega)];exact h7) ?_
    rintro⟨o1,n1,c1,e1⟩
    rcases accuA with⟨_,h⟩|⟨_,_,h⟩|⟨_,_,kk,h,_,h6⟩
    · rw[e1]at h;cases h
    · rw[e1]at h;cases h
    · rw[e1]at h
      simp only[AV.slice.injEq,Blk.new.injEq]at h
      rw[←h.1,qF,if_neg (by have:=low7.lt h7;omega),h7]at h6
      simp at h6
   have gd2:=car _ _ _ gc2
   simp only[h_n]at happ happ2 acc7 accC accvC hapC
   simp -implicitDefEqProofs only[↓qA,ZZ,seval,CL,XS,r0,r4,r6,re,ru,ri,gc0,gc1,gc2,fv,fu,zP,happ,happ2,gd2,hw]
   refine hK _ _ ⟨⟨_,_,?_,?_,hapC,lowC.put (lowC.lt gd2),kpD.own low (by omega) (lowC.lt gd2),?_,?_,?_,?_,?_,?_,?_,?_,?_,?_⟩,?_⟩
   · rw[mR,jK,hs];exact accvC.put (by decide) gd2
   · rw[mR,←List.append_assoc,hs]
     refine .inr ?_
     rw[List.length_append,hsl]
     exact accC.put (by decide) gd2
   · rw[qD,if_neg n2];exact car _ _ _ gk5
   · simp -implicitDefEqProofs only[↓qA,ZZ,seval,r0]
   · simp -implicitDefEqProofs only[↓qA,ZZ,seval,r4]
   · simp -implicitDefEqProofs only[↓qA,ZZ,seval,r6]
   · simp -implicitDefEqProofs only[↓qA,ZZ,seval,re]
   · simp -implicitDefEqProofs only[↓qA,ZZ,seval]
   · simp -implicitDefEqProofs only[↓qA,ZZ,seval]
   · rw[qD,if_neg (by omega)];exact car _ _ _ gc0
   · rw[qD,if_neg (by omega)];exact car _ _ _ gc1
   · rw[qD,if_pos rfl]
   · simp -implicitDefEqProofs only[↓qA,ZZ,seval,r15]
 · rintro fr H2 K' ⟨h,r15⟩ hKe hKr
   obtain⟨v,u,accv,accu,hap,low2,kp,gk,r0,r4,r6,re,ru,ri,gb0,gb1,gb2⟩:=h
   simp -implicitDefEqProofs only[a4m,↓qA,ZZ,seval,CL,XS,qU,r0,r4,r6,re,ru,ri,gb0,gb1,gb2,r15,Int.lt_irrefl,hKe]
   refine hend _ _ ⟨v,u,accv,accu,hap,low2,kp,gk,?_,?_,?_,?_,?_,?_,gb0,gb1,gb2⟩ ?_<;>simp -implicitDefEqProofs only[↓qA,ZZ,seval,r0,r4,r6,re,ru,ri,r15]
def a6x (H:Heap) (k0:Nat) (ty:Option Nat) (k q:Int) (l:List Raw) (ns sc:List Str) (es:List X) (ms:Nat→Nat) (i:Nat) (fr:Fr) (H2:Heap):Prop:=
 ∃ a v ku fz, Acc H.n H2 28 4 i ((es.take i).flatMap X.cells) a ∧ Acc H.n H2 9 1 ns.length (ns.flatMap str1) v ∧ H.n ≤ ku ∧ Apart v (.slice (.new ku) 0 sc.length (.gro 1)) ∧ H2.t.get ku = some (.row (sc.flatMap str1) 1 fz (some 9)) ∧ HLow H2 ∧ HKeep (only k0) H H2 ∧ H2.t.get k0 = some (.row [.int .i64 (ms i)] 0 false ty) ∧
   fr 0= .ptr (.new k0) 0∧fr 4= .ptr (.new H.n) 0∧fr 6= .ptr (.new (H.n+1)) 0∧fr 13= .ptr (.new (H.n+2)) 0∧fr 14= .slice (.new ku) 0 sc.length (.gro 1)∧fr 15= .int .i64 ns.length∧fr 18= .int .i64 i∧
   H2.t.get H.n=some (.row [.int .i64 k,.int .i64 q,kC l] 0 false (some 56))∧H2.t.get (H.n+1)=some (.row [.int .i64 0,.str [],.nils,.nils] 0 false (some 28))∧H2.t.get (H.n+2)=some (.row [.int .i64 9,.str [],v,a] 0 false (some 28))
theorem Acc.putT {N:Nat}{H:Heap}{e es n:Nat}{cells:List AV}{v:AV}{ob:Obj}{k:Nat}(h:Acc N H e es n cells v) {cs:List AV}{es':Nat}{fz:Bool}{t:Nat}(hk:H.t.get k=some (.row cs es' fz (some t))) (ht:t≠e):Acc N (H.put k ob) e es n cells v:=
 h.keep fun j _ _ hj=>by
  rw[qD,if_neg]
  rintro rfl
  rw[hk]at hj
  simp only[Option.some.injEq,Obj.row.injEq]at hj
  exact ht hj.2.2.2
theorem a3A {H:Heap}{ku:Nat}{fz:Bool}{ns:List Str}(h:H.t.get ku=some (.row (ns.flatMap str1) 1 fz (some 9))) (hne:ns≠[]):kJ (.slice (.new ku) 0 ns.length (.gro 1)) H=some (qE ns,H.put ku (.row (ns.flatMap str1) 1 true (some 9))):=by
 refine sN ?_
 have hl:(ns.flatMap str1).length=ns.length*1:=gJ tL ns
 have ht:(ns.flatMap str1).take (ns.length*(Cap.gro 1).es)=ns.flatMap str1:=by
  show(ns.flatMap str1).take (ns.length*1)=ns.flatMap str1
  rw[←hl,List.take_length]
 rw[bZ,dA (d:=2047),h,jN,List.drop_zero]
 rw[if_pos (by rw[ht];exact⟨hl,.inr (by decide)⟩),ht,(Still.flat wF ns).map]
 simp only[Option.map_some]
 cases ns with
 | nil=>exact absurd rfl hne
 | cons s ns=>rfl
set_option maxHeartbeats 4000000 in
theorem a7p {n k0:Nat}{ty:Option Nat}{k q:Int}{l:List Raw}{ns sc:List Str}{es:List X}{ms:Nat→Nat}{H:Heap}{KK:Ex→Fr→Heap→R}{Q:AV→Heap→Prop}(low:HLow H) (hk0:k0<H.n) (hlen:es.length=ns.length+1) (hN3:ns.length≤3) (hge:10≤n) (hsc:sc≠[])
 (ee:∀ j,j<ns.length+1→∀ e,es[j]? = some e→uM 39 [.agg (Raw.mk k q l).cells,.int .i64 j,qE sc] (ms j) e (ms (j+1)) n)
 (fr:Fr) (H2:Heap) (h:a6x H k0 ty k q l ns sc es ms 0 fr H2) (hend:∀ fr H2,a6x H k0 ty k q l ns sc es ms (ns.length+1) fr H2→Gives (KK (.exit 7) fr H2) Q):
 Gives (zQ (qB P5 n) n a4t n fr H2 KK) Q:=by
 have n0:¬k0=H.n:=by omega
 have n1:¬k0=H.n+1:=by omega
 have n2:¬k0=H.n+2:=by omega
 refine qM (ns.length+1) (fun i fr H2=>a6x H k0 ty k q l ns sc es ms i fr H2) ?_ ?_ n 0 _ _ (by omega) (by omega) h
 · rintro i fr H2 K' hi ⟨a,v,ku,fz,acca,accv,hku,hap,gu,low2,kp,gk,r0,r4,r6,r13,r14,r15,r18,gb0,gb1,gb2⟩ hKe hKr hK
   obtain⟨x,hx⟩:∃ x,es[i]? = some x:=⟨es[i],List.getElem?_eq_getElem (by omega)⟩
   have hlt:(i:Int)≤(ns.length:Int):=by omega
   have hw:=qY hi (by omega)
   have hnt:es.take (i+1)=es.take i++[x]:=by rw[List.take_add_one,hx];rfl
   have hsoft:=a3A gu hsc
   have low3:=low2.put (low2.lt gu) (ob:= .row (sc.flatMap str1) 1 true (some 9))
   have kp3:=kp.own low hku (low2.lt gu) (ob:= .row (sc.flatMap str1) 1 true (some 9))
   have acca3:=acca.putT gu (by decide) (ob:= .row (sc.flatMap str1) 1 true (some 9))
   have accv3:=accv.keep (H':=H2.put ku (.row (sc.flatMap str1) 1 true (some 9))) fun j o hb hj=>by
    rw[qD,if_neg]
    obtain⟨o1,n1,c1,e1⟩:=hb
    exact hap _ _ _ _ _ _ _ _ e1 rfl
   have car3:∀ j cs tt,H2.t.get j=some (.row cs 0 false tt)→(H2.put ku (.row (sc.flatMap str1) 1 true (some 9))).t.get j=some (.row cs 0 false tt):=fun j cs tt hg=>by
    rw[qD,if_neg]
    · exact hg
    · rintro rfl;rw[gu]at hg;simp at hg
   have e5:=ee i hi x hx (H2.put ku (.row (sc.flatMap str1) 1 true (some 9))) k0 ty low3 (car3 _ _ _ gk)
   have gu3:(H2.put ku (.row (sc.flatMap str1) 1 true (some 9))).t.get ku=some (.row (sc.flatMap str1) 1 true (some 9)):=by rw[qD,if_pos rfl]
   have gc0:=car3 _ _ _ gb0
   have gc1:=car3 _ _ _ gb1
   have gc2:=car3 _ _ _ gb2
   obtain⟨kx,tx,nx,lx⟩:=x
   simp only[X.v_mk,Raw.cells_mk]at e5
   have fa:=acca.flat
   have fv:=accv.flat
   simp -implicitDefEqProofs only[a4t,↓qA,ZZ,seval,CL,XS,qU,qO,xO,qV,r0,r4,r6,r13,r14,r15,r18,gb0,gb1,gb2,hlt,hsoft]
   refine xL e5 ?_
   rintro w H5 ⟨rfl,gk5,kp5⟩
   have low5:=kp5.low low3
   have gd0:=kp5.get _ _ gc0 (qW (Ne.symm n0))
   have gd1:=kp5.get _ _ gc1 (qW (Ne.symm n1))
   have gd2:=kp5.get _ _ gc2 (qW (Ne.symm n2))
   have gu5:=kp5.get _ _ gu3 (qW (by omega))
   have acca5:=acca3.kept kp5 fun j hj _=>qW (by omega)
   have accv5:=accv3.kept kp5 fun j hj _=>qW (by omega)
   have kp6:=kp3.trans kp5
   have hlow5:=low5.push (ob:= .row [.int .i64 kx,.str tx,qE nx,vXs lx] 0 true none)
   have acca5':=acca5.push low5 (ob:= .row [.int .i64 kx,.str tx,qE nx,vXs lx] 0 true none)
   have accv5':=accv5.push low5 (ob:= .row [.int .i64 kx,.str tx,qE nx,vXs lx] 0 true none)
   obtain⟨H7,happ,acc7,kp7,low7,hn7⟩:=acca5'.one_more (e:=28) (bs:=72) (ys:=[.int .i64 kx,.str tx,qE nx,vXs lx]) (by simp only[h_n];have:=kp6.n;omega) hlow5 (by decide) rfl nR (by omega)
   have accv7:=acca5'.other accv5' (by decide) kp7
   have gu7:H7.t.get ku=some (.row (sc.flatMap str1) 1 true (some 9)):=by
    refine kp7.get ku _ (by rw[qF,if_neg (by have:=low5.lt gu5;omega)];exact gu5) ?_
    rintro⟨o,m,c,e⟩
    rcases acca5 with⟨_,_,h⟩|⟨_,_,kk,h,_,h4⟩
    · rw[h]at e;cases e
    · rw[h]at e
      simp only[AV.slice.injEq,Blk.new.injEq]at e
      rw[e.1,gu5]at h4
      simp at h4
   have car:∀ j cs tt,H5.t.get j=some (.row cs 0 false tt)→H7.t.get j=some (.row cs 0 false tt):=fun j cs tt hg=>
    acca5'.row (by decide) kp7 (by rw[qF,if_neg (by have:=low5.lt hg;omega)];exact hg)
   have ge2:=car _ _ _ gd2
   simp only[h_n]at happ acc7
   simp -implicitDefEqProofs only[↓qA,ZZ,seval,CL,XS,r0,r4,r6,r13,r14,r15,r18,gd0,gd1,gd2,fa,fv,zP,happ,ge2,hw]
   have hne:¬ku=H.n+2:=by rintro rfl;rw[gu7]at ge2;simp at ge2
   refine hK _ _ ⟨.slice (.new (H5.n+1)) 0 (i+1) (.gro 4),v,ku,true,?_,accv7.put (by decide) ge2,hku,hap,?_,low7.put (low7.lt ge2),(acca5'.keeps (kp6.pushed low) low kp7).own low (by omega) (low7.lt ge2),?_,?_,?_,?_,?_,?_,?_,?_,?_,?_,?_⟩
   · rw[hnt,jK,X.cells_mk];exact acc7.put (by decide) ge2
   · rw[qD,if_neg hne];exact gu7
   · rw[qD,if_neg n2];exact car _ _ _ gk5
   · simp -implicitDefEqProofs only[↓qA,ZZ,seval,r0]
   · simp -implicitDefEqProofs only[↓qA,ZZ,seval,r4]
   · simp -implicitDefEqProofs only[↓qA,ZZ,seval,r6]
   · simp -implicitDefEqProofs only[↓qA,ZZ,seval,r13]
   · simp -implicitDefEqProofs only[↓qA,ZZ,seval,r14]
   · simp -implicitDefEqProofs only[↓qA,ZZ,seval,r15]
   · simp -implicitDefEqProofs only[↓qA,ZZ,seval]
   · rw[qD,if_neg (by omega)];exact car _ _ _ gd0
   · rw[qD,if_neg (by omega)];exact car _ _ _ gd1
   · rw[qD,if_pos rfl]
 · rintro fr H2 K' h hKe hKr
   obtain⟨a,v,ku,fz,acca,accv,hku,hap,gu,low2,kp,gk,r0,r4,r6,r13,r14,r15,r18,gb0,gb1,gb2⟩:=h
   have hlt:¬((ns.length+1:Nat):Int)≤(ns.length:Int):=by omega
   simp -implicitDefEqProofs only[a4t,↓qA,ZZ,seval,CL,XS,r0,r4,r6,r13,r14,r15,r18,gb0,gb1,gb2,hlt,hKe]
   refine hend _ _ ⟨a,v,ku,fz,acca,accv,hku,hap,gu,low2,kp,gk,?_,?_,?_,?_,?_,?_,?_,gb0,gb1,gb2⟩<;>simp -implicitDefEqProofs only[↓qA,ZZ,seval,r0,r4,r6,r13,r14,r15,r18]
set_option maxHeartbeats 4000000 in
theorem aAK (k q : Int) (l : List Raw) (hw : within k 16 = 10 ∨ within k 16 = 11 ∨ within k 16 = 12) (hp : nL (.mk k q l)) : pR (.mk k q l) := fun sc m hsc hne hm => by
 rw[Raw.cnt]at hm ⊢
 obtain⟨q0,q1⟩:=zF q 2 (by decide) (by decide)
 obtain⟨N,hN,hN1,hN2⟩:∃ N:Nat,IntKind.i64.wrap (1+within q 2)=(N:Int)∧1≤N∧N≤2:=⟨1+(within q 2).toNat,by rw[wrap64 (by omega) (by omega)];omega,by omega,by omega⟩
 have hlen2:(sc++vds m N).length=sc.length+N:=by rw[List.length_append,xS]
 have hne2:∀ s∈sc++vds m N,s≠[]:=fun s hs=>a0F rfl s hs hne
 have hscn:sc++vds m N≠[]:=by intro e;have:=congrArg List.length e;rw[hlen2]at this;simp at this;omega
 obtain⟨es,ms,hlen,hm0,hmle,hgd,hnd,hms,hev⟩:=mV hp (sc++vds m N) (m+N) (by omega) hne2 (by simp only[Raw.l];omega) (N+1) (by omega)
 simp only[Raw.l]at hnd hms
 have hle:=vT l (N+1)
 refine⟨.mk 9 [] (vds m N) es,ms (N+1),⟨.inr (.inr (.inr (.inr (.inr (.inr (.inr (.inr (.inl ⟨rfl,rfl,by rw[xS];omega,by rw[xS];exact hlen⟩)))))))),by omega,fun h=>absurd h (by decide),by rw[xS],?_⟩,?_,by omega,?_⟩
 · rw[xS];exact hgd
 · rw[X.nodes,if_neg (by decide)];omega
 refine Ev.succ (((jI k 16 (by decide)).and ((jI q 2 (by decide)).and (name31_all.and (hev.and (Ev.ge 10))))).mono fun n hn H k0 ty low g0=> ?_)
 obtain⟨e1,e2,en,ee,hge⟩:=hn
 rw[zR (P:=P5) (sf:=c21) (bQ _ _) rfl]
 refine xU ?_
 have hk0:=low.lt g0
 have n0:¬k0=H.n:=by omega
 have n1:¬k0=H.n+1:=by omega
 have n2:¬k0=H.n+2:=by omega
 have n3:¬k0=H.n+3:=by omega
 have low3:=(((low.push (ob:= .row [.int .i64 k,.int .i64 q,kC l] 0 false (some 56))).push (ob:= .row [.int .i64 0,.str [],.nils,.nils] 0 false (some 28))).push (ob:= .row [.int .i64 0,.str [],.nils,.nils] 0 false (some 28))).put (j:=H.n+2) (by simp only[h_n];omega) (ob:= .row [.int .i64 9,.str [],.nils,.nils] 0 false (some 28))
 have low4:=low3.push (ob:= .row [] 0 true none)
 obtain⟨u,G1,happ,accu,lowG,hnG,hG,kpG⟩:=a3L low4 sc (by omega)
 simp only[h_n,zO]at hnG hG accu
 have hGg:∀ j,j<H.n+1+1+1+1→G1.t.get j=_:=hG
 have fu:=accu.flat
 have hG0:G1.t.get H.n=some (.row [.int .i64 k,.int .i64 q,kC l] 0 false (some 56)):=by
  rw[hGg H.n (by omega)];simp -implicitDefEqProofs only[↓qA,ZZ,seval]
 generalize hW:within k 16=w at *
 have hwe:(w==0)=false∧(w==1)=false∧(w==2)=false∧(w==3)=false∧(w==4)=false∧(w==5)=false∧(w==6)=false∧(w==7)=false∧(w==8)=false∧(w==9)=false:=by
  rcases hw with rfl|rfl|rfl<;>decide
 obtain⟨w0,w1,w2,w3,w4,w5,w6,w7,w8,w9⟩:=hwe
 rcases hw with rfl|rfl|rfl
 all_goals
  simp -implicitDefEqProofs only[c21,↓qA,ZZ,seval,CL,XS,qU,Raw.cells_mk,qO,xO,qV,e1,w0,w1,w2,w3,w4,w5,w6,w7,w8,w9,Int.reduceBEq,a0D,happ,hG0,e2,hN]
  refine a9I (ty:=ty) (k:=k) (q:=q) (l:=l) (sc:=sc) (m:=m) (N:=N) low hk0 (by omega) hge (by omega) (by omega) en _ _ ?_ fun fr H2 h r15=> ?_
  · refine⟨⟨.nils,u,Acc.nil,?_,Apart.nils,lowG,?_,?_⟩,?_⟩
    · have hv0:vds m 0=[]:=rfl
      rw[hv0,List.append_nil]
      exact accu.weak (by omega)
    · exact((((HKeep.push low).pushed low).pushed low).own low (by omega) (by simp only[h_n];omega) |>.pushed low).trans (kpG.mono fun _ _ _ h=>h.elim)
    · simp -implicitDefEqProofs only[↓qA,ZZ,Nat.reduceBEq,reduceIte,Nat.reduceAdd,Nat.reduceLeDiff,Nat.reduceEqDiff,Nat.reduceBneDiff,hGg k0 (by omega),hGg H.n (by omega),hGg (H.n+1) (by omega),hGg (H.n+2) (by omega),g0,n0,n1,n2,n3,Nat.add_zero]
      rfl
    · simp -implicitDefEqProofs only[↓qA,ZZ,seval]
  · obtain⟨v,u,accv,accu,hap,low2,kp,gk,r0,r4,r6,re,ru,ri,gb0,gb1,gb2⟩:=h
    obtain⟨ku,rfl,hku,gu⟩:=(accu.acc hscn).slice (by rw[hlen2];omega)
    have hz:(N:Int)=((vds m N).length:Int):=by rw[xS]
    simp -implicitDefEqProofs only[↓qA,ZZ,seval,CL,XS]
    refine a7p (ty:=ty) (k:=k) (q:=q) (l:=l) (ns:=vds m N) (sc:=sc++vds m N) (es:=es) (ms:=ms) low hk0 (by rw[xS];exact hlen) (by rw[xS];omega) hge hscn (by rw[xS];exact ee) _ _ ?_ fun fr H2 h=> ?_
    · refine⟨.nils,v,ku,false,Acc.nil,by rw[xS];exact accv,hku,hap,gu,low2,kp,by rw[gk,hm0],?_,?_,?_,?_,?_,?_,?_,gb0,gb1,gb2⟩
      · simp -implicitDefEqProofs only[↓qA,ZZ,seval,r0]
      · simp -implicitDefEqProofs only[↓qA,ZZ,seval,r4]
      · simp -implicitDefEqProofs only[↓qA,ZZ,seval,r6]
      · simp -implicitDefEqProofs only[↓qA,ZZ,seval,re]
      · simp -implicitDefEqProofs only[↓qA,ZZ,seval,ru]
      · simp -implicitDefEqProofs only[↓qA,ZZ,seval,r15,xS]
      · simp -implicitDefEqProofs only[↓qA,ZZ,Nat.reduceBEq,reduceIte,Nat.reduceAdd,Nat.reduceLeDiff,Nat.reduceEqDiff,Nat.reduceBneDiff]
        rfl
    · obtain⟨a,v,ku,fz,acca,accv,hku,hap,gu,low2,kp,gk,r0,r4,r6,r13,r14,r15,r18,gb0,gb1,gb2⟩:=h
      rw[xS]at acca gk
      rw[List.take_of_length_le (by omega),←hlen]at acca
      have fv:=accv.flat
      have fa:=acca.flat
      have kp7:=kp.own low (j:=H.n+1) (by omega) (low2.lt gb1) (ob:= .row [.int .i64 9,.str [],v,a] 0 false (some 28))
      have accv7:=accv.put (by decide) gb1 (ob:= .row [.int .i64 9,.str [],v,a] 0 false (some 28))
      have acca7:=acca.put (by decide) gb1 (ob:= .row [.int .i64 9,.str [],v,a] 0 false (some 28))
      obtain⟨H8,hsh,kp8⟩:=accv7.shut (d:=2047) (by decide) (Still.flat wF _)
      have acca8:=accv7.other acca7 (by decide) kp8
      have kp8':=accv7.keeps kp7 low kp8
      obtain⟨H9,hsh9,kp9⟩:=acca8.shut (d:=2047) (by decide) (Still.flat X.still _)
      rw[a7D]at hsh
      rw[aAy]at hsh9
      simp -implicitDefEqProofs only[↓qA,ZZ,seval,CL,XS,r0,r4,r6,r13,r14,r15,fv,fa,gb1,gb2,qC,hsh,hsh9]
      refine⟨_,_,rfl,rfl,?_,acca8.keeps kp8' low kp9⟩
      refine acca8.row (by decide) kp9 (accv7.row (by decide) kp8 ?_)
      rw[qD,if_neg n1]
      exact gk
end Go.Lite
/-
  The maker makes right terms; a closed term of raw ones.
-/
namespace Go.Lite
open Go Go.Proofs
theorem a97:∀ r:Raw,r.fit→pR r:=Raw.indA fun k q l ih hf=>by
 obtain⟨f1,f2⟩:=hf
 have f2:=(Raw.fits_iff l).1 f2
 have hp:nL (.mk k q l):=aDC k q l f1 fun r hr=>ih r hr (f2 r hr)
 obtain⟨w0,w1⟩:=zF k 16 (by decide) (by decide)
 by_cases h0:within k 16=0
 · exact a9U k q l h0
 by_cases h1:within k 16=1
 · exact a8R k q l h1
 by_cases h2:within k 16=2∨within k 16=3
 · exact aAD k q l h2
 by_cases h3:within k 16=4∨within k 16=5
 · exact aAE k q l h3 hp
 by_cases h4:within k 16=6∨within k 16=7∨within k 16=8
 · exact aAI k q l h4 hp
 by_cases h5:within k 16=9
 · exact aBP k q l h5 hp
 by_cases h6:within k 16=10∨within k 16=11∨within k 16=12
 · exact aAK k q l h6 hp
 · exact a8y k q l (by omega) hp
theorem a5i:∀ (rs:List Raw),Raw.fits rs→∀ (sc:List Str) (m:Nat),sc.length≤m+10→(∀ s∈sc,s≠[])→m+2*Raw.cnts rs<1000→
 ∃ (es : List X) (ms : Nat → Nat), es.length = rs.length ∧ ms 0 = m ∧ m ≤ ms rs.length ∧ X.goods es sc m (ms rs.length) ∧ X.nodess es ≤ Raw.cnts rs ∧ ms rs.length ≤ m + 2 * Raw.cnts rs ∧
   Ev fun n=>∀ j r e,rs[j]? = some r→es[j]? = some e→uM 21 [.agg r.cells,qE sc] (ms j) e (ms (j+1)) n
 | [],_,sc,m,_,_,_=>⟨[],fun _=>m,rfl,rfl,Nat.le_refl _,rfl,by simp[X.nodess],by simp,Ev.of fun n j r e h=>by simp at h⟩
 | r :: rs, hf, sc, m, hsc, hne, hm => by
   obtain⟨f1,f2⟩:=hf
   rw[Raw.cnts]at hm ⊢
   obtain⟨e,m',g1,g2,g3,g4⟩:=a97 r f1 sc m hsc hne (by omega)
   have hle:=(nK e sc m m' g1).1
   obtain⟨es,ms,h1,h2,h3,h4,h5,h6,h7⟩:=a5i rs f2 sc m' (by omega) hne (by omega)
   refine⟨e::es,fun j=>match j with|0=>m|j+1=>ms j,by simp[h1],rfl,?_,⟨m',g1,h4⟩,?_,?_,(g4.and h7).mono fun n hn j r' e' hr he=> ?_⟩
   · simp only[List.length_cons];omega
   · rw[X.nodess];omega
   · simp only[List.length_cons];omega
   · obtain⟨n1,n2⟩:=hn
     cases j with
     | zero=>
       simp only[List.getElem?_cons_zero,Option.some.injEq]at hr he
       subst hr;subst he
       simp only[]
       rw[h2];exact n1
     | succ j=>exact n2 j r' e' (by simpa using hr) (by simpa using he)
theorem a6C {m N:Nat}(h:1≤N):vds m N≠[]:=fun e=>by
 have:=congrArg List.length e
 rw[xS,List.length_nil]at this
 omega
theorem a5Y (a b:List Raw):Raw.cnts (a++b)=Raw.cnts a+Raw.cnts b:=by
 induction a with
 | nil=>simp[Raw.cnts]
 | cons x a ih=>simp only[List.cons_append,Raw.cnts,ih];omega
def a1c (l:List Raw) (i:Nat) (fr:Fr) (H:Heap):Prop:=
 ∃ v, Acc 3 H 9 1 i ((vds 0 i).flatMap str1) v ∧ HLow H ∧ fr 0 = kC l ∧ fr 2 = .ptr (.new 0) 0 ∧ fr 3 = .ptr (.new 1) 0 ∧ fr 4 = .ptr (.new 2) 0 ∧ fr 5 = .int .i64 (i + 1 : Nat) ∧
   H.t.get 0=some (.row [.int .i64 0,.str [],.nils,.nils] 0 false (some 28))∧H.t.get 1=some (.row [.int .i64 i] 0 false (some 53))∧H.t.get 2=some (.row [.int .i64 9,.str [],v,.nils] 0 false (some 28))
def jS (n:Nat):Nat:=min (n-1) 4
set_option maxHeartbeats 4000000 in
theorem a6M {n:Nat}{l:List Raw}{KK:Ex→Fr→Heap→R}{Q:AV→Heap→Prop}(hl2:2≤l.length) (hge:10≤n)
 (en:∀ b∈List.range 1000,b+1<1000→∀ (H:Heap) (k0:Nat) (ty:Option Nat),HLow H→H.t.get k0=some (.row [.int .i64 b] 0 false ty)→Gives (mD P5 n 22 [.ptr (.new k0) 0] H) fun v H'=>v= .str (vdot (b+1))∧H'.t.get k0=some (.row [.int .i64 (b+1:Nat)] 0 false ty)∧HKeep (only k0) H H')
 (fr:Fr) (H:Heap) (h:a1c l 0 fr H) (hend:∀ fr H,a1c l (jS l.length) fr H→Gives (KK (.exit 0) fr H) Q):
 Gives (zQ (qB P5 n) n a3u n fr H KK) Q:=by
 have hb1:jS l.length≤4:=by unfold jS;omega
 have hb2:jS l.length<l.length:=by unfold jS;omega
 have hb3:¬jS l.length+1<l.length∨jS l.length=4:=by unfold jS;omega
 generalize jS l.length=N at *
 refine qM N (fun i fr H=>a1c l i fr H) ?_ ?_ n 0 _ _ (by omega) (by omega) h
 · rintro i fr H K' hi ⟨v,acc,low,r0,r2,r3,r4,r5,g0,g1,g2⟩ hKe hKr hK
   have hlt:((i+1:Nat):Int)<(l.length:Int):=by omega
   have hlt5:((i+1:Nat):Int)<5:=by omega
   have hw:IntKind.i64.wrap (((i+1:Nat):Int)+1)=((i+1+1:Nat):Int):=qY (n:=10) (by omega) (by omega)
   have e5:=en i (List.mem_range.2 (by omega)) (by omega) H 1 (some 53) low g1
   have fv:=acc.flat
   simp -implicitDefEqProofs only[a3u,↓qA,ZZ,seval,CL,XS,qO,xO,qV,r0,r2,r3,r4,r5,g0,g1,g2,hlt,hlt5]
   refine xL e5 ?_
   rintro w H5 ⟨rfl,gk5,kp5⟩
   have low5:=kp5.low low
   have gc0:=kp5.get _ _ g0 (qW (by decide))
   have gc2:=kp5.get _ _ g2 (qW (by decide))
   have acc5:Acc 3 H5 9 1 i ((vds 0 i).flatMap str1) v:=acc.keep fun j o hb hj=>by
    rw[hj]
    refine kp5.get j _ hj ?_
    intro e;rw[e,g1]at hj;simp at hj
   have hlow5:=low5.push (ob:= .row [.str (vdot (i+1))] 0 true none)
   have acc5':=acc5.push low5 (ob:= .row [.str (vdot (i+1))] 0 true none)
   obtain⟨H7,happ,acc7,kp7,low7,hn7⟩:=acc5'.one_more (e:=9) (bs:=16) (ys:=[.str (vdot (i+1))]) (by simp only[h_n];have:=low5.lt gc2;omega) hlow5 (by decide) rfl rfl (by omega)
   have car:∀ j cs tt,H5.t.get j=some (.row cs 0 false tt)→H7.t.get j=some (.row cs 0 false tt):=fun j cs tt hg=>
    acc5'.row (by decide) kp7 (by rw[qF,if_neg (by have:=low5.lt hg;omega)];exact hg)
   have gd2:=car _ _ _ gc2
   simp only[h_n]at happ acc7
   simp -implicitDefEqProofs only[↓qA,ZZ,seval,CL,XS,r0,r2,r3,r4,r5,gc0,gc2,fv,zP,happ,gd2,hw]
   refine hK _ _ ⟨.slice (.new (H5.n+1)) 0 (i+1) (.gro 1),?_,low7.put (low7.lt gd2),?_,?_,?_,?_,?_,?_,?_,?_⟩
   · rw[mR,jK,Nat.zero_add];exact acc7.put (by decide) gd2
   · simp -implicitDefEqProofs only[↓qA,ZZ,seval,r0]
   · simp -implicitDefEqProofs only[↓qA,ZZ,seval,r2]
   · simp -implicitDefEqProofs only[↓qA,ZZ,seval,r3]
   · simp -implicitDefEqProofs only[↓qA,ZZ,seval,r4]
   · simp -implicitDefEqProofs only[↓qA,ZZ,seval]
   · rw[qD,if_neg (by decide)];exact car _ _ _ gc0
   · rw[qD,if_neg (by decide)];exact car _ _ _ gk5
   · rw[qD,if_pos rfl]
 · rintro fr H K' h hKe hKr
   have h':=h
   obtain⟨v,acc,low,r0,r2,r3,r4,r5,g0,g1,g2⟩:=h
   rcases hb3 with hb3|hb3
   · have hlt:¬((N+1:Nat):Int)<(l.length:Int):=by omega
     simp -implicitDefEqProofs only[a3u,↓qA,ZZ,seval,CL,XS,qO,r0,r2,r3,r4,r5,g0,g1,g2,hlt,hKe]
     refine hend _ _ ⟨v,acc,low,?_,?_,?_,?_,?_,g0,g1,g2⟩<;>simp -implicitDefEqProofs only[↓qA,ZZ,seval,r0,r2,r3,r4,r5]
   · by_cases hlt:((N+1:Nat):Int)<(l.length:Int)
     · have h5:¬((N+1:Nat):Int)<5:=by omega
       simp -implicitDefEqProofs only[a3u,↓qA,ZZ,seval,CL,XS,qO,r0,r2,r3,r4,r5,g0,g1,g2,hlt,h5,hKe]
       refine hend _ _ ⟨v,acc,low,?_,?_,?_,?_,?_,g0,g1,g2⟩<;>simp -implicitDefEqProofs only[↓qA,ZZ,seval,r0,r2,r3,r4,r5]
     · simp -implicitDefEqProofs only[a3u,↓qA,ZZ,seval,CL,XS,qO,r0,r2,r3,r4,r5,g0,g1,g2,hlt,hKe]
       refine hend _ _ ⟨v,acc,low,?_,?_,?_,?_,?_,g0,g1,g2⟩<;>simp -implicitDefEqProofs only[↓qA,ZZ,seval,r0,r2,r3,r4,r5]
def a2e (l:List Raw) (N:Nat) (es:List X) (ms:Nat→Nat) (i:Nat) (fr:Fr) (H:Heap):Prop:=
 ∃ a kv fz, Acc 3 H 28 4 i ((es.take i).flatMap X.cells) a ∧ 3 ≤ kv ∧ H.t.get kv = some (.row ((vds 0 N).flatMap str1) 1 fz (some 9)) ∧ HLow H ∧ fr 0 = kC l ∧ fr 2 = .ptr (.new 0) 0 ∧ fr 3 = .ptr (.new 1) 0 ∧ fr 4 = .ptr (.new 2) 0 ∧ fr 6 = .int .i64 (i + 1 : Nat) ∧
   H.t.get 0=some (.row [.int .i64 0,.str [],.nils,.nils] 0 false (some 28))∧H.t.get 1=some (.row [.int .i64 (ms i)] 0 false (some 53))∧H.t.get 2=some (.row [.int .i64 9,.str [],.slice (.new kv) 0 N (.gro 1),a] 0 false (some 28))
theorem a2p {H H5:Heap}{N kv i b:Nat}{fz:Bool}{es:List X}{x:X}{a:AV}(hx:es[i]? = some x) (hi:i≤10) (acc:Acc 3 H 28 4 i ((es.take i).flatMap X.cells) a) (hkv:3≤kv) (gv:H.t.get kv=some (.row ((vds 0 N).flatMap str1) 1 fz (some 9))) (low:HLow H)
 (g0:H.t.get 0=some (.row [.int .i64 0,.str [],.nils,.nils] 0 false (some 28))) (g2:H.t.get 2=some (.row [.int .i64 9,.str [],.slice (.new kv) 0 N (.gro 1),a] 0 false (some 28)))
 (gk5:H5.t.get 1=some (.row [.int .i64 b] 0 false (some 53))) (kp5:HKeep (only 1) (H.put kv (.row ((vds 0 N).flatMap str1) 1 true (some 9))) H5):
 H5.t.get 2=some (.row [.int .i64 9,.str [],.slice (.new kv) 0 N (.gro 1),a] 0 false (some 28))∧2<H5.n∧∃ H7,xC 28 4 72 (H5.push (.row x.cells 0 true none)) a (1,x.cells)=some (.slice (.new (H5.n+1)) 0 (i+1) (.gro 4),H7)∧H7.t.get 2=some (.row [.int .i64 9,.str [],.slice (.new kv) 0 N (.gro 1),a] 0 false (some 28))∧
  ∀ ob, (Acc 3 (H7.put 2 ob) 28 4 (i + 1) ((es.take (i + 1)).flatMap X.cells) (.slice (.new (H5.n + 1)) 0 (i + 1) (.gro 4)) ∧ (H7.put 2 ob).t.get kv = some (.row ((vds 0 N).flatMap str1) 1 true (some 9)) ∧ HLow (H7.put 2 ob) ∧
    (H7.put 2 ob).t.get 0=some (.row [.int .i64 0,.str [],.nils,.nils] 0 false (some 28))∧(H7.put 2 ob).t.get 1=some (.row [.int .i64 b] 0 false (some 53))):=by
 have hnt:es.take (i+1)=es.take i++[x]:=by rw[List.take_add_one,hx];rfl
 have low3:=low.put (low.lt gv) (ob:= .row ((vds 0 N).flatMap str1) 1 true (some 9))
 have acc3:=acc.putT gv (by decide) (ob:= .row ((vds 0 N).flatMap str1) 1 true (some 9))
 have low5:=kp5.low low3
 have gc0:=kp5.get 0 _ (by rw[qD,if_neg (by omega)];exact g0) (qW (by decide))
 have gc2:=kp5.get 2 _ (by rw[qD,if_neg (by omega)];exact g2) (qW (by decide))
 have gv5:=kp5.get kv _ (by rw[qD,if_pos rfl]) (qW (by omega))
 have acc5:=acc3.kept kp5 fun j hj _=>qW (by omega)
 have hn5:=low5.lt gc2
 have hlow5:=low5.push (ob:= .row x.cells 0 true none)
 have acc5':=acc5.push low5 (ob:= .row x.cells 0 true none)
 obtain⟨H7,happ,acc7,kp7,low7,hn7⟩:=acc5'.one_more (e:=28) (bs:=72) (ys:=x.cells) (by simp only[h_n];omega) hlow5 (by decide) x.cells_len x.flat (by omega)
 have car:∀ j cs tt,H5.t.get j=some (.row cs 0 false tt)→H7.t.get j=some (.row cs 0 false tt):=fun j cs tt hg=>
  acc5'.row (by decide) kp7 (by rw[qF,if_neg (by have:=low5.lt hg;omega)];exact hg)
 have gv7:H7.t.get kv=some (.row ((vds 0 N).flatMap str1) 1 true (some 9)):=by
  refine kp7.get kv _ (by rw[qF,if_neg (by have:=low5.lt gv5;omega)];exact gv5) ?_
  rintro⟨o,m,c,e⟩
  rcases acc5 with⟨_,_,h⟩|⟨_,_,kk,h,_,h4⟩
  · rw[h]at e;cases e
  · rw[h]at e
    simp only[AV.slice.injEq,Blk.new.injEq]at e
    rw[e.1,gv5]at h4
    simp at h4
 have gd2:=car _ _ _ gc2
 simp only[h_n]at happ acc7
 refine⟨gc2,hn5,H7,happ,gd2,fun ob=>⟨?_,?_,low7.put (low7.lt gd2),?_,?_⟩⟩
 · rw[hnt,jK];exact acc7.put (by decide) gd2
 · rw[qD,if_neg (by omega)];exact gv7
 · rw[qD,if_neg (by decide)];exact car _ _ _ gc0
 · rw[qD,if_neg (by decide)];exact car _ _ _ gk5
theorem a1h {H:Heap}{ku N:Nat}{fz:Bool}{ns:List Str}(hN:ns.length=N) (h:H.t.get ku=some (.row (ns.flatMap str1) 1 fz (some 9))) (hne:ns≠[]):kJ (.slice (.new ku) 0 N (.gro 1)) H=some (qE ns,H.put ku (.row (ns.flatMap str1) 1 true (some 9))):=by
 subst hN
 exact a3A h hne
theorem a6W {H:Heap}{ku N:Nat}{fz:Bool}{ns:List Str}(hN:ns.length=N) (h:H.t.get ku=some (.row (ns.flatMap str1) 1 fz (some 9))) (hne:ns≠[]):xE 2048 (.slice (.new ku) 0 N (.gro 1)) H=some (qE ns,H.put ku (.row (ns.flatMap str1) 1 true (some 9))):=by
 subst hN
 have hl:(ns.flatMap str1).length=ns.length*1:=gJ tL ns
 have ht:(ns.flatMap str1).take (ns.length*(Cap.gro 1).es)=ns.flatMap str1:=by
  show(ns.flatMap str1).take (ns.length*1)=ns.flatMap str1
  rw[←hl,List.take_length]
 rw[dA (d:=2047),h,jN,List.drop_zero]
 rw[if_pos (by rw[ht];exact⟨hl,.inr (by decide)⟩),ht,(Still.flat wF ns).map]
 simp only[Option.map_some]
 cases ns with
 | nil=>exact absurd rfl hne
 | cons s ns=>rfl
set_option maxHeartbeats 4000000 in
theorem a6f {n N:Nat}{l:List Raw}{es:List X}{ms:Nat→Nat}{KK:Ex→Fr→Heap→R}{Q:AV→Heap→Prop}(hN1:1≤N) (hN4:N≤4) (hNl:N<l.length) (hb3:¬N+1<l.length∨N=4) (hlen:es.length=N+1) (hge:10≤n)
 (ee:∀ j r e,j<N→l[j+1]? = some r→es[j]? = some e→uM 21 [.agg r.cells,qE (vds 0 N)] (ms j) e (ms (j+1)) n)
 (fr:Fr) (H:Heap) (h:a2e l N es ms 0 fr H) (hend:∀ fr H,a2e l N es ms N fr H→Gives (KK (.exit 2) fr H) Q):
 Gives (zQ (qB P5 n) n a3H n fr H KK) Q:=by
 refine qM N (fun i fr H=>a2e l N es ms i fr H) ?_ ?_ n 0 _ _ (by omega) (by omega) h
 · rintro i fr H K' hi ⟨a,kv,fz,acc,hkv,gv,low,r0,r2,r3,r4,r6,g0,g1,g2⟩ hKe hKr hK
   have hlt:((i+1:Nat):Int)<(l.length:Int):=by omega
   have hlt5:((i+1:Nat):Int)<5:=by omega
   have hw:IntKind.i64.wrap (((i+1:Nat):Int)+1)=((i+1+1:Nat):Int):=qY (n:=10) (by omega) (by omega)
   obtain⟨r,hr⟩:∃ r,l[i+1]? = some r:=⟨l[i+1],List.getElem?_eq_getElem (by omega)⟩
   obtain⟨x,hx⟩:∃ x,es[i]? = some x:=⟨es[i],List.getElem?_eq_getElem (by omega)⟩
   have hsoft:=a1h (xS 0 N) gv (a6C hN1)
   have e5:=ee i r x hi hr hx (H.put kv (.row ((vds 0 N).flatMap str1) 1 true (some 9))) 1 (some 53) (low.put (low.lt gv)) (by rw[qD,if_neg (by omega)];exact g1)
   have fa:=acc.flat
   obtain⟨kr,qr,lr⟩:=r
   have hxk:=hx
   simp only[Raw.cells_mk]at e5
   have x1:¬2=kv:=by omega
   simp -implicitDefEqProofs only[a3H,↓qA,ZZ,seval,CL,XS,qO,xO,qV,r0,r2,r3,r4,r6,g0,g1,g2,hlt,hlt5,wP hr,Raw.cells_mk,hsoft]
   refine xL e5 ?_
   rintro w H5 ⟨rfl,gk5,kp5⟩
   obtain⟨gc2,hn5,H7,happ,gd2,hrest⟩:=a2p hx (by omega) acc hkv gv low g0 g2 gk5 kp5
   obtain⟨kx,tx,nx,lx⟩:=x
   have x2:¬2=H5.n:=by omega
   simp only[X.cells_mk]at happ
   simp -implicitDefEqProofs only[↓qA,ZZ,seval,CL,XS,r0,r2,r3,r4,r6,gc2,fa,zP,happ,gd2,hw]
   obtain⟨p1,p2,p3,p4,p5⟩:=hrest (.row [.int .i64 9,.str [],.slice (.new kv) 0 N (.gro 1),.slice (.new (H5.n+1)) 0 (i+1) (.gro 4)] 0 false (some 28))
   refine hK _ _ ⟨_,kv,true,p1,hkv,p2,p3,?_,?_,?_,?_,?_,p4,p5,by rw[qD,if_pos rfl]⟩
   · simp -implicitDefEqProofs only[↓qA,ZZ,seval,r0]
   · simp -implicitDefEqProofs only[↓qA,ZZ,seval,r2]
   · simp -implicitDefEqProofs only[↓qA,ZZ,seval,r3]
   · simp -implicitDefEqProofs only[↓qA,ZZ,seval,r4]
   · simp -implicitDefEqProofs only[↓qA,ZZ,seval]
 · rintro fr H K' h hKe hKr
   obtain⟨a,kv,fz,acc,hkv,gv,low,r0,r2,r3,r4,r6,g0,g1,g2⟩:=h
   rcases hb3 with hb3|hb3
   · have hlt:¬((N+1:Nat):Int)<(l.length:Int):=by omega
     simp -implicitDefEqProofs only[a3H,↓qA,ZZ,seval,CL,XS,qO,r0,r2,r3,r4,r6,g0,g1,g2,hlt,hKe]
     refine hend _ _ ⟨a,kv,fz,acc,hkv,gv,low,?_,?_,?_,?_,?_,g0,g1,g2⟩<;>simp -implicitDefEqProofs only[↓qA,ZZ,seval,r0,r2,r3,r4,r6]
   · by_cases hlt:((N+1:Nat):Int)<(l.length:Int)
     · have h5:¬((N+1:Nat):Int)<5:=by omega
       simp -implicitDefEqProofs only[a3H,↓qA,ZZ,seval,CL,XS,qO,r0,r2,r3,r4,r6,g0,g1,g2,hlt,h5,hKe]
       refine hend _ _ ⟨a,kv,fz,acc,hkv,gv,low,?_,?_,?_,?_,?_,g0,g1,g2⟩<;>simp -implicitDefEqProofs only[↓qA,ZZ,seval,r0,r2,r3,r4,r6]
     · simp -implicitDefEqProofs only[a3H,↓qA,ZZ,seval,CL,XS,qO,r0,r2,r3,r4,r6,g0,g1,g2,hlt,hKe]
       refine hend _ _ ⟨a,kv,fz,acc,hkv,gv,low,?_,?_,?_,?_,?_,g0,g1,g2⟩<;>simp -implicitDefEqProofs only[↓qA,ZZ,seval,r0,r2,r3,r4,r6]
set_option maxHeartbeats 4000000 in
theorem aDW (l:List Raw) (hl:l.length≤9223372036854775807) (hf:Raw.fits l) (hc:Raw.cnts l≤40):∃ (e:X) (m':Nat),e.good [] 0 m'∧e.nodes≤41∧m'<100∧Ret P5 9 [kC l] e.v:=by
 match l,hl,hf,hc with
 | [],_,_,_=>
   refine⟨.mk 1 [53] [] [],0,a19 (by simp[intT]) _ _,by rw[jF rfl];omega,by omega,?_⟩
   refine Ret.of rfl (aAh _ _) rfl rfl (fun H=>by simp -implicitDefEqProofs only[↓qA,ZZ,seval,zA]) (Ev.of fun n H=> ?_)
   have h0:(((0:Nat):Int)==0)=true:=rfl
   simp -implicitDefEqProofs only[c9,↓qA,ZZ,seval,CL,XS,qO,h0,vF,tF,Ends,qC]
   exact⟨_,rfl⟩
 | [r],_,hf,hc=>
   rw[Raw.cnts,Raw.cnts]at hc
   obtain⟨e,m',h1,h2,h3,h4⟩:=a97 r hf.1 [] 0 (by simp) (by simp) (by omega)
   refine⟨e,m',h1,by omega,by omega,?_⟩
   refine Ret.of rfl (aAh _ _) rfl rfl (fun H=>by simp -implicitDefEqProofs only[↓qA,ZZ,seval,zA]) (h4.mono fun n e4 H=> ?_)
   have hh0:(((1:Nat):Int)==0)=false:=rfl
   have hh1:(((1:Nat):Int)==1)=true:=rfl
   have low2:=(HLow.bare (H:=H)).push (ob:= .row [.int .i64 0,.str [],.nils,.nils] 0 false (some 28)) |>.push (ob:= .row [.int .i64 0] 0 false (some 53))
   have e5:=e4 _ 1 (some 53) low2 (by rw[qF,if_pos (by simp only[h_n,vB])];rfl)
   obtain⟨kr,qr,lr⟩:=r
   obtain⟨ke,te,ne,le⟩:=e
   simp only[X.v_mk,Raw.cells_mk,vF]at e5
   have hr:[Raw.mk kr qr lr][0]? = some (Raw.mk kr qr lr):=rfl
   simp -implicitDefEqProofs only[c9,↓qA,ZZ,seval,CL,XS,qO,hh0,hh1,Int.toNat_zero,Int.le_refl,wP hr,Raw.cells_mk,xO,qV]
   refine xL e5 ?_
   rintro w H5 ⟨rfl,gk5,kp5⟩
   have gc0:=kp5.get 0 (.row [.int .i64 0,.str [],.nils,.nils] 0 false (some 28)) (by simp[qF,h_n,vB]) (qW (by decide))
   simp -implicitDefEqProofs only[↓qA,ZZ,seval,CL,XS,gc0,Ends,qC]
   exact⟨_,rfl⟩
 | r0 :: r1 :: ls, hl, hf, hc =>
   have hl2:2≤(r0::r1::ls).length:=by simp
   obtain⟨N,hN⟩:∃ N,jS (r0::r1::ls).length=N:=⟨_,rfl⟩
   have hN1:1≤N:=by rw[←hN];unfold jS;omega
   have hN4:N≤4:=by rw[←hN];unfold jS;omega
   have hNl:N<(r0::r1::ls).length:=by rw[←hN];unfold jS;omega
   have hb3:¬N+1<(r0::r1::ls).length∨N=4:=by rw[←hN];unfold jS;omega
   have hfit:Raw.fits ((r1::ls).take N++[r0]):=by
    rw[Raw.fits_iff]at hf ⊢
    intro d hd
    rcases List.mem_append.1 hd with h|h
    · exact hf d (List.mem_cons_of_mem _ (List.mem_of_mem_take h))
    · rw[List.mem_singleton.1 h];exact hf r0 (by simp)
   have hcn:Raw.cnts ((r1::ls).take N++[r0])≤40:=by
    have h1:=vT (r1::ls) N
    rw[a5Y]
    simp only[Raw.cnts]at hc h1 ⊢
    omega
   have hrl:((r1::ls).take N++[r0]).length=N+1:=by
    have h1:N<ls.length+1+1:=hNl
    rw[List.length_append,List.length_take,List.length_singleton,List.length_cons,Nat.min_eq_left (by omega)]
   obtain⟨es,ms,hlen,hm0,hmle,hgd,hnd,hms,hev⟩:=a5i _ hfit (vds 0 N) N (by rw[xS];omega) (fun s hs=>by obtain⟨j,rfl⟩:=a3U hs;exact a4B j) (by omega)
   rw[hrl]at hlen hmle hgd hms
   refine⟨.mk 9 [] (vds 0 N) es,ms (N+1),⟨.inr (.inr (.inr (.inr (.inr (.inr (.inr (.inr (.inl ⟨rfl,rfl,by rw[xS];omega,by rw[xS];exact hlen⟩)))))))),by omega,fun h=>absurd h (by decide),by rw[xS],?_⟩,?_,by omega,?_⟩
   · rw[xS,List.nil_append,Nat.zero_add];exact hgd
   · rw[X.nodes,if_neg (by decide)];omega
   have ev0:Ev fun n=>∀ j r e,((r1::ls).take N++[r0])[j]? = some r→es[j]? = some e→uM 21 [.agg r.cells,qE (vds 0 N)] (ms j) e (ms (j+1)) n:=hev
   have hlast:((r1::ls).take N++[r0])[N]? = some r0:=by
    have:((r1::ls).take N).length=N:=by simp only[List.length_append,List.length_singleton]at hrl;omega
    rw[List.getElem?_append_right (by omega),this,Nat.sub_self];rfl
   have hmid:∀ j,j<N→((r1::ls).take N++[r0])[j]? = (r0::r1::ls)[j+1]? := fun j hj=>by
    have:((r1::ls).take N).length=N:=by simp only[List.length_append,List.length_singleton]at hrl;omega
    rw[List.getElem?_append_left (by omega),List.getElem?_take_of_lt hj,List.getElem?_cons_succ]
   generalize hL:r0::r1::ls=L at *
   have hr0:L[0]? = some r0:=by rw[←hL];rfl
   refine Ret.of rfl (aAh _ _) rfl rfl (fun H=>by simp -implicitDefEqProofs only[↓qA,ZZ,seval,zA]) ((name31_all.and (ev0.and (Ev.ge 10))).mono fun n hn H=> ?_)
   obtain⟨en,ee,hge⟩:=hn
   have hh0:((L.length:Int)==0)=false:=by rw[beq_eq_false_iff_ne];omega
   have hh1:((L.length:Int)==1)=false:=by rw[beq_eq_false_iff_ne];omega
   simp -implicitDefEqProofs only[c9,↓qA,ZZ,seval,CL,XS,qO,hh0,hh1,xO,qV]
   refine a6M (l:=L) hl2 hge en _ _ ?_ fun fr H2 h=> ?_
   · refine⟨.nils,Acc.nil,((HLow.bare.push.push).push).put (by simp[h_n,vB]),?_⟩
     simp -implicitDefEqProofs only[↓qA,ZZ,Nat.reduceBEq,reduceIte,Nat.reduceAdd,Nat.reduceLeDiff,Nat.reduceEqDiff,Nat.reduceBneDiff]
     exact⟨rfl,rfl⟩
   · rw [hN] at h
     obtain⟨v,acc,low,r0',r2,r3,r4,r5,g0,g1,g2⟩:=h
     obtain⟨kv,rfl,hkv,gv⟩:=acc.slice (by omega)
     simp -implicitDefEqProofs only[↓qA,ZZ,seval,CL,XS]
     refine a6f (l:=L) (N:=N) (es:=es) (ms:=ms) hN1 hN4 hNl hb3 hlen hge (fun j r e hj hr he=>ee j r e (by rw[hmid j hj];exact hr) he) _ _ ?_ fun fr H3 h=> ?_
     · refine⟨.nils,kv,false,Acc.nil,hkv,gv,low,?_,?_,?_,?_,?_,g0,by rw[g1,hm0],g2⟩
       · simp -implicitDefEqProofs only[↓qA,ZZ,seval,r0']
       · simp -implicitDefEqProofs only[↓qA,ZZ,seval,r2]
       · simp -implicitDefEqProofs only[↓qA,ZZ,seval,r3]
       · simp -implicitDefEqProofs only[↓qA,ZZ,seval,r4]
       · simp -implicitDefEqProofs only[↓qA,ZZ,Nat.reduceBEq,reduceIte,Nat.reduceAdd,Nat.reduceLeDiff,Nat.reduceEqDiff,Nat.reduceBneDiff]
         rfl
     · obtain⟨a,kv,fz,acc,hkv,gv,low,r0',r2,r3,r4,r6,g0,g1,g2⟩:=h
       obtain⟨x,hx⟩:∃ x,es[N]? = some x:=⟨es[N],List.getElem?_eq_getElem (by omega)⟩
       have hsoft:=a1h (xS 0 N) gv (a6C hN1)
       have e5:=ee N r0 x hlast hx (H3.put kv (.row ((vds 0 N).flatMap str1) 1 true (some 9))) 1 (some 53) (low.put (low.lt gv)) (by rw[qD,if_neg (by omega)];exact g1)
       have fa:=acc.flat
       obtain⟨kr,qr,lr⟩:=r0
       simp only[Raw.cells_mk]at e5
       simp -implicitDefEqProofs only[↓qA,ZZ,seval,CL,XS,qO,xO,qV,r0',r2,r3,r4,r6,g0,g1,g2,Int.toNat_zero,Int.le_refl,wP hr0,Raw.cells_mk,hsoft]
       refine xL e5 ?_
       rintro w H5 ⟨rfl,gk5,kp5⟩
       obtain⟨gc2,hn5,H7,happ,gd2,hrest⟩:=a2p hx (by omega) acc hkv gv low g0 g2 gk5 kp5
       obtain⟨kx,tx,nx,lx⟩:=x
       simp only[X.cells_mk]at happ
       obtain⟨p1,p2,p3,p4,p5⟩:=hrest (.row [.int .i64 9,.str [],.slice (.new kv) 0 N (.gro 1),.slice (.new (H5.n+1)) 0 (N+1) (.gro 4)] 0 false (some 28))
       rw[List.take_of_length_le (by omega)]at p1
       generalize hH8:H7.put 2 (.row [.int .i64 9,.str [],.slice (.new kv) 0 N (.gro 1),.slice (.new (H5.n+1)) 0 (N+1) (.gro 4)] 0 false (some 28))=H8 at *
       have q2:H8.t.get 2=some (.row [.int .i64 9,.str [],.slice (.new kv) 0 N (.gro 1),.slice (.new (H5.n+1)) 0 (N+1) (.gro 4)] 0 false (some 28)):=by rw[←hH8,qD,if_pos rfl]
       simp -implicitDefEqProofs only[↓qA,ZZ,seval,CL,XS,r0',r2,r3,r4,r6,gc2,fa,zP,happ,gd2,hH8,q2,p4,Ends,qC]
       have hkv':(H8.put 0 (.row [.int .i64 9,.str [],.slice (.new kv) 0 N (.gro 1),.slice (.new (H5.n+1)) 0 (N+1) (.gro 4)] 0 false (some 28))).t.get kv=some (.row ((vds 0 N).flatMap str1) 1 true (some 9)):=by rw[qD,if_neg (by omega)];exact p2
       have acc9:=(p1.put (k:=0) (by decide) p4 (ob:= .row [.int .i64 9,.str [],.slice (.new kv) 0 N (.gro 1),.slice (.new (H5.n+1)) 0 (N+1) (.gro 4)] 0 false (some 28))).putT hkv' (by decide) (ob:= .row ((vds 0 N).flatMap str1) 1 true (some 9))
       rw[←hlen]at acc9
       obtain⟨H9,hsh,_⟩:=acc9.shut (d:=2047) (by decide) (Still.flat X.still _)
       rw[aAy,hlen]at hsh
       simp -implicitDefEqProofs only[a6W (xS 0 N) hkv' (a6C hN1),hsh,Option.bind_some,Option.map_some]
       exact⟨_,rfl⟩
end Go.Lite
