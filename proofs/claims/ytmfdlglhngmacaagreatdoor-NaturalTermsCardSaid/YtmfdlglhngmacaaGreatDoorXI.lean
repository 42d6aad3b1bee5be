/-
  Several texts in one: TNData, TNSame, TNIs, TNNum, TNName, TNPure, TNChain, TNRefA, TNRaw, TNMakeA, TNArity, TNOnce, TNGood, TNPart, TNMakeB, TNMakeC.
-/
import Derived.Test.YtmfdlglhngmacaaGreatDoorXG
import Derived.Test.YtmfdlglhngmacaaGreatDoorXE
set_option linter.unusedSimpArgs false
set_option linter.unusedVariables false
set_option linter.defProp false
set_option maxRecDepth 100000
/-
  Terms as Lean trees, and as the interpreter's values; seat r2's program as the interpreter takes it.
-/
namespace Go.Lite
open Go Go.Proofs
theorem yY (a b:Int) (hb:b≠0):Ret P5 38 [.int .i64 a,.int .i64 b] (.int .i64 (within a b)):=by
 refine Ret.of rfl (aFj _ _) rfl rfl (fun H=>by simp -implicitDefEqProofs only[↓qA,ZZ,seval]) (Ev.of fun n H=> ?_)
 unfold within
 by_cases h:a.tmod b<0
 all_goals simp -implicitDefEqProofs only[c38,↓qA,ZZ,Nat.reduceBEq,reduceIte,Nat.reduceAdd,Nat.reduceLeDiff,Nat.reduceEqDiff,Nat.reduceBneDiff,if_neg,if_pos,hb,h,Ends,qC]
 all_goals exact⟨_,rfl⟩
/-! ### Sizes -/
mutual
def X.size:X→Nat
 | .mk _ _ _ l=>1+X.sizes l
def X.sizes:List X→Nat
 | []=>0
 | d::ds=>d.size+X.sizes ds
end
end Go.Lite
/-
  Terms: what is the same; atoms; whether a term Is, by the program and by the document.
-/
namespace Go.Lite
open Go Go.Proofs
def rP {α β:Type}(p:α→β→Bool):List α→List β→Bool
 | [],[]=>true
 | x::xs,y::ys=>p x y&&rP p xs ys
 | _,_=>false
mutual
def X.same:X→X→Bool
 | .mk k t ns l,.mk k' t' ns' l'=>k==k'&&(t==t'&&(rP (· == ·) ns ns'&&X.sames l l'))
def X.sames:List X→List X→Bool
 | [],[]=>true
 | x::xs,y::ys=>X.same x y&&X.sames xs ys
 | _,_=>false
end
theorem X.sames_eq:∀ l l':List X,X.sames l l'=rP X.same l l'
 | [],[]=>by simp[X.sames,rP]
 | [],y::ys=>by simp[X.sames,rP]
 | x::xs,[]=>by simp[X.sames,rP]
 | x::xs,y::ys=>by rw[X.sames,rP,X.sames_eq xs ys]
mutual
def X.fit:X→Prop
 | .mk _ _ ns l=>ns.length≤1048576∧l.length≤60∧X.fits l
def X.fits:List X→Prop
 | []=>True
 | d::ds=>d.fit∧X.fits ds
end
theorem X.fits_iff (l:List X):X.fits l↔∀ d∈l,d.fit:=by
 induction l with
 | nil=>simp[X.fits]
 | cons d l ih=>simp[X.fits,ih]
end Go.Lite
/-
  Atoms; whether all arguments are atoms: the program's Is, the document's.
-/
namespace Go.Lite
open Go Go.Proofs
def nZ (k:Int):Bool:=decide (1≤k)&&decide (k≤5)
def X.atom:X→Bool | .mk k _ _ _=>nZ k
def X.kind:X→Int | .mk k _ _ _=>k
def a1T:Str:=[99,111,110,115]
def must (k:Int) (t:Str):Option Nat:=if k=7 then some 1 else if k=10∧t=a1T then some 0 else none
theorem aBE (x:X):Ret P5 43 [x.v] (.bool x.atom):=by
 obtain⟨k,t,ns,l⟩:=x
 refine Ret.of rfl (aFt _ _) rfl rfl (fun H=>by simp -implicitDefEqProofs only[kU,zK,X.shut,Option.bind_some,Option.map_some]) (Ev.of fun n H=> ?_)
 rw[X.atom,nZ]
 by_cases h1:1≤k<;>by_cases h2:k≤5
 all_goals simp -implicitDefEqProofs only[c43,↓qA,ZZ,Nat.reduceBEq,reduceIte,Nat.reduceAdd,Nat.reduceLeDiff,Nat.reduceEqDiff,Nat.reduceBneDiff,CL,XS,Ends,qC,h1,h2,ge_iff_le]
 all_goals exact⟨_,rfl⟩
theorem a6K (k:Int) (t:Str):((k==7)=true∧must k t=some 1)∨((k==7)=false∧(k==10)=true∧(t==a1T)=true∧must k t=some 0)∨((k==7)=false∧((k==10)=false∨((k==10)=true∧(t==a1T)=false))∧must k t=none):=by
 unfold must
 by_cases h1:k=7
 · exact .inl ⟨by simpa using h1,by rw[if_pos h1]⟩
 · by_cases h2:k=10
   · by_cases h3:t=a1T
     · exact .inr (.inl ⟨by simpa using h1,by simpa using h2,by simpa using h3,by rw[if_neg h1,if_pos ⟨h2,h3⟩]⟩)
     · exact .inr (.inr ⟨by simpa using h1,.inr ⟨by simpa using h2,by simpa using h3⟩,by rw[if_neg h1,if_neg (fun e=>h3 e.2)]⟩)
   · exact .inr (.inr ⟨by simpa using h1,.inl (by simpa using h2),by rw[if_neg h1,if_neg (fun e=>h2 e.1)]⟩)
def sO (k:Int) (t:Str):Int:=match must k t with|some n=>n|none=> -1
theorem aES (k:Int) (t:Str) (ns:List Str) (l:List X):Ret P5 42 [(X.mk k t ns l).v] (.int .i64 (sO k t)):=by
 refine Ret.of rfl (aEt _ _) rfl rfl (fun H=>by simp -implicitDefEqProofs only[kU,zK,X.shut,Option.bind_some,Option.map_some]) (Ev.of fun n H=> ?_)
 unfold sO
 rcases a6K k t with⟨h1,hm⟩|⟨h1,h2,h3,hm⟩|⟨h1,h2|⟨h2,h3⟩,hm⟩
 · rw[hm];simp -implicitDefEqProofs only[c42,↓qA,ZZ,seval,CL,XS,Ends,qC,h1];exact⟨_,rfl⟩
 · unfold a1T at h3
   rw[hm];simp -implicitDefEqProofs only[c42,↓qA,ZZ,seval,CL,XS,Ends,qC,h1,h2,h3];exact⟨_,rfl⟩
 · rw[hm];simp -implicitDefEqProofs only[c42,↓qA,ZZ,seval,CL,XS,Ends,qC,h1,h2];exact⟨_,rfl⟩
 · unfold a1T at h3
   rw[hm];simp -implicitDefEqProofs only[c42,↓qA,ZZ,seval,CL,XS,Ends,qC,h1,h2,h3];exact⟨_,rfl⟩
/-! ### All of them -/
mutual
def X.is:X→Bool
 | .mk k t _ a=>X.iss a&&(a.drop ((must k t).getD a.length)).all X.atom
def X.iss:List X→Bool
 | []=>true
 | x::l=>X.is x&&X.iss l
end
end Go.Lite
/-
  Numbers' texts: of less than a hundred; names that are new.
-/
namespace Go.Lite
open Go Go.Proofs
def numT (n:Nat):Str:=if n<10 then[48+n]else if n<100 then[48+n/10,48+n%10]else[48+n/100,48+n/10%10,48+n%10]
theorem a4h (n:Nat) (hn:n<10):Ret P5 75 [.int .i64 n] (.str [48+n]):=by
 refine Ret.of rfl (aAW _ _) rfl rfl (fun H=>by simp -implicitDefEqProofs only[↓qA,ZZ,seval]) (Ev.of fun m H=> ?_)
 have hc:¬(n:Int)≥10:=by omega
 have hw:IntKind.i64.wrap (48+(n:Int))=((48+n:Nat):Int):=by rw[wrap64 (by omega) (by omega)];omega
 have hw2:IntKind.u8.wrap ((48+n:Nat):Int)=((48+n:Nat):Int):=by
  have:∀ n:Nat,n<10→IntKind.u8.wrap ((48+n:Nat):Int)=((48+n:Nat):Int):=by decide
  exact this n hn
 have hb:bytesOf [AV.int .u8 ((48+n:Nat):Int)]=some [48+n]:=by
  have:∀ n:Nat,n<10→bytesOf [AV.int .u8 ((48+n:Nat):Int)]=some [48+n]:=by decide
  exact this n hn
 simp -implicitDefEqProofs only[c75,↓qA,ZZ,seval,hc,hw,hw2,hb,Ends,qC,vJ]
 exact⟨_,rfl⟩
theorem aAi (n:Nat) (hn:n<100):Ret P5 75 [.int .i64 n] (.str (numT n)):=by
 unfold numT
 by_cases h:n<10
 · rw[if_pos h];exact a4h n h
 · rw[if_neg h,if_pos hn]
   refine Ret.of rfl (aAW _ _) rfl rfl (fun H=>by simp -implicitDefEqProofs only[↓qA,ZZ,seval]) (((a4h (n/10) (by omega)).and (a4h (n%10) (by omega))).mono fun m e H=> ?_)
   obtain⟨e1,e2⟩:=e
   have hc:(n:Int)≥10:=by omega
   have hq:IntKind.i64.wrap ((n:Int).tdiv 10)=((n/10:Nat):Int):=by
    rw[Int.tdiv_eq_ediv_of_nonneg (by omega),wrap64 (by omega) (by omega)];omega
   have hr:IntKind.i64.wrap ((n:Int).tmod 10)=((n%10:Nat):Int):=by
    rw[Int.tmod_eq_emod_of_nonneg (by omega),wrap64 (by omega) (by omega)];omega
   have hr':(n:Int).tmod 10=((n%10:Nat):Int):=by rw[Int.tmod_eq_emod_of_nonneg (by omega)];omega
   have h10:((10:Int)==0)=false:=rfl
   have h10':¬(10:Int)=0:=by omega
   simp -implicitDefEqProofs only[c75,↓qA,ZZ,seval,CL,hc,hq,hr,hr',h10,h10',e1,e2,Ends,qC]
   exact⟨_,rfl⟩
end Go.Lite
/-
  Names that are new; a name's term; a binding.
-/
namespace Go.Lite
open Go Go.Proofs
theorem uD (n:Nat):(numT n).length≤3:=by
 unfold numT
 by_cases h:n<10<;>by_cases h2:n<100<;>simp[h,h2]
def pct (n:Nat):Str:=[37,46]++numT n
theorem aDP (c:Nat) (hc:c+1<100):Ev fun n=>∀ (H:Heap) (k0:Nat) (ty:Option Nat),HLow H→H.t.get k0=some (.row [.str [37,46],.int .i64 c] 0 false ty)→
 Gives (gL P5 n 44 [.ptr (.new k0) 0] H) fun v H'=>v= .str (pct (c+1))∧H'.t.get k0=some (.row [.str [37,46],.int .i64 (c+1:Nat)] 0 false ty)∧HKeep (only k0) H H':=by
 refine Ev.succ ((aAi (c+1) hc).mono fun n e H k0 ty low g0=> ?_)
 rw[zD (P:=P5) (sf:=c44) (aEM _ _) rfl]
 refine xK ?_
 have hw:IntKind.i64.wrap ((c:Int)+1)=((c+1:Nat):Int):=qR (n:=c+1) (by omega) (by omega)
 have hk0:=low.lt g0
 have hl:2+(numT (c+1)).length≤4611686018427387904:=by have:=uD (c+1);omega
 simp -implicitDefEqProofs only[c44,↓qA,ZZ,seval,CL,g0,hw,e,hl,qC]
 refine⟨_,_,rfl,rfl,?_,HKeep.put (X:=only k0) (fun _=>rfl) hk0⟩
 rw[qD,if_pos rfl]
def varX (s:Str):X:= .mk 5 s [] []
def bQ (s:Str) (x y:X):X:= .mk 9 [] [s] [x,y]
theorem a2G (s:Str):qE [s]= .lst 1 1 false [.str s]:=rfl
theorem a7F (x y:X):vXs [x,y]= .lst 4 2 false (x.cells++y.cells):=by
 simp only[vXs,vG,List.flatMap_cons,List.flatMap_nil,List.append_nil,List.length_cons,List.length_nil]
theorem aCd (s:Str):Ret P5 19 [.str s] (varX s).v:=by
 refine Ret.of rfl (aEj _ _) rfl rfl (fun H=>by simp -implicitDefEqProofs only[↓qA,ZZ,seval]) (Ev.of fun n H=> ?_)
 simp -implicitDefEqProofs only[c19,↓qA,ZZ,seval,CL,varX,XS,yC,tH,Ends,qC]
 exact⟨_,rfl⟩
theorem aDY (s:Str) (x y:X):Ret P5 18 [.str s,x.v,y.v] (bQ s x y).v:=by
 refine Ret.of rfl (aDX _ _) rfl rfl (fun H=>by simp -implicitDefEqProofs only[↓qA,ZZ,seval,X.shut]) (Ev.of fun n H=> ?_)
 obtain⟨kx,tx,nx,lx⟩:=x
 obtain⟨ky,ty,ny,ly⟩:=y
 simp -implicitDefEqProofs only[c18,↓qA,ZZ,seval,CL,bQ,XS,a2G,a7F,Ends,qC]
 exact⟨_,rfl⟩
end Go.Lite
/-
  Arguments by name, as a function of terms.
-/
namespace Go.Lite
open Go Go.Proofs
def zH (l:List (Str×X)) (e:X):X:=l.foldr (fun p e=>bQ p.1 p.2 e) e
mutual
def X.nrm:X→Nat→X×Nat
 | .mk k t ns a,c=>(zH (X.nrms a ((must k t).getD a.length) 0 c).2.1 (.mk k t ns (X.nrms a ((must k t).getD a.length) 0 c).1),(X.nrms a ((must k t).getD a.length) 0 c).2.2)
def X.nrms : List X → Nat → Nat → Nat → List X × List (Str × X) × Nat
 | [],_,_,c=>([],[],c)
 | x::l,m,i,c=>
   if m≤i∧(x.nrm c).1.atom=false then
    (varX (pct ((x.nrm c).2+1))::(X.nrms l m (i+1) ((x.nrm c).2+1)).1,(pct ((x.nrm c).2+1),(x.nrm c).1)::(X.nrms l m (i+1) ((x.nrm c).2+1)).2.1,(X.nrms l m (i+1) ((x.nrm c).2+1)).2.2)
   else((x.nrm c).1::(X.nrms l m (i+1) (x.nrm c).2).1,(X.nrms l m (i+1) (x.nrm c).2).2.1,(X.nrms l m (i+1) (x.nrm c).2).2.2)
end
theorem a09 (l l':List X) (m i c:Nat):X.nrms (l++l') m i c=
 ((X.nrms l m i c).1++(X.nrms l' m (i+l.length) (X.nrms l m i c).2.2).1,(X.nrms l m i c).2.1++(X.nrms l' m (i+l.length) (X.nrms l m i c).2.2).2.1,(X.nrms l' m (i+l.length) (X.nrms l m i c).2.2).2.2):=by
 induction l generalizing i c with
 | nil=>simp[X.nrms]
 | cons x l ih=>
   simp only[List.cons_append,X.nrms,ih,List.length_cons,show i+(l.length+1)=i+1+l.length by omega]
   split<;>rfl
theorem a8w {l:List X}{j:Nat}{x:X}(h:l[j]? = some x) (m c:Nat):X.nrms (l.take (j+1)) m 0 c=
 if m≤j∧(x.nrm (X.nrms (l.take j) m 0 c).2.2).1.atom=false then
  ((X.nrms (l.take j) m 0 c).1++[varX (pct ((x.nrm (X.nrms (l.take j) m 0 c).2.2).2+1))],(X.nrms (l.take j) m 0 c).2.1++[(pct ((x.nrm (X.nrms (l.take j) m 0 c).2.2).2+1),(x.nrm (X.nrms (l.take j) m 0 c).2.2).1)],(x.nrm (X.nrms (l.take j) m 0 c).2.2).2+1)
 else((X.nrms (l.take j) m 0 c).1++[(x.nrm (X.nrms (l.take j) m 0 c).2.2).1],(X.nrms (l.take j) m 0 c).2.1,(x.nrm (X.nrms (l.take j) m 0 c).2.2).2):=by
 have hj:=(List.getElem?_eq_some_iff.1 h).1
 have hlen:(l.take j).length=j:=by rw[List.length_take];omega
 rw[List.take_add_one,h,Option.toList_some,a09]
 simp only[X.nrms,hlen,Nat.zero_add]
 split
 · rfl
 · simp
theorem a19 (l:List X) (h:∀ x∈l,∀ c,c≤(x.nrm c).2) (m i c:Nat):c≤(X.nrms l m i c).2.2:=by
 induction l generalizing i c with
 | nil=>simp[X.nrms]
 | cons x l ih=>
   have h1:=h x (by simp) c
   rw[X.nrms]
   split
   · have h2:=ih (fun y hy=>h y (by simp[hy])) (i+1) ((x.nrm c).2+1)
     simp only[];omega
   · have h2:=ih (fun y hy=>h y (by simp[hy])) (i+1) (x.nrm c).2
     simp only[];omega
theorem a7w:∀ (x:X) (c:Nat),c≤(x.nrm c).2:=X.indA fun k t ns a ih c=>by
 rw[X.nrm]
 exact a19 a ih _ _ _
theorem a3V (l:List X) (m i c:Nat):c≤(X.nrms l m i c).2.2:=a19 l (fun x _=>a7w x) m i c
theorem a4Y (l:List X) (m i c:Nat):(X.nrms l m i c).1.length=l.length:=by
 induction l generalizing i c with
 | nil=>simp[X.nrms]
 | cons x l ih=>
   rw[X.nrms]
   split<;>simp[ih]
theorem nW (l:List X) (m i c:Nat):(X.nrms l m i c).2.1.length≤l.length∧c+(X.nrms l m i c).2.1.length≤(X.nrms l m i c).2.2:=by
 induction l generalizing i c with
 | nil=>simp[X.nrms]
 | cons x l ih=>
   have h1:=a7w x c
   rw[X.nrms]
   split
   · have:=ih (i+1) ((x.nrm c).2+1)
     simp only[List.length_cons];omega
   · have:=ih (i+1) (x.nrm c).2
     simp only[List.length_cons];omega
theorem a4q (l:List X) (m j c:Nat):(X.nrms (l.take j) m 0 c).2.2≤(X.nrms l m 0 c).2.2:=by
 conv=>rhs;rw[←List.take_append_drop j l,a09]
 exact a3V _ _ _ _
end Go.Lite
/-
  Bindings about bindings, as they lie in rows; they are told as content.
-/
namespace Go.Lite
open Go Go.Proofs
theorem kI {α:Type}{g:α→List AV}(l:List α) (x:α):(l++[x]).flatMap g=l.flatMap g++g x:=by simp
inductive Chain (B:Nat) (H:Heap) (x:X):List (Str×X)→List AV→Nat→Prop where
 | nil {b:Nat}:B≤b→Chain B H x [] x.cells b
 | cons {s:Str}{y:X}{l:List (Str×X)}{cells:List AV}{b r:Nat}:Chain B H x l cells b→b≤r→H.t.get r=some (.row (y.cells++cells) 4 false (some 28))→
    Chain B H x ((s,y)::l) [.int .i64 9,.str [],.lst 1 1 true [.str s],.slice (.new r) 0 2 (.gro 4)] (r+1)
theorem Chain.le {B:Nat}{H:Heap}{x:X}{l:List (Str×X)}{cells:List AV}{b:Nat}(h:Chain B H x l cells b):B≤b:=by
 induction h with
 | nil h=>exact h
 | cons _ h _ ih=>omega
theorem Chain.len {B:Nat}{H:Heap}{x:X}{l:List (Str×X)}{cells:List AV}{b:Nat}(h:Chain B H x l cells b):cells.length=4:=by
 cases h with
 | nil h=>exact X.cells_len x
 | cons _ h _=>rfl
theorem Chain.flat {B:Nat}{H:Heap}{x:X}{l:List (Str×X)}{cells:List AV}{b:Nat}(h:Chain B H x l cells b):cells.all AV.flat=true:=by
 cases h with
 | nil h=>exact X.flat x
 | cons _ h _=>rfl
theorem Chain.keep {B:Nat}{H H':Heap}{x:X}{l:List (Str×X)}{cells:List AV}{b:Nat}(h:Chain B H x l cells b) (k:∀ j,B≤j→j<b→H'.t.get j=H.t.get j):Chain B H' x l cells b:=by
 induction h with
 | nil h=>exact .nil h
 | cons c h g ih=>
   have:=c.le
   exact .cons (ih fun j h1 h2=>k j h1 (by omega)) h (by rw[k _ (by omega) (by omega)];exact g)
theorem Chain.mono {B:Nat}{H:Heap}{x:X}{l:List (Str×X)}{cells:List AV}{b b':Nat}(h:Chain B H x l cells b) (hb:b≤b') (hl:l=[]):Chain B H x l cells b':=by
 cases h with
 | nil h=>exact .nil (by omega)
 | cons _ _ _=>cases hl
theorem tL {f:AV→Heap→Option (AV×Heap)}:∀ {xs ys:List AV}{H H1 H2:Heap}{us vs:List AV},qI f xs H=some (us,H1)→qI f ys H1=some (vs,H2)→qI f (xs++ys) H=some (us++vs,H2)
 | [],ys,H,H1,H2,us,vs,h,k=>by
   simp only[kU,Option.some.injEq,Prod.mk.injEq]at h
   obtain⟨rfl,rfl⟩:=h
   exact k
 | x::xs,ys,H,H1,H2,us,vs,h,k=>by
   simp only[zK,Option.bind_eq_some_iff,Option.map_eq_some_iff,Prod.mk.injEq]at h
   obtain⟨⟨y,G⟩,hy,⟨zs,G2⟩,hz,rfl,rfl⟩:=h
   simp only[List.cons_append,zK,hy,Option.bind_some,tL hz k,Option.map_some]
theorem Chain.shut {B : Nat} {x : X} : ∀ {l : List (Str × X)} {H : Heap} {cells : List AV} {b : Nat}, Chain B H x l cells b → ∀ d, l.length ≤ d → HLow H →
 ∃ H',qI (qZ d) cells H=some ((zH l x).cells,H')∧(∀ j,(j<B∨b≤j)→H'.t.get j=H.t.get j)∧H'.n=H.n∧HLow H'
 | [],H,cells,b,h,d,hd,low=>by
   cases h with
   | nil h=>exact⟨H,x.still.map d H,fun _ _=>rfl,rfl,low⟩
 | (s, y) :: l, H, cells, b, h, d, hd, low => by
   cases h with
   | @cons _ _ _ cells b r c hb g=>
     have hbl:=c.le
     obtain⟨d,rfl⟩:∃ d',d=d'+1:=⟨d-1,by simp only[List.length_cons]at hd;omega⟩
     have hr:r<H.n:=low _ _ g
     have low1:HLow (H.put r (.row (y.cells++cells) 4 true (some 28))):=low.put hr
     have c1:Chain B (H.put r (.row (y.cells++cells) 4 true (some 28))) x l cells b:=c.keep fun j h1 h2=>by rw[qD,if_neg (by omega)]
     obtain⟨H',e1,e2,e3,e4⟩:=Chain.shut c1 d (by simp only[List.length_cons]at hd;omega) low1
     have hlen:(y.cells++cells).length=2*4:=by rw[List.length_append,X.cells_len,c.len]
     have ht:(y.cells++cells).take (2*4)=y.cells++cells:=by rw[←hlen,List.take_length]
     refine⟨H',?_,fun j hj=> ?_,by rw[e3];simp[xJ],e4⟩
     · have hs:qZ (d+1) (.slice (.new r) 0 2 (.gro 4)) H=some (vXs [y,zH l x],H'):=by
        simp only[qZ,g,wC,List.drop_zero,Cap.es]
        rw[ht,if_pos ⟨hlen,.inr (by decide)⟩,tL (y.still.map d _) e1]
        rw[a7F]
        rfl
       have hb2:zH ((s,y)::l) x=bQ s y (zH l x):=rfl
       rw[hb2,bQ,X.cells_mk,a2G]
       simp only[zK,kU,jE,wW,a1l,hs,Option.bind_some,Option.map_some,aAj,yC]
     · rw[e2 j (by omega),qD,if_neg (by omega)]
end Go.Lite
/-
  A copy of names; what is told of it later.
-/
namespace Go.Lite
open Go Go.Proofs
theorem nC {ns:List Str}{H:Heap}:taken 1 H (qE ns)=some (ns.length,ns.flatMap str1):=bT
def NamesAt (N:Nat) (H:Heap) (ns:List Str) (v:AV):Prop:=(ns=[]∧v= .lst 0 0 true [])∨Acc N H 9 1 ns.length (ns.flatMap str1) v
theorem NamesAt.flat {N:Nat}{H:Heap}{ns:List Str}{v:AV}(h:NamesAt N H ns v):v.flat=true:=by
 rcases h with⟨_,rfl⟩|h
 · rfl
 · exact h.flat
theorem NamesAt.shut {N:Nat}{H:Heap}{ns:List Str}{v:AV}(h:NamesAt N H ns v) (d:Nat):∃ H',qZ (d+1) v H=some (qE ns,H')∧HKeep (blk v) H H':=by
 rcases h with⟨rfl,rfl⟩|h
 · exact⟨H,rfl,HKeep.refl⟩
 · exact h.shut (by decide) (Still.flat jX _)
theorem a9n (ns:List Str):(ns.flatMap str1).all AV.flat=true:=by
 rw[List.all_eq_true]
 intro c hc
 obtain⟨x,_,hx⟩:=List.mem_flatMap.1 hc
 rw[List.mem_singleton.1 hx]
 rfl
theorem a0o {G:Heap}(low:HLow G) (ns:List Str) (hb:ns.length≤1048576):∃ v G1,x9 9 1 16 G (.lst 0 0 true []) (ns.length,ns.flatMap str1)=some (v,G1)∧NamesAt G.n G1 ns v∧HLow G1∧G.n≤G1.n∧(∀ j,j<G.n→G1.t.get j=G.t.get j)∧HKeep (fun _ _=>False) G G1:=by
 cases ns with
 | nil=>exact⟨.lst 0 0 true [],G,rfl,.inl ⟨rfl,rfl⟩,low,Nat.le_refl _,fun _ _=>rfl,HKeep.refl⟩
 | cons s ns=>
   have hl:((s::ns).flatMap str1).length=(s::ns).length*1:=jN mX _
   simp only[List.length_cons]at hb
   have happ:x9 9 1 16 G (.lst 0 0 true []) ((s::ns).length,(s::ns).flatMap str1)=some (.slice (.new G.n) 0 (s::ns).length (.gro 1),G.push (.row ((s::ns).flatMap str1) 1 false (some 9))):=by
    unfold x9
    rw[if_neg (by rw[a9n];simp)]
    simp only[]
    rw[if_neg (by simp),if_pos ⟨.inr trivial,trivial,by simp only[List.length_cons];omega,by simp only[List.length_cons];omega⟩]
    simp[Heap.fresh]
   refine⟨_,_,happ,.inr (.inr ⟨by simp,hl,G.n,rfl,Nat.le_refl _,by rw[qF,if_pos rfl]⟩),low.push,by simp[h_n],fun j hj=>by rw[qF,if_neg (by omega)],HKeep.push low⟩
theorem NamesAt.weak {N N':Nat}{H:Heap}{ns:List Str}{v:AV}(h:NamesAt N H ns v) (hN:N'≤N):NamesAt N' H ns v:=by
 rcases h with h|h|⟨h1,h2,k,h3,h4,h5⟩
 · exact .inl h
 · exact .inr (.inl h)
 · exact .inr (.inr ⟨h1,h2,k,h3,by omega,h5⟩)
theorem NamesAt.kept {X:Nat→Obj→Prop}{N:Nat}{H H':Heap}{ns:List Str}{v:AV}(h:NamesAt N H ns v) (k:HKeep X H H') (hx:∀ j o,N≤j→blk v j o→¬X j o):NamesAt N H' ns v:=by
 rcases h with h|h
 · exact .inl h
 · refine .inr (h.keep fun j o hb hj=> ?_)
   rcases h with⟨_,_,rfl⟩|⟨_,_,k',rfl,h3,h4⟩
   · obtain⟨_,_,_,e⟩:=hb
     cases e
   · obtain⟨_,_,_,e⟩:=hb
     simp only[AV.slice.injEq,Blk.new.injEq]at e
     obtain⟨rfl,_⟩:=e
     rw[h4]
     exact k.get _ _ h4 (hx _ _ h3 ⟨_,_,_,rfl⟩)
theorem NamesAt.apart_fresh {N:Nat}{H:Heap}{ns:List Str}{v:AV}(h:NamesAt N H ns v) (low:HLow H) {k o m:Nat}{c:Cap}(hk:H.n≤k):Apart (.slice (.new k) o m c) v:=by
 rcases h with⟨_,rfl⟩|h
 · exact fun j o n c j' o' n' c' _ h=>by cases h
 · exact h.fresh low hk
end Go.Lite
/-
  Raw terms: how many they are.
-/
namespace Go.Lite
open Go Go.Proofs
inductive Raw where
 | mk (k n:Int) (l:List Raw)
mutual
theorem Raw.indA {P:Raw→Prop}(h:∀ k n l,(∀ d∈l,P d)→P (.mk k n l)):∀ d,P d
 | .mk k n l=>h k n l (Raw.indB h l)
theorem Raw.indB {P:Raw→Prop}(h:∀ k n l,(∀ d∈l,P d)→P (.mk k n l)):∀ l:List Raw,∀ d∈l,P d
 | [],d,hd=>by cases hd
 | e::l,d,hd=>by
   rcases List.mem_cons.1 hd with h1|h1
   · rw[h1];exact Raw.indA h e
   · exact Raw.indB h l d h1
end
def Raw.l:Raw→List Raw
 | .mk _ _ l=>l
mutual
def Raw.cells:Raw→List AV
 | .mk k n l=>[.int .i64 k,.int .i64 n,.L false 3 (Raw.cellsL l) l.length]
def Raw.cellsL:List Raw→List AV
 | []=>[]
 | d::ds=>d.cells++Raw.cellsL ds
end
theorem Raw.cellsL_eq (l:List Raw):Raw.cellsL l=l.flatMap Raw.cells:=by
 induction l with
 | nil=>rfl
 | cons d l ih=>rw[Raw.cellsL,ih,List.flatMap_cons]
def kE (l:List Raw):AV:=kS false 3 Raw.cells l
theorem Raw.cells_mk (k n:Int) (l:List Raw):(Raw.mk k n l).cells=[.int .i64 k,.int .i64 n,kE l]:=by
 rw[Raw.cells,Raw.cellsL_eq];rfl
theorem Raw.cells_len (d:Raw):d.cells.length=3:=by cases d;rw[Raw.cells_mk];rfl
theorem Raw.still (d:Raw):Still d.cells:=by
 cases d
 rw[Raw.cells_mk]
 exact .cons (fun _ _=>jE) (.cons (fun _ _=>jE) (.cons (fun _ _=>vC) .nil))
theorem qP {l:List Raw}:lenM (kE l)=some (.int .i64 l.length):=pY
theorem qW {d:Nat}{l:List Raw}{H:Heap}:qZ d (kE l) H=some (kE l,H):=vC
theorem zP {l:List Raw}{H:Heap}:shutV (kE l) H=some (kE l,H):=jB
theorem xN {l:List Raw}:(kE l).flat=true:=a0m
theorem wI {l:List Raw}{j:Nat}{d:Raw}(h:l[j]? = some d):xS 3 (kE l) j=some (.ptr (.val d.cells) 0):=sK Raw.cells_len h
/-! ### How many -/
mutual
def Raw.cnt:Raw→Nat
 | .mk _ _ l=>1+Raw.cnts l
def Raw.cnts:List Raw→Nat
 | []=>0
 | d::ds=>d.cnt+Raw.cnts ds
end
def goR (f:Raw→Nat):Nat→List Raw→Nat
 | n,[]=>n
 | n,r::rs=>if n≤40 then goR f (n+1+f r) rs else n
def vE:Nat→List Raw→Nat
 | 0,_=>1000
 | s+1,l=>goR (fun r=>vE s r.l) 0 l
theorem aA9 (f:Raw→Nat):∀ (l:List Raw) (n:Nat),n≤goR f n l
 | [],n=>Nat.le_refl n
 | r::rs,n=>by
   rw[goR]
   split
   · exact Nat.le_trans (by omega) (aA9 f rs _)
   · exact Nat.le_refl n
theorem aBF {f:Raw→Nat}{B:Nat}(hf:∀ r,f r≤B):∀ (l:List Raw) (n:Nat),n≤41+B→goR f n l≤41+B
 | [],n,h=>h
 | r::rs,n,h=>by
   rw[goR]
   split
   · exact aBF hf rs _ (by have:=hf r;omega)
   · exact h
theorem a5T:∀ (s:Nat) (l:List Raw),vE s l≤1000+41*s
 | 0,l=>by simp[vE]
 | s+1,l=>by
   rw[vE]
   have:=aBF (B:=1000+41*s) (fun r=>a5T s r.l) l 0 (by omega)
   omega
theorem a7Y : ∀ (s : Nat) (l : List Raw), vE s l ≤ 40 → vE s l = Raw.cnts l
 | 0,l,h=>by simp[vE]at h
 | s+1,l,h=>by
   rw[vE]at h ⊢
   have key : ∀ (l : List Raw) (n : Nat), goR (fun r => vE s r.l) n l ≤ 40 → goR (fun r => vE s r.l) n l = n + Raw.cnts l := by
    intro l
    induction l with
    | nil=>intro n h;simp[goR,Raw.cnts]
    | cons r rs ih=>
      intro n h
      rw[goR]at h ⊢
      split at h
      · rename_i hn
        rw[if_pos hn,ih _ h,Raw.cnts]
        have h1:=aA9 (fun r=>vE s r.l) rs (n+1+vE s r.l)
        have h2:=a7Y s r.l (by omega)
        obtain⟨k,q,l⟩:=r
        rw[Raw.cnt]
        simp only[Raw.l]at h2 ⊢
        omega
      · omega
   have:=key l 0 h
   omega
mutual
def Raw.fit:Raw→Prop
 | .mk _ _ l=>l.length≤9223372036854775807∧Raw.fits l
def Raw.fits:List Raw→Prop
 | []=>True
 | d::ds=>d.fit∧Raw.fits ds
end
theorem Raw.fits_iff (l:List Raw):Raw.fits l↔∀ d∈l,d.fit:=by
 induction l with
 | nil=>simp[Raw.fits]
 | cons d l ih=>simp[Raw.fits,ih]
theorem a8k:∀ (s:Nat),s≤13→∀ (l:List Raw),l.length≤9223372036854775807→Raw.fits l→Ret P5 20 [kE l,.int .i64 (13-s:Int)] (.int .i64 (vE s l))
 | 0,_,l,_,_=>by
   refine Ret.of rfl (a9M _ _) rfl rfl (fun H=>by simp -implicitDefEqProofs only[↓qA,ZZ,seval,zP]) (Ev.of fun n H=> ?_)
   have h:((13:Int)-(0:Nat)>12):=by decide
   simp -implicitDefEqProofs only[c20,↓qA,ZZ,seval,h,Ends,qC]
   exact⟨_,rfl⟩
 | s + 1, hs, l, hl, hf => by
   rw[Raw.fits_iff]at hf
   have ih:∀ r∈l,Ret P5 20 [kE r.l,.int .i64 (13-s:Int)] (.int .i64 (vE s r.l)):=fun r hr=>by
    have:=hf r hr
    obtain⟨k,q,l'⟩:=r
    rw[Raw.fit]at this
    exact a8k s (by omega) l' this.1 this.2
   refine Ret.of rfl (a9M _ _) rfl rfl (fun H=>by simp -implicitDefEqProofs only[↓qA,ZZ,seval,zP]) ?_
   refine((Ev.all l ih).and (Ev.ge (l.length+1))).mono fun n hn H=> ?_
   obtain⟨ihn,hge⟩:=hn
   have h:¬((13:Int)-((s+1:Nat):Int)>12):=by omega
   rw[vE]
   simp -implicitDefEqProofs only[c20,↓qA,ZZ,seval,h]
   refine qM l.length (fun i fr H=>∃ acc,goR (fun r=>vE s r.l) acc (l.drop i)=goR (fun r=>vE s r.l) 0 l∧acc≤3000∧fr 0=kE l∧fr 1= .int .i64 (13-(s+1:Nat):Int)∧fr 6= .int .i64 i∧fr 5= .int .i64 acc) ?_ ?_ n 0 _ _ (by omega) (by omega) ?_
   · rintro i fr H K' hi ⟨acc,hacc,hle,h0,h1,h6,h5⟩ hKe hKr hK
     obtain⟨r,hr⟩:∃ r,l[i]? = some r:=⟨l[i],List.getElem?_eq_getElem hi⟩
     have e1:=ihn r (List.mem_of_getElem? hr)
     have hlt:(i:Int)<(l.length:Int):=by omega
     have hw:=qR hi hl
     have hdr:l.drop i=r::l.drop (i+1):=by
      have h3:=(List.getElem?_eq_some_iff.1 hr)
      rw[←List.getElem_cons_drop (h:=hi),h3.2]
     rw[hdr,goR]at hacc
     by_cases h40:acc≤40
     · rw[if_pos h40]at hacc
       have hg:(acc:Int)≤40:=by omega
       have hw1:IntKind.i64.wrap ((acc:Int)+1)=((acc+1:Nat):Int):=by rw[wrap64 (by omega) (by omega)];rfl
       have hb:=a5T s r.l
       have hw2:IntKind.i64.wrap (((acc+1:Nat):Int)+((vE s r.l:Nat):Int))=((acc+1+vE s r.l:Nat):Int):=mK (by omega)
       have hw3:IntKind.i64.wrap ((13:Int)-((s+1:Nat):Int)+1)=(13:Int)-(s:Int):=by rw[wrap64 (by omega) (by omega)];omega
       obtain⟨k,q,l'⟩:=r
       simp only[Raw.l]at e1 hacc hw2 hb
       simp -implicitDefEqProofs only[a4B,↓qA,ZZ,seval,CL,h0,h1,h6,h5,hlt,hg,wI hr,Raw.cells_mk,zP,qP,e1,hw,hw1,hw2,hw3]
       refine hK _ _ ⟨acc+1+vE s l',hacc,by omega,?_⟩
       simp -implicitDefEqProofs only[↓qA,ZZ,seval,h0,h1,h6]
     · rw[if_neg h40]at hacc
       have hg:¬(acc:Int)≤40:=by omega
       simp -implicitDefEqProofs only[a4B,↓qA,ZZ,seval,CL,h0,h1,h6,h5,hlt,hg,qP,hKe,Ends,qC]
       exact⟨_,by rw[hacc]⟩
   · rintro fr H K' ⟨acc,hacc,hle,h0,h1,h6,h5⟩ hKe hKr
     rw[List.drop_length,goR]at hacc
     simp -implicitDefEqProofs only[a4B,↓qA,ZZ,seval,CL,h0,h1,h6,h5,Int.lt_irrefl,qP,hKe,Ends,qC]
     exact⟨_,by rw[hacc]⟩
   · refine⟨0,by rw[List.drop_zero],by omega,?_⟩
     simp -implicitDefEqProofs only[↓qA,ZZ,Nat.reduceBEq,reduceIte,Nat.reduceAdd,Nat.reduceLeDiff,Nat.reduceEqDiff,Nat.reduceBneDiff]
     rfl
theorem aDJ (l:List Raw) (hl:l.length≤9223372036854775807) (hf:Raw.fits l):Ret P5 8 [kE l] (.bool (decide (vE 13 l≤40))):=by
 refine Ret.of rfl (aFJ _ _) rfl rfl (fun H=>by simp -implicitDefEqProofs only[↓qA,ZZ,seval,zP]) ?_
 refine(a8k 13 (Nat.le_refl _) l hl hf).mono fun n e1 H=> ?_
 have h0:(13:Int)-(13:Nat)=0:=by decide
 rw[h0]at e1
 have hd:decide ((vE 13 l:Int)≤40)=decide (vE 13 l≤40):=by
  by_cases h:vE 13 l≤40
  · rw[decide_eq_true h,decide_eq_true (by omega)]
  · rw[decide_eq_false h,decide_eq_false (by omega)]
 simp -implicitDefEqProofs only[c8,↓qA,ZZ,seval,CL,zP,e1,Ends,qC,hd]
 exact⟨_,rfl⟩
theorem zA (a n:Int) (hn:0<n) (hn':n≤4611686018427387904):0≤within a n∧within a n<n:=by
 unfold within
 have h1:=Int.tmod_lt_of_pos a hn
 have h2: -n<a.tmod n:=by
  have:=Int.tmod_lt_of_pos (-a) hn
  rw[Int.neg_tmod]at this
  omega
 split
 · have:IntKind.i64.wrap (a.tmod n+n)=a.tmod n+n:=wrap64 (by omega) (by omega)
   rw[this];omega
 · omega
end Go.Lite
/-
  Names that the maker makes.
-/
namespace Go.Lite
open Go Go.Proofs
theorem a0K (n:Nat) (hn:n<10):Ret P5 41 [.int .i64 n] (.str [48+n]):=by
 refine Ret.of rfl (a6o _ _) rfl rfl (fun H=>by simp -implicitDefEqProofs only[↓qA,ZZ,seval]) (Ev.of fun m H=> ?_)
 have hc:¬(n:Int)≥10:=by omega
 have hw:IntKind.i64.wrap (48+(n:Int))=((48+n:Nat):Int):=by rw[wrap64 (by omega) (by omega)];omega
 have hw2:IntKind.u8.wrap ((48+n:Nat):Int)=((48+n:Nat):Int):=by
  have:∀ n:Nat,n<10→IntKind.u8.wrap ((48+n:Nat):Int)=((48+n:Nat):Int):=by decide
  exact this n hn
 have hb:bytesOf [AV.int .u8 ((48+n:Nat):Int)]=some [48+n]:=by
  have:∀ n:Nat,n<10→bytesOf [AV.int .u8 ((48+n:Nat):Int)]=some [48+n]:=by decide
  exact this n hn
 simp -implicitDefEqProofs only[c41,↓qA,ZZ,seval,hc,hw,hw2,hb,Ends,qC,vJ]
 exact⟨_,rfl⟩
theorem a2E (n:Nat) (hn:n<100):Ret P5 41 [.int .i64 n] (.str (numT n)):=by
 unfold numT
 by_cases h:n<10
 · rw[if_pos h];exact a0K n h
 · rw[if_neg h,if_pos hn]
   refine Ret.of rfl (a6o _ _) rfl rfl (fun H=>by simp -implicitDefEqProofs only[↓qA,ZZ,seval]) (((a0K (n/10) (by omega)).and (a0K (n%10) (by omega))).mono fun m e H=> ?_)
   obtain⟨e1,e2⟩:=e
   have hc:(n:Int)≥10:=by omega
   have hq:IntKind.i64.wrap ((n:Int).tdiv 10)=((n/10:Nat):Int):=by
    rw[Int.tdiv_eq_ediv_of_nonneg (by omega),wrap64 (by omega) (by omega)];omega
   have hr:IntKind.i64.wrap ((n:Int).tmod 10)=((n%10:Nat):Int):=by
    rw[Int.tmod_eq_emod_of_nonneg (by omega),wrap64 (by omega) (by omega)];omega
   have hr':(n:Int).tmod 10=((n%10:Nat):Int):=by rw[Int.tmod_eq_emod_of_nonneg (by omega)];omega
   have h10:((10:Int)==0)=false:=rfl
   have h10':¬(10:Int)=0:=by omega
   simp -implicitDefEqProofs only[c41,↓qA,ZZ,seval,CL,hc,hq,hr,hr',h10,h10',e1,e2,Ends,qC]
   exact⟨_,rfl⟩
theorem aBs (n:Nat) (hn:n<1000):Ret P5 41 [.int .i64 n] (.str (numT n)):=by
 by_cases h:n<100
 · exact a2E n h
 · have e0:=a2E (n/10) (by omega)
   have hd:numT (n/10)=[48+n/100,48+n/10%10]:=by
    unfold numT
    rw[if_neg (by omega),if_pos (by omega),Nat.div_div_eq_div_mul]
   rw[hd]at e0
   unfold numT
   rw[if_neg (by omega),if_neg h]
   refine Ret.of rfl (a6o _ _) rfl rfl (fun H=>by simp -implicitDefEqProofs only[↓qA,ZZ,seval]) ((e0.and (a0K (n%10) (by omega))).mono fun m e H=> ?_)
   obtain⟨e1,e2⟩:=e
   have hc:(n:Int)≥10:=by omega
   have hq:IntKind.i64.wrap ((n:Int).tdiv 10)=((n/10:Nat):Int):=by
    rw[Int.tdiv_eq_ediv_of_nonneg (by omega),wrap64 (by omega) (by omega)];omega
   have hr:IntKind.i64.wrap ((n:Int).tmod 10)=((n%10:Nat):Int):=by
    rw[Int.tmod_eq_emod_of_nonneg (by omega),wrap64 (by omega) (by omega)];omega
   have hr':(n:Int).tmod 10=((n%10:Nat):Int):=by rw[Int.tmod_eq_emod_of_nonneg (by omega)];omega
   have h10:((10:Int)==0)=false:=rfl
   have h10':¬(10:Int)=0:=by omega
   simp -implicitDefEqProofs only[c41,↓qA,ZZ,seval,CL,hc,hq,hr,hr',h10,h10',e1,e2,Ends,qC]
   exact⟨_,rfl⟩
def vdot (n:Nat):Str:=[118,46]++numT n
theorem aE7 (c:Nat) (hc:c+1<1000):Ev fun n=>∀ (H:Heap) (k0:Nat) (ty:Option Nat),HLow H→H.t.get k0=some (.row [.int .i64 c] 0 false ty)→
 Gives (gL P5 n 22 [.ptr (.new k0) 0] H) fun v H'=>v= .str (vdot (c+1))∧H'.t.get k0=some (.row [.int .i64 (c+1:Nat)] 0 false ty)∧HKeep (only k0) H H':=by
 refine Ev.succ ((aBs (c+1) hc).mono fun n e H k0 ty low g0=> ?_)
 rw[zD (P:=P5) (sf:=c22) (aFp _ _) rfl]
 refine xK ?_
 have hw:IntKind.i64.wrap ((c:Int)+1)=((c+1:Nat):Int):=qR (n:=c+1) (by omega) (by omega)
 have hk0:=low.lt g0
 have hl:2+(numT (c+1)).length≤4611686018427387904:=by have:=uD (c+1);omega
 simp -implicitDefEqProofs only[c22,↓qA,ZZ,seval,CL,g0,hw,e,hl,qC]
 refine⟨_,_,rfl,rfl,?_,HKeep.put (X:=only k0) (fun _=>rfl) hk0⟩
 rw[qD,if_pos rfl]
end Go.Lite
/-
  How many a primitive takes.
-/
namespace Go.Lite
open Go Go.Proofs
theorem a5i {d k o n:Nat}{c:Cap}{H:Heap}:qZ (d+1) (.slice (.new k) o n c) H=wC (qZ d) H k o n c (H.t.get k):=rfl
theorem a03 {f:AV→Heap→Option (AV×Heap)}{H:Heap}{k o n es:Nat}{c:Cap}{cs:List AV}{fz:Bool}{ty:Option Nat}:wC f H k o n c (some (.row cs es fz ty))=
 if ((cs.drop o).take (n*c.es)).length=n*c.es∧(n=0∨c.es≠0)then(qI f ((cs.drop o).take (n*c.es)) (H.put k (.row cs es true ty))).map fun q=>(.L (c.full 0) c.es q.1 n,q.2)else none:=rfl
def primT:List Str:=[[43],[45],[42],[113,117,111,116,105,101,110,116],[114,101,109,97,105,110,100,101,114],[60],[61],[101,113,63],[99,111,110,115],[115,101,113],[99,97,114],[99,100,114],[110,117,108,108,63],[112,97,105,114,63],[110,111,116],[105,110,116,101,103,101,114,63],[115,121,109,98,111,108,63],[101,114,114,111,114]]
def vP (s:Str):List Str→Nat→Int
 | [],_=>0
 | p::l,i=>if (p==s)=true then(if i<10 then 2 else 1)else vP s l (i+1)
def jP (s:Str):Int:=vP s primT 0
theorem aCg (s:Str):Ret P5 40 [.str s] (.int .i64 (jP s)):=by
 refine Ret.of rfl (aFv _ _) rfl rfl (fun H=>by simp -implicitDefEqProofs only[↓qA,ZZ,seval]) ((Ev.ge 20).mono fun n hge H=> ?_)
 have hget:∀ j p,primT[j]? = some p→(primT.map fun s:Str=>AV.str s)[j]? = some (AV.str p):=fun j p h=>by rw[List.getElem?_map,h];rfl
 simp -implicitDefEqProofs only[c40,↓qA,ZZ,seval,CL]
 refine qM primT.length (fun i fr H=>vP s (primT.drop i) i=jP s∧fr 0= .str s∧fr 3= .lst 1 18 true (primT.map fun s:Str=>AV.str s)∧fr 4= .int .i64 i) ?_ ?_ n 0 _ _ (by omega) (by show 18<n+0;omega) ?_
 · rintro i fr H K' hi ⟨ha,h0,h3,h4⟩ hKe hKr hK
   obtain⟨p,hp⟩:∃ p,primT[i]? = some p:=⟨primT[i],List.getElem?_eq_getElem hi⟩
   have hg:=hget i p hp
   have hi18:i<18:=hi
   have hlt:(i:Int)<((18:Nat):Int):=by omega
   have hw:=qR hi18 (by omega)
   have hdr:primT.drop i=p::primT.drop (i+1):=by
    rw[←List.getElem_cons_drop (h:=hi),(List.getElem?_eq_some_iff.1 hp).2]
   rw[hdr,vP]at ha
   cases hps:(p==s)with
   | true=>
     rw[hps,if_pos rfl]at ha
     by_cases h10:i<10
     · have h10':(i:Int)<10:=by omega
       rw[if_pos h10]at ha
       simp -implicitDefEqProofs only[a1B,↓qA,ZZ,Nat.reduceBEq,reduceIte,Nat.reduceAdd,Nat.reduceLeDiff,Nat.reduceEqDiff,Nat.reduceBneDiff,CL,h0,h3,h4,hlt,hi18,hg,hps,h10',hKr,Nat.mul_one,qC,Ends,←ha]
       exact⟨_,rfl⟩
     · have h10':¬(i:Int)<10:=by omega
       rw[if_neg h10]at ha
       simp -implicitDefEqProofs only[a1B,↓qA,ZZ,Nat.reduceBEq,reduceIte,Nat.reduceAdd,Nat.reduceLeDiff,Nat.reduceEqDiff,Nat.reduceBneDiff,CL,h0,h3,h4,hlt,hi18,hg,hps,h10',hKr,Nat.mul_one,qC,Ends,←ha]
       exact⟨_,rfl⟩
   | false=>
     rw[hps,if_neg (by decide)]at ha
     simp -implicitDefEqProofs only[a1B,↓qA,ZZ,Nat.reduceBEq,reduceIte,Nat.reduceAdd,Nat.reduceLeDiff,Nat.reduceEqDiff,Nat.reduceBneDiff,CL,h0,h3,h4,hlt,hi18,hg,hps,hw,Nat.mul_one]
     refine hK _ _ ⟨ha,?_⟩
     simp -implicitDefEqProofs only[↓qA,ZZ,seval,h0,h3]
 · rintro fr H K' ⟨ha,h0,h3,h4⟩ hKe hKr
   have h4:fr 4= .int .i64 ((18:Nat):Int):=h4
   have ha:vP s [] 18=jP s:=ha
   rw[vP]at ha
   simp -implicitDefEqProofs only[a1B,↓qA,ZZ,seval,CL,h0,h3,h4,Int.lt_irrefl,hKe,qC,Ends,←ha]
   exact⟨_,rfl⟩
 · simp -implicitDefEqProofs only[↓qA,ZZ,Nat.reduceBEq,reduceIte,Nat.reduceAdd,Nat.reduceLeDiff,Nat.reduceEqDiff,Nat.reduceBneDiff]
   exact⟨rfl,rfl,rfl⟩
end Go.Lite
/-
  A list's beginning.
-/
namespace Go.Lite
open Go Go.Proofs
def a7i (l:List Str) (i:Nat) (x:Str):Bool:= !((x==[])||(l.take i).any (· == x))
def a6a (l:List Str):Prop:=∀ i x,l[i]? = some x→a7i l i x=true
end Go.Lite
/-
  Right terms, as the maker makes them.
-/
namespace Go.Lite
open Go Go.Proofs
/-! ### How many arguments are no atoms -/
mutual
def X.thick:X→Nat
 | .mk k t _ l=>X.thicks l ((must k t).getD l.length) 0
def X.thicks:List X→Nat→Nat→Nat
 | [],_,_=>0
 | x::l,m,i=>x.thick+(if m≤i∧x.atom=false then 1 else 0)+X.thicks l m (i+1)
end
mutual
def X.nodes:X→Nat
 | .mk k _ _ l=>(if nZ k=true then 0 else 1)+X.nodess l
def X.nodess:List X→Nat
 | []=>0
 | x::l=>x.nodes+X.nodess l
end
theorem a5O:∀ x:X,x.thick+(if x.atom=true then 0 else 1)≤x.nodes:=X.indA fun k t ns l ih=>by
 have key:∀ (l:List X),(∀ x∈l,x.thick+(if x.atom=true then 0 else 1)≤x.nodes)→∀ m i,X.thicks l m i≤X.nodess l:=by
  intro l
  induction l with
  | nil=>intro _ m i;simp[X.thicks]
  | cons x l ihl=>
    intro h m i
    have h1:=h x (by simp)
    have h2:=ihl (fun y hy=>h y (by simp[hy])) m (i+1)
    rw[X.thicks,X.nodess]
    cases ha:x.atom with
    | true=>rw[ha]at h1;simp at h1 ⊢;omega
    | false=>rw[ha]at h1;simp at h1 ⊢;split<;>omega
 have:=key l ih ((must k t).getD l.length) 0
 rw[X.thick,X.nodes,X.atom]
 omega
theorem aAo (x:X):x.thick≤x.nodes:=by have:=a5O x;omega
/-! ### Norm's atoms, counts, sizes -/
theorem a8Y {k:Int}{t:Str}{m:Nat}(h:must k t=some m):(k=7∧m=1)∨(k=10∧t=a1T∧m=0):=by
 unfold must at h
 split at h
 · rename_i h7;exact .inl ⟨h7,by simpa using h.symm⟩
 · split at h
   · rename_i h10;exact .inr ⟨h10.1,h10.2,by simpa using h.symm⟩
   · cases h
/-! ### Names that are bound -/
mutual
def X.bnd:X→List Str
 | .mk _ _ ns l=>ns++X.bnds l
def X.bnds:List X→List Str
 | []=>[]
 | x::l=>x.bnd++X.bnds l
end
/-! ### What is right -/
def intT:List Str:=[[48],[49],[50],[45,51],[49,48],[45,53],[55],[49,48,48,48,48,48,48,48,48,48,48,48,48,48,48,48,48,48,48,48,48],[53]]
def shp (k:Int) (t:Str) (m n:Nat):Prop:=
 (k=1∧t∈intT∧m=0∧n=0)∨(k=2∧(t=[35,116]∨t=[35,102])∧m=0∧n=0)∨(k=3∧t=[]∧m=0∧n=0)∨(k=4∧(t≠[]∧t.length≤1000∧∀ c∈t,c<256)∧m=0∧n=0)∨(k=5∧t≠[]∧m=0∧n=0)∨
 (k=6∧t=[]∧0<m∧n=1)∨(k=7∧t=[]∧m=0∧2≤n)∨(k=8∧t=[]∧m=0∧n=3)∨(k=9∧t=[]∧0<m∧n=m+1)∨(k=10∧0<jP t∧(n:Int)=jP t∧m=0)
mutual
def X.right:X→Prop
 | .mk k t ns l=>shp k t ns.length l.length∧a6a ns∧X.rights l
def X.rights:List X→Prop
 | []=>True
 | x::l=>x.right∧X.rights l
end
theorem gD (l:List X):X.rights l↔∀ x∈l,x.right:=by
 induction l with
 | nil=>simp[X.rights]
 | cons x l ih=>rw[X.rights,ih];simp
theorem a9m:a6a []:=fun i x h=>by simp at h
theorem a90 {s:Str}(h:s≠[]):a6a [s]:=fun i x hx=>by
 cases i with
 | zero=>
   simp only[List.getElem?_cons_zero,Option.some.injEq]at hx
   subst hx
   simp[a7i,h]
 | succ i=>simp at hx
theorem aBL {l:List Str}(h1:l.Nodup) (h2:[]∉l):a6a l:=fun i x hx=>by
 have hm:=List.mem_of_getElem? hx
 have hne:x≠[]:=fun e=>h2 (e ▸ hm)
 have hno:(l.take i).any (· == x)=false:=by
  rw[List.any_eq_false]
  intro y hy
  obtain⟨j,hj⟩:=List.mem_iff_getElem?.1 hy
  have hji:j<i:=by
   have:=(List.getElem?_eq_some_iff.1 hj).1
   rw[List.length_take]at this;omega
  rw[List.getElem?_take_of_lt hji]at hj
  obtain⟨hi,hix⟩:=List.getElem?_eq_some_iff.1 hx
  obtain⟨hjl,hjx⟩:=List.getElem?_eq_some_iff.1 hj
  have:=(List.nodup_iff_pairwise_ne.1 h1)
  rw[List.pairwise_iff_getElem]at this
  have:=this j i hjl hi hji
  rw[hix,hjx]at this
  simpa using this
 simp[a7i,hne,hno]
/-! ### Names that are free -/
/-! ### As the maker makes them -/
def vds (m n:Nat):List Str:=(List.range' (m+1) n).map vdot
theorem a3W (c a b:Nat):vds c (a+b)=vds c a++vds (c+a) b:=by
 unfold vds
 rw[←List.map_append,show c+a+1=(c+1)+a by omega,List.range'_append_1]
theorem xR (c n:Nat):(vds c n).length=n:=by simp[vds]
theorem aCT (c:Nat):vds c 1=[vdot (c+1)]:=rfl
mutual
def X.good:X→List Str→Nat→Nat→Prop
 | .mk k t ns l,sc,m,m'=>shp k t ns.length l.length∧l.length≤5∧(k=5→t∈sc)∧ns=vds m ns.length∧X.goods l (sc++ns) (m+ns.length) m'
def X.goods:List X→List Str→Nat→Nat→Prop
 | [],_,m,m'=>m=m'
 | x::l,sc,m,m'=>∃ m1,x.good sc m m1∧X.goods l sc m1 m'
end
theorem a1Z {sc:List Str}{x:X}{m' m2:Nat}:∀ (l:List X) (m:Nat),X.goods l sc m m'→x.good sc m' m2→X.goods (l++[x]) sc m m2
 | [],m,h,hx=>by rw[X.goods]at h;subst h;exact⟨m2,hx,rfl⟩
 | y::l,m,⟨m1,h1,h2⟩,hx=>⟨m1,h1,a1Z l m1 h2 hx⟩
theorem dA:∀ (x:X) (sc:List Str) (m m':Nat),x.good sc m m'→m≤m'∧x.bnd=vds m (m'-m):=X.indA fun k t ns l ih sc m m' h=>by
 obtain⟨h1,h2,h3,h4,h5⟩:=h
 have key:∀ (l:List X),(∀ x∈l,∀ sc m m',x.good sc m m'→m≤m'∧x.bnd=vds m (m'-m))→∀ sc m m',X.goods l sc m m'→m≤m'∧X.bnds l=vds m (m'-m):=by
  intro l
  induction l with
  | nil=>
    intro _ sc m m' h
    rw[X.goods]at h
    subst h
    exact⟨Nat.le_refl _,by simp[X.bnds,vds]⟩
  | cons x l ihl=>
    intro h sc m m' hg
    obtain⟨m1,g1,g2⟩:=hg
    obtain⟨a1,a2⟩:=h x (by simp) sc m m1 g1
    obtain⟨b1,b2⟩:=ihl (fun y hy=>h y (by simp[hy])) sc m1 m' g2
    refine⟨by omega,?_⟩
    rw[X.bnds,a2,b2,show m'-m=(m1-m)+(m'-m1)by omega,a3W,show m+(m1-m)=m1 by omega]
 obtain⟨a1,a2⟩:=key l ih _ _ _ h5
 refine⟨by omega,?_⟩
 rw[X.bnd,a2,h4,xR,show m'-m=ns.length+(m'-(m+ns.length))by omega,a3W]
theorem a9Y {a b:Nat}(h:numT a=numT b):a=b:=by
 unfold numT at h
 by_cases a1:a<10<;>by_cases a2:a<100<;>by_cases b1:b<10<;>by_cases b2:b<100<;>simp only[a1,a2,b1,b2,if_true,if_false,List.cons.injEq,and_true,reduceCtorEq,and_false,List.nil_eq,List.cons_ne_nil]at h<;>omega
theorem aAz {a b:Nat}(h:vdot a=vdot b):a=b:=a9Y (by simpa[vdot]using h)
theorem a4J (n:Nat):vdot n≠[]:=by simp[vdot]
theorem a9a (m n:Nat):(vds m n).Nodup:=by
 unfold vds
 rw[List.nodup_iff_pairwise_ne,List.pairwise_map]
 exact(List.nodup_iff_pairwise_ne.1 List.nodup_range').imp fun h e=>h (aAz e)
theorem a3R {s:Str}{m n:Nat}(h:s∈vds m n):∃ j,s=vdot j:=by
 obtain⟨j,_,rfl⟩:=List.mem_map.1 h
 exact⟨j,rfl⟩
theorem a9Q (m n:Nat):a6a (vds m n):=aBL (a9a m n) fun h=>by
 obtain⟨j,e⟩:=a3R h
 exact a4J j e.symm
theorem sH:∀ (x:X) (sc:List Str) (m m':Nat),x.good sc m m'→x.right:=X.indA fun k t ns l ih sc m m' h=>by
 obtain⟨h1,h2,h3,h4,h5⟩:=h
 have key:∀ (l:List X),(∀ x∈l,∀ sc m m',x.good sc m m'→x.right)→∀ sc m m',X.goods l sc m m'→X.rights l:=by
  intro l
  induction l with
  | nil=>intro _ sc m m' h;trivial
  | cons x l ihl=>
    intro h sc m m' hg
    obtain⟨m1,g1,g2⟩:=hg
    exact⟨h x (by simp) sc m m1 g1,ihl (fun y hy=>h y (by simp[hy])) sc m1 m' g2⟩
 exact⟨h1,by rw[h4];exact a9Q _ _,key l ih _ _ _ h5⟩
theorem aBY:∀ (x:X) (sc:List Str) (m m':Nat),x.good sc m m'→m'≤1048576→x.fit:=X.indA fun k t ns l ih sc m m' h hm=>by
 obtain⟨h1,h2,h3,h4,h5⟩:=h
 have key:∀ (l:List X),(∀ x∈l,∀ sc m m',x.good sc m m'→m'≤1048576→x.fit)→∀ sc m m',X.goods l sc m m'→m'≤1048576→X.fits l∧m≤m':=by
  intro l
  induction l with
  | nil=>intro _ sc m m' h _;rw[X.goods]at h;exact⟨trivial,by omega⟩
  | cons x l ihl=>
    intro h sc m m' hg hm
    obtain⟨m1,g1,g2⟩:=hg
    obtain⟨a1,a2⟩:=ihl (fun y hy=>h y (by simp[hy])) sc m1 m' g2 hm
    have:=(dA x sc m m1 g1).1
    exact⟨⟨h x (by simp) sc m m1 g1 (by omega),a1⟩,by omega⟩
 obtain⟨a1,a2⟩:=key l ih _ _ _ h5 hm
 exact⟨by omega,by omega,a1⟩
end Go.Lite
/-
  A part that the maker makes: of a raw term's part; a name; a number.
-/
namespace Go.Lite
open Go Go.Proofs
def tX (f:FuncId) (args:List AV) (m:Nat) (e:X) (m':Nat) (n:Nat):Prop:=∀ (H:Heap) (k0:Nat) (ty:Option Nat),HLow H→H.t.get k0=some (.row [.int .i64 m] 0 false ty)→
 Gives (gL P5 n f (.ptr (.new k0) 0::args) H) fun v H'=>v=e.v∧H'.t.get k0=some (.row [.int .i64 m'] 0 false ty)∧HKeep (only k0) H H'
theorem qU {ns:List Str}{H:Heap}:kF (qE ns) H=some (qE ns,H):=mM
def dF (l:List Raw) (i:Nat):Nat:=match l[i]? with|some r=>r.cnt|none=>0
def pE (r:Raw):Prop:=∀ (sc:List Str) (m:Nat),sc.length≤m+10→(∀ s∈sc,s≠[])→m+2*r.cnt<1000→
 ∃ e m',e.good sc m m'∧e.nodes≤r.cnt∧m'≤m+2*r.cnt∧Ev (tX 21 [.agg r.cells,qE sc] m e m')
def mF (r:Raw):Prop:=∀ (i:Nat) (sc:List Str) (m:Nat),i≤10→sc.length≤m+10→(∀ s∈sc,s≠[])→m+2*dF r.l i<1000→
 ∃ e m',e.good sc m m'∧e.nodes≤dF r.l i∧m'≤m+2*dF r.l i∧Ev (tX 39 [.agg r.cells,.int .i64 i,qE sc] m e m')
def tabP:List Str:=[[48],[49],[50],[45,51],[49,48]]
theorem aCl {j:Nat}(h:j<5):[AV.str [48],.str [49],.str [50],.str [45,51],.str [49,48]][j]? = some (.str (tabP.getD j [])):=by
 match j,h with
 | 0,_=>rfl
 | 1,_=>rfl
 | 2,_=>rfl
 | 3,_=>rfl
 | 4,_=>rfl
theorem a9I {j:Nat}(h:j<5):tabP.getD j []∈intT:=by
 match j,h with
 | 0,_=>simp[tabP,intT]
 | 1,_=>simp[tabP,intT]
 | 2,_=>simp[tabP,intT]
 | 3,_=>simp[tabP,intT]
 | 4,_=>simp[tabP,intT]
theorem a0Z {t:Str}(h:t∈intT) (sc:List Str) (m:Nat):(X.mk 1 t [] []).good sc m m:=
 ⟨.inl ⟨rfl,h,rfl,rfl⟩,by simp,fun h=>absurd h (by decide),rfl,rfl⟩
theorem a5F {t:Str}{sc:List Str}(h:t∈sc) (hne:t≠[]) (m:Nat):(varX t).good sc m m:=
 ⟨.inr (.inr (.inr (.inr (.inl ⟨rfl,hne,rfl,rfl⟩)))),by simp,fun _=>h,rfl,rfl⟩
theorem yX {k:Int}{t:Str}{ns:List Str}(h:nZ k=true):(X.mk k t ns []).nodes=0:=by
 rw[X.nodes,if_pos h];rfl
set_option maxHeartbeats 1000000 in
theorem aFx (k q:Int) (l:List Raw) (hlen:l.length≤9223372036854775807) (ih:∀ r∈l,pE r):mF (.mk k q l):=fun i sc m hi10 hsc hne hm=>by
 simp only[Raw.l]at hm ⊢
 by_cases hi:i<l.length
 · obtain⟨r,hr⟩:∃ r,l[i]? = some r:=⟨l[i],List.getElem?_eq_getElem hi⟩
   have hca:dF l i=r.cnt:=by rw[dF,hr]
   rw[hca]at hm ⊢
   obtain⟨e,m',h1,h2,h3,h4⟩:=ih r (List.mem_of_getElem? hr) sc m hsc hne hm
   refine⟨e,m',h1,h2,h3,Ev.succ (h4.mono fun n e4 H k0 ty low g0=> ?_)⟩
   rw[zD (P:=P5) (sf:=c39) (a7n _ _) rfl]
   refine xK ?_
   have hk0:=low.lt g0
   have hlt:(i:Int)<(l.length:Int):=by omega
   have low2:=(low.push (ob:= .row (Raw.mk k q l).cells 0 false (some 56))).push (ob:= .row [.int .i64 0,.str [],.nils,.nils] 0 false (some 28))
   have g2:(((H.push (.row (Raw.mk k q l).cells 0 false (some 56))).push (.row [.int .i64 0,.str [],.nils,.nils] 0 false (some 28)))).t.get k0=some (.row [.int .i64 m] 0 false ty):=by
    rw[qF,if_neg (by simp only[h_n];omega),qF,if_neg (by omega)];exact g0
   have e5:=e4 _ k0 ty low2 g2
   obtain⟨kr,qr,lr⟩:=r
   obtain⟨ke,te,ne,le⟩:=e
   rw[Raw.cells_mk]at e5 low2 g2
   rw[X.v_mk]at e5
   simp only[Raw.cells_mk]at e5
   simp -implicitDefEqProofs only[c39,↓qA,ZZ,seval,CL,XS,qU,Raw.cells_mk,hlt,qP,xN,wI hr,qW]
   refine xD e5 ?_
   rintro w H5 ⟨rfl,gk5,kp5⟩
   have h9:H5.t.get (H.n+1)=some (.row [.int .i64 0,.str [],.nils,.nils] 0 false (some 28)):=kp5.get _ _ (by rw[qF,if_pos (by simp only[h_n])]) (qL (by omega))
   have low5:=kp5.low low2
   simp -implicitDefEqProofs only[↓qA,ZZ,seval,CL,XS,qU,h9,qC]
   refine⟨_,_,rfl,rfl,?_,(((HKeep.push low).pushed low).trans kp5).own low (by omega) (low5.lt h9)⟩
   rw[qD,if_neg (by omega)];exact gk5
 · have hca:dF l i=0:=by rw[dF,List.getElem?_eq_none (by omega)]
   rw[hca]
   have hlt:¬(i:Int)<(l.length:Int):=by omega
   generalize hA:IntKind.i64.wrap (q+(i:Int))=A
   by_cases hv:sc≠[]∧within A 3>0
   · obtain⟨hs,hw3⟩:=hv
     have hpos:0<sc.length:=List.length_pos_iff.2 hs
     have hgt:(sc.length:Int)>0:=by omega
     generalize hB:IntKind.i64.wrap (q+IntKind.i64.wrap (7*(i:Int)))=B
     obtain⟨j0,j1⟩:=zA B sc.length (by omega) (by omega)
     have hj:(within B sc.length).toNat<sc.length:=by omega
     obtain⟨s,hsj⟩:∃ s,sc[(within B sc.length).toNat]? = some s:=⟨_,List.getElem?_eq_getElem hj⟩
     have hmem:=List.mem_of_getElem? hsj
     refine⟨varX s,m,a5F hmem (hne s hmem) m,Nat.le_of_eq (yX rfl),Nat.le_refl _,Ev.succ (((yY A 3 (by decide)).and ((yY B sc.length (by omega)).and (aCd s))).mono fun n hn H k0 ty low g0=> ?_)⟩
     obtain⟨e1,e2,e3⟩:=hn
     rw[zD (P:=P5) (sf:=c39) (a7n _ _) rfl]
     refine xK ?_
     have hk0:=low.lt g0
     have low2:=(low.push (ob:= .row [.int .i64 k,.int .i64 q,kE l] 0 false (some 56))).push (ob:= .row [.int .i64 0,.str [],.nils,.nils] 0 false (some 28))
     simp only[varX,X.v_mk]at e3
     simp -implicitDefEqProofs only[c39,↓qA,ZZ,seval,CL,XS,qU,Raw.cells_mk,hlt,qP,xN,qW,hA,hB,hgt,hw3,e1,e2,e3,j0,vX hsj,qC,varX]
     refine⟨_,_,rfl,rfl,?_,((HKeep.push low).pushed low).own low (by omega) (by simp only[h_n];omega)⟩
     rw[qD,if_neg (by omega),qF,if_neg (by simp only[h_n];omega),qF,if_neg (by omega)];exact g0
   · obtain⟨j0,j1⟩:=zA A 5 (by decide) (by decide)
     have hj:(within A 5).toNat<5:=by omega
     refine⟨.mk 1 (tabP.getD (within A 5).toNat []) [] [],m,a0Z (a9I hj) sc m,Nat.le_of_eq (yX rfl),Nat.le_refl _,Ev.succ (((yY A 3 (by decide)).and (yY A 5 (by decide))).mono fun n hn H k0 ty low g0=> ?_)⟩
     obtain⟨e1,e2⟩:=hn
     rw[zD (P:=P5) (sf:=c39) (a7n _ _) rfl]
     refine xK ?_
     have hk0:=low.lt g0
     have hg:=aCl hj
     have fin:∀ (ob:Obj),HKeep (only k0) H ((((H.push (.row [.int .i64 k,.int .i64 q,kE l] 0 false (some 56))).push (.row [.int .i64 0,.str [],.nils,.nils] 0 false (some 28))).push ob)):=fun ob=>((HKeep.push low).pushed low).pushed low
     by_cases hs:sc=[]
     · subst hs
       simp -implicitDefEqProofs only[c39,↓qA,ZZ,seval,CL,XS,qU,Raw.cells_mk,hlt,qP,xN,qW,hA,e1,e2,j0,yC,hg,hj,Int.lt_irrefl,Nat.mul_one,gt_iff_lt,Int.ofNat_zero,Int.natCast_zero,qC]
       refine⟨_,_,rfl,rfl,?_,(fin _).own low (by omega) (by simp only[h_n];omega)⟩
       rw[qD,if_neg (by omega),qF,if_neg (by simp only[h_n];omega),qF,if_neg (by simp only[h_n];omega),qF,if_neg (by omega)];exact g0
     · have hw3:¬within A 3>0:=fun h=>hv ⟨hs,h⟩
       have hpos:0<sc.length:=List.length_pos_iff.2 hs
       have hgt:(sc.length:Int)>0:=by omega
       simp -implicitDefEqProofs only[c39,↓qA,ZZ,seval,CL,XS,qU,Raw.cells_mk,hlt,qP,xN,qW,hA,e1,e2,j0,hg,hj,hgt,hw3,Nat.mul_one,qC]
       refine⟨_,_,rfl,rfl,?_,(fin _).own low (by omega) (by simp only[h_n];omega)⟩
       rw[qD,if_neg (by omega),qF,if_neg (by simp only[h_n];omega),qF,if_neg (by simp only[h_n];omega),qF,if_neg (by omega)];exact g0
end Go.Lite
/-
  The maker, one kind of a term after the other: rows of parts; applications; primitives.
-/
namespace Go.Lite
open Go Go.Proofs
theorem a2W (l:List Raw) (N:Nat):Raw.cnts (l.take (N+1))=Raw.cnts (l.take N)+dF l N:=by
 induction l generalizing N with
 | nil=>simp[Raw.cnts,dF]
 | cons r l ih=>
   cases N with
   | zero=>simp[Raw.cnts,dF]
   | succ N=>
     have:=ih N
     simp only[List.take_succ_cons,Raw.cnts,dF,List.getElem?_cons_succ]at this ⊢
     omega
theorem vK (l:List Raw) (N:Nat):Raw.cnts (l.take N)≤Raw.cnts l:=by
 induction l generalizing N with
 | nil=>simp
 | cons r l ih=>
   cases N with
   | zero=>simp[Raw.cnts]
   | succ N=>have:=ih N;simp only[List.take_succ_cons,Raw.cnts];omega
theorem a2t (a b:List X):X.nodess (a++b)=X.nodess a+X.nodess b:=by
 induction a with
 | nil=>simp[X.nodess]
 | cons x a ih=>simp only[List.cons_append,X.nodess,ih];omega
theorem bS {r:Raw}(hp:mF r) (sc:List Str) (m:Nat) (hsc:sc.length≤m+10) (hne:∀ s∈sc,s≠[]) (hm:m+2*Raw.cnts r.l<1000):∀ N,N≤10→
 ∃ (es : List X) (ms : Nat → Nat), es.length = N ∧ ms 0 = m ∧ m ≤ ms N ∧ X.goods es sc m (ms N) ∧ X.nodess es ≤ Raw.cnts (r.l.take N) ∧ ms N ≤ m + 2 * Raw.cnts (r.l.take N) ∧
   Ev fun n=>∀ j,j<N→∀ e,es[j]? = some e→tX 39 [.agg r.cells,.int .i64 j,qE sc] (ms j) e (ms (j+1)) n
 | 0,_=>⟨[],fun _=>m,rfl,rfl,Nat.le_refl _,rfl,by simp[X.nodess],by simp,Ev.of fun n j hj=>by omega⟩
 | N + 1, hN => by
   obtain⟨es,ms,h1,h2,h0,h3,h4,h5,h6⟩:=bS hp sc m hsc hne hm N (by omega)
   have hc:=a2W r.l N
   have hle:=vK r.l (N+1)
   obtain⟨e,m',g1,g2,g3,g4⟩:=hp N sc (ms N) (by omega) (by omega) hne (by omega)
   refine⟨es++[e],fun j=>if j=N+1 then m' else ms j,by simp[h1],by simp[h2],?_,?_,?_,?_,?_⟩
   · have:=(dA e sc (ms N) m' g1).1
     simp only[if_true];omega
   · simp only[if_true];exact a1Z es m h3 g1
   · rw[a2t,hc];simp only[X.nodess];omega
   · simp only[if_true];omega
   · refine(h6.and g4).mono fun n hn j hj e' he'=> ?_
     obtain⟨n1,n2⟩:=hn
     by_cases hjN:j=N
     · subst hjN
       rw[List.getElem?_append_right (by omega),h1,Nat.sub_self]at he'
       simp only[List.getElem?_cons_zero,Option.some.injEq]at he'
       subst he'
       simp only[if_true]
       rw[if_neg (by omega)]
       exact n2
     · rw[List.getElem?_append_left (by omega)]at he'
       simp only[]
       rw[if_neg (by omega),if_neg (by omega)]
       exact n1 j (by omega) e' he'
theorem aAD {H H2:Heap}{k0:Nat}{ty:Option Nat}{k:Int}{t:Str}{ns:List Str}{es:List X}{v:AV}{b:Int}(low:HLow H) (acc:Acc H.n H2 28 4 es.length (es.flatMap X.cells) v) (kp:HKeep (only k0) H H2)
 (gk:H2.t.get k0=some (.row [.int .i64 b] 0 false ty)):∃ w H'',shutV (.agg [.int .i64 k,.str t,qE ns,v]) H2=some (w,H'')∧w=(X.mk k t ns es).v∧H''.t.get k0=some (.row [.int .i64 b] 0 false ty)∧HKeep (only k0) H H'':=by
 obtain⟨H3,hsh,kp3⟩:=acc.shut (d:=2047) (by decide) (Still.flat X.still _)
 rw[a8e]at hsh
 refine⟨_,H3,?_,rfl,acc.row (by decide) kp3 gk,acc.keeps kp low kp3⟩
 rw[X.v_mk]
 simp -implicitDefEqProofs only[↓qA,ZZ,seval,CL,XS,hsh]
def rX (H:Heap) (k0:Nat) (ty:Option Nat) (k q:Int) (l:List Raw) (es:List X) (ms:Nat→Nat) (d re ri:Nat) (ke:Int) (te:Str) (i:Nat) (fr:Fr) (H2:Heap):Prop:=
 ∃ v, Acc H.n H2 28 4 i ((es.take i).flatMap X.cells) v ∧ HLow H2 ∧ HKeep (only k0) H H2 ∧ H2.t.get k0 = some (.row [.int .i64 (ms i)] 0 false ty) ∧
   fr 0= .ptr (.new k0) 0∧fr 4= .ptr (.new H.n) 0∧fr 6= .ptr (.new (H.n+1)) 0∧fr re= .ptr (.new (H.n+d)) 0∧fr ri= .int .i64 i∧
   H2.t.get H.n=some (.row [.int .i64 k,.int .i64 q,kE l] 0 false (some 56))∧H2.t.get (H.n+1)=some (.row [.int .i64 0,.str [],.nils,.nils] 0 false (some 28))∧H2.t.get (H.n+d)=some (.row [.int .i64 ke,.str te,.nils,v] 0 false (some 28))
set_option maxHeartbeats 4000000 in
theorem aAN {n N k0:Nat}{ty:Option Nat}{k q:Int}{l:List Raw}{sc:List Str}{es:List X}{ms:Nat→Nat}{H:Heap}{KK:Ex→Fr→Heap→R}{Q:AV→Heap→Prop}(low:HLow H) (hk0:k0<H.n) (hlen:es.length=N) (hN3:N≤3) (hge:10≤n)
 (e2:∀ H,qB P5 n 38 [.int .i64 q,.int .i64 2] H=some (.ret (.int .i64 (within q 2)),H)) (hN:IntKind.i64.wrap (2+within q 2)=(N:Int))
 (ee:∀ j,j<N→∀ e,es[j]? = some e→tX 39 [.agg (Raw.mk k q l).cells,.int .i64 j,qE sc] (ms j) e (ms (j+1)) n)
 (fr:Fr) (H2:Heap) (h:rX H k0 ty k q l es ms 2 11 12 7 [] 0 fr H2∧fr 2=qE sc) (hend:∀ fr H2,rX H k0 ty k q l es ms 2 11 12 7 [] N fr H2→Gives (KK (.exit 3) fr H2) Q):
 Gives (zO (qB P5 n) n a4b n fr H2 KK) Q:=by
 have n0:¬k0=H.n:=by omega
 have n1:¬k0=H.n+1:=by omega
 have n2:¬k0=H.n+2:=by omega
 refine qM N (fun i fr H2=>rX H k0 ty k q l es ms 2 11 12 7 [] i fr H2∧fr 2=qE sc) ?_ ?_ n 0 _ _ (by omega) (by omega) h
 · rintro i fr H2 K' hi ⟨⟨v,acc,low2,kp,gk,r0,r4,r6,r11,r12,gb0,gb1,gb2⟩,r2⟩ hKe hKr hK
   obtain⟨x,hx⟩:∃ x,es[i]? = some x:=⟨es[i],List.getElem?_eq_getElem (by omega)⟩
   have hlt:(i:Int)<(N:Int):=by omega
   have hw:=qR hi (by omega)
   have hnt:es.take (i+1)=es.take i++[x]:=by rw[List.take_add_one,hx];rfl
   have e5:=ee i hi x hx H2 k0 ty low2 gk
   obtain⟨kx,tx,nx,lx⟩:=x
   simp only[X.v_mk,Raw.cells_mk]at e5
   have fv:=acc.flat
   simp -implicitDefEqProofs only[a4b,↓qA,ZZ,seval,CL,XS,qU,qP,xN,qW,r0,r2,r4,r6,r11,r12,gb0,gb1,gb2,e2,hN,hlt]
   refine xD e5 ?_
   rintro w H5 ⟨rfl,gk5,kp5⟩
   have low5:=kp5.low low2
   have gc0:=kp5.get _ _ gb0 (qL (Ne.symm n0))
   have gc1:=kp5.get _ _ gb1 (qL (Ne.symm n1))
   have gc2:=kp5.get _ _ gb2 (qL (Ne.symm n2))
   have acc5:=acc.kept kp5 fun j hj _=>qL (by omega)
   have kp6:=kp.trans kp5
   obtain⟨H7,happ,acc7,kp7,low7,hn7⟩:=(acc5.push low5 (ob:= .row [.int .i64 kx,.str tx,qE nx,vXs lx] 0 true none)).one_more (e:=28) (bs:=72) (ys:=[.int .i64 kx,.str tx,qE nx,vXs lx]) (by simp only[h_n];have:=kp6.n;omega) low5.push (by decide) rfl jS (by omega)
   have hn5:=low5.lt gc2
   have car:∀ j cs tt,H5.t.get j=some (.row cs 0 false tt)→H7.t.get j=some (.row cs 0 false tt):=fun j cs tt hg=>
    (acc5.push low5).row (by decide) kp7 (by rw[qF,if_neg (by have:=low5.lt hg;omega)];exact hg)
   have gd2:=car _ _ _ gc2
   simp only[h_n]at happ acc7
   simp -implicitDefEqProofs only[↓qA,ZZ,seval,CL,XS,r0,r2,r4,r6,r11,r12,gc0,gc1,gc2,fv,xZ,happ,gd2,hw]
   refine hK _ _ ⟨⟨.slice (.new (H5.n+1)) 0 (i+1) (.gro 4),?_,low7.put (low7.lt gd2),((acc5.push low5).keeps (kp6.pushed low) low kp7).own low (by omega) (low7.lt gd2),?_,?_,?_,?_,?_,?_,?_,?_,?_⟩,?_⟩
   · rw[hnt,kI,X.cells_mk];exact acc7.put (by decide) gd2
   · rw[qD,if_neg n2];exact car _ _ _ gk5
   · exact r0
   · exact r4
   · exact r6
   · exact r11
   · rfl
   · rw[qD,if_neg (by omega)];exact car _ _ _ gc0
   · rw[qD,if_neg (by omega)];exact car _ _ _ gc1
   · rw[qD,if_pos rfl]
   · exact r2
 · rintro fr H2 K' ⟨h,r2⟩ hKe hKr
   obtain⟨v,acc,low2,kp,gk,r0,r4,r6,r11,r12,gb0,gb1,gb2⟩:=h
   simp -implicitDefEqProofs only[a4b,↓qA,ZZ,seval,CL,XS,qU,r0,r2,r4,r6,r11,r12,gb0,gb1,gb2,e2,hN,Int.lt_irrefl,hKe]
   refine hend _ _ ⟨v,acc,low2,kp,gk,?_,?_,?_,?_,?_,gb0,gb1,gb2⟩<;>simp -implicitDefEqProofs only[↓qA,ZZ,seval,r0,r4,r6,r11,r12]
theorem a7K {H:Heap}{k0:Nat}{ty:Option Nat}{k q:Int}{l:List Raw}{es:List X}{ms:Nat→Nat}{d re ri:Nat}{ke:Int}{te:Str}{N:Nat}{fr:Fr}{H2:Heap}(low:HLow H) (hk0:k0<H.n) (hlen:es.length=N) (h:rX H k0 ty k q l es ms d re ri ke te N fr H2):
 ∃ v, fr 6 = .ptr (.new (H.n + 1)) 0 ∧ fr re = .ptr (.new (H.n + d)) 0 ∧ v.flat = true ∧ H2.t.get (H.n + 1) = some (.row [.int .i64 0, .str [], .nils, .nils] 0 false (some 28)) ∧ H2.t.get (H.n + d) = some (.row [.int .i64 ke, .str te, .nils, v] 0 false (some 28)) ∧
   ∃ w H'',shutV (.agg [.int .i64 ke,.str te,.lst 0 0 true [],v]) (H2.put (H.n+1) (.row [.int .i64 ke,.str te,.nils,v] 0 false (some 28)))=some (w,H'')∧w=(X.mk ke te [] es).v∧H''.t.get k0=some (.row [.int .i64 (ms N)] 0 false ty)∧HKeep (only k0) H H'':=by
 obtain⟨v,acc,low2,kp,gk,r0,r4,r6,r11,r12,gb0,gb1,gb2⟩:=h
 rw[List.take_of_length_le (by omega),←hlen]at acc
 have acc3:=acc.put (k:=H.n+1) (by decide) gb1 (ob:= .row [.int .i64 ke,.str te,.nils,v] 0 false (some 28))
 exact⟨v,r6,r11,acc.flat,gb1,gb2,aAD (k:=ke) (t:=te) (ns:=[]) low acc3 (kp.own low (by omega) (low2.lt gb1)) (by rw[qD,if_neg (by omega)];exact gk)⟩
set_option maxHeartbeats 4000000 in
theorem aAL (k q:Int) (l:List Raw) (hw:within k 16=6∨within k 16=7∨within k 16=8) (hp:mF (.mk k q l)):pE (.mk k q l):=fun sc m hsc hne hm=>by
 rw[Raw.cnt]at hm ⊢
 obtain⟨q0,q1⟩:=zA q 2 (by decide) (by decide)
 obtain⟨N,hN,hN2,hN3⟩:∃ N:Nat,IntKind.i64.wrap (2+within q 2)=(N:Int)∧2≤N∧N≤3:=⟨2+(within q 2).toNat,by rw[wrap64 (by omega) (by omega)];omega,by omega,by omega⟩
 obtain⟨es,ms,hlen,hm0,_,hgd,hnd,hms,hev⟩:=bS hp sc m hsc hne (by simp only[Raw.l];omega) N (by omega)
 simp only[Raw.l]at hnd hms
 have hle:=vK l N
 refine⟨.mk 7 [] [] es,ms N,⟨.inr (.inr (.inr (.inr (.inr (.inr (.inl ⟨rfl,rfl,rfl,by omega⟩)))))),by omega,fun h=>absurd h (by decide),rfl,?_⟩,?_,by omega,?_⟩
 · simpa using hgd
 · rw[X.nodes,if_neg (by decide)];omega
 refine Ev.succ (((yY k 16 (by decide)).and ((yY q 2 (by decide)).and (hev.and (Ev.ge 10)))).mono fun n hn H k0 ty low g0=> ?_)
 obtain⟨e1,e2,ee,hge⟩:=hn
 rw[zD (P:=P5) (sf:=c21) (bH _ _) rfl]
 refine xK ?_
 have hk0:=low.lt g0
 have n0:¬k0=H.n:=by omega
 have n1:¬k0=H.n+1:=by omega
 have n2:¬k0=H.n+2:=by omega
 generalize hW:within k 16=w at *
 have hwe:(w==0)=false∧(w==1)=false∧(w==2)=false∧(w==3)=false∧(w==4)=false∧(w==5)=false:=by
  rcases hw with rfl|rfl|rfl<;>decide
 obtain⟨w0,w1,w2,w3,w4,w5⟩:=hwe
 rcases hw with rfl|rfl|rfl
 all_goals simp -implicitDefEqProofs only[c21,↓qA,ZZ,Nat.reduceBEq,reduceIte,Nat.reduceAdd,Nat.reduceLeDiff,Nat.reduceEqDiff,Nat.reduceBneDiff,CL,XS,qU,Raw.cells_mk,qP,xN,qW,e1,w0,w1,w2,w3,w4,w5,Int.reduceBEq]
 all_goals
  refine aAN (ty:=ty) low hk0 hlen hN3 hge e2 hN ee _ _ ?_ fun fr H2 h=> ?_
  · refine⟨⟨.nils,Acc.nil,(low.push.push.push).put (by simp only[h_n];omega),(((HKeep.push low).pushed low).pushed low).own low (by omega) (by simp only[h_n];omega),?_⟩,?_⟩
    · simp -implicitDefEqProofs only[↓qA,ZZ,Nat.reduceBEq,reduceIte,Nat.reduceAdd,Nat.reduceLeDiff,Nat.reduceEqDiff,Nat.reduceBneDiff,g0,n0,n1,n2,hm0,and_self,true_and,and_true]
      rfl
    · rfl
  · obtain⟨v,r6,r11,fv,gb1,gb2,fin⟩:=a7K low hk0 hlen h
    simp -implicitDefEqProofs only[↓qA,ZZ,seval,CL,XS,r6,r11,fv,gb1,gb2,qC]
    simp -implicitDefEqProofs only[↓qA,ZZ,seval,CL,XS]at fin
    exact fin
end Go.Lite
/-
  The maker: primitives; choices; atoms.
-/
namespace Go.Lite
open Go Go.Proofs
def tabT:List Str:=[[43],[45],[42],[113,117,111,116,105,101,110,116],[114,101,109,97,105,110,100,101,114],[60],[61],[101,113,63],[99,111,110,115],[115,101,113],[99,97,114],[99,100,114],[110,117,108,108,63],[112,97,105,114,63],[110,111,116],[105,110,116,101,103,101,114,63],[115,121,109,98,111,108,63],[101,114,114,111,114],[99,111,110,115],[43],[99,97,114]]
theorem aB0:∀ j:Fin 21,0<jP (tabT.getD j.1 [])∧jP (tabT.getD j.1 [])≤2:=by decide
theorem aD8 {j:Nat}(h:j<21):(tabT.map AV.str)[j]? = some (.str (tabT.getD j [])):=by
 rw[List.getElem?_map,List.getElem?_eq_getElem (by simpa[tabT]using h),List.getD_eq_getElem?_getD,List.getElem?_eq_getElem (by simpa[tabT]using h)]
 rfl
set_option maxHeartbeats 4000000 in
theorem a8z {n N k0:Nat}{ty:Option Nat}{k q:Int}{l:List Raw}{sc:List Str}{es:List X}{ms:Nat→Nat}{t:Str}{H:Heap}{KK:Ex→Fr→Heap→R}{Q:AV→Heap→Prop}(low:HLow H) (hk0:k0<H.n) (hlen:es.length=N) (hN3:N≤3) (hge:10≤n)
 (e2:∀ H,qB P5 n 40 [.str t] H=some (.ret (.int .i64 (N:Int)),H))
 (ee:∀ j,j<N→∀ e,es[j]? = some e→tX 39 [.agg (Raw.mk k q l).cells,.int .i64 j,qE sc] (ms j) e (ms (j+1)) n)
 (fr:Fr) (H2:Heap) (h:rX H k0 ty k q l es ms 3 20 21 10 t 0 fr H2∧fr 2=qE sc) (hend:∀ fr H2,rX H k0 ty k q l es ms 3 20 21 10 t N fr H2→Gives (KK (.exit 9) fr H2) Q):
 Gives (zO (qB P5 n) n a4E n fr H2 KK) Q:=by
 have n0:¬k0=H.n:=by omega
 have n1:¬k0=H.n+1:=by omega
 have n2:¬k0=H.n+3:=by omega
 refine qM N (fun i fr H2=>rX H k0 ty k q l es ms 3 20 21 10 t i fr H2∧fr 2=qE sc) ?_ ?_ n 0 _ _ (by omega) (by omega) h
 · rintro i fr H2 K' hi ⟨⟨v,acc,low2,kp,gk,r0,r4,r6,r11,r12,gb0,gb1,gb2⟩,r2⟩ hKe hKr hK
   obtain⟨x,hx⟩:∃ x,es[i]? = some x:=⟨es[i],List.getElem?_eq_getElem (by omega)⟩
   have hlt:(i:Int)<(N:Int):=by omega
   have hw:=qR hi (by omega)
   have hnt:es.take (i+1)=es.take i++[x]:=by rw[List.take_add_one,hx];rfl
   have e5:=ee i hi x hx H2 k0 ty low2 gk
   obtain⟨kx,tx,nx,lx⟩:=x
   simp only[X.v_mk,Raw.cells_mk]at e5
   have fv:=acc.flat
   simp -implicitDefEqProofs only[a4E,↓qA,ZZ,seval,CL,XS,qU,qP,xN,qW,r0,r2,r4,r6,r11,r12,gb0,gb1,gb2,e2,hlt]
   refine xD e5 ?_
   rintro w H5 ⟨rfl,gk5,kp5⟩
   have low5:=kp5.low low2
   have gc0:=kp5.get _ _ gb0 (qL (Ne.symm n0))
   have gc1:=kp5.get _ _ gb1 (qL (Ne.symm n1))
   have gc2:=kp5.get _ _ gb2 (qL (Ne.symm n2))
   have acc5:=acc.kept kp5 fun j hj _=>qL (by omega)
   have kp6:=kp.trans kp5
   obtain⟨H7,happ,acc7,kp7,low7,hn7⟩:=(acc5.push low5 (ob:= .row [.int .i64 kx,.str tx,qE nx,vXs lx] 0 true none)).one_more (e:=28) (bs:=72) (ys:=[.int .i64 kx,.str tx,qE nx,vXs lx]) (by simp only[h_n];have:=kp6.n;omega) low5.push (by decide) rfl jS (by omega)
   have hn5:=low5.lt gc2
   have car:∀ j cs tt,H5.t.get j=some (.row cs 0 false tt)→H7.t.get j=some (.row cs 0 false tt):=fun j cs tt hg=>
    (acc5.push low5).row (by decide) kp7 (by rw[qF,if_neg (by have:=low5.lt hg;omega)];exact hg)
   have gd2:=car _ _ _ gc2
   simp only[h_n]at happ acc7
   simp -implicitDefEqProofs only[↓qA,ZZ,seval,CL,XS,r0,r2,r4,r6,r11,r12,gc0,gc1,gc2,fv,xZ,happ,gd2,hw]
   refine hK _ _ ⟨⟨.slice (.new (H5.n+1)) 0 (i+1) (.gro 4),?_,low7.put (low7.lt gd2),((acc5.push low5).keeps (kp6.pushed low) low kp7).own low (by omega) (low7.lt gd2),?_,?_,?_,?_,?_,?_,?_,?_,?_⟩,?_⟩
   · rw[hnt,kI,X.cells_mk];exact acc7.put (by decide) gd2
   · rw[qD,if_neg n2];exact car _ _ _ gk5
   · exact r0
   · exact r4
   · exact r6
   · exact r11
   · rfl
   · rw[qD,if_neg (by omega)];exact car _ _ _ gc0
   · rw[qD,if_neg (by omega)];exact car _ _ _ gc1
   · rw[qD,if_pos rfl]
   · exact r2
 · rintro fr H2 K' ⟨h,r2⟩ hKe hKr
   obtain⟨v,acc,low2,kp,gk,r0,r4,r6,r11,r12,gb0,gb1,gb2⟩:=h
   simp -implicitDefEqProofs only[a4E,↓qA,ZZ,seval,CL,XS,qU,r0,r2,r4,r6,r11,r12,gb0,gb1,gb2,e2,Int.lt_irrefl,hKe]
   refine hend _ _ ⟨v,acc,low2,kp,gk,?_,?_,?_,?_,?_,gb0,gb1,gb2⟩<;>simp -implicitDefEqProofs only[↓qA,ZZ,seval,r0,r4,r6,r11,r12]
set_option maxHeartbeats 4000000 in
theorem a8A (k q:Int) (l:List Raw) (hw:13≤within k 16) (hp:mF (.mk k q l)):pE (.mk k q l):=fun sc m hsc hne hm=>by
 rw[Raw.cnt]at hm ⊢
 obtain⟨q0,q1⟩:=zA q 21 (by decide) (by decide)
 obtain⟨j,hj⟩:∃ j:Nat,(within q 21).toNat=j:=⟨_,rfl⟩
 have hj21:j<21:=by omega
 have hg:=aD8 hj21
 obtain⟨a0,a1⟩:=aB0 ⟨j,hj21⟩
 simp only[]at a0 a1
 generalize tabT.getD j []=t at *
 obtain⟨N,hN⟩:∃ N:Nat,jP t=(N:Int):=⟨(jP t).toNat,by omega⟩
 obtain⟨es,ms,hlen,hm0,_,hgd,hnd,hms,hev⟩:=bS hp sc m hsc hne (by simp only[Raw.l];omega) N (by omega)
 simp only[Raw.l]at hnd hms
 have hle:=vK l N
 refine⟨.mk 10 t [] es,ms N,⟨.inr (.inr (.inr (.inr (.inr (.inr (.inr (.inr (.inr ⟨rfl,a0,by rw[hN,hlen],rfl⟩)))))))),by omega,fun h=>absurd h (by decide),rfl,?_⟩,?_,by omega,?_⟩
 · simpa using hgd
 · rw[X.nodes,if_neg (by decide)];omega
 have e47:=aCg t
 rw[hN]at e47
 refine Ev.succ (((yY k 16 (by decide)).and ((yY q 21 (by decide)).and (e47.and (hev.and (Ev.ge 10))))).mono fun n hn H k0 ty low g0=> ?_)
 obtain⟨e1,e2,e3,ee,hge⟩:=hn
 rw[zD (P:=P5) (sf:=c21) (bH _ _) rfl]
 refine xK ?_
 have hk0:=low.lt g0
 have n0:¬k0=H.n:=by omega
 have n1:¬k0=H.n+1:=by omega
 have n2:¬k0=H.n+2:=by omega
 have n3:¬k0=H.n+3:=by omega
 obtain⟨u0,u1⟩:=zA k 16 (by decide) (by decide)
 generalize hW:within k 16=w at *
 have w0:(w==0)=false:=by simp;omega
 have w1:(w==1)=false:=by simp;omega
 have w2:(w==2)=false:=by simp;omega
 have w3:(w==3)=false:=by simp;omega
 have w4:(w==4)=false:=by simp;omega
 have w5:(w==5)=false:=by simp;omega
 have w6:(w==6)=false:=by simp;omega
 have w7:(w==7)=false:=by simp;omega
 have w8:(w==8)=false:=by simp;omega
 have w9:(w==9)=false:=by simp;omega
 have w10:(w==10)=false:=by simp;omega
 have w11:(w==11)=false:=by simp;omega
 have w12:(w==12)=false:=by simp;omega
 have h21:((21:Nat):Int)=21:=rfl
 simp only[tabT,List.map_cons,List.map_nil]at hg
 simp -implicitDefEqProofs only[c21,↓qA,ZZ,seval,CL,XS,qU,Raw.cells_mk,qP,xN,qW,e1,w0,w1,w2,w3,w4,w5,w6,w7,w8,w9,w10,w11,w12,h21,e2,q0,hj,hj21,hg,Nat.mul_one]
 refine a8z (ty:=ty) low hk0 hlen (by omega) hge e3 ee _ _ ?_ fun fr H2 h=> ?_
 · refine⟨⟨.nils,Acc.nil,(low.push.push.push.push).put (by simp only[h_n];omega),((((HKeep.push low).pushed low).pushed low).pushed low).own low (by omega) (by simp only[h_n];omega),?_⟩,?_⟩
   · simp -implicitDefEqProofs only[↓qA,ZZ,Nat.reduceBEq,reduceIte,Nat.reduceAdd,Nat.reduceLeDiff,Nat.reduceEqDiff,Nat.reduceBneDiff,g0,n0,n1,n2,n3,hm0,and_self,true_and,and_true]
     rfl
   · rfl
 · obtain⟨v,r6,r11,fv,gb1,gb2,fin⟩:=a7K low hk0 hlen h
   simp -implicitDefEqProofs only[↓qA,ZZ,seval,CL,XS,r6,r11,fv,gb1,gb2,qC]
   simp -implicitDefEqProofs only[↓qA,ZZ,seval,CL,XS]at fin
   exact fin
set_option maxHeartbeats 4000000 in
theorem aDj (k q:Int) (l:List Raw) (hw:within k 16=9) (hp:mF (.mk k q l)):pE (.mk k q l):=fun sc m hsc hne hm=>by
 rw[Raw.cnt]at hm ⊢
 obtain⟨es,ms,hlen,hm0,_,hgd,hnd,hms,hev⟩:=bS hp sc m hsc hne (by simp only[Raw.l];omega) 3 (by omega)
 simp only[Raw.l]at hnd hms
 have hle:=vK l 3
 refine⟨.mk 8 [] [] es,ms 3,⟨.inr (.inr (.inr (.inr (.inr (.inr (.inr (.inl ⟨rfl,rfl,rfl,hlen⟩))))))),by omega,fun h=>absurd h (by decide),rfl,?_⟩,?_,by omega,?_⟩
 · simpa using hgd
 · rw[X.nodes,if_neg (by decide)];omega
 refine Ev.succ (((yY k 16 (by decide)).and (hev.and (Ev.ge 10))).mono fun n hn H k0 ty low g0=> ?_)
 obtain⟨e1,ee,hge⟩:=hn
 rw[zD (P:=P5) (sf:=c21) (bH _ _) rfl]
 refine xK ?_
 have hk0:=low.lt g0
 have n0:¬k0=H.n:=by omega
 have n1:¬k0=H.n+1:=by omega
 rw[hw]at e1
 obtain⟨x0,x1,x2,rfl⟩:∃ a b c,es=[a,b,c]:=by
  match es,hlen with
  | [a,b,c],_=>exact⟨a,b,c,rfl⟩
 have p0:=ee 0 (by omega) x0 rfl
 have p1:=ee 1 (by omega) x1 rfl
 have p2:=ee 2 (by omega) x2 rfl
 obtain⟨k0',t0,ns0,l0⟩:=x0
 obtain⟨k1',t1,ns1,l1⟩:=x1
 obtain⟨k2',t2,ns2,l2⟩:=x2
 have low2:=(low.push (ob:= .row [.int .i64 k,.int .i64 q,kE l] 0 false (some 56))).push (ob:= .row [.int .i64 0,.str [],.nils,.nils] 0 false (some 28))
 have q0:=p0 _ k0 ty low2 (by rw[qF,if_neg (by simp only[h_n];omega),qF,if_neg (by omega),hm0];exact g0)
 simp only[X.v_mk,Raw.cells_mk]at q0
 have hz:((0:Nat):Int)=0:=rfl
 have hz1:((1:Nat):Int)=1:=rfl
 have hz2:((2:Nat):Int)=2:=rfl
 rw[hz]at q0
 simp -implicitDefEqProofs only[c21,↓qA,ZZ,seval,CL,XS,qU,Raw.cells_mk,qP,xN,qW,e1,Int.reduceBEq]
 refine xD q0 ?_
 rintro w H5 ⟨rfl,gk5,kp5⟩
 have low5:=kp5.low low2
 have gc0:H5.t.get H.n=some (.row [.int .i64 k,.int .i64 q,kE l] 0 false (some 56)):=kp5.get _ _ (by rw[qF,if_neg (by simp only[h_n];omega),qF,if_pos rfl]) (qL (Ne.symm n0))
 have gc1:H5.t.get (H.n+1)=some (.row [.int .i64 0,.str [],.nils,.nils] 0 false (some 28)):=kp5.get _ _ (by rw[qF,if_pos (by simp only[h_n])]) (qL (Ne.symm n1))
 have q1:=p1 _ k0 ty low5 gk5
 simp only[X.v_mk,Raw.cells_mk]at q1
 rw[hz1]at q1
 simp -implicitDefEqProofs only[↓qA,ZZ,seval,CL,XS,qU,Raw.cells_mk,qP,xN,qW,gc0,gc1]
 refine xD q1 ?_
 rintro w H6 ⟨rfl,gk6,kp6⟩
 have low6:=kp6.low low5
 have gd0:=kp6.get _ _ gc0 (qL (Ne.symm n0))
 have gd1:=kp6.get _ _ gc1 (qL (Ne.symm n1))
 have q2:=p2 _ k0 ty low6 gk6
 simp only[X.v_mk,Raw.cells_mk]at q2
 rw[hz2]at q2
 simp -implicitDefEqProofs only[↓qA,ZZ,seval,CL,XS,qU,Raw.cells_mk,qP,xN,qW,gd0,gd1]
 refine xD q2 ?_
 rintro w H7 ⟨rfl,gk7,kp7⟩
 have low7:=kp7.low low6
 have ge1:=kp7.get _ _ gd1 (qL (Ne.symm n1))
 have x1:¬H.n+1=H7.n:=by have:=low7.lt ge1;omega
 simp -implicitDefEqProofs only[↓qA,ZZ,seval,CL,XS,qU,Raw.cells_mk,qP,xN,qW,ge1,x1,qC]
 refine⟨_,_,rfl,?_,?_,(((((HKeep.push low).pushed low).trans kp5).trans kp6).trans kp7).pushed low |>.own low (by omega) (by simp only[h_n];have:=low7.lt ge1;omega)⟩
 · simp only[vXs,vG,yC,List.flatMap_cons,List.flatMap_nil,X.cells_mk,List.length_cons,List.length_nil,List.append_nil,List.cons_append,List.nil_append]
 · rw[qD,if_neg n1,qF,if_neg (by have:=low7.lt gk7;omega)];exact gk7
def tabN:List Str:=[[48],[49],[45,53],[55],[49,48,48,48,48,48,48,48,48,48,48,48,48,48,48,48,48,48,48,48,48]]
theorem a9X:∀ j:Fin 5,tabN.getD j.1 []∈intT:=by decide
theorem aCW {j:Nat}(h:j<5):(tabN.map AV.str)[j]? = some (.str (tabN.getD j [])):=by
 rw[List.getElem?_map,List.getElem?_eq_getElem (by simpa[tabN]using h),List.getD_eq_getElem?_getD,List.getElem?_eq_getElem (by simpa[tabN]using h)]
 rfl
set_option maxHeartbeats 4000000 in
theorem aAR (k q:Int) (l:List Raw) (hw:within k 16=0):pE (.mk k q l):=fun sc m hsc hne hm=>by
 obtain⟨q0,q1⟩:=zA q 5 (by decide) (by decide)
 obtain⟨j,hj⟩:∃ j:Nat,(within q 5).toNat=j:=⟨_,rfl⟩
 have hj5:j<5:=by omega
 have hg:=aCW hj5
 have hint:=a9X ⟨j,hj5⟩
 simp only[]at hint
 generalize tabN.getD j []=t at *
 refine⟨.mk 1 t [] [],m,a0Z hint sc m,by rw[yX rfl];omega,by omega,Ev.succ (((yY k 16 (by decide)).and (yY q 5 (by decide))).mono fun n hn H k0 ty low g0=> ?_)⟩
 obtain⟨e1,e2⟩:=hn
 rw[zD (P:=P5) (sf:=c21) (bH _ _) rfl]
 refine xK ?_
 have hk0:=low.lt g0
 rw[hw]at e1
 simp only[tabN,List.map_cons,List.map_nil]at hg
 simp -implicitDefEqProofs only[c21,↓qA,ZZ,seval,CL,XS,qU,Raw.cells_mk,qP,xN,qW,e1,e2,q0,hj,hj5,hg,Nat.mul_one,yC,tH,qC]
 refine⟨_,_,rfl,rfl,?_,(((HKeep.push low).pushed low).pushed low).own low (by omega) (by simp only[h_n];omega)⟩
 rw[qD,if_neg (by omega),qF,if_neg (by simp only[h_n];omega),qF,if_neg (by simp only[h_n];omega),qF,if_neg (by omega)];exact g0
set_option maxHeartbeats 4000000 in
theorem a94 (k q:Int) (l:List Raw) (hw:within k 16=1):pE (.mk k q l):=fun sc m hsc hne hm=>by
 obtain⟨q0,q1⟩:=zA q 4 (by decide) (by decide)
 obtain⟨j,hj⟩:∃ j:Nat,(within q 4).toNat=j:=⟨_,rfl⟩
 have hj4:j<4:=by omega
 have key:∀ j,j<4→∃ kx tx,nZ kx=true∧(X.mk kx tx [] []).good sc m m∧(([AV.int .i64 2,.str [35,116],.lst 0 0 true [],.lst 0 0 true [],.int .i64 2,.str [35,102],.lst 0 0 true [],.lst 0 0 true [],.int .i64 3,.str [],.lst 0 0 true [],.lst 0 0 true [],.int .i64 4,.str [115],.lst 0 0 true [],.lst 0 0 true []].drop (j*4)).take 4)=[.int .i64 kx,.str tx,.lst 0 0 true [],.lst 0 0 true []]:=fun j hj=>by
  match j,hj with
  | 0,_=>exact⟨2,[35,116],rfl,⟨.inr (.inl ⟨rfl,.inl rfl,rfl,rfl⟩),by simp,fun h=>absurd h (by decide),rfl,rfl⟩,rfl⟩
  | 1,_=>exact⟨2,[35,102],rfl,⟨.inr (.inl ⟨rfl,.inr rfl,rfl,rfl⟩),by simp,fun h=>absurd h (by decide),rfl,rfl⟩,rfl⟩
  | 2,_=>exact⟨3,[],rfl,⟨.inr (.inr (.inl ⟨rfl,rfl,rfl,rfl⟩)),by simp,fun h=>absurd h (by decide),rfl,rfl⟩,rfl⟩
  | 3,_=>exact⟨4,[115],rfl,⟨.inr (.inr (.inr (.inl ⟨rfl,⟨by simp,by simp,by simp⟩,rfl,rfl⟩))),by simp,fun h=>absurd h (by decide),rfl,rfl⟩,rfl⟩
 obtain⟨kx,tx,ha,hgd,hcell⟩:=key j hj4
 refine⟨.mk kx tx [] [],m,hgd,by rw[yX ha];omega,by omega,Ev.succ (((yY k 16 (by decide)).and (yY q 4 (by decide))).mono fun n hn H k0 ty low g0=> ?_)⟩
 obtain⟨e1,e2⟩:=hn
 rw[zD (P:=P5) (sf:=c21) (bH _ _) rfl]
 refine xK ?_
 have hk0:=low.lt g0
 rw[hw]at e1
 have hlen4:∀ cs:List AV,cs=[AV.int .i64 kx,.str tx,.lst 0 0 true [],.lst 0 0 true []]→cs.length=4:=fun cs h=>by rw[h];rfl
 simp -implicitDefEqProofs only[c21,↓qA,ZZ,seval,CL,XS,qU,Raw.cells_mk,qP,xN,qW,e1,e2,q0,hj,hj4,hcell,Int.reduceBEq,yC,tH,qC]
 refine⟨_,_,rfl,rfl,?_,(((HKeep.push low).pushed low).pushed low).own low (by omega) (by simp only[h_n];omega)⟩
 rw[qD,if_neg (by omega),qF,if_neg (by simp only[h_n];omega),qF,if_neg (by simp only[h_n];omega),qF,if_neg (by omega)];exact g0
set_option maxHeartbeats 4000000 in
theorem aBI (k q:Int) (l:List Raw) (hw:within k 16=2∨within k 16=3):pE (.mk k q l):=fun sc m hsc hne hm=>by
 by_cases hs:sc=[]
 · subst hs
   refine⟨.mk 3 [] [] [],m,⟨.inr (.inr (.inl ⟨rfl,rfl,rfl,rfl⟩)),by simp,fun h=>absurd h (by decide),rfl,rfl⟩,by rw[yX rfl];omega,by omega,Ev.succ ((yY k 16 (by decide)).mono fun n e1 H k0 ty low g0=> ?_)⟩
   rw[zD (P:=P5) (sf:=c21) (bH _ _) rfl]
   refine xK ?_
   have hk0:=low.lt g0
   rcases hw with hw|hw
   all_goals
    rw[hw]at e1
    simp -implicitDefEqProofs only[c21,↓qA,ZZ,seval,CL,XS,qU,Raw.cells_mk,qP,xN,qW,e1,Int.reduceBEq,yC,tH,Int.lt_irrefl,gt_iff_lt,Int.ofNat_zero,Int.natCast_zero,qC]
    refine⟨_,_,rfl,rfl,?_,((HKeep.push low).pushed low).own low (by omega) (by simp only[h_n];omega)⟩
    rw[qD,if_neg (by omega),qF,if_neg (by simp only[h_n];omega),qF,if_neg (by omega)];exact g0
 · have hpos:0<sc.length:=List.length_pos_iff.2 hs
   have hgt:(sc.length:Int)>0:=by omega
   obtain⟨j0,j1⟩:=zA q sc.length (by omega) (by omega)
   have hj:(within q sc.length).toNat<sc.length:=by omega
   obtain⟨s,hsj⟩:∃ s,sc[(within q sc.length).toNat]? = some s:=⟨_,List.getElem?_eq_getElem hj⟩
   have hmem:=List.mem_of_getElem? hsj
   refine⟨varX s,m,a5F hmem (hne s hmem) m,by rw[varX,yX rfl];omega,by omega,Ev.succ (((yY k 16 (by decide)).and ((yY q sc.length (by omega)).and (aCd s))).mono fun n hn H k0 ty low g0=> ?_)⟩
   obtain⟨e1,e2,e3⟩:=hn
   rw[zD (P:=P5) (sf:=c21) (bH _ _) rfl]
   refine xK ?_
   have hk0:=low.lt g0
   simp only[varX,X.v_mk]at e3
   rcases hw with hw|hw
   all_goals
    rw[hw]at e1
    simp -implicitDefEqProofs only[c21,↓qA,ZZ,seval,CL,XS,qU,Raw.cells_mk,qP,xN,qW,e1,e2,e3,j0,hgt,vX hsj,Int.reduceBEq,varX,qC]
    refine⟨_,_,rfl,rfl,?_,((HKeep.push low).pushed low).own low (by omega) (by simp only[h_n];omega)⟩
    rw[qD,if_neg (by omega),qF,if_neg (by simp only[h_n];omega),qF,if_neg (by omega)];exact g0
end Go.Lite
