/-
  Several texts in one: TNData, TNSame, TNIs, TNNum, TNName, TNPure, TNChain, TNRefA, TNRaw, TNMakeA, TNArity, TNOnce, TNGood, TNPart, TNMakeB, TNMakeC.
-/
import Derived.Test.YtmfdlglhngmacaaGreatDoorYG
import Derived.Test.YtmfdlglhngmacaaGreatDoorYE
set_option linter.unusedSimpArgs false
set_option linter.unusedVariables false
set_option linter.defProp false
set_option maxRecDepth 100000
/-
  Terms as Lean trees, and as the interpreter's values; seat r2's program as the interpreter takes it.
-/
namespace Go.Lite
open Go Go.Proofs
theorem jI (a b:Int) (hb:b≠0):Ret P5 38 [.int .i64 a,.int .i64 b] (.int .i64 (within a b)):=by
 refine Ret.of rfl (aEy _ _) rfl rfl (fun H=>by simp -implicitDefEqProofs only[↓qA,ZZ,seval]) (Ev.of fun n H=> ?_)
 unfold within
 by_cases h:a.tmod b<0
 all_goals simp -implicitDefEqProofs only[c38,↓qA,ZZ,Nat.reduceBEq,reduceIte,Nat.reduceAdd,Nat.reduceLeDiff,Nat.reduceEqDiff,Nat.reduceBneDiff,if_neg,if_pos,hb,h,Ends,qC]
 all_goals exact⟨_,rfl⟩
/-! ### Sizes -/
mutual
def X.size:X→Nat
 | .mk _ _ _ l=>1+X.sizes l
def X.sizes:List X→Nat
 | []=>0
 | d::ds=>d.size+X.sizes ds
end
end Go.Lite
/-
  Terms: what is the same; atoms; whether a term Is, by the program and by the document.
-/
namespace Go.Lite
open Go Go.Proofs
def rZ {α β:Type}(p:α→β→Bool):List α→List β→Bool
 | [],[]=>true
 | x::xs,y::ys=>p x y&&rZ p xs ys
 | _,_=>false
mutual
def X.same:X→X→Bool
 | .mk k t ns l,.mk k' t' ns' l'=>k==k'&&(t==t'&&(rZ (· == ·) ns ns'&&X.sames l l'))
def X.sames:List X→List X→Bool
 | [],[]=>true
 | x::xs,y::ys=>X.same x y&&X.sames xs ys
 | _,_=>false
end
theorem X.sames_eq:∀ l l':List X,X.sames l l'=rZ X.same l l'
 | [],[]=>by simp[X.sames,rZ]
 | [],y::ys=>by simp[X.sames,rZ]
 | x::xs,[]=>by simp[X.sames,rZ]
 | x::xs,y::ys=>by rw[X.sames,rZ,X.sames_eq xs ys]
mutual
def X.fit:X→Prop
 | .mk _ _ ns l=>ns.length≤1048576∧l.length≤60∧X.fits l
def X.fits:List X→Prop
 | []=>True
 | d::ds=>d.fit∧X.fits ds
end
theorem X.fits_iff (l:List X):X.fits l↔∀ d∈l,d.fit:=by
 induction l with
 | nil=>simp[X.fits]
 | cons d l ih=>simp[X.fits,ih]
end Go.Lite
/-
  Atoms; whether all arguments are atoms: the program's Is, the document's.
-/
namespace Go.Lite
open Go Go.Proofs
def uS (k:Int):Bool:=decide (1≤k)&&decide (k≤5)
def X.atom:X→Bool | .mk k _ _ _=>uS k
def X.kind:X→Int | .mk k _ _ _=>k
def aGb:Str:=[99,111,110,115]
def must (k:Int) (t:Str):Option Nat:=if k=7 then some 1 else if k=10∧t=aGb then some 0 else none
theorem aET (x:X):Ret P5 43 [x.v] (.bool x.atom):=by
 obtain⟨k,t,ns,l⟩:=x
 refine Ret.of rfl (aEW _ _) rfl rfl (fun H=>by simp -implicitDefEqProofs only[kK,zI,X.shut,Option.bind_some,Option.map_some]) (Ev.of fun n H=> ?_)
 rw[X.atom,uS]
 by_cases h1:1≤k<;>by_cases h2:k≤5
 all_goals simp -implicitDefEqProofs only[c43,↓qA,ZZ,Nat.reduceBEq,reduceIte,Nat.reduceAdd,Nat.reduceLeDiff,Nat.reduceEqDiff,Nat.reduceBneDiff,CL,XS,Ends,qC,h1,h2,ge_iff_le]
 all_goals exact⟨_,rfl⟩
/-! ### All of them -/
mutual
def X.is:X→Bool
 | .mk k t _ a=>X.iss a&&(a.drop ((must k t).getD a.length)).all X.atom
def X.iss:List X→Bool
 | []=>true
 | x::l=>X.is x&&X.iss l
end
end Go.Lite
/-
  Numbers' texts: of less than a hundred; names that are new.
-/
namespace Go.Lite
open Go Go.Proofs
def numT (n:Nat):Str:=if n<10 then[48+n]else if n<100 then[48+n/10,48+n%10]else[48+n/100,48+n/10%10,48+n%10]
end Go.Lite
/-
  Names that are new; a name's term; a binding.
-/
namespace Go.Lite
open Go Go.Proofs
theorem a5X (n:Nat):(numT n).length≤3:=by
 unfold numT
 by_cases h:n<10<;>by_cases h2:n<100<;>simp[h,h2]
def pct (n:Nat):Str:=[37,46]++numT n
def varX (s:Str):X:= .mk 5 s [] []
def aA4 (s:Str) (x y:X):X:= .mk 9 [] [s] [x,y]
theorem a9x (s:Str):qE [s]= .lst 1 1 false [.str s]:=rfl
theorem aCa (x y:X):vXs [x,y]= .lst 4 2 false (x.cells++y.cells):=by
 simp only[vXs,kG,List.flatMap_cons,List.flatMap_nil,List.append_nil,List.length_cons,List.length_nil]
theorem aDz (s:Str):Ret P5 19 [.str s] (varX s).v:=by
 refine Ret.of rfl (aE5 _ _) rfl rfl (fun H=>by simp -implicitDefEqProofs only[↓qA,ZZ,seval]) (Ev.of fun n H=> ?_)
 simp -implicitDefEqProofs only[c19,↓qA,ZZ,seval,CL,varX,XS,vF,tF,Ends,qC]
 exact⟨_,rfl⟩
end Go.Lite
/-
  Arguments by name, as a function of terms.
-/
namespace Go.Lite
open Go Go.Proofs
def uV (l:List (Str×X)) (e:X):X:=l.foldr (fun p e=>aA4 p.1 p.2 e) e
mutual
def X.nrm:X→Nat→X×Nat
 | .mk k t ns a,c=>(uV (X.nrms a ((must k t).getD a.length) 0 c).2.1 (.mk k t ns (X.nrms a ((must k t).getD a.length) 0 c).1),(X.nrms a ((must k t).getD a.length) 0 c).2.2)
def X.nrms : List X → Nat → Nat → Nat → List X × List (Str × X) × Nat
 | [],_,_,c=>([],[],c)
 | x::l,m,i,c=>
   if m≤i∧(x.nrm c).1.atom=false then
    (varX (pct ((x.nrm c).2+1))::(X.nrms l m (i+1) ((x.nrm c).2+1)).1,(pct ((x.nrm c).2+1),(x.nrm c).1)::(X.nrms l m (i+1) ((x.nrm c).2+1)).2.1,(X.nrms l m (i+1) ((x.nrm c).2+1)).2.2)
   else((x.nrm c).1::(X.nrms l m (i+1) (x.nrm c).2).1,(X.nrms l m (i+1) (x.nrm c).2).2.1,(X.nrms l m (i+1) (x.nrm c).2).2.2)
end
end Go.Lite
/-
  Bindings about bindings, as they lie in rows; they are told as content.
-/
namespace Go.Lite
open Go Go.Proofs
theorem jK {α:Type}{g:α→List AV}(l:List α) (x:α):(l++[x]).flatMap g=l.flatMap g++g x:=by simp
inductive Chain (B:Nat) (H:Heap) (x:X):List (Str×X)→List AV→Nat→Prop where
 | nil {b:Nat}:B≤b→Chain B H x [] x.cells b
 | cons {s:Str}{y:X}{l:List (Str×X)}{cells:List AV}{b r:Nat}:Chain B H x l cells b→b≤r→H.t.get r=some (.row (y.cells++cells) 4 false (some 28))→
    Chain B H x ((s,y)::l) [.int .i64 9,.str [],.lst 1 1 true [.str s],.slice (.new r) 0 2 (.gro 4)] (r+1)
theorem Chain.le {B:Nat}{H:Heap}{x:X}{l:List (Str×X)}{cells:List AV}{b:Nat}(h:Chain B H x l cells b):B≤b:=by
 induction h with
 | nil h=>exact h
 | cons _ h _ ih=>omega
theorem Chain.len {B:Nat}{H:Heap}{x:X}{l:List (Str×X)}{cells:List AV}{b:Nat}(h:Chain B H x l cells b):cells.length=4:=by
 cases h with
 | nil h=>exact X.cells_len x
 | cons _ h _=>rfl
theorem Chain.flat {B:Nat}{H:Heap}{x:X}{l:List (Str×X)}{cells:List AV}{b:Nat}(h:Chain B H x l cells b):cells.all AV.flat=true:=by
 cases h with
 | nil h=>exact X.flat x
 | cons _ h _=>rfl
theorem Chain.keep {B:Nat}{H H':Heap}{x:X}{l:List (Str×X)}{cells:List AV}{b:Nat}(h:Chain B H x l cells b) (k:∀ j,B≤j→j<b→H'.t.get j=H.t.get j):Chain B H' x l cells b:=by
 induction h with
 | nil h=>exact .nil h
 | cons c h g ih=>
   have:=c.le
   exact .cons (ih fun j h1 h2=>k j h1 (by omega)) h (by rw[k _ (by omega) (by omega)];exact g)
theorem Chain.mono {B:Nat}{H:Heap}{x:X}{l:List (Str×X)}{cells:List AV}{b b':Nat}(h:Chain B H x l cells b) (hb:b≤b') (hl:l=[]):Chain B H x l cells b':=by
 cases h with
 | nil h=>exact .nil (by omega)
 | cons _ _ _=>cases hl
theorem uU {f:AV→Heap→Option (AV×Heap)}:∀ {xs ys:List AV}{H H1 H2:Heap}{us vs:List AV},qI f xs H=some (us,H1)→qI f ys H1=some (vs,H2)→qI f (xs++ys) H=some (us++vs,H2)
 | [],ys,H,H1,H2,us,vs,h,k=>by
   simp only[kK,Option.some.injEq,Prod.mk.injEq]at h
   obtain⟨rfl,rfl⟩:=h
   exact k
 | x::xs,ys,H,H1,H2,us,vs,h,k=>by
   simp only[zI,Option.bind_eq_some_iff,Option.map_eq_some_iff,Prod.mk.injEq]at h
   obtain⟨⟨y,G⟩,hy,⟨zs,G2⟩,hz,rfl,rfl⟩:=h
   simp only[List.cons_append,zI,hy,Option.bind_some,uU hz k,Option.map_some]
theorem Chain.shut {B : Nat} {x : X} : ∀ {l : List (Str × X)} {H : Heap} {cells : List AV} {b : Nat}, Chain B H x l cells b → ∀ d, l.length ≤ d → HLow H →
 ∃ H',qI (xE d) cells H=some ((uV l x).cells,H')∧(∀ j,(j<B∨b≤j)→H'.t.get j=H.t.get j)∧H'.n=H.n∧HLow H'
 | [],H,cells,b,h,d,hd,low=>by
   cases h with
   | nil h=>exact⟨H,x.still.map d H,fun _ _=>rfl,rfl,low⟩
 | (s, y) :: l, H, cells, b, h, d, hd, low => by
   cases h with
   | @cons _ _ _ cells b r c hb g=>
     have hbl:=c.le
     obtain⟨d,rfl⟩:∃ d',d=d'+1:=⟨d-1,by simp only[List.length_cons]at hd;omega⟩
     have hr:r<H.n:=low _ _ g
     have low1:HLow (H.put r (.row (y.cells++cells) 4 true (some 28))):=low.put hr
     have c1:Chain B (H.put r (.row (y.cells++cells) 4 true (some 28))) x l cells b:=c.keep fun j h1 h2=>by rw[qD,if_neg (by omega)]
     obtain⟨H',e1,e2,e3,e4⟩:=Chain.shut c1 d (by simp only[List.length_cons]at hd;omega) low1
     have hlen:(y.cells++cells).length=2*4:=by rw[List.length_append,X.cells_len,c.len]
     have ht:(y.cells++cells).take (2*4)=y.cells++cells:=by rw[←hlen,List.take_length]
     refine⟨H',?_,fun j hj=> ?_,by rw[e3];simp[zO],e4⟩
     · have hs:xE (d+1) (.slice (.new r) 0 2 (.gro 4)) H=some (vXs [y,uV l x],H'):=by
        simp only[xE,g,wI,List.drop_zero,Cap.es]
        rw[ht,if_pos ⟨hlen,.inr (by decide)⟩,uU (y.still.map d _) e1]
        rw[aCa]
        rfl
       have hb2:uV ((s,y)::l) x=aA4 s y (uV l x):=rfl
       rw[hb2,aA4,X.cells_mk,a9x]
       simp only[zI,kK,jZ,dN,a1q,hs,Option.bind_some,Option.map_some,aA3,vF]
     · rw[e2 j (by omega),qD,if_neg (by omega)]
end Go.Lite
/-
  A copy of names; what is told of it later.
-/
namespace Go.Lite
open Go Go.Proofs
theorem a0D {ns:List Str}{H:Heap}:taken 1 H (qE ns)=some (ns.length,ns.flatMap str1):=mU
def NamesAt (N:Nat) (H:Heap) (ns:List Str) (v:AV):Prop:=(ns=[]∧v= .lst 0 0 true [])∨Acc N H 9 1 ns.length (ns.flatMap str1) v
theorem NamesAt.flat {N:Nat}{H:Heap}{ns:List Str}{v:AV}(h:NamesAt N H ns v):v.flat=true:=by
 rcases h with⟨_,rfl⟩|h
 · rfl
 · exact h.flat
theorem NamesAt.shut {N:Nat}{H:Heap}{ns:List Str}{v:AV}(h:NamesAt N H ns v) (d:Nat):∃ H',xE (d+1) v H=some (qE ns,H')∧HKeep (blk v) H H':=by
 rcases h with⟨rfl,rfl⟩|h
 · exact⟨H,rfl,HKeep.refl⟩
 · exact h.shut (by decide) (Still.flat wF _)
theorem a8s (ns:List Str):(ns.flatMap str1).all AV.flat=true:=by
 rw[List.all_eq_true]
 intro c hc
 obtain⟨x,_,hx⟩:=List.mem_flatMap.1 hc
 rw[List.mem_singleton.1 hx]
 rfl
theorem a3L {G:Heap}(low:HLow G) (ns:List Str) (hb:ns.length≤1048576):∃ v G1,xC 9 1 16 G (.lst 0 0 true []) (ns.length,ns.flatMap str1)=some (v,G1)∧NamesAt G.n G1 ns v∧HLow G1∧G.n≤G1.n∧(∀ j,j<G.n→G1.t.get j=G.t.get j)∧HKeep (fun _ _=>False) G G1:=by
 cases ns with
 | nil=>exact⟨.lst 0 0 true [],G,rfl,.inl ⟨rfl,rfl⟩,low,Nat.le_refl _,fun _ _=>rfl,HKeep.refl⟩
 | cons s ns=>
   have hl:((s::ns).flatMap str1).length=(s::ns).length*1:=gJ tL _
   simp only[List.length_cons]at hb
   have happ:xC 9 1 16 G (.lst 0 0 true []) ((s::ns).length,(s::ns).flatMap str1)=some (.slice (.new G.n) 0 (s::ns).length (.gro 1),G.push (.row ((s::ns).flatMap str1) 1 false (some 9))):=by
    unfold xC
    rw[if_neg (by rw[a8s];simp)]
    simp only[]
    rw[if_neg (by simp),if_pos ⟨.inr trivial,trivial,by simp only[List.length_cons];omega,by simp only[List.length_cons];omega⟩]
    simp[Heap.fresh]
   refine⟨_,_,happ,.inr (.inr ⟨by simp,hl,G.n,rfl,Nat.le_refl _,by rw[qF,if_pos rfl]⟩),low.push,by simp[h_n],fun j hj=>by rw[qF,if_neg (by omega)],HKeep.push low⟩
theorem NamesAt.weak {N N':Nat}{H:Heap}{ns:List Str}{v:AV}(h:NamesAt N H ns v) (hN:N'≤N):NamesAt N' H ns v:=by
 rcases h with h|h|⟨h1,h2,k,h3,h4,h5⟩
 · exact .inl h
 · exact .inr (.inl h)
 · exact .inr (.inr ⟨h1,h2,k,h3,by omega,h5⟩)
theorem NamesAt.kept {X:Nat→Obj→Prop}{N:Nat}{H H':Heap}{ns:List Str}{v:AV}(h:NamesAt N H ns v) (k:HKeep X H H') (hx:∀ j o,N≤j→blk v j o→¬X j o):NamesAt N H' ns v:=by
 rcases h with h|h
 · exact .inl h
 · refine .inr (h.keep fun j o hb hj=> ?_)
   rcases h with⟨_,_,rfl⟩|⟨_,_,k',rfl,h3,h4⟩
   · obtain⟨_,_,_,e⟩:=hb
     cases e
   · obtain⟨_,_,_,e⟩:=hb
     simp only[AV.slice.injEq,Blk.new.injEq]at e
     obtain⟨rfl,_⟩:=e
     rw[h4]
     exact k.get _ _ h4 (hx _ _ h3 ⟨_,_,_,rfl⟩)
theorem NamesAt.apart_fresh {N:Nat}{H:Heap}{ns:List Str}{v:AV}(h:NamesAt N H ns v) (low:HLow H) {k o m:Nat}{c:Cap}(hk:H.n≤k):Apart (.slice (.new k) o m c) v:=by
 rcases h with⟨_,rfl⟩|h
 · exact fun j o n c j' o' n' c' _ h=>by cases h
 · exact h.fresh low hk
end Go.Lite
/-
  Raw terms: how many they are.
-/
namespace Go.Lite
open Go Go.Proofs
inductive Raw where
 | mk (k n:Int) (l:List Raw)
mutual
theorem Raw.indA {P:Raw→Prop}(h:∀ k n l,(∀ d∈l,P d)→P (.mk k n l)):∀ d,P d
 | .mk k n l=>h k n l (Raw.indB h l)
theorem Raw.indB {P:Raw→Prop}(h:∀ k n l,(∀ d∈l,P d)→P (.mk k n l)):∀ l:List Raw,∀ d∈l,P d
 | [],d,hd=>by cases hd
 | e::l,d,hd=>by
   rcases List.mem_cons.1 hd with h1|h1
   · rw[h1];exact Raw.indA h e
   · exact Raw.indB h l d h1
end
def Raw.l:Raw→List Raw
 | .mk _ _ l=>l
mutual
def Raw.cells:Raw→List AV
 | .mk k n l=>[.int .i64 k,.int .i64 n,.L false 3 (Raw.cellsL l) l.length]
def Raw.cellsL:List Raw→List AV
 | []=>[]
 | d::ds=>d.cells++Raw.cellsL ds
end
theorem Raw.cellsL_eq (l:List Raw):Raw.cellsL l=l.flatMap Raw.cells:=by
 induction l with
 | nil=>rfl
 | cons d l ih=>rw[Raw.cellsL,ih,List.flatMap_cons]
def kC (l:List Raw):AV:=kD false 3 Raw.cells l
theorem Raw.cells_mk (k n:Int) (l:List Raw):(Raw.mk k n l).cells=[.int .i64 k,.int .i64 n,kC l]:=by
 rw[Raw.cells,Raw.cellsL_eq];rfl
theorem Raw.cells_len (d:Raw):d.cells.length=3:=by cases d;rw[Raw.cells_mk];rfl
theorem Raw.still (d:Raw):Still d.cells:=by
 cases d
 rw[Raw.cells_mk]
 exact .cons (fun _ _=>jZ) (.cons (fun _ _=>jZ) (.cons (fun _ _=>vL) .nil))
theorem qO {l:List Raw}:lenM (kC l)=some (.int .i64 l.length):=dG
theorem qV {d:Nat}{l:List Raw}{H:Heap}:xE d (kC l) H=some (kC l,H):=vL
theorem zA {l:List Raw}{H:Heap}:shutV (kC l) H=some (kC l,H):=jM
theorem xO {l:List Raw}:(kC l).flat=true:=a07
theorem wP {l:List Raw}{j:Nat}{d:Raw}(h:l[j]? = some d):xV 3 (kC l) j=some (.ptr (.val d.cells) 0):=uF Raw.cells_len h
/-! ### How many -/
mutual
def Raw.cnt:Raw→Nat
 | .mk _ _ l=>1+Raw.cnts l
def Raw.cnts:List Raw→Nat
 | []=>0
 | d::ds=>d.cnt+Raw.cnts ds
end
def goR (f:Raw→Nat):Nat→List Raw→Nat
 | n,[]=>n
 | n,r::rs=>if n≤40 then goR f (n+1+f r) rs else n
def vE:Nat→List Raw→Nat
 | 0,_=>1000
 | s+1,l=>goR (fun r=>vE s r.l) 0 l
theorem aAc (f:Raw→Nat):∀ (l:List Raw) (n:Nat),n≤goR f n l
 | [],n=>Nat.le_refl n
 | r::rs,n=>by
   rw[goR]
   split
   · exact Nat.le_trans (by omega) (aAc f rs _)
   · exact Nat.le_refl n
theorem a9C {f:Raw→Nat}{B:Nat}(hf:∀ r,f r≤B):∀ (l:List Raw) (n:Nat),n≤41+B→goR f n l≤41+B
 | [],n,h=>h
 | r::rs,n,h=>by
   rw[goR]
   split
   · exact a9C hf rs _ (by have:=hf r;omega)
   · exact h
theorem a5V:∀ (s:Nat) (l:List Raw),vE s l≤1000+41*s
 | 0,l=>by simp[vE]
 | s+1,l=>by
   rw[vE]
   have:=a9C (B:=1000+41*s) (fun r=>a5V s r.l) l 0 (by omega)
   omega
theorem a7s : ∀ (s : Nat) (l : List Raw), vE s l ≤ 40 → vE s l = Raw.cnts l
 | 0,l,h=>by simp[vE]at h
 | s+1,l,h=>by
   rw[vE]at h ⊢
   have key : ∀ (l : List Raw) (n : Nat), goR (fun r => vE s r.l) n l ≤ 40 → goR (fun r => vE s r.l) n l = n + Raw.cnts l := by
    intro l
    induction l with
    | nil=>intro n h;simp[goR,Raw.cnts]
    | cons r rs ih=>
      intro n h
      rw[goR]at h ⊢
      split at h
      · rename_i hn
        rw[if_pos hn,ih _ h,Raw.cnts]
        have h1:=aAc (fun r=>vE s r.l) rs (n+1+vE s r.l)
        have h2:=a7s s r.l (by omega)
        obtain⟨k,q,l⟩:=r
        rw[Raw.cnt]
        simp only[Raw.l]at h2 ⊢
        omega
      · omega
   have:=key l 0 h
   omega
mutual
def Raw.fit:Raw→Prop
 | .mk _ _ l=>l.length≤9223372036854775807∧Raw.fits l
def Raw.fits:List Raw→Prop
 | []=>True
 | d::ds=>d.fit∧Raw.fits ds
end
theorem Raw.fits_iff (l:List Raw):Raw.fits l↔∀ d∈l,d.fit:=by
 induction l with
 | nil=>simp[Raw.fits]
 | cons d l ih=>simp[Raw.fits,ih]
theorem a7N:∀ (s:Nat),s≤13→∀ (l:List Raw),l.length≤9223372036854775807→Raw.fits l→Ret P5 20 [kC l,.int .i64 (13-s:Int)] (.int .i64 (vE s l))
 | 0,_,l,_,_=>by
   refine Ret.of rfl (aAi _ _) rfl rfl (fun H=>by simp -implicitDefEqProofs only[↓qA,ZZ,seval,zA]) (Ev.of fun n H=> ?_)
   have h:((13:Int)-(0:Nat)>12):=by decide
   simp -implicitDefEqProofs only[c20,↓qA,ZZ,seval,h,Ends,qC]
   exact⟨_,rfl⟩
 | s + 1, hs, l, hl, hf => by
   rw[Raw.fits_iff]at hf
   have ih:∀ r∈l,Ret P5 20 [kC r.l,.int .i64 (13-s:Int)] (.int .i64 (vE s r.l)):=fun r hr=>by
    have:=hf r hr
    obtain⟨k,q,l'⟩:=r
    rw[Raw.fit]at this
    exact a7N s (by omega) l' this.1 this.2
   refine Ret.of rfl (aAi _ _) rfl rfl (fun H=>by simp -implicitDefEqProofs only[↓qA,ZZ,seval,zA]) ?_
   refine((Ev.all l ih).and (Ev.ge (l.length+1))).mono fun n hn H=> ?_
   obtain⟨ihn,hge⟩:=hn
   have h:¬((13:Int)-((s+1:Nat):Int)>12):=by omega
   rw[vE]
   simp -implicitDefEqProofs only[c20,↓qA,ZZ,seval,h]
   refine qM l.length (fun i fr H=>∃ acc,goR (fun r=>vE s r.l) acc (l.drop i)=goR (fun r=>vE s r.l) 0 l∧acc≤3000∧fr 0=kC l∧fr 1= .int .i64 (13-(s+1:Nat):Int)∧fr 6= .int .i64 i∧fr 5= .int .i64 acc) ?_ ?_ n 0 _ _ (by omega) (by omega) ?_
   · rintro i fr H K' hi ⟨acc,hacc,hle,h0,h1,h6,h5⟩ hKe hKr hK
     obtain⟨r,hr⟩:∃ r,l[i]? = some r:=⟨l[i],List.getElem?_eq_getElem hi⟩
     have e1:=ihn r (List.mem_of_getElem? hr)
     have hlt:(i:Int)<(l.length:Int):=by omega
     have hw:=qY hi hl
     have hdr:l.drop i=r::l.drop (i+1):=by
      have h3:=(List.getElem?_eq_some_iff.1 hr)
      rw[←List.getElem_cons_drop (h:=hi),h3.2]
     rw[hdr,goR]at hacc
     by_cases h40:acc≤40
     · rw[if_pos h40]at hacc
       have hg:(acc:Int)≤40:=by omega
       have hw1:IntKind.i64.wrap ((acc:Int)+1)=((acc+1:Nat):Int):=by rw[wrap64 (by omega) (by omega)];rfl
       have hb:=a5V s r.l
       have hw2:IntKind.i64.wrap (((acc+1:Nat):Int)+((vE s r.l:Nat):Int))=((acc+1+vE s r.l:Nat):Int):=nE (by omega)
       have hw3:IntKind.i64.wrap ((13:Int)-((s+1:Nat):Int)+1)=(13:Int)-(s:Int):=by rw[wrap64 (by omega) (by omega)];omega
       obtain⟨k,q,l'⟩:=r
       simp only[Raw.l]at e1 hacc hw2 hb
       simp -implicitDefEqProofs only[a3T,↓qA,ZZ,seval,CL,h0,h1,h6,h5,hlt,hg,wP hr,Raw.cells_mk,zA,qO,e1,hw,hw1,hw2,hw3]
       refine hK _ _ ⟨acc+1+vE s l',hacc,by omega,?_⟩
       simp -implicitDefEqProofs only[↓qA,ZZ,seval,h0,h1,h6]
     · rw[if_neg h40]at hacc
       have hg:¬(acc:Int)≤40:=by omega
       simp -implicitDefEqProofs only[a3T,↓qA,ZZ,seval,CL,h0,h1,h6,h5,hlt,hg,qO,hKe,Ends,qC]
       exact⟨_,by rw[hacc]⟩
   · rintro fr H K' ⟨acc,hacc,hle,h0,h1,h6,h5⟩ hKe hKr
     rw[List.drop_length,goR]at hacc
     simp -implicitDefEqProofs only[a3T,↓qA,ZZ,seval,CL,h0,h1,h6,h5,Int.lt_irrefl,qO,hKe,Ends,qC]
     exact⟨_,by rw[hacc]⟩
   · refine⟨0,by rw[List.drop_zero],by omega,?_⟩
     simp -implicitDefEqProofs only[↓qA,ZZ,Nat.reduceBEq,reduceIte,Nat.reduceAdd,Nat.reduceLeDiff,Nat.reduceEqDiff,Nat.reduceBneDiff]
     rfl
theorem a2l (l:List Raw) (hl:l.length≤9223372036854775807) (hf:Raw.fits l):Ret P5 8 [kC l] (.bool (decide (vE 13 l≤40))):=by
 refine Ret.of rfl (aFD _ _) rfl rfl (fun H=>by simp -implicitDefEqProofs only[↓qA,ZZ,seval,zA]) ?_
 refine(a7N 13 (Nat.le_refl _) l hl hf).mono fun n e1 H=> ?_
 have h0:(13:Int)-(13:Nat)=0:=by decide
 rw[h0]at e1
 have hd:decide ((vE 13 l:Int)≤40)=decide (vE 13 l≤40):=by
  by_cases h:vE 13 l≤40
  · rw[decide_eq_true h,decide_eq_true (by omega)]
  · rw[decide_eq_false h,decide_eq_false (by omega)]
 simp -implicitDefEqProofs only[c8,↓qA,ZZ,seval,CL,zA,e1,Ends,qC,hd]
 exact⟨_,rfl⟩
theorem zF (a n:Int) (hn:0<n) (hn':n≤4611686018427387904):0≤within a n∧within a n<n:=by
 unfold within
 have h1:=Int.tmod_lt_of_pos a hn
 have h2: -n<a.tmod n:=by
  have:=Int.tmod_lt_of_pos (-a) hn
  rw[Int.neg_tmod]at this
  omega
 split
 · have:IntKind.i64.wrap (a.tmod n+n)=a.tmod n+n:=wrap64 (by omega) (by omega)
   rw[this];omega
 · omega
end Go.Lite
/-
  Names that the maker makes.
-/
namespace Go.Lite
open Go Go.Proofs
theorem a0U (n:Nat) (hn:n<10):Ret P5 41 [.int .i64 n] (.str [48+n]):=by
 refine Ret.of rfl (a7c _ _) rfl rfl (fun H=>by simp -implicitDefEqProofs only[↓qA,ZZ,seval]) (Ev.of fun m H=> ?_)
 have hc:¬(n:Int)≥10:=by omega
 have hw:IntKind.i64.wrap (48+(n:Int))=((48+n:Nat):Int):=by rw[wrap64 (by omega) (by omega)];omega
 have hw2:IntKind.u8.wrap ((48+n:Nat):Int)=((48+n:Nat):Int):=by
  have:∀ n:Nat,n<10→IntKind.u8.wrap ((48+n:Nat):Int)=((48+n:Nat):Int):=by decide
  exact this n hn
 have hb:bytesOf [AV.int .u8 ((48+n:Nat):Int)]=some [48+n]:=by
  have:∀ n:Nat,n<10→bytesOf [AV.int .u8 ((48+n:Nat):Int)]=some [48+n]:=by decide
  exact this n hn
 simp -implicitDefEqProofs only[c41,↓qA,ZZ,seval,hc,hw,hw2,hb,Ends,qC,yE]
 exact⟨_,rfl⟩
theorem a3q (n:Nat) (hn:n<100):Ret P5 41 [.int .i64 n] (.str (numT n)):=by
 unfold numT
 by_cases h:n<10
 · rw[if_pos h];exact a0U n h
 · rw[if_neg h,if_pos hn]
   refine Ret.of rfl (a7c _ _) rfl rfl (fun H=>by simp -implicitDefEqProofs only[↓qA,ZZ,seval]) (((a0U (n/10) (by omega)).and (a0U (n%10) (by omega))).mono fun m e H=> ?_)
   obtain⟨e1,e2⟩:=e
   have hc:(n:Int)≥10:=by omega
   have hq:IntKind.i64.wrap ((n:Int).tdiv 10)=((n/10:Nat):Int):=by
    rw[Int.tdiv_eq_ediv_of_nonneg (by omega),wrap64 (by omega) (by omega)];omega
   have hr:IntKind.i64.wrap ((n:Int).tmod 10)=((n%10:Nat):Int):=by
    rw[Int.tmod_eq_emod_of_nonneg (by omega),wrap64 (by omega) (by omega)];omega
   have hr':(n:Int).tmod 10=((n%10:Nat):Int):=by rw[Int.tmod_eq_emod_of_nonneg (by omega)];omega
   have h10:((10:Int)==0)=false:=rfl
   have h10':¬(10:Int)=0:=by omega
   simp -implicitDefEqProofs only[c41,↓qA,ZZ,seval,CL,hc,hq,hr,hr',h10,h10',e1,e2,Ends,qC]
   exact⟨_,rfl⟩
theorem aB8 (n:Nat) (hn:n<1000):Ret P5 41 [.int .i64 n] (.str (numT n)):=by
 by_cases h:n<100
 · exact a3q n h
 · have e0:=a3q (n/10) (by omega)
   have hd:numT (n/10)=[48+n/100,48+n/10%10]:=by
    unfold numT
    rw[if_neg (by omega),if_pos (by omega),Nat.div_div_eq_div_mul]
   rw[hd]at e0
   unfold numT
   rw[if_neg (by omega),if_neg h]
   refine Ret.of rfl (a7c _ _) rfl rfl (fun H=>by simp -implicitDefEqProofs only[↓qA,ZZ,seval]) ((e0.and (a0U (n%10) (by omega))).mono fun m e H=> ?_)
   obtain⟨e1,e2⟩:=e
   have hc:(n:Int)≥10:=by omega
   have hq:IntKind.i64.wrap ((n:Int).tdiv 10)=((n/10:Nat):Int):=by
    rw[Int.tdiv_eq_ediv_of_nonneg (by omega),wrap64 (by omega) (by omega)];omega
   have hr:IntKind.i64.wrap ((n:Int).tmod 10)=((n%10:Nat):Int):=by
    rw[Int.tmod_eq_emod_of_nonneg (by omega),wrap64 (by omega) (by omega)];omega
   have hr':(n:Int).tmod 10=((n%10:Nat):Int):=by rw[Int.tmod_eq_emod_of_nonneg (by omega)];omega
   have h10:((10:Int)==0)=false:=rfl
   have h10':¬(10:Int)=0:=by omega
   simp -implicitDefEqProofs only[c41,↓qA,ZZ,seval,CL,hc,hq,hr,hr',h10,h10',e1,e2,Ends,qC]
   exact⟨_,rfl⟩
def vdot (n:Nat):Str:=[118,46]++numT n
theorem aEV (c:Nat) (hc:c+1<1000):Ev fun n=>∀ (H:Heap) (k0:Nat) (ty:Option Nat),HLow H→H.t.get k0=some (.row [.int .i64 c] 0 false ty)→
 Gives (mD P5 n 22 [.ptr (.new k0) 0] H) fun v H'=>v= .str (vdot (c+1))∧H'.t.get k0=some (.row [.int .i64 (c+1:Nat)] 0 false ty)∧HKeep (only k0) H H':=by
 refine Ev.succ ((aB8 (c+1) hc).mono fun n e H k0 ty low g0=> ?_)
 rw[zR (P:=P5) (sf:=c22) (aER _ _) rfl]
 refine xU ?_
 have hw:IntKind.i64.wrap ((c:Int)+1)=((c+1:Nat):Int):=qY (n:=c+1) (by omega) (by omega)
 have hk0:=low.lt g0
 have hl:2+(numT (c+1)).length≤4611686018427387904:=by have:=a5X (c+1);omega
 simp -implicitDefEqProofs only[c22,↓qA,ZZ,seval,CL,g0,hw,e,hl,qC]
 refine⟨_,_,rfl,rfl,?_,HKeep.put (X:=only k0) (fun _=>rfl) hk0⟩
 rw[qD,if_pos rfl]
end Go.Lite
/-
  How many a primitive takes.
-/
namespace Go.Lite
open Go Go.Proofs
theorem dA {d k o n:Nat}{c:Cap}{H:Heap}:xE (d+1) (.slice (.new k) o n c) H=wI (xE d) H k o n c (H.t.get k):=rfl
theorem jN {f:AV→Heap→Option (AV×Heap)}{H:Heap}{k o n es:Nat}{c:Cap}{cs:List AV}{fz:Bool}{ty:Option Nat}:wI f H k o n c (some (.row cs es fz ty))=
 if ((cs.drop o).take (n*c.es)).length=n*c.es∧(n=0∨c.es≠0)then(qI f ((cs.drop o).take (n*c.es)) (H.put k (.row cs es true ty))).map fun q=>(.L (c.full 0) c.es q.1 n,q.2)else none:=rfl
def primT:List Str:=[[43],[45],[42],[113,117,111,116,105,101,110,116],[114,101,109,97,105,110,100,101,114],[60],[61],[101,113,63],[99,111,110,115],[115,101,113],[99,97,114],[99,100,114],[110,117,108,108,63],[112,97,105,114,63],[110,111,116],[105,110,116,101,103,101,114,63],[115,121,109,98,111,108,63],[101,114,114,111,114]]
def vX (s:Str):List Str→Nat→Int
 | [],_=>0
 | p::l,i=>if (p==s)=true then(if i<10 then 2 else 1)else vX s l (i+1)
def wD (s:Str):Int:=vX s primT 0
theorem aCJ (s:Str):Ret P5 40 [.str s] (.int .i64 (wD s)):=by
 refine Ret.of rfl (aEC _ _) rfl rfl (fun H=>by simp -implicitDefEqProofs only[↓qA,ZZ,seval]) ((Ev.ge 20).mono fun n hge H=> ?_)
 have hget:∀ j p,primT[j]? = some p→(primT.map fun s:Str=>AV.str s)[j]? = some (AV.str p):=fun j p h=>by rw[List.getElem?_map,h];rfl
 simp -implicitDefEqProofs only[c40,↓qA,ZZ,seval,CL]
 refine qM primT.length (fun i fr H=>vX s (primT.drop i) i=wD s∧fr 0= .str s∧fr 3= .lst 1 18 true (primT.map fun s:Str=>AV.str s)∧fr 4= .int .i64 i) ?_ ?_ n 0 _ _ (by omega) (by show 18<n+0;omega) ?_
 · rintro i fr H K' hi ⟨ha,h0,h3,h4⟩ hKe hKr hK
   obtain⟨p,hp⟩:∃ p,primT[i]? = some p:=⟨primT[i],List.getElem?_eq_getElem hi⟩
   have hg:=hget i p hp
   have hi18:i<18:=hi
   have hlt:(i:Int)<((18:Nat):Int):=by omega
   have hw:=qY hi18 (by omega)
   have hdr:primT.drop i=p::primT.drop (i+1):=by
    rw[←List.getElem_cons_drop (h:=hi),(List.getElem?_eq_some_iff.1 hp).2]
   rw[hdr,vX]at ha
   cases hps:(p==s)with
   | true=>
     rw[hps,if_pos rfl]at ha
     by_cases h10:i<10
     · have h10':(i:Int)<10:=by omega
       rw[if_pos h10]at ha
       simp -implicitDefEqProofs only[a1Y,↓qA,ZZ,Nat.reduceBEq,reduceIte,Nat.reduceAdd,Nat.reduceLeDiff,Nat.reduceEqDiff,Nat.reduceBneDiff,CL,h0,h3,h4,hlt,hi18,hg,hps,h10',hKr,Nat.mul_one,qC,Ends,←ha]
       exact⟨_,rfl⟩
     · have h10':¬(i:Int)<10:=by omega
       rw[if_neg h10]at ha
       simp -implicitDefEqProofs only[a1Y,↓qA,ZZ,Nat.reduceBEq,reduceIte,Nat.reduceAdd,Nat.reduceLeDiff,Nat.reduceEqDiff,Nat.reduceBneDiff,CL,h0,h3,h4,hlt,hi18,hg,hps,h10',hKr,Nat.mul_one,qC,Ends,←ha]
       exact⟨_,rfl⟩
   | false=>
     rw[hps,if_neg (by decide)]at ha
     simp -implicitDefEqProofs only[a1Y,↓qA,ZZ,Nat.reduceBEq,reduceIte,Nat.reduceAdd,Nat.reduceLeDiff,Nat.reduceEqDiff,Nat.reduceBneDiff,CL,h0,h3,h4,hlt,hi18,hg,hps,hw,Nat.mul_one]
     refine hK _ _ ⟨ha,?_⟩
     simp -implicitDefEqProofs only[↓qA,ZZ,seval,h0,h3]
 · rintro fr H K' ⟨ha,h0,h3,h4⟩ hKe hKr
   have h4:fr 4= .int .i64 ((18:Nat):Int):=h4
   have ha:vX s [] 18=wD s:=ha
   rw[vX]at ha
   simp -implicitDefEqProofs only[a1Y,↓qA,ZZ,seval,CL,h0,h3,h4,Int.lt_irrefl,hKe,qC,Ends,←ha]
   exact⟨_,rfl⟩
 · simp -implicitDefEqProofs only[↓qA,ZZ,Nat.reduceBEq,reduceIte,Nat.reduceAdd,Nat.reduceLeDiff,Nat.reduceEqDiff,Nat.reduceBneDiff]
   exact⟨rfl,rfl,rfl⟩
end Go.Lite
/-
  A list's beginning.
-/
namespace Go.Lite
open Go Go.Proofs
def aAQ (l:List Str) (i:Nat) (x:Str):Bool:= !((x==[])||(l.take i).any (· == x))
def aBk (l:List Str):Prop:=∀ i x,l[i]? = some x→aAQ l i x=true
end Go.Lite
/-
  Right terms, as the maker makes them.
-/
namespace Go.Lite
open Go Go.Proofs
/-! ### How many arguments are no atoms -/
mutual
def X.nodes:X→Nat
 | .mk k _ _ l=>(if uS k=true then 0 else 1)+X.nodess l
def X.nodess:List X→Nat
 | []=>0
 | x::l=>x.nodes+X.nodess l
end
/-! ### Norm's atoms, counts, sizes -/
/-! ### Names that are bound -/
mutual
def X.bnd:X→List Str
 | .mk _ _ ns l=>ns++X.bnds l
def X.bnds:List X→List Str
 | []=>[]
 | x::l=>x.bnd++X.bnds l
end
/-! ### What is right -/
def intT:List Str:=[[48],[49],[50],[45,51],[49,48],[45,53],[55],[49,48,48,48,48,48,48,48,48,48,48,48,48,48,48,48,48,48,48,48,48],[53]]
def shp (k:Int) (t:Str) (m n:Nat):Prop:=
 (k=1∧t∈intT∧m=0∧n=0)∨(k=2∧(t=[35,116]∨t=[35,102])∧m=0∧n=0)∨(k=3∧t=[]∧m=0∧n=0)∨(k=4∧(t≠[]∧t.length≤1000∧∀ c∈t,c<256)∧m=0∧n=0)∨(k=5∧t≠[]∧m=0∧n=0)∨
 (k=6∧t=[]∧0<m∧n=1)∨(k=7∧t=[]∧m=0∧2≤n)∨(k=8∧t=[]∧m=0∧n=3)∨(k=9∧t=[]∧0<m∧n=m+1)∨(k=10∧0<wD t∧(n:Int)=wD t∧m=0)
mutual
def X.right:X→Prop
 | .mk k t ns l=>shp k t ns.length l.length∧aBk ns∧X.rights l
def X.rights:List X→Prop
 | []=>True
 | x::l=>x.right∧X.rights l
end
theorem a2q (l:List X):X.rights l↔∀ x∈l,x.right:=by
 induction l with
 | nil=>simp[X.rights]
 | cons x l ih=>rw[X.rights,ih];simp
theorem a9D {l:List Str}(h1:l.Nodup) (h2:[]∉l):aBk l:=fun i x hx=>by
 have hm:=List.mem_of_getElem? hx
 have hne:x≠[]:=fun e=>h2 (e ▸ hm)
 have hno:(l.take i).any (· == x)=false:=by
  rw[List.any_eq_false]
  intro y hy
  obtain⟨j,hj⟩:=List.mem_iff_getElem?.1 hy
  have hji:j<i:=by
   have:=(List.getElem?_eq_some_iff.1 hj).1
   rw[List.length_take]at this;omega
  rw[List.getElem?_take_of_lt hji]at hj
  obtain⟨hi,hix⟩:=List.getElem?_eq_some_iff.1 hx
  obtain⟨hjl,hjx⟩:=List.getElem?_eq_some_iff.1 hj
  have:=(List.nodup_iff_pairwise_ne.1 h1)
  rw[List.pairwise_iff_getElem]at this
  have:=this j i hjl hi hji
  rw[hix,hjx]at this
  simpa using this
 simp[aAQ,hne,hno]
/-! ### Names that are free -/
/-! ### As the maker makes them -/
def vds (m n:Nat):List Str:=(List.range' (m+1) n).map vdot
theorem a4O (c a b:Nat):vds c (a+b)=vds c a++vds (c+a) b:=by
 unfold vds
 rw[←List.map_append,show c+a+1=(c+1)+a by omega,List.range'_append_1]
theorem xS (c n:Nat):(vds c n).length=n:=by simp[vds]
theorem aCk (c:Nat):vds c 1=[vdot (c+1)]:=rfl
mutual
def X.good:X→List Str→Nat→Nat→Prop
 | .mk k t ns l,sc,m,m'=>shp k t ns.length l.length∧l.length≤5∧(k=5→t∈sc)∧ns=vds m ns.length∧X.goods l (sc++ns) (m+ns.length) m'
def X.goods:List X→List Str→Nat→Nat→Prop
 | [],_,m,m'=>m=m'
 | x::l,sc,m,m'=>∃ m1,x.good sc m m1∧X.goods l sc m1 m'
end
theorem a2k {sc:List Str}{x:X}{m' m2:Nat}:∀ (l:List X) (m:Nat),X.goods l sc m m'→x.good sc m' m2→X.goods (l++[x]) sc m m2
 | [],m,h,hx=>by rw[X.goods]at h;subst h;exact⟨m2,hx,rfl⟩
 | y::l,m,⟨m1,h1,h2⟩,hx=>⟨m1,h1,a2k l m1 h2 hx⟩
theorem nK:∀ (x:X) (sc:List Str) (m m':Nat),x.good sc m m'→m≤m'∧x.bnd=vds m (m'-m):=X.indA fun k t ns l ih sc m m' h=>by
 obtain⟨h1,h2,h3,h4,h5⟩:=h
 have key:∀ (l:List X),(∀ x∈l,∀ sc m m',x.good sc m m'→m≤m'∧x.bnd=vds m (m'-m))→∀ sc m m',X.goods l sc m m'→m≤m'∧X.bnds l=vds m (m'-m):=by
  intro l
  induction l with
  | nil=>
    intro _ sc m m' h
    rw[X.goods]at h
    subst h
    exact⟨Nat.le_refl _,by simp[X.bnds,vds]⟩
  | cons x l ihl=>
    intro h sc m m' hg
    obtain⟨m1,g1,g2⟩:=hg
    obtain⟨a1,a2⟩:=h x (by simp) sc m m1 g1
    obtain⟨b1,b2⟩:=ihl (fun y hy=>h y (by simp[hy])) sc m1 m' g2
    refine⟨by omega,?_⟩
    rw[X.bnds,a2,b2,show m'-m=(m1-m)+(m'-m1)by omega,a4O,show m+(m1-m)=m1 by omega]
 obtain⟨a1,a2⟩:=key l ih _ _ _ h5
 refine⟨by omega,?_⟩
 rw[X.bnd,a2,h4,xS,show m'-m=ns.length+(m'-(m+ns.length))by omega,a4O]
theorem aBw {a b:Nat}(h:numT a=numT b):a=b:=by
 unfold numT at h
 by_cases a1:a<10<;>by_cases a2:a<100<;>by_cases b1:b<10<;>by_cases b2:b<100<;>simp only[a1,a2,b1,b2,if_true,if_false,List.cons.injEq,and_true,reduceCtorEq,and_false,List.nil_eq,List.cons_ne_nil]at h<;>omega
theorem aAu {a b:Nat}(h:vdot a=vdot b):a=b:=aBw (by simpa[vdot]using h)
theorem a4B (n:Nat):vdot n≠[]:=by simp[vdot]
theorem a8z (m n:Nat):(vds m n).Nodup:=by
 unfold vds
 rw[List.nodup_iff_pairwise_ne,List.pairwise_map]
 exact(List.nodup_iff_pairwise_ne.1 List.nodup_range').imp fun h e=>h (aAu e)
theorem a3U {s:Str}{m n:Nat}(h:s∈vds m n):∃ j,s=vdot j:=by
 obtain⟨j,_,rfl⟩:=List.mem_map.1 h
 exact⟨j,rfl⟩
theorem aAp (m n:Nat):aBk (vds m n):=a9D (a8z m n) fun h=>by
 obtain⟨j,e⟩:=a3U h
 exact a4B j e.symm
theorem a1X:∀ (x:X) (sc:List Str) (m m':Nat),x.good sc m m'→x.right:=X.indA fun k t ns l ih sc m m' h=>by
 obtain⟨h1,h2,h3,h4,h5⟩:=h
 have key:∀ (l:List X),(∀ x∈l,∀ sc m m',x.good sc m m'→x.right)→∀ sc m m',X.goods l sc m m'→X.rights l:=by
  intro l
  induction l with
  | nil=>intro _ sc m m' h;trivial
  | cons x l ihl=>
    intro h sc m m' hg
    obtain⟨m1,g1,g2⟩:=hg
    exact⟨h x (by simp) sc m m1 g1,ihl (fun y hy=>h y (by simp[hy])) sc m1 m' g2⟩
 exact⟨h1,by rw[h4];exact aAp _ _,key l ih _ _ _ h5⟩
end Go.Lite
/-
  A part that the maker makes: of a raw term's part; a name; a number.
-/
namespace Go.Lite
open Go Go.Proofs
def uM (f:FuncId) (args:List AV) (m:Nat) (e:X) (m':Nat) (n:Nat):Prop:=∀ (H:Heap) (k0:Nat) (ty:Option Nat),HLow H→H.t.get k0=some (.row [.int .i64 m] 0 false ty)→
 Gives (mD P5 n f (.ptr (.new k0) 0::args) H) fun v H'=>v=e.v∧H'.t.get k0=some (.row [.int .i64 m'] 0 false ty)∧HKeep (only k0) H H'
theorem qU {ns:List Str}{H:Heap}:kJ (qE ns) H=some (qE ns,H):=bY
def dL (l:List Raw) (i:Nat):Nat:=match l[i]? with|some r=>r.cnt|none=>0
def pR (r:Raw):Prop:=∀ (sc:List Str) (m:Nat),sc.length≤m+10→(∀ s∈sc,s≠[])→m+2*r.cnt<1000→
 ∃ e m',e.good sc m m'∧e.nodes≤r.cnt∧m'≤m+2*r.cnt∧Ev (uM 21 [.agg r.cells,qE sc] m e m')
def nL (r:Raw):Prop:=∀ (i:Nat) (sc:List Str) (m:Nat),i≤10→sc.length≤m+10→(∀ s∈sc,s≠[])→m+2*dL r.l i<1000→
 ∃ e m',e.good sc m m'∧e.nodes≤dL r.l i∧m'≤m+2*dL r.l i∧Ev (uM 39 [.agg r.cells,.int .i64 i,qE sc] m e m')
def tabP:List Str:=[[48],[49],[50],[45,51],[49,48]]
theorem aC6 {j:Nat}(h:j<5):[AV.str [48],.str [49],.str [50],.str [45,51],.str [49,48]][j]? = some (.str (tabP.getD j [])):=by
 match j,h with
 | 0,_=>rfl
 | 1,_=>rfl
 | 2,_=>rfl
 | 3,_=>rfl
 | 4,_=>rfl
theorem aBv {j:Nat}(h:j<5):tabP.getD j []∈intT:=by
 match j,h with
 | 0,_=>simp[tabP,intT]
 | 1,_=>simp[tabP,intT]
 | 2,_=>simp[tabP,intT]
 | 3,_=>simp[tabP,intT]
 | 4,_=>simp[tabP,intT]
theorem a19 {t:Str}(h:t∈intT) (sc:List Str) (m:Nat):(X.mk 1 t [] []).good sc m m:=
 ⟨.inl ⟨rfl,h,rfl,rfl⟩,by simp,fun h=>absurd h (by decide),rfl,rfl⟩
theorem a5A {t:Str}{sc:List Str}(h:t∈sc) (hne:t≠[]) (m:Nat):(varX t).good sc m m:=
 ⟨.inr (.inr (.inr (.inr (.inl ⟨rfl,hne,rfl,rfl⟩)))),by simp,fun _=>h,rfl,rfl⟩
theorem jF {k:Int}{t:Str}{ns:List Str}(h:uS k=true):(X.mk k t ns []).nodes=0:=by
 rw[X.nodes,if_pos h];rfl
set_option maxHeartbeats 1000000 in
theorem aDC (k q:Int) (l:List Raw) (hlen:l.length≤9223372036854775807) (ih:∀ r∈l,pR r):nL (.mk k q l):=fun i sc m hi10 hsc hne hm=>by
 simp only[Raw.l]at hm ⊢
 by_cases hi:i<l.length
 · obtain⟨r,hr⟩:∃ r,l[i]? = some r:=⟨l[i],List.getElem?_eq_getElem hi⟩
   have hca:dL l i=r.cnt:=by rw[dL,hr]
   rw[hca]at hm ⊢
   obtain⟨e,m',h1,h2,h3,h4⟩:=ih r (List.mem_of_getElem? hr) sc m hsc hne hm
   refine⟨e,m',h1,h2,h3,Ev.succ (h4.mono fun n e4 H k0 ty low g0=> ?_)⟩
   rw[zR (P:=P5) (sf:=c39) (a7i _ _) rfl]
   refine xU ?_
   have hk0:=low.lt g0
   have hlt:(i:Int)<(l.length:Int):=by omega
   have low2:=(low.push (ob:= .row (Raw.mk k q l).cells 0 false (some 56))).push (ob:= .row [.int .i64 0,.str [],.nils,.nils] 0 false (some 28))
   have g2:(((H.push (.row (Raw.mk k q l).cells 0 false (some 56))).push (.row [.int .i64 0,.str [],.nils,.nils] 0 false (some 28)))).t.get k0=some (.row [.int .i64 m] 0 false ty):=by
    rw[qF,if_neg (by simp only[h_n];omega),qF,if_neg (by omega)];exact g0
   have e5:=e4 _ k0 ty low2 g2
   obtain⟨kr,qr,lr⟩:=r
   obtain⟨ke,te,ne,le⟩:=e
   rw[Raw.cells_mk]at e5 low2 g2
   rw[X.v_mk]at e5
   simp only[Raw.cells_mk]at e5
   simp -implicitDefEqProofs only[c39,↓qA,ZZ,seval,CL,XS,qU,Raw.cells_mk,hlt,qO,xO,wP hr,qV]
   refine xL e5 ?_
   rintro w H5 ⟨rfl,gk5,kp5⟩
   have h9:H5.t.get (H.n+1)=some (.row [.int .i64 0,.str [],.nils,.nils] 0 false (some 28)):=kp5.get _ _ (by rw[qF,if_pos (by simp only[h_n])]) (qW (by omega))
   have low5:=kp5.low low2
   simp -implicitDefEqProofs only[↓qA,ZZ,seval,CL,XS,qU,h9,qC]
   refine⟨_,_,rfl,rfl,?_,(((HKeep.push low).pushed low).trans kp5).own low (by omega) (low5.lt h9)⟩
   rw[qD,if_neg (by omega)];exact gk5
 · have hca:dL l i=0:=by rw[dL,List.getElem?_eq_none (by omega)]
   rw[hca]
   have hlt:¬(i:Int)<(l.length:Int):=by omega
   generalize hA:IntKind.i64.wrap (q+(i:Int))=A
   by_cases hv:sc≠[]∧within A 3>0
   · obtain⟨hs,hw3⟩:=hv
     have hpos:0<sc.length:=List.length_pos_iff.2 hs
     have hgt:(sc.length:Int)>0:=by omega
     generalize hB:IntKind.i64.wrap (q+IntKind.i64.wrap (7*(i:Int)))=B
     obtain⟨j0,j1⟩:=zF B sc.length (by omega) (by omega)
     have hj:(within B sc.length).toNat<sc.length:=by omega
     obtain⟨s,hsj⟩:∃ s,sc[(within B sc.length).toNat]? = some s:=⟨_,List.getElem?_eq_getElem hj⟩
     have hmem:=List.mem_of_getElem? hsj
     refine⟨varX s,m,a5A hmem (hne s hmem) m,Nat.le_of_eq (jF rfl),Nat.le_refl _,Ev.succ (((jI A 3 (by decide)).and ((jI B sc.length (by omega)).and (aDz s))).mono fun n hn H k0 ty low g0=> ?_)⟩
     obtain⟨e1,e2,e3⟩:=hn
     rw[zR (P:=P5) (sf:=c39) (a7i _ _) rfl]
     refine xU ?_
     have hk0:=low.lt g0
     have low2:=(low.push (ob:= .row [.int .i64 k,.int .i64 q,kC l] 0 false (some 56))).push (ob:= .row [.int .i64 0,.str [],.nils,.nils] 0 false (some 28))
     simp only[varX,X.v_mk]at e3
     simp -implicitDefEqProofs only[c39,↓qA,ZZ,seval,CL,XS,qU,Raw.cells_mk,hlt,qO,xO,qV,hA,hB,hgt,hw3,e1,e2,e3,j0,yD hsj,qC,varX]
     refine⟨_,_,rfl,rfl,?_,((HKeep.push low).pushed low).own low (by omega) (by simp only[h_n];omega)⟩
     rw[qD,if_neg (by omega),qF,if_neg (by simp only[h_n];omega),qF,if_neg (by omega)];exact g0
   · obtain⟨j0,j1⟩:=zF A 5 (by decide) (by decide)
     have hj:(within A 5).toNat<5:=by omega
     refine⟨.mk 1 (tabP.getD (within A 5).toNat []) [] [],m,a19 (aBv hj) sc m,Nat.le_of_eq (jF rfl),Nat.le_refl _,Ev.succ (((jI A 3 (by decide)).and (jI A 5 (by decide))).mono fun n hn H k0 ty low g0=> ?_)⟩
     obtain⟨e1,e2⟩:=hn
     rw[zR (P:=P5) (sf:=c39) (a7i _ _) rfl]
     refine xU ?_
     have hk0:=low.lt g0
     have hg:=aC6 hj
     have fin:∀ (ob:Obj),HKeep (only k0) H ((((H.push (.row [.int .i64 k,.int .i64 q,kC l] 0 false (some 56))).push (.row [.int .i64 0,.str [],.nils,.nils] 0 false (some 28))).push ob)):=fun ob=>((HKeep.push low).pushed low).pushed low
     by_cases hs:sc=[]
     · subst hs
       simp -implicitDefEqProofs only[c39,↓qA,ZZ,seval,CL,XS,qU,Raw.cells_mk,hlt,qO,xO,qV,hA,e1,e2,j0,vF,hg,hj,Int.lt_irrefl,Nat.mul_one,gt_iff_lt,Int.ofNat_zero,Int.natCast_zero,qC]
       refine⟨_,_,rfl,rfl,?_,(fin _).own low (by omega) (by simp only[h_n];omega)⟩
       rw[qD,if_neg (by omega),qF,if_neg (by simp only[h_n];omega),qF,if_neg (by simp only[h_n];omega),qF,if_neg (by omega)];exact g0
     · have hw3:¬within A 3>0:=fun h=>hv ⟨hs,h⟩
       have hpos:0<sc.length:=List.length_pos_iff.2 hs
       have hgt:(sc.length:Int)>0:=by omega
       simp -implicitDefEqProofs only[c39,↓qA,ZZ,seval,CL,XS,qU,Raw.cells_mk,hlt,qO,xO,qV,hA,e1,e2,j0,hg,hj,hgt,hw3,Nat.mul_one,qC]
       refine⟨_,_,rfl,rfl,?_,(fin _).own low (by omega) (by simp only[h_n];omega)⟩
       rw[qD,if_neg (by omega),qF,if_neg (by simp only[h_n];omega),qF,if_neg (by simp only[h_n];omega),qF,if_neg (by omega)];exact g0
end Go.Lite
/-
  The maker, one kind of a term after the other: rows of parts; applications; primitives.
-/
namespace Go.Lite
open Go Go.Proofs
theorem a3d (l:List Raw) (N:Nat):Raw.cnts (l.take (N+1))=Raw.cnts (l.take N)+dL l N:=by
 induction l generalizing N with
 | nil=>simp[Raw.cnts,dL]
 | cons r l ih=>
   cases N with
   | zero=>simp[Raw.cnts,dL]
   | succ N=>
     have:=ih N
     simp only[List.take_succ_cons,Raw.cnts,dL,List.getElem?_cons_succ]at this ⊢
     omega
theorem vT (l:List Raw) (N:Nat):Raw.cnts (l.take N)≤Raw.cnts l:=by
 induction l generalizing N with
 | nil=>simp
 | cons r l ih=>
   cases N with
   | zero=>simp[Raw.cnts]
   | succ N=>have:=ih N;simp only[List.take_succ_cons,Raw.cnts];omega
theorem a2D (a b:List X):X.nodess (a++b)=X.nodess a+X.nodess b:=by
 induction a with
 | nil=>simp[X.nodess]
 | cons x a ih=>simp only[List.cons_append,X.nodess,ih];omega
theorem mV {r:Raw}(hp:nL r) (sc:List Str) (m:Nat) (hsc:sc.length≤m+10) (hne:∀ s∈sc,s≠[]) (hm:m+2*Raw.cnts r.l<1000):∀ N,N≤10→
 ∃ (es : List X) (ms : Nat → Nat), es.length = N ∧ ms 0 = m ∧ m ≤ ms N ∧ X.goods es sc m (ms N) ∧ X.nodess es ≤ Raw.cnts (r.l.take N) ∧ ms N ≤ m + 2 * Raw.cnts (r.l.take N) ∧
   Ev fun n=>∀ j,j<N→∀ e,es[j]? = some e→uM 39 [.agg r.cells,.int .i64 j,qE sc] (ms j) e (ms (j+1)) n
 | 0,_=>⟨[],fun _=>m,rfl,rfl,Nat.le_refl _,rfl,by simp[X.nodess],by simp,Ev.of fun n j hj=>by omega⟩
 | N + 1, hN => by
   obtain⟨es,ms,h1,h2,h0,h3,h4,h5,h6⟩:=mV hp sc m hsc hne hm N (by omega)
   have hc:=a3d r.l N
   have hle:=vT r.l (N+1)
   obtain⟨e,m',g1,g2,g3,g4⟩:=hp N sc (ms N) (by omega) (by omega) hne (by omega)
   refine⟨es++[e],fun j=>if j=N+1 then m' else ms j,by simp[h1],by simp[h2],?_,?_,?_,?_,?_⟩
   · have:=(nK e sc (ms N) m' g1).1
     simp only[if_true];omega
   · simp only[if_true];exact a2k es m h3 g1
   · rw[a2D,hc];simp only[X.nodess];omega
   · simp only[if_true];omega
   · refine(h6.and g4).mono fun n hn j hj e' he'=> ?_
     obtain⟨n1,n2⟩:=hn
     by_cases hjN:j=N
     · subst hjN
       rw[List.getElem?_append_right (by omega),h1,Nat.sub_self]at he'
       simp only[List.getElem?_cons_zero,Option.some.injEq]at he'
       subst he'
       simp only[if_true]
       rw[if_neg (by omega)]
       exact n2
     · rw[List.getElem?_append_left (by omega)]at he'
       simp only[]
       rw[if_neg (by omega),if_neg (by omega)]
       exact n1 j (by omega) e' he'
theorem aAz {H H2:Heap}{k0:Nat}{ty:Option Nat}{k:Int}{t:Str}{ns:List Str}{es:List X}{v:AV}{b:Int}(low:HLow H) (acc:Acc H.n H2 28 4 es.length (es.flatMap X.cells) v) (kp:HKeep (only k0) H H2)
 (gk:H2.t.get k0=some (.row [.int .i64 b] 0 false ty)):∃ w H'',shutV (.agg [.int .i64 k,.str t,qE ns,v]) H2=some (w,H'')∧w=(X.mk k t ns es).v∧H''.t.get k0=some (.row [.int .i64 b] 0 false ty)∧HKeep (only k0) H H'':=by
 obtain⟨H3,hsh,kp3⟩:=acc.shut (d:=2047) (by decide) (Still.flat X.still _)
 rw[aAy]at hsh
 refine⟨_,H3,?_,rfl,acc.row (by decide) kp3 gk,acc.keeps kp low kp3⟩
 rw[X.v_mk]
 simp -implicitDefEqProofs only[↓qA,ZZ,seval,CL,XS,hsh]
def sQ (H:Heap) (k0:Nat) (ty:Option Nat) (k q:Int) (l:List Raw) (es:List X) (ms:Nat→Nat) (d re ri:Nat) (ke:Int) (te:Str) (i:Nat) (fr:Fr) (H2:Heap):Prop:=
 ∃ v, Acc H.n H2 28 4 i ((es.take i).flatMap X.cells) v ∧ HLow H2 ∧ HKeep (only k0) H H2 ∧ H2.t.get k0 = some (.row [.int .i64 (ms i)] 0 false ty) ∧
   fr 0= .ptr (.new k0) 0∧fr 4= .ptr (.new H.n) 0∧fr 6= .ptr (.new (H.n+1)) 0∧fr re= .ptr (.new (H.n+d)) 0∧fr ri= .int .i64 i∧
   H2.t.get H.n=some (.row [.int .i64 k,.int .i64 q,kC l] 0 false (some 56))∧H2.t.get (H.n+1)=some (.row [.int .i64 0,.str [],.nils,.nils] 0 false (some 28))∧H2.t.get (H.n+d)=some (.row [.int .i64 ke,.str te,.nils,v] 0 false (some 28))
set_option maxHeartbeats 4000000 in
theorem aAY {n N k0:Nat}{ty:Option Nat}{k q:Int}{l:List Raw}{sc:List Str}{es:List X}{ms:Nat→Nat}{H:Heap}{KK:Ex→Fr→Heap→R}{Q:AV→Heap→Prop}(low:HLow H) (hk0:k0<H.n) (hlen:es.length=N) (hN3:N≤3) (hge:10≤n)
 (e2:∀ H,qB P5 n 38 [.int .i64 q,.int .i64 2] H=some (.ret (.int .i64 (within q 2)),H)) (hN:IntKind.i64.wrap (2+within q 2)=(N:Int))
 (ee:∀ j,j<N→∀ e,es[j]? = some e→uM 39 [.agg (Raw.mk k q l).cells,.int .i64 j,qE sc] (ms j) e (ms (j+1)) n)
 (fr:Fr) (H2:Heap) (h:sQ H k0 ty k q l es ms 2 11 12 7 [] 0 fr H2∧fr 2=qE sc) (hend:∀ fr H2,sQ H k0 ty k q l es ms 2 11 12 7 [] N fr H2→Gives (KK (.exit 3) fr H2) Q):
 Gives (zQ (qB P5 n) n a4F n fr H2 KK) Q:=by
 have n0:¬k0=H.n:=by omega
 have n1:¬k0=H.n+1:=by omega
 have n2:¬k0=H.n+2:=by omega
 refine qM N (fun i fr H2=>sQ H k0 ty k q l es ms 2 11 12 7 [] i fr H2∧fr 2=qE sc) ?_ ?_ n 0 _ _ (by omega) (by omega) h
 · rintro i fr H2 K' hi ⟨⟨v,acc,low2,kp,gk,r0,r4,r6,r11,r12,gb0,gb1,gb2⟩,r2⟩ hKe hKr hK
   obtain⟨x,hx⟩:∃ x,es[i]? = some x:=⟨es[i],List.getElem?_eq_getElem (by omega)⟩
   have hlt:(i:Int)<(N:Int):=by omega
   have hw:=qY hi (by omega)
   have hnt:es.take (i+1)=es.take i++[x]:=by rw[List.take_add_one,hx];rfl
   have e5:=ee i hi x hx H2 k0 ty low2 gk
   obtain⟨kx,tx,nx,lx⟩:=x
   simp only[X.v_mk,Raw.cells_mk]at e5
   have fv:=acc.flat
   simp -implicitDefEqProofs only[a4F,↓qA,ZZ,seval,CL,XS,qU,qO,xO,qV,r0,r2,r4,r6,r11,r12,gb0,gb1,gb2,e2,hN,hlt]
   refine xL e5 ?_
   rintro w H5 ⟨rfl,gk5,kp5⟩
   have low5:=kp5.low low2
   have gc0:=kp5.get _ _ gb0 (qW (Ne.symm n0))
   have gc1:=kp5.get _ _ gb1 (qW (Ne.symm n1))
   have gc2:=kp5.get _ _ gb2 (qW (Ne.symm n2))
   have acc5:=acc.kept kp5 fun j hj _=>qW (by omega)
   have kp6:=kp.trans kp5
   obtain⟨H7,happ,acc7,kp7,low7,hn7⟩:=(acc5.push low5 (ob:= .row [.int .i64 kx,.str tx,qE nx,vXs lx] 0 true none)).one_more (e:=28) (bs:=72) (ys:=[.int .i64 kx,.str tx,qE nx,vXs lx]) (by simp only[h_n];have:=kp6.n;omega) low5.push (by decide) rfl nR (by omega)
   have hn5:=low5.lt gc2
   have car:∀ j cs tt,H5.t.get j=some (.row cs 0 false tt)→H7.t.get j=some (.row cs 0 false tt):=fun j cs tt hg=>
    (acc5.push low5).row (by decide) kp7 (by rw[qF,if_neg (by have:=low5.lt hg;omega)];exact hg)
   have gd2:=car _ _ _ gc2
   simp only[h_n]at happ acc7
   simp -implicitDefEqProofs only[↓qA,ZZ,seval,CL,XS,r0,r2,r4,r6,r11,r12,gc0,gc1,gc2,fv,zP,happ,gd2,hw]
   refine hK _ _ ⟨⟨.slice (.new (H5.n+1)) 0 (i+1) (.gro 4),?_,low7.put (low7.lt gd2),((acc5.push low5).keeps (kp6.pushed low) low kp7).own low (by omega) (low7.lt gd2),?_,?_,?_,?_,?_,?_,?_,?_,?_⟩,?_⟩
   · rw[hnt,jK,X.cells_mk];exact acc7.put (by decide) gd2
   · rw[qD,if_neg n2];exact car _ _ _ gk5
   · exact r0
   · exact r4
   · exact r6
   · exact r11
   · rfl
   · rw[qD,if_neg (by omega)];exact car _ _ _ gc0
   · rw[qD,if_neg (by omega)];exact car _ _ _ gc1
   · rw[qD,if_pos rfl]
   · exact r2
 · rintro fr H2 K' ⟨h,r2⟩ hKe hKr
   obtain⟨v,acc,low2,kp,gk,r0,r4,r6,r11,r12,gb0,gb1,gb2⟩:=h
   simp -implicitDefEqProofs only[a4F,↓qA,ZZ,seval,CL,XS,qU,r0,r2,r4,r6,r11,r12,gb0,gb1,gb2,e2,hN,Int.lt_irrefl,hKe]
   refine hend _ _ ⟨v,acc,low2,kp,gk,?_,?_,?_,?_,?_,gb0,gb1,gb2⟩<;>simp -implicitDefEqProofs only[↓qA,ZZ,seval,r0,r4,r6,r11,r12]
theorem a7z {H:Heap}{k0:Nat}{ty:Option Nat}{k q:Int}{l:List Raw}{es:List X}{ms:Nat→Nat}{d re ri:Nat}{ke:Int}{te:Str}{N:Nat}{fr:Fr}{H2:Heap}(low:HLow H) (hk0:k0<H.n) (hlen:es.length=N) (h:sQ H k0 ty k q l es ms d re ri ke te N fr H2):
 ∃ v, fr 6 = .ptr (.new (H.n + 1)) 0 ∧ fr re = .ptr (.new (H.n + d)) 0 ∧ v.flat = true ∧ H2.t.get (H.n + 1) = some (.row [.int .i64 0, .str [], .nils, .nils] 0 false (some 28)) ∧ H2.t.get (H.n + d) = some (.row [.int .i64 ke, .str te, .nils, v] 0 false (some 28)) ∧
   ∃ w H'',shutV (.agg [.int .i64 ke,.str te,.lst 0 0 true [],v]) (H2.put (H.n+1) (.row [.int .i64 ke,.str te,.nils,v] 0 false (some 28)))=some (w,H'')∧w=(X.mk ke te [] es).v∧H''.t.get k0=some (.row [.int .i64 (ms N)] 0 false ty)∧HKeep (only k0) H H'':=by
 obtain⟨v,acc,low2,kp,gk,r0,r4,r6,r11,r12,gb0,gb1,gb2⟩:=h
 rw[List.take_of_length_le (by omega),←hlen]at acc
 have acc3:=acc.put (k:=H.n+1) (by decide) gb1 (ob:= .row [.int .i64 ke,.str te,.nils,v] 0 false (some 28))
 exact⟨v,r6,r11,acc.flat,gb1,gb2,aAz (k:=ke) (t:=te) (ns:=[]) low acc3 (kp.own low (by omega) (low2.lt gb1)) (by rw[qD,if_neg (by omega)];exact gk)⟩
set_option maxHeartbeats 4000000 in
theorem aAI (k q:Int) (l:List Raw) (hw:within k 16=6∨within k 16=7∨within k 16=8) (hp:nL (.mk k q l)):pR (.mk k q l):=fun sc m hsc hne hm=>by
 rw[Raw.cnt]at hm ⊢
 obtain⟨q0,q1⟩:=zF q 2 (by decide) (by decide)
 obtain⟨N,hN,hN2,hN3⟩:∃ N:Nat,IntKind.i64.wrap (2+within q 2)=(N:Int)∧2≤N∧N≤3:=⟨2+(within q 2).toNat,by rw[wrap64 (by omega) (by omega)];omega,by omega,by omega⟩
 obtain⟨es,ms,hlen,hm0,_,hgd,hnd,hms,hev⟩:=mV hp sc m hsc hne (by simp only[Raw.l];omega) N (by omega)
 simp only[Raw.l]at hnd hms
 have hle:=vT l N
 refine⟨.mk 7 [] [] es,ms N,⟨.inr (.inr (.inr (.inr (.inr (.inr (.inl ⟨rfl,rfl,rfl,by omega⟩)))))),by omega,fun h=>absurd h (by decide),rfl,?_⟩,?_,by omega,?_⟩
 · simpa using hgd
 · rw[X.nodes,if_neg (by decide)];omega
 refine Ev.succ (((jI k 16 (by decide)).and ((jI q 2 (by decide)).and (hev.and (Ev.ge 10)))).mono fun n hn H k0 ty low g0=> ?_)
 obtain⟨e1,e2,ee,hge⟩:=hn
 rw[zR (P:=P5) (sf:=c21) (bQ _ _) rfl]
 refine xU ?_
 have hk0:=low.lt g0
 have n0:¬k0=H.n:=by omega
 have n1:¬k0=H.n+1:=by omega
 have n2:¬k0=H.n+2:=by omega
 generalize hW:within k 16=w at *
 have hwe:(w==0)=false∧(w==1)=false∧(w==2)=false∧(w==3)=false∧(w==4)=false∧(w==5)=false:=by
  rcases hw with rfl|rfl|rfl<;>decide
 obtain⟨w0,w1,w2,w3,w4,w5⟩:=hwe
 rcases hw with rfl|rfl|rfl
 all_goals simp -implicitDefEqProofs only[c21,↓qA,ZZ,Nat.reduceBEq,reduceIte,Nat.reduceAdd,Nat.reduceLeDiff,Nat.reduceEqDiff,Nat.reduceBneDiff,CL,XS,qU,Raw.cells_mk,qO,xO,qV,e1,w0,w1,w2,w3,w4,w5,Int.reduceBEq]
 all_goals
  refine aAY (ty:=ty) low hk0 hlen hN3 hge e2 hN ee _ _ ?_ fun fr H2 h=> ?_
  · refine⟨⟨.nils,Acc.nil,(low.push.push.push).put (by simp only[h_n];omega),(((HKeep.push low).pushed low).pushed low).own low (by omega) (by simp only[h_n];omega),?_⟩,?_⟩
    · simp -implicitDefEqProofs only[↓qA,ZZ,Nat.reduceBEq,reduceIte,Nat.reduceAdd,Nat.reduceLeDiff,Nat.reduceEqDiff,Nat.reduceBneDiff,g0,n0,n1,n2,hm0,and_self,true_and,and_true]
      rfl
    · rfl
  · obtain⟨v,r6,r11,fv,gb1,gb2,fin⟩:=a7z low hk0 hlen h
    simp -implicitDefEqProofs only[↓qA,ZZ,seval,CL,XS,r6,r11,fv,gb1,gb2,qC]
    simp -implicitDefEqProofs only[↓qA,ZZ,seval,CL,XS]at fin
    exact fin
end Go.Lite
/-
  The maker: primitives; choices; atoms.
-/
namespace Go.Lite
open Go Go.Proofs
def tabT:List Str:=[[43],[45],[42],[113,117,111,116,105,101,110,116],[114,101,109,97,105,110,100,101,114],[60],[61],[101,113,63],[99,111,110,115],[115,101,113],[99,97,114],[99,100,114],[110,117,108,108,63],[112,97,105,114,63],[110,111,116],[105,110,116,101,103,101,114,63],[115,121,109,98,111,108,63],[101,114,114,111,114],[99,111,110,115],[43],[99,97,114]]
theorem aAn:∀ j:Fin 21,0<wD (tabT.getD j.1 [])∧wD (tabT.getD j.1 [])≤2:=by decide
theorem aCr {j:Nat}(h:j<21):(tabT.map AV.str)[j]? = some (.str (tabT.getD j [])):=by
 rw[List.getElem?_map,List.getElem?_eq_getElem (by simpa[tabT]using h),List.getD_eq_getElem?_getD,List.getElem?_eq_getElem (by simpa[tabT]using h)]
 rfl
set_option maxHeartbeats 4000000 in
theorem a8S {n N k0:Nat}{ty:Option Nat}{k q:Int}{l:List Raw}{sc:List Str}{es:List X}{ms:Nat→Nat}{t:Str}{H:Heap}{KK:Ex→Fr→Heap→R}{Q:AV→Heap→Prop}(low:HLow H) (hk0:k0<H.n) (hlen:es.length=N) (hN3:N≤3) (hge:10≤n)
 (e2:∀ H,qB P5 n 40 [.str t] H=some (.ret (.int .i64 (N:Int)),H))
 (ee:∀ j,j<N→∀ e,es[j]? = some e→uM 39 [.agg (Raw.mk k q l).cells,.int .i64 j,qE sc] (ms j) e (ms (j+1)) n)
 (fr:Fr) (H2:Heap) (h:sQ H k0 ty k q l es ms 3 20 21 10 t 0 fr H2∧fr 2=qE sc) (hend:∀ fr H2,sQ H k0 ty k q l es ms 3 20 21 10 t N fr H2→Gives (KK (.exit 9) fr H2) Q):
 Gives (zQ (qB P5 n) n a4w n fr H2 KK) Q:=by
 have n0:¬k0=H.n:=by omega
 have n1:¬k0=H.n+1:=by omega
 have n2:¬k0=H.n+3:=by omega
 refine qM N (fun i fr H2=>sQ H k0 ty k q l es ms 3 20 21 10 t i fr H2∧fr 2=qE sc) ?_ ?_ n 0 _ _ (by omega) (by omega) h
 · rintro i fr H2 K' hi ⟨⟨v,acc,low2,kp,gk,r0,r4,r6,r11,r12,gb0,gb1,gb2⟩,r2⟩ hKe hKr hK
   obtain⟨x,hx⟩:∃ x,es[i]? = some x:=⟨es[i],List.getElem?_eq_getElem (by omega)⟩
   have hlt:(i:Int)<(N:Int):=by omega
   have hw:=qY hi (by omega)
   have hnt:es.take (i+1)=es.take i++[x]:=by rw[List.take_add_one,hx];rfl
   have e5:=ee i hi x hx H2 k0 ty low2 gk
   obtain⟨kx,tx,nx,lx⟩:=x
   simp only[X.v_mk,Raw.cells_mk]at e5
   have fv:=acc.flat
   simp -implicitDefEqProofs only[a4w,↓qA,ZZ,seval,CL,XS,qU,qO,xO,qV,r0,r2,r4,r6,r11,r12,gb0,gb1,gb2,e2,hlt]
   refine xL e5 ?_
   rintro w H5 ⟨rfl,gk5,kp5⟩
   have low5:=kp5.low low2
   have gc0:=kp5.get _ _ gb0 (qW (Ne.symm n0))
   have gc1:=kp5.get _ _ gb1 (qW (Ne.symm n1))
   have gc2:=kp5.get _ _ gb2 (qW (Ne.symm n2))
   have acc5:=acc.kept kp5 fun j hj _=>qW (by omega)
   have kp6:=kp.trans kp5
   obtain⟨H7,happ,acc7,kp7,low7,hn7⟩:=(acc5.push low5 (ob:= .row [.int .i64 kx,.str tx,qE nx,vXs lx] 0 true none)).one_more (e:=28) (bs:=72) (ys:=[.int .i64 kx,.str tx,qE nx,vXs lx]) (by simp only[h_n];have:=kp6.n;omega) low5.push (by decide) rfl nR (by omega)
   have hn5:=low5.lt gc2
   have car:∀ j cs tt,H5.t.get j=some (.row cs 0 false tt)→H7.t.get j=some (.row cs 0 false tt):=fun j cs tt hg=>
    (acc5.push low5).row (by decide) kp7 (by rw[qF,if_neg (by have:=low5.lt hg;omega)];exact hg)
   have gd2:=car _ _ _ gc2
   simp only[h_n]at happ acc7
   simp -implicitDefEqProofs only[↓qA,ZZ,seval,CL,XS,r0,r2,r4,r6,r11,r12,gc0,gc1,gc2,fv,zP,happ,gd2,hw]
   refine hK _ _ ⟨⟨.slice (.new (H5.n+1)) 0 (i+1) (.gro 4),?_,low7.put (low7.lt gd2),((acc5.push low5).keeps (kp6.pushed low) low kp7).own low (by omega) (low7.lt gd2),?_,?_,?_,?_,?_,?_,?_,?_,?_⟩,?_⟩
   · rw[hnt,jK,X.cells_mk];exact acc7.put (by decide) gd2
   · rw[qD,if_neg n2];exact car _ _ _ gk5
   · exact r0
   · exact r4
   · exact r6
   · exact r11
   · rfl
   · rw[qD,if_neg (by omega)];exact car _ _ _ gc0
   · rw[qD,if_neg (by omega)];exact car _ _ _ gc1
   · rw[qD,if_pos rfl]
   · exact r2
 · rintro fr H2 K' ⟨h,r2⟩ hKe hKr
   obtain⟨v,acc,low2,kp,gk,r0,r4,r6,r11,r12,gb0,gb1,gb2⟩:=h
   simp -implicitDefEqProofs only[a4w,↓qA,ZZ,seval,CL,XS,qU,r0,r2,r4,r6,r11,r12,gb0,gb1,gb2,e2,Int.lt_irrefl,hKe]
   refine hend _ _ ⟨v,acc,low2,kp,gk,?_,?_,?_,?_,?_,gb0,gb1,gb2⟩<;>simp -implicitDefEqProofs only[↓qA,ZZ,seval,r0,r4,r6,r11,r12]
set_option maxHeartbeats 4000000 in
theorem a8y (k q:Int) (l:List Raw) (hw:13≤within k 16) (hp:nL (.mk k q l)):pR (.mk k q l):=fun sc m hsc hne hm=>by
 rw[Raw.cnt]at hm ⊢
 obtain⟨q0,q1⟩:=zF q 21 (by decide) (by decide)
 obtain⟨j,hj⟩:∃ j:Nat,(within q 21).toNat=j:=⟨_,rfl⟩
 have hj21:j<21:=by omega
 have hg:=aCr hj21
 obtain⟨a0,a1⟩:=aAn ⟨j,hj21⟩
 simp only[]at a0 a1
 generalize tabT.getD j []=t at *
 obtain⟨N,hN⟩:∃ N:Nat,wD t=(N:Int):=⟨(wD t).toNat,by omega⟩
 obtain⟨es,ms,hlen,hm0,_,hgd,hnd,hms,hev⟩:=mV hp sc m hsc hne (by simp only[Raw.l];omega) N (by omega)
 simp only[Raw.l]at hnd hms
 have hle:=vT l N
 refine⟨.mk 10 t [] es,ms N,⟨.inr (.inr (.inr (.inr (.inr (.inr (.inr (.inr (.inr ⟨rfl,a0,by rw[hN,hlen],rfl⟩)))))))),by omega,fun h=>absurd h (by decide),rfl,?_⟩,?_,by omega,?_⟩
 · simpa using hgd
 · rw[X.nodes,if_neg (by decide)];omega
 have e47:=aCJ t
 rw[hN]at e47
 refine Ev.succ (((jI k 16 (by decide)).and ((jI q 21 (by decide)).and (e47.and (hev.and (Ev.ge 10))))).mono fun n hn H k0 ty low g0=> ?_)
 obtain⟨e1,e2,e3,ee,hge⟩:=hn
 rw[zR (P:=P5) (sf:=c21) (bQ _ _) rfl]
 refine xU ?_
 have hk0:=low.lt g0
 have n0:¬k0=H.n:=by omega
 have n1:¬k0=H.n+1:=by omega
 have n2:¬k0=H.n+2:=by omega
 have n3:¬k0=H.n+3:=by omega
 obtain⟨u0,u1⟩:=zF k 16 (by decide) (by decide)
 generalize hW:within k 16=w at *
 have w0:(w==0)=false:=by simp;omega
 have w1:(w==1)=false:=by simp;omega
 have w2:(w==2)=false:=by simp;omega
 have w3:(w==3)=false:=by simp;omega
 have w4:(w==4)=false:=by simp;omega
 have w5:(w==5)=false:=by simp;omega
 have w6:(w==6)=false:=by simp;omega
 have w7:(w==7)=false:=by simp;omega
 have w8:(w==8)=false:=by simp;omega
 have w9:(w==9)=false:=by simp;omega
 have w10:(w==10)=false:=by simp;omega
 have w11:(w==11)=false:=by simp;omega
 have w12:(w==12)=false:=by simp;omega
 have h21:((21:Nat):Int)=21:=rfl
 simp only[tabT,List.map_cons,List.map_nil]at hg
 simp -implicitDefEqProofs only[c21,↓qA,ZZ,seval,CL,XS,qU,Raw.cells_mk,qO,xO,qV,e1,w0,w1,w2,w3,w4,w5,w6,w7,w8,w9,w10,w11,w12,h21,e2,q0,hj,hj21,hg,Nat.mul_one]
 refine a8S (ty:=ty) low hk0 hlen (by omega) hge e3 ee _ _ ?_ fun fr H2 h=> ?_
 · refine⟨⟨.nils,Acc.nil,(low.push.push.push.push).put (by simp only[h_n];omega),((((HKeep.push low).pushed low).pushed low).pushed low).own low (by omega) (by simp only[h_n];omega),?_⟩,?_⟩
   · simp -implicitDefEqProofs only[↓qA,ZZ,Nat.reduceBEq,reduceIte,Nat.reduceAdd,Nat.reduceLeDiff,Nat.reduceEqDiff,Nat.reduceBneDiff,g0,n0,n1,n2,n3,hm0,and_self,true_and,and_true]
     rfl
   · rfl
 · obtain⟨v,r6,r11,fv,gb1,gb2,fin⟩:=a7z low hk0 hlen h
   simp -implicitDefEqProofs only[↓qA,ZZ,seval,CL,XS,r6,r11,fv,gb1,gb2,qC]
   simp -implicitDefEqProofs only[↓qA,ZZ,seval,CL,XS]at fin
   exact fin
set_option maxHeartbeats 4000000 in
theorem aBP (k q:Int) (l:List Raw) (hw:within k 16=9) (hp:nL (.mk k q l)):pR (.mk k q l):=fun sc m hsc hne hm=>by
 rw[Raw.cnt]at hm ⊢
 obtain⟨es,ms,hlen,hm0,_,hgd,hnd,hms,hev⟩:=mV hp sc m hsc hne (by simp only[Raw.l];omega) 3 (by omega)
 simp only[Raw.l]at hnd hms
 have hle:=vT l 3
 refine⟨.mk 8 [] [] es,ms 3,⟨.inr (.inr (.inr (.inr (.inr (.inr (.inr (.inl ⟨rfl,rfl,rfl,hlen⟩))))))),by omega,fun h=>absurd h (by decide),rfl,?_⟩,?_,by omega,?_⟩
 · simpa using hgd
 · rw[X.nodes,if_neg (by decide)];omega
 refine Ev.succ (((jI k 16 (by decide)).and (hev.and (Ev.ge 10))).mono fun n hn H k0 ty low g0=> ?_)
 obtain⟨e1,ee,hge⟩:=hn
 rw[zR (P:=P5) (sf:=c21) (bQ _ _) rfl]
 refine xU ?_
 have hk0:=low.lt g0
 have n0:¬k0=H.n:=by omega
 have n1:¬k0=H.n+1:=by omega
 rw[hw]at e1
 obtain⟨x0,x1,x2,rfl⟩:∃ a b c,es=[a,b,c]:=by
  match es,hlen with
  | [a,b,c],_=>exact⟨a,b,c,rfl⟩
 have p0:=ee 0 (by omega) x0 rfl
 have p1:=ee 1 (by omega) x1 rfl
 have p2:=ee 2 (by omega) x2 rfl
 obtain⟨k0',t0,ns0,l0⟩:=x0
 obtain⟨k1',t1,ns1,l1⟩:=x1
 obtain⟨k2',t2,ns2,l2⟩:=x2
 have low2:=(low.push (ob:= .row [.int .i64 k,.int .i64 q,kC l] 0 false (some 56))).push (ob:= .row [.int .i64 0,.str [],.nils,.nils] 0 false (some 28))
 have q0:=p0 _ k0 ty low2 (by rw[qF,if_neg (by simp only[h_n];omega),qF,if_neg (by omega),hm0];exact g0)
 simp only[X.v_mk,Raw.cells_mk]at q0
 have hz:((0:Nat):Int)=0:=rfl
 have hz1:((1:Nat):Int)=1:=rfl
 have hz2:((2:Nat):Int)=2:=rfl
 rw[hz]at q0
 simp -implicitDefEqProofs only[c21,↓qA,ZZ,seval,CL,XS,qU,Raw.cells_mk,qO,xO,qV,e1,Int.reduceBEq]
 refine xL q0 ?_
 rintro w H5 ⟨rfl,gk5,kp5⟩
 have low5:=kp5.low low2
 have gc0:H5.t.get H.n=some (.row [.int .i64 k,.int .i64 q,kC l] 0 false (some 56)):=kp5.get _ _ (by rw[qF,if_neg (by simp only[h_n];omega),qF,if_pos rfl]) (qW (Ne.symm n0))
 have gc1:H5.t.get (H.n+1)=some (.row [.int .i64 0,.str [],.nils,.nils] 0 false (some 28)):=kp5.get _ _ (by rw[qF,if_pos (by simp only[h_n])]) (qW (Ne.symm n1))
 have q1:=p1 _ k0 ty low5 gk5
 simp only[X.v_mk,Raw.cells_mk]at q1
 rw[hz1]at q1
 simp -implicitDefEqProofs only[↓qA,ZZ,seval,CL,XS,qU,Raw.cells_mk,qO,xO,qV,gc0,gc1]
 refine xL q1 ?_
 rintro w H6 ⟨rfl,gk6,kp6⟩
 have low6:=kp6.low low5
 have gd0:=kp6.get _ _ gc0 (qW (Ne.symm n0))
 have gd1:=kp6.get _ _ gc1 (qW (Ne.symm n1))
 have q2:=p2 _ k0 ty low6 gk6
 simp only[X.v_mk,Raw.cells_mk]at q2
 rw[hz2]at q2
 simp -implicitDefEqProofs only[↓qA,ZZ,seval,CL,XS,qU,Raw.cells_mk,qO,xO,qV,gd0,gd1]
 refine xL q2 ?_
 rintro w H7 ⟨rfl,gk7,kp7⟩
 have low7:=kp7.low low6
 have ge1:=kp7.get _ _ gd1 (qW (Ne.symm n1))
 have x1:¬H.n+1=H7.n:=by have:=low7.lt ge1;omega
 simp -implicitDefEqProofs only[↓qA,ZZ,seval,CL,XS,qU,Raw.cells_mk,qO,xO,qV,ge1,x1,qC]
 refine⟨_,_,rfl,?_,?_,(((((HKeep.push low).pushed low).trans kp5).trans kp6).trans kp7).pushed low |>.own low (by omega) (by simp only[h_n];have:=low7.lt ge1;omega)⟩
 · simp only[vXs,kG,vF,List.flatMap_cons,List.flatMap_nil,X.cells_mk,List.length_cons,List.length_nil,List.append_nil,List.cons_append,List.nil_append]
 · rw[qD,if_neg n1,qF,if_neg (by have:=low7.lt gk7;omega)];exact gk7
def tabN:List Str:=[[48],[49],[45,53],[55],[49,48,48,48,48,48,48,48,48,48,48,48,48,48,48,48,48,48,48,48,48]]
theorem aB5:∀ j:Fin 5,tabN.getD j.1 []∈intT:=by decide
theorem aDs {j:Nat}(h:j<5):(tabN.map AV.str)[j]? = some (.str (tabN.getD j [])):=by
 rw[List.getElem?_map,List.getElem?_eq_getElem (by simpa[tabN]using h),List.getD_eq_getElem?_getD,List.getElem?_eq_getElem (by simpa[tabN]using h)]
 rfl
set_option maxHeartbeats 4000000 in
theorem a9U (k q:Int) (l:List Raw) (hw:within k 16=0):pR (.mk k q l):=fun sc m hsc hne hm=>by
 obtain⟨q0,q1⟩:=zF q 5 (by decide) (by decide)
 obtain⟨j,hj⟩:∃ j:Nat,(within q 5).toNat=j:=⟨_,rfl⟩
 have hj5:j<5:=by omega
 have hg:=aDs hj5
 have hint:=aB5 ⟨j,hj5⟩
 simp only[]at hint
 generalize tabN.getD j []=t at *
 refine⟨.mk 1 t [] [],m,a19 hint sc m,by rw[jF rfl];omega,by omega,Ev.succ (((jI k 16 (by decide)).and (jI q 5 (by decide))).mono fun n hn H k0 ty low g0=> ?_)⟩
 obtain⟨e1,e2⟩:=hn
 rw[zR (P:=P5) (sf:=c21) (bQ _ _) rfl]
 refine xU ?_
 have hk0:=low.lt g0
 rw[hw]at e1
 simp only[tabN,List.map_cons,List.map_nil]at hg
 simp -implicitDefEqProofs only[c21,↓qA,ZZ,seval,CL,XS,qU,Raw.cells_mk,qO,xO,qV,e1,e2,q0,hj,hj5,hg,Nat.mul_one,vF,tF,qC]
 refine⟨_,_,rfl,rfl,?_,(((HKeep.push low).pushed low).pushed low).own low (by omega) (by simp only[h_n];omega)⟩
 rw[qD,if_neg (by omega),qF,if_neg (by simp only[h_n];omega),qF,if_neg (by simp only[h_n];omega),qF,if_neg (by omega)];exact g0
set_option maxHeartbeats 4000000 in
theorem a8R (k q:Int) (l:List Raw) (hw:within k 16=1):pR (.mk k q l):=fun sc m hsc hne hm=>by
 obtain⟨q0,q1⟩:=zF q 4 (by decide) (by decide)
 obtain⟨j,hj⟩:∃ j:Nat,(within q 4).toNat=j:=⟨_,rfl⟩
 have hj4:j<4:=by omega
 have key:∀ j,j<4→∃ kx tx,uS kx=true∧(X.mk kx tx [] []).good sc m m∧(([AV.int .i64 2,.str [35,116],.lst 0 0 true [],.lst 0 0 true [],.int .i64 2,.str [35,102],.lst 0 0 true [],.lst 0 0 true [],.int .i64 3,.str [],.lst 0 0 true [],.lst 0 0 true [],.int .i64 4,.str [115],.lst 0 0 true [],.lst 0 0 true []].drop (j*4)).take 4)=[.int .i64 kx,.str tx,.lst 0 0 true [],.lst 0 0 true []]:=fun j hj=>by
  match j,hj with
  | 0,_=>exact⟨2,[35,116],rfl,⟨.inr (.inl ⟨rfl,.inl rfl,rfl,rfl⟩),by simp,fun h=>absurd h (by decide),rfl,rfl⟩,rfl⟩
  | 1,_=>exact⟨2,[35,102],rfl,⟨.inr (.inl ⟨rfl,.inr rfl,rfl,rfl⟩),by simp,fun h=>absurd h (by decide),rfl,rfl⟩,rfl⟩
  | 2,_=>exact⟨3,[],rfl,⟨.inr (.inr (.inl ⟨rfl,rfl,rfl,rfl⟩)),by simp,fun h=>absurd h (by decide),rfl,rfl⟩,rfl⟩
  | 3,_=>exact⟨4,[115],rfl,⟨.inr (.inr (.inr (.inl ⟨rfl,⟨by simp,by simp,by simp⟩,rfl,rfl⟩))),by simp,fun h=>absurd h (by decide),rfl,rfl⟩,rfl⟩
 obtain⟨kx,tx,ha,hgd,hcell⟩:=key j hj4
 refine⟨.mk kx tx [] [],m,hgd,by rw[jF ha];omega,by omega,Ev.succ (((jI k 16 (by decide)).and (jI q 4 (by decide))).mono fun n hn H k0 ty low g0=> ?_)⟩
 obtain⟨e1,e2⟩:=hn
 rw[zR (P:=P5) (sf:=c21) (bQ _ _) rfl]
 refine xU ?_
 have hk0:=low.lt g0
 rw[hw]at e1
 have hlen4:∀ cs:List AV,cs=[AV.int .i64 kx,.str tx,.lst 0 0 true [],.lst 0 0 true []]→cs.length=4:=fun cs h=>by rw[h];rfl
 simp -implicitDefEqProofs only[c21,↓qA,ZZ,seval,CL,XS,qU,Raw.cells_mk,qO,xO,qV,e1,e2,q0,hj,hj4,hcell,Int.reduceBEq,vF,tF,qC]
 refine⟨_,_,rfl,rfl,?_,(((HKeep.push low).pushed low).pushed low).own low (by omega) (by simp only[h_n];omega)⟩
 rw[qD,if_neg (by omega),qF,if_neg (by simp only[h_n];omega),qF,if_neg (by simp only[h_n];omega),qF,if_neg (by omega)];exact g0
set_option maxHeartbeats 4000000 in
theorem aAD (k q:Int) (l:List Raw) (hw:within k 16=2∨within k 16=3):pR (.mk k q l):=fun sc m hsc hne hm=>by
 by_cases hs:sc=[]
 · subst hs
   refine⟨.mk 3 [] [] [],m,⟨.inr (.inr (.inl ⟨rfl,rfl,rfl,rfl⟩)),by simp,fun h=>absurd h (by decide),rfl,rfl⟩,by rw[jF rfl];omega,by omega,Ev.succ ((jI k 16 (by decide)).mono fun n e1 H k0 ty low g0=> ?_)⟩
   rw[zR (P:=P5) (sf:=c21) (bQ _ _) rfl]
   refine xU ?_
   have hk0:=low.lt g0
   rcases hw with hw|hw
   all_goals
    rw[hw]at e1
    simp -implicitDefEqProofs only[c21,↓qA,ZZ,seval,CL,XS,qU,Raw.cells_mk,qO,xO,qV,e1,Int.reduceBEq,vF,tF,Int.lt_irrefl,gt_iff_lt,Int.ofNat_zero,Int.natCast_zero,qC]
    refine⟨_,_,rfl,rfl,?_,((HKeep.push low).pushed low).own low (by omega) (by simp only[h_n];omega)⟩
    rw[qD,if_neg (by omega),qF,if_neg (by simp only[h_n];omega),qF,if_neg (by omega)];exact g0
 · have hpos:0<sc.length:=List.length_pos_iff.2 hs
   have hgt:(sc.length:Int)>0:=by omega
   obtain⟨j0,j1⟩:=zF q sc.length (by omega) (by omega)
   have hj:(within q sc.length).toNat<sc.length:=by omega
   obtain⟨s,hsj⟩:∃ s,sc[(within q sc.length).toNat]? = some s:=⟨_,List.getElem?_eq_getElem hj⟩
   have hmem:=List.mem_of_getElem? hsj
   refine⟨varX s,m,a5A hmem (hne s hmem) m,by rw[varX,jF rfl];omega,by omega,Ev.succ (((jI k 16 (by decide)).and ((jI q sc.length (by omega)).and (aDz s))).mono fun n hn H k0 ty low g0=> ?_)⟩
   obtain⟨e1,e2,e3⟩:=hn
   rw[zR (P:=P5) (sf:=c21) (bQ _ _) rfl]
   refine xU ?_
   have hk0:=low.lt g0
   simp only[varX,X.v_mk]at e3
   rcases hw with hw|hw
   all_goals
    rw[hw]at e1
    simp -implicitDefEqProofs only[c21,↓qA,ZZ,seval,CL,XS,qU,Raw.cells_mk,qO,xO,qV,e1,e2,e3,j0,hgt,yD hsj,Int.reduceBEq,varX,qC]
    refine⟨_,_,rfl,rfl,?_,((HKeep.push low).pushed low).own low (by omega) (by simp only[h_n];omega)⟩
    rw[qD,if_neg (by omega),qF,if_neg (by simp only[h_n];omega),qF,if_neg (by omega)];exact g0
end Go.Lite
