/- Contracts of functions of the program, and what they lean on. Conditions: those of each theorem. -/
import Derived.Test.YthkdpdpgmhmgoaaGreatSpMC
import Derived.Shelf.Small.Bits
import Derived.Shelf.Small.Wraps
import Derived.Shelf.Strconv.Itoa0
import Derived.Shelf.Sort.Plain
import Derived.Ground.Names2Prog
import Derived.Shelf.Slices.Clone
import Derived.Shelf.Slices.CompactI
import Derived.Shelf.Slices.SearchI
import Derived.Shelf.Slices.Delete
import Derived.Shelf.Slices.Cells
import Derived.Shelf.Slices.In.SortNone
import Derived.Shelf.Slices.Empties
import Derived.Ground.SlgnProg
import Derived.Shelf.SlicesE.Clone
import Derived.Test.YthkdpdpgmhmgoaaGreatProg

set_option linter.unusedVariables false
set_option linter.unusedSimpArgs false
set_option maxHeartbeats 64000000
set_option maxRecDepth 100000
open And renaming intro->b5Z
open Bool renaming and_eq_true->a3C,eq_iff_iff->b4H,or_eq_true->b6w,not_eq_true'->b1K
open Classical renaming byContradiction->a9M,propDecidable->b8I
open Function renaming comp_def->b7A
open Int renaming toNat_natCast->c4c,add_assoc->c2S,eq_ofNat_of_zero_le->c3y
open List renaming mem_singleton->a1B,mem_append_left->a7N,mem_flatMap->a2O,map_append->a5M,mem_append->a9E,map_cons->a0I,map_nil->a9U,mem_map->a0E,find?_eq_none->b8O,range->a7I,find?_cons->c4y,filter_cons->b2p,flatMap_cons->b0m,find?_append->d1l,mem_of_find?_eq_some->a8V,length_pos_iff->a6I,mem_cons->a5E,mem_cons_self->a4E,mem_cons_of_mem->a9C,append_assoc->b9Z,nodup_append->b6n,getElem?_eq_some_iff->a5y,length_append->a7J,length_singleton->b4p,getElem?_append_left->a9L,ne_nil_of_mem->c3u,mem_range->a6V,length_map->a5O,find?_some->d7x,take_add_one->a3I,drop_eq_getElem_cons->c5u,foldl_append->a5U,mem_of_getElem?->a6y,ext_getElem?->b6r,getElem?_eq_none->c7W,getElem?_set->c9b,length_set->d7z,map->d8i,length_filter_le->a0V,filter_append->b4j,take->a1V,take_of_length_le->a0z,replicate->a2N,getElem?_of_mem->a9B,getElem?_take->a8R,take_length->a6J,length_take->a3U,append_nil->b9o,length_eq_zero_iff->a1S,take_append_drop->c2X,drop_length->c7v,getElem?_cons_zero->a0F,filter_nil->d0A,mem_filter->a2E,reverse_reverse->d0e,reverse_cons->d2l,cons_append->b4O,take_append_of_le_length->c7M,take_left->d5P,mem_reverse->d5t
open Nat renaming le_refl->a8F,zero_le->c0t,add_zero->b1H,pos_iff_ne_zero->c8D
open Option renaming none_or->d4t,getD_some->a1J
open Option.some renaming injEq->a3y,inj->c8c
open Prod.mk renaming injEq->a2L

section
namespace Go.Rt
section
variable(G:Gr)(s:Nat)
def Wy:Nat->List (List Nat)
 | 0=>[[s]]
 |d+1=>(Wy d).flatMap (ext1 G)
def LS:Nat->List Int×List (List Nat)
 | 0=>([G.T s],[[s]])
 |d+1=>((LS d).1++(Xx G (LS d).1 ((LS d).2.flatMap (Wn G))).map (nd G),Xx G (LS d).1 ((LS d).2.flatMap (Wn G)))
def Ly(d:Nat):List (List Nat):=(LS G s d).2
def Sv(d:Nat):List Int:=(LS G s d).1
def Er:Nat->List Int
 | 0=>[]
 |d+1=>Sv G s d
variable{G s}
theorem EF(d:Nat):Ly G s (d+1)=Xx G (Sv G s d) ((Ly G s d).flatMap (Wn G)):=rfl
theorem C9(d:Nat):Sv G s (d+1)=Sv G s d++(Ly G s (d+1)).map (nd G):=rfl
structure Lay (d:Nat):Prop where
 c1:Ly G s d=Xx G (Er G s d) (Wy G s d)
 c2:∀p,p∈Wy G s d->∀x,x∈p.map G.T->x∈Sv G s d
 c3:∀i,i∈Er G s d->∀k,M9 G i k->k∈Sv G s d
 c4:∀x,x∈Sv G s d↔x∈Er G s d\/∃p,p∈Ly G s d/\nd G p=x
theorem lay(G:Gr)(s:Nat):∀d,Lay (G:=G) (s:=s) d
 | 0=>by
  refine⟨?_,?_,?_,?_⟩
  ·show[[s]]=Xx G [] [[s]]
   simp[Xx]
  ·intro p hp x hx;simp only[Wy,a1B]at hp;subst hp;exact hx
  ·intro i hi;cases hi
  ·intro x
   show x∈[G.T s]↔x∈([]:List Int)\/∃p,p∈[[s]]/\nd G p=x
   simp[b3p,eq_comm]
 |d+1=>by
  have ih:=lay G s d
  have Y9:∀p,p∈Ly G s d->p∈Wy G s d:=fun p hp=>(l7 _ (ih.c1▸hp)).1
  have h1:Ly G s (d+1)=Xx G (Er G s (d+1)) (Wy G s (d+1)):=by
   rw[EF, <-b2r _ fun p hp=>ih.c2 p (Y9 p hp),ih.c1, <-b3r _ ih.c2 ih.c3];rfl
  have hup:∀x,x∈Sv G s d->x∈Sv G s (d+1):=fun x hx=>by rw[C9];exact a7N _ hx
  have h2:∀p,p∈Wy G s (d+1)->∀x,x∈p.map G.T->x∈Sv G s (d+1):=by
   intro p hp x hx;obtain⟨q,hq,zr⟩:=a2O.1 hp;obtain⟨k,rfl,_,_,_,_⟩:=b6q zr;rw[a5M,a9E]at hx
   rcases hx with hx|hx
   ·exact hup x (ih.c2 q hq x hx)
   ·simp only[a0I,a9U,a1B]at hx;subst hx
    rcases b1q (G:=G) _ (S:=Er G s (d+1)) hp with h|⟨q',g1,g2⟩
    ·rw[Ow]at h;exact hup _ h
    ·rw[C9,h1];rw[Ow]at g2;exact List.mem_append_right _ (a0E.2 ⟨q',g1,g2⟩)
  refine⟨h1,h2,?_,?_⟩
  ·intro i hi k hk
   rcases(ih.c4 i).1 hi with hi|⟨p,hp,rfl⟩
   ·exact hup _ (ih.c3 i hi k hk)
   ·obtain⟨j,j1,j2,j3,rfl⟩:=hk
    by_cases hkp:G.T j∈p.map G.T
    ·exact hup _ (ih.c2 p (Y9 p hp) _ hkp)
    ·exact h2 (p++[j]) (a2O.2 ⟨p,Y9 p hp,b8q j1 j2 j3 hkp⟩) _ (by simp)
  ·intro x;rw[C9,a9E,a0E];exact Iff.rfl
variable(G s) in
def cl(x:Int):Bool:=decide (x=G.F s)
variable(G s) in
def Open(d:Nat):Prop:=∀d',d'<d->(Ly G s d').find? (fun p=>cl G s (nd G p))=none
theorem c4t:∀{d:Nat},Open G s d->∀x,x∈Er G s d->cl G s x=false
 | 0,_,x,hx=>by cases hx
 |d+1,h,x,hx=>by
  rcases((lay G s d).c4 x).1 hx with hx|⟨p,hp,rfl⟩
  ·exact c4t (fun d' hd=>h d' (by omega)) x hx
  ·have:=b8O.1 (h d (by omega)) p hp;simpa using this
theorem c5t{d:Nat}(h:Open G s d):(Wy G s d).find? (fun p=>cl G s (nd G p))=(Ly G s d).find? fun p=>cl G s (nd G p):=by
 rw[(lay G s d).c1,b3q _ _ (c4t h)]
variable(G) in
def ways:Nat->List Nat->List (List Nat)
 | 0,l=>[l]
 |n+1,l=>(ext1 G l).flatMap (ways n)
theorem c6t:∀(n:Nat) (l:List Nat),(ways G n l).flatMap (ext1 G)=ways G (n+1) l
 | 0,l=>by simp[ways]
 |n+1,l=>by
  show((ext1 G l).flatMap (ways G n)).flatMap (ext1 G)=(ext1 G l).flatMap (ways G (n+1))
  rw[List.flatMap_assoc]
  congr 1
  funext x
  exact c6t n x
theorem c7t:∀d,ways G d [s]=Wy G s d
 | 0=>rfl
 |d+1=>by rw[<-c6t,c7t d];rfl
theorem c8t:∀(n:Nat) {l p:List Nat},l≠[]->p∈ways G n l->p≠[]
 | 0,l,p,hl,hp=>by simp only[ways,a1B]at hp;subst hp;exact hl
 |n+1,l,p,hl,hp=>by
  obtain⟨q,hq,zr⟩:=a2O.1 hp;obtain⟨k,rfl,_⟩:=b6q hq;exact c8t n (by simp) zr
theorem c9t{l:List Nat}(h:l≠[])(k:Nat):(l++[k]).headD 0=l.headD 0:=by
 cases l with
 |nil=>exact absurd rfl h
 |cons a r=>rfl
variable(G) in
def Xv:Nat->List Nat->List Nat
 | 0,l=>if nd G l=G.F (l.headD 0)then l else[]
 |n+1,l=>HP ((a7I G.m).map fun k=>if c1 (G:=G) l k then Xv n (l++[k])else[])
theorem c0u:∀(n:Nat) {l:List Nat},l≠[]->Xv G n l=((ways G n l).find? fun p=>cl G (l.headD 0) (nd G p)).getD []
 | 0,l,hl=>by
  simp only[Xv,ways,c4y,cl];generalize l.headD 0=h0
  by_cases h:nd G l=G.F h0<;>simp[h]
 |n+1,l,hl=>by
  simp only[Xv,ways,ext1,Wo];generalize a7I G.m=ks
  induction ks with
  |nil=>rfl
  |cons k ks ih=>
   simp only[a0I,HP,b2p]
   by_cases hk:c1 (G:=G) l k=true
   ·rw[if_pos hk,if_pos hk,a0I,b0m,d1l];have hw:=c0u n (l:=l++[k]) (by simp);rw[c9t hl]at hw;rw[hw]
    cases hf:(ways G n (l++[k])).find? fun p=>cl G (l.headD 0) (nd G p)with
    |none=>simp only[Option.getD_none,List.isEmpty_nil,if_true,d4t];exact ih
    |some p=>
     have:=c8t n (by simp) (a8V hf);simp only[a1J,Option.some_or];rw[if_neg (by simpa using this)]
   ·rw[if_neg hk,if_neg hk];simpa using ih
theorem c1u{d:Nat}(h:Open G s d):Xv G d [s]=((Ly G s d).find? fun p=>cl G s (nd G p)).getD []:=by
 rw[c0u d (by simp),c7t]
 show((Wy G s d).find? fun p=>cl G s (nd G p)).getD []=_
 rw[c5t h]
def SK(q:List Nat):Int×Int:=(nd G q,if q.length<=1 then-1 else(He q:Int))
theorem c2u{p:List Nat}(hp:p≠[])(k:Nat):SK (G:=G) (p++[k])=(G.T k,(k:Int)):=by
 have:=a6I.2 hp;unfold SK;rw[Ow,b0p,if_neg (by simp;omega)]
variable(G) in
def Oq(n:Int)(st:Fm×List Int)(k:Nat):Fm×List Int:=if G.ok k=true/\G.F k=n/\Xz st.1 (G.T k)=none then(st.1++[(G.T k,(k:Int))],st.2++[G.T k])else st
variable(G) in
def Nu(n:Int)(ks:List Nat)(st:Fm×List Int):Fm×List Int:=ks.foldl (Oq G n) st
variable(G) in
def Ww(circle:List Int)(st:Fm×List Int):Fm×List Int:=circle.foldl (fun st n=>Nu G n (a7I G.m) st) st
variable(G) in
def MA(dst n:Int):List Nat->Fm×List Int->Bool×Fm×List Int
 | [],st=>(false,st)
 |k::r,st=>if G.ok k=true/\G.F k=n/\Xz st.1 (G.T k)=none then(if G.T k=dst then(true,Oq G n st k)else MA dst n r (Oq G n st k))else MA dst n r st
variable(G) in
def Mz(dst:Int):List Int->Fm×List Int->Bool×Fm×List Int
 | [],st=>(false,st)
 |n::r,st=>if(MA G dst n (a7I G.m) st).1=true then MA G dst n (a7I G.m) st else Mz dst r (Nu G n (a7I G.m) st)
variable(G) in
def Qx(dst:Int):Nat->List Int->Fm->Option (Bool×Fm)
 | _,[],f=>some (false,f)
 | 0,_::_,_=>none
 |k+1,c::r,f=>if(Mz G dst (c::r) (f,[])).1=true then some (true,(Mz G dst (c::r) (f,[])).2.1)else Qx dst k (Ww G (c::r) (f,[])).2 (Ww G (c::r) (f,[])).1
variable(G) in
def Ky(f:Fm):Nat->Int->Option (List Nat)
 | 0,at'=>if(Xz f at').getD 0<0 then some []else none
 |k+1,at'=>if(Xz f at').getD 0<0 then some []else(Ky f k (G.F ((Xz f at').getD 0).toNat)).map fun l=>((Xz f at').getD 0).toNat::l
theorem c8u{f:Fm}{S:List Int}(hS:∀x,x∈S↔x∈f.map (·.1))(l:List (List Nat))(x:Int):x∈after G S l↔x∈(f++(Xx G S l).map (SK (G:=G))).map (·.1):=by
 rw[b6p,a5M,a9E,hS x];constructor
 ·rintro(h|⟨p,hp,rfl⟩)
  ·exact .inl h
  ·rcases b1q (G:=G) l (S:=S) hp with h|⟨q,h1,h2⟩
   ·exact .inl ((hS _).1 h)
   ·exact .inr (a0E.2 ⟨SK (G:=G) q,a0E.2 ⟨q,h1,rfl⟩,h2⟩)
 ·rintro(h|h)
  ·exact .inl h
  ·obtain⟨_,h1,rfl⟩:=a0E.1 h;obtain⟨q,hq,rfl⟩:=a0E.1 h1;exact .inr ⟨q,(l7 l hq).1,rfl⟩
theorem c9u{p:List Nat}(hp:p≠[]):∀(ks:List Nat) {f:Fm} {nx S:List Int},(∀x,x∈S↔x∈f.map (·.1))->
 Nu G (nd G p) ks (f,nx)=(f++(Xx G S (Wo p (ks.filter (c2 (G:=G) p)))).map (SK (G:=G)),nx++(Xx G S (Wo p (ks.filter (c2 (G:=G) p)))).map (nd G)):=by
 intro ks
 induction ks with
 |nil=>intro f nx S _;simp[Nu,Wo,Xx]
 |cons k ks ih=>
  intro f nx S hS
  show Nu G (nd G p) ks (Oq G (nd G p) (f,nx) k)=_
  rw[b2p]
  by_cases hk:c2 (G:=G) p k=true
  ·rw[if_pos hk];simp only[c2,decide_eq_true_eq]at hk
   show _=(f++(Xx G S ((p++[k])::Wo p _)).map (SK (G:=G)),nx++(Xx G S ((p++[k])::Wo p _)).map (nd G))
   rw[oB,Ow];unfold Oq
   by_cases hm:G.T k∈S
   ·rw[if_pos hm,if_neg fun h=>b7o.1 h.2.2 ((hS _).1 hm)];exact ih hS
   ·rw[if_neg hm,if_pos ⟨hk.1,hk.2,b7o.2 fun h=>hm ((hS _).2 h)⟩]
    rw[ih (S:=G.T k::S) fun x=>by
     rw[a5M,a9E,a5E,hS x]
     simp[or_comm]]
    simp[c2u hp,Ow]
  ·rw[if_neg hk];simp only[c2,decide_eq_true_eq]at hk;unfold Oq;rw[if_neg fun h=>hk ⟨h.1,h.2.1⟩];exact ih hS
theorem c0v{dst:Int}{p:List Nat}(hp:p≠[]):∀(ks:List Nat) {f:Fm} {nx S:List Int},(∀x,x∈S↔x∈f.map (·.1))->
 ((∀q,q∈Xx G S (Wo p (ks.filter (c2 (G:=G) p)))->nd G q≠dst)/\(MA G dst (nd G p) ks (f,nx)).1=false)∨
 ∃a q b C0,Xx G S (Wo p (ks.filter (c2 (G:=G) p)))=a++q::b/\(∀r,r∈a->nd G r≠dst)/\nd G q=dst/\MA G dst (nd G p) ks (f,nx)=(true,f++(a++[q]).map (SK (G:=G)),C0):=by
 intro ks
 induction ks with
 |nil=>intro f nx S _;exact .inl ⟨by simp[Wo,Xx],rfl⟩
 |cons k ks ih=>
  intro f nx S hS;rw[b2p];simp only[MA]
  by_cases hk:c2 (G:=G) p k=true
  ·rw[if_pos hk];simp only[c2,decide_eq_true_eq]at hk;have f3R:Wo p (k::ks.filter (c2 (G:=G) p))=(p++[k])::Wo p (ks.filter (c2 (G:=G) p)):=rfl;rw[f3R,oB,Ow]
   by_cases hm:G.T k∈S
   ·rw[if_pos hm,if_neg fun h=>b7o.1 h.2.2 ((hS _).1 hm)];exact ih hS
   ·have hcnd:G.ok k=true/\G.F k=nd G p/\Xz f (G.T k)=none:=⟨hk.1,hk.2,b7o.2 fun h=>hm ((hS _).2 h)⟩
    have YD:Oq G (nd G p) (f,nx) k=(f++[(G.T k,(k:Int))],nx++[G.T k]):=by unfold Oq;rw[if_pos hcnd]
    rw[if_neg hm,if_pos hcnd,YD]
    by_cases hd:G.T k=dst
    ·rw[if_pos hd];exact .inr ⟨[],p++[k],_,nx++[G.T k],rfl,by simp,by rw[Ow];exact hd,by simp[c2u hp]⟩
    ·rw[if_neg hd]
     have:=ih (f:=f++[(G.T k,(k:Int))]) (nx:=nx++[G.T k]) (S:=G.T k::S) fun x=>by
      rw[a5M,a9E,a5E,hS x];simp[or_comm]
     rcases this with⟨h1,h2⟩|⟨a,q,b,C0,h1,h2,h3,h4⟩
     ·refine .inl ⟨fun q hq=>?_,h2⟩
      rcases a5E.1 hq with rfl|hq
      ·rw[Ow];exact hd
      ·exact h1 q hq
     ·refine .inr ⟨(p++[k])::a,q,b,C0,by rw[h1];rfl,?_,h3,by rw[h4];simp[c2u hp]⟩
      intro r hr
      rcases a5E.1 hr with rfl|hr
      ·rw[Ow];exact hd
      ·exact h2 r hr
  ·rw[if_neg hk];simp only[c2,decide_eq_true_eq]at hk;rw[if_neg fun h=>hk ⟨h.1,h.2.1⟩];exact ih hS
theorem c1v:∀(L:List (List Nat)) {f:Fm} {nx S:List Int},(∀p,p∈L->p≠[])->(∀x,x∈S↔x∈f.map (·.1))->
 Ww G (L.map (nd G)) (f,nx)=(f++(Xx G S (L.flatMap (Wn G))).map (SK (G:=G)),nx++(Xx G S (L.flatMap (Wn G))).map (nd G)):=by
 intro L
 induction L with
 |nil=>intro f nx S _ _;simp[Ww,Xx]
 |cons p L ih=>
  intro f nx S ZV hS
  show Ww G (L.map (nd G)) (Nu G (nd G p) (a7I G.m) (f,nx))=_
  rw[c9u (ZV p a4E) _ hS];have h2:Wo p ((a7I G.m).filter (c2 (G:=G) p))=Wn G p:=rfl;rw[h2,ih (fun q hq=>ZV q (a9C _ hq)) (c8u hS (Wn G p)),b0m,b7p];simp
theorem c2v{dst:Int}:∀(L:List (List Nat)) {f:Fm} {nx S:List Int},(∀p,p∈L->p≠[])->(∀x,x∈S↔x∈f.map (·.1))->
 ((∀q,q∈Xx G S (L.flatMap (Wn G))->nd G q≠dst)/\(Mz G dst (L.map (nd G)) (f,nx)).1=false)∨
 ∃a q b C0,Xx G S (L.flatMap (Wn G))=a++q::b/\(∀r,r∈a->nd G r≠dst)/\nd G q=dst/\Mz G dst (L.map (nd G)) (f,nx)=(true,f++(a++[q]).map (SK (G:=G)),C0):=by
 intro L
 induction L with
 |nil=>intro f nx S _ _;exact .inl ⟨by simp[Xx],rfl⟩
 |cons p L ih=>
  intro f nx S ZV hS;have f4R:=ZV p a4E;rw[b0m,b7p];simp only[a0I,Mz];have hsc:=c0v (G:=G) (dst:=dst) f4R (a7I G.m) (nx:=nx) hS;have h2:Wo p ((a7I G.m).filter (c2 (G:=G) p))=Wn G p:=rfl;rw[h2]at hsc
  rcases hsc with⟨g1,g2⟩|⟨a,q,b,C0,g1,g2,g3,g4⟩
  ·rw[if_neg (by rw[g2];simp),c9u f4R _ hS,h2]
   rcases ih (f:=f++(Xx G S (Wn G p)).map (SK (G:=G))) (nx:=nx++(Xx G S (Wn G p)).map (nd G)) (fun q hq=>ZV q (a9C _ hq)) (c8u hS (Wn G p))with⟨h3,h4⟩|⟨a,q,b,C0,h3,h4,h5,h6⟩
   ·refine .inl ⟨fun q hq=>?_,h4⟩
    rcases a9E.1 hq with hq|hq
    ·exact g1 q hq
    ·exact h3 q hq
   ·refine .inr ⟨Xx G S (Wn G p)++a,q,b,C0,by rw[h3,b9Z],fun r hr=>?_,h5,by rw[h6];simp⟩
    rcases a9E.1 hr with hr|hr
    ·exact g1 r hr
    ·exact h4 r hr
  ·rw[if_pos (by rw[g4]),g4];exact .inr ⟨a,q,b++Xx G (after G S (Wn G p)) (L.flatMap (Wn G)),C0,by rw[g1];simp,g2,g3,rfl⟩
variable(G s) in
def PS:Nat->List (List Nat)
 | 0=>Ly G s 0
 |d+1=>PS d++Ly G s (d+1)
variable(G s) in
def Fd(d:Nat):Fm:=(PS G s d).map (SK (G:=G))
theorem c3v:∀d,(Fd G s d).map (·.1)=Sv G s d
 | 0=>rfl
 |d+1=>by
  have:=c3v d;unfold Fd at this⊢;rw[PS,a5M,a5M,this,C9,List.map_map];rfl
theorem c4v:∀{d:Nat} {p:List Nat},p∈PS G s d↔∃d',d'<=d/\p∈Ly G s d'
 | 0,p=>⟨fun h=>⟨0,a8F _,h⟩,fun⟨d',h1,h2⟩=>by
  cases Nat.le_zero.1 h1
  exact h2⟩
 |d+1,p=>by
  rw[PS,a9E,c4v];constructor
  ·rintro(⟨d',h1,h2⟩|h)
   ·exact⟨d',by omega,h2⟩
   ·exact⟨d+1,a8F _,h⟩
  ·rintro⟨d',h1,h2⟩
   by_cases hd:d'=d+1
   ·subst hd;exact .inr h2
   ·exact .inl ⟨d',by omega,h2⟩
theorem c5v:∀d,(Sv G s d).Nodup
 | 0=>by show[G.T s].Nodup;simp
 |d+1=>by
  rw[C9,b6n];refine⟨c5v d,?_,fun a ha b hb Iv=>?_⟩
  ·rw[EF];exact b2q _
  ·subst Iv;obtain⟨p,hp,rfl⟩:=a0E.1 hb;rw[EF]at hp;exact(l7 _ hp).2 ha
structure Way (G:Gr) (s d:Nat) (p:List Nat):Prop where
 len:p.length=d+1
 WM:∀k,k∈p->k<G.m
 nodup:(p.map G.T).Nodup
 head:p.head?=some s
 ok:∀k,k∈p.tail->G.ok k=true
 step:∀(i a b:Nat),p[i]? =some a->p[i+1]? =some b->G.F b=G.T a
theorem c6v(hs:s<G.m):∀{d:Nat} {p:List Nat},p∈Wy G s d->Way G s d p
 | 0,p,hp=>by
  simp only[Wy,a1B]at hp;subst hp;refine⟨rfl,fun x hx=>?_,by simp,rfl,fun k hk=>(by cases hk),fun i a b _ hb=>(by simp at hb)⟩;simp only[a1B]at hx;subst hx;exact hs
 |d+1,p,hp=>by
  obtain⟨q,hq,zr⟩:=a2O.1 hp;obtain⟨k,rfl,h1,h2,h3,h4⟩:=b6q zr;have ih:=c6v hs hq;refine⟨by simp[ih.len],fun x hx=>?_,?_,?_,?_,?_⟩
  ·rcases a9E.1 hx with hx|hx
   ·exact ih.WM x hx
   ·simp only[a1B]at hx;subst hx;exact h1
  ·rw[a5M,b6n];refine⟨ih.nodup,by simp,fun a ha b hb=>?_⟩;simp only[a0I,a9U,a1B]at hb;subst hb;rintro rfl;exact h4 ha
  ·have:=ih.head
   cases q with
   |nil=>cases this
   |cons a r=>exact this
  ·intro x hx;have h0:=ih.ok
   cases q with
   |nil=>have:=ih.len;simp at this
   |cons a r=>
    have Vq:x∈r++[k]:=hx
    rcases a9E.1 Vq with Vq|Vq
    ·exact h0 x Vq
    ·simp only[a1B]at Vq;subst Vq;exact h2
  ·intro i a b ha hb;have hl:=(a5y.1 hb).1;simp only[a7J,b4p]at hl;rw[a9L (by omega)]at ha
   by_cases hi:i+1<q.length
   ·rw[a9L hi]at hb;exact ih.step i a b ha hb
   ·have he:i+1=q.length:=by omega
    rw[he]at hb;simp at hb;subst hb
    have:He q=a:=by
     unfold He;rw[List.getLast?_eq_getElem?,show q.length-1=i by omega,ha];rfl
    rw[h3];unfold nd;rw[this]
theorem nY(hs:s<G.m){d:Nat}{p:List Nat}(hp:p∈Ly G s d):Way G s d p:=by
 rw[(lay G s d).c1]at hp;exact c6v hs (l7 _ hp).1
theorem oW{α:Type}[DecidableEq α]:∀{l r:List α},l.Nodup->(∀x,x∈l->x∈r)->l.length<=r.length
 | [],r,_,_=>c0t _
 |a::l,r,hn,h=>by
  obtain⟨h1,h2⟩:=List.nodup_cons.1 hn;have ha:=h a a4E
  have:=oW (l:=l) (r:=r.erase a) h2 fun x hx=>by
   have ZV:x≠a:=fun e=>h1 (e▸hx)
   exact(List.mem_erase_of_ne ZV).2 (h x (a9C _ hx))
  rw[List.length_erase_of_mem ha]at this;have:=a6I.2 (c3u ha);simp only[List.length_cons];omega
theorem Way.ne{d:Nat}{p:List Nat}(h:Way G s d p):p≠[]:=fun he=>by have:=h.len;rw[he]at this;cases this
theorem Way.lt{d:Nat}{p:List Nat}(h:Way G s d p):d<G.m:=by
 have h1:=oW (r:=(a7I G.m).map G.T) h.nodup fun x hx=>by
  obtain⟨k,hk,rfl⟩:=a0E.1 hx;exact a0E.2 ⟨k,a6V.2 (h.WM k hk),rfl⟩
 have:=h.len;simp at h1;omega
theorem c9v{p:List Nat}(h:p≠[]):nd G p∈p.map G.T:=by
 unfold nd He
 cases hl:p.getLast? with
 |none=>exact absurd (List.getLast?_eq_none_iff.1 hl) h
 |some a=>exact a0E.2 ⟨a,List.mem_of_getLast? hl,rfl⟩
theorem c0w(hs:s<G.m):∀d x,x∈Sv G s d->x∈(a7I G.m).map G.T
 | 0,x,hx=>by
  have:x∈[G.T s]:=hx;simp only[a1B]at this;subst this;exact a0E.2 ⟨s,a6V.2 hs,rfl⟩
 |d+1,x,hx=>by
  rw[C9]at hx
  rcases a9E.1 hx with hx|hx
  ·exact c0w hs d x hx
  ·obtain⟨p,hp,rfl⟩:=a0E.1 hx;have hw:=nY hs hp;obtain⟨k,hk,he⟩:=a0E.1 (c9v (G:=G) hw.ne);exact a0E.2 ⟨k,a6V.2 (hw.WM k hk),he⟩
theorem c1w(hs:s<G.m)(d:Nat):(Sv G s d).length<=G.m:=by
 have:=oW (c5v (G:=G) (s:=s) d) (c0w hs d);simpa using this
theorem c2w(hs:s<G.m){g:Fm}(hg:(g.map (·.1)).Nodup){d:Nat}(Y9:∀p,p∈PS G s d->SK (G:=G) p∈g):∀{d':Nat} {p:List Nat},d'<=d->p∈Ly G s d'->Ky G g d' (nd G p)=some p.tail.reverse
 | 0,p,hd,hp=>by
  have hf:=b8o hg (Y9 p (c4v.2 ⟨0,hd,hp⟩));have Dy:p∈[[s]]:=hp;simp only[a1B]at Dy;subst Dy;have hf':Xz g (nd G [s])=some (-1):=hf;simp[Ky,hf']
 |d'+1,p,hd,hp=>by
  have hf:=b8o hg (Y9 p (c4v.2 ⟨d'+1,hd,hp⟩));rw[EF]at hp;obtain⟨q,hq,zr⟩:=a2O.1 (l7 _ hp).1;obtain⟨k,rfl,h1,h2,h3⟩:=b7q zr;have hqn:=(nY hs hq).ne;have ih:=c2w hs hg Y9 (by omega) hq;have he:=c2u (G:=G) hqn k
  have hk:(SK (G:=G) (q++[k])).2=(k:Int):=by rw[he]
  have hf':Xz g (nd G (q++[k]))=some (k:Int):=by rw[<-hk];exact hf
  unfold Ky;rw[hf'];simp only[a1J,c4c];rw[if_neg (by omega),h3,ih]
  cases q with
  |nil=>exact absurd rfl hqn
  |cons a r=>simp
variable(G s) in
def WX:List Nat:=S4 (fun n=>Xv G n [s]) (G.m+1)
variable(G s) in
def Found(b:Bool)(g:Fm):Prop:=
 (b=true/\∃D p,Open G s D/\(Ly G s D).find? (fun p=>cl G s (nd G p))=some p/\Ky G g D (G.F s)=some p.tail.reverse)\/(b=false/\∀D,Open G s D)
theorem c3w{d:Nat}(h:Ly G s d=[]):∀j,Ly G s (d+j)=[]
 | 0=>h
 |j+1=>by rw[<-Nat.add_assoc,EF,c3w h j];rfl
theorem c4w{d:Nat}(ho:Open G s d)(h:Ly G s d=[]):∀D,Open G s D:=by
 intro D d' M3
 by_cases hd:d'<d
 ·exact ho d' hd
 ·have:=c3w h (d'-d);rw[show d+(d'-d)=d' by omega]at this;rw[this];rfl
theorem c5w{d:Nat}:(∀q,q∈Ly G s d->nd G q≠G.F s)↔(Ly G s d).find? (fun p=>cl G s (nd G p))=none:=by
 rw[b8O];constructor
 ·intro h q hq;simpa[cl]using h q hq
 ·intro h q hq;simpa[cl]using h q hq
theorem run(
 hs:s<G.m):∀(k d:Nat),Open G s (d+1)->(Ly G s d=[]\/G.m+1<=(Sv G s d).length+k)->
 ∃b g,Qx G (G.F s) k ((Ly G s d).map (nd G)) (Fd G s d)=some (b,g)/\Found G s b g:=by
 intro k
 induction k with
 |zero=>
  intro d ho hk
  rcases hk with hk|hk
  ·exact⟨false,Fd G s d,by rw[hk];rfl, .inr ⟨rfl,c4w (fun d' h=>ho d' (by omega)) hk⟩⟩
  ·have:=c1w hs d;omega
 |succ k ih=>
  intro d ho hk
  by_cases hL:Ly G s d=[]
  ·exact⟨false,Fd G s d,by rw[hL];rfl, .inr ⟨rfl,c4w (fun d' h=>ho d' (by omega)) hL⟩⟩
  ·have hk:=hk.resolve_left hL;have E4:=c2v (G:=G) (dst:=G.F s) (Ly G s d) (f:=Fd G s d) (nx:=[]) (S:=Sv G s d) (fun p hp=>(nY hs hp).ne) (fun x=>by rw[c3v]);have hls:=c1v (G:=G) (Ly G s d) (f:=Fd G s d) (nx:=[]) (S:=Sv G s d) (fun p hp=>(nY hs hp).ne) (fun x=>by rw[c3v])
   have hb:Qx G (G.F s) (k+1) ((Ly G s d).map (nd G)) (Fd G s d)=if(Mz G (G.F s) ((Ly G s d).map (nd G)) (Fd G s d,[])).1=true then some (true,(Mz G (G.F s) ((Ly G s d).map (nd G)) (Fd G s d,[])).2.1)
    else Qx G (G.F s) k (Ww G ((Ly G s d).map (nd G)) (Fd G s d,[])).2 (Ww G ((Ly G s d).map (nd G)) (Fd G s d,[])).1:=by
    cases hc:(Ly G s d).map (nd G)with
    |nil=>exact absurd (List.map_eq_nil_iff.1 hc) hL
    |cons a b=>rfl
   rw[hb]
   rcases E4 with⟨h1,h2⟩|⟨a,q,b,C0,h1,h2,h3,h4⟩
   ·rw[if_neg (by rw[h2];simp),hls];simp only[List.nil_append]
    have CQ:Open G s (d+1+1):=fun d' M3=>by
     by_cases h:d'<d+1
     ·exact ho d' h
     ·have:d'=d+1:=by omega
      subst this;rw[EF]at*;exact c5w.1 (by rw[EF];exact h1)
    have hF:Fd G s d++(Xx G (Sv G s d) ((Ly G s d).flatMap (Wn G))).map (SK (G:=G))=Fd G s (d+1):=by
     unfold Fd;rw[PS,a5M];rfl
    rw[hF];refine ih (d+1) CQ ?_
    by_cases hL2:Ly G s (d+1)=[]
    ·exact .inl hL2
    ·right;have:=a6I.2 hL2;rw[C9,a7J,a5O];omega
   ·rw[if_pos (by rw[h4]),h4];refine⟨true,_,rfl, .inl ⟨rfl,d+1,q,ho,?_,?_⟩⟩
    ·rw[EF,h1,d1l,b8O.2,d4t]
     ·rw[c4y]
      have:cl G s (nd G q)=true:=by simp[cl,h3]
      rw[this]
     ·intro x hx;have:=h2 x hx;simpa[cl]using this
    ·have hq:q∈Ly G s (d+1):=by rw[EF,h1];simp
     have WQ:((Fd G s d++(a++[q]).map (SK (G:=G))).map (·.1)).Nodup:=by
      have hn:=c5v (G:=G) (s:=s) (d+1);rw[C9,EF,h1]at hn;rw[a5M,c3v]
      have he:Sv G s d++(a++q::b).map (nd G)=(Sv G s d++((a++[q]).map (SK (G:=G))).map (·.1))++b.map (nd G):=by
       simp[SK,b7A]
      rw[he]at hn;exact(b6n.1 hn).1
     rw[<-h3];obtain⟨p,hp,zr⟩:=a2O.1 (l7 _ (by rw[EF]at hq;exact hq)).1;obtain⟨j,rfl,j1,j2,j3⟩:=b7q zr;have hpn:=(nY hs hp).ne;have he:=c2u (G:=G) hpn j
     have hf:Xz (Fd G s d++(a++[p++[j]]).map (SK (G:=G))) (nd G (p++[j]))=some (j:Int):=by
      refine b8o WQ ?_;rw[Ow, <-he];simp
     have ih2:=c2w hs (g:=Fd G s d++(a++[p++[j]]).map (SK (G:=G))) WQ (d:=d) (fun r hr=>a7N _ (a0E.2 ⟨r,hr,rfl⟩)) (a8F d) hp;unfold Ky;rw[hf];simp only[a1J,c4c];rw[if_neg (by omega),j3,ih2]
     cases p with
     |nil=>exact absurd rfl hpn
     |cons x r=>simp
end
section
variable{G:Gr}{s:Nat}
theorem b0E{n:Nat}(h:Xv G n [s]≠[]):Xv G n [s]∈Wy G s n/\nd G (Xv G n [s])=G.F s:=by
 have hw:=c0u (G:=G) n (l:=[s]) (by simp);rw[c7t]at hw
 cases hf:(Wy G s n).find? fun p=>cl G ([s].headD 0) (nd G p)with
 |none=>rw[hf]at hw;exact absurd hw h
 |some p=>
  rw[hf]at hw;rw[hw];refine⟨a8V hf,?_⟩;have:=d7x hf;simpa[cl]using this
theorem mV(hs:s<G.m)(h:WX G s≠[]):∃D,Way G s D (WX G s)/\nd G (WX G s)=G.F s:=by
 obtain⟨n,h1,h2,h3⟩:=b5o h;have Qy:WX G s=Xv G n [s]:=h2;rw[Qy]at h⊢;obtain⟨g1,g2⟩:=b0E h;exact⟨n,c6v hs g1,g2⟩
theorem b2E(h:G.T s=G.F s):WX G s=[s]:=by
 have h0:Xv G 0 [s]=[s]:=by
  show(if G.T s=G.F s then[s]else[])=[s]
  rw[if_pos h]
 have:=b3o (f:=fun n=>Xv G n [s]) (i:=0) (n:=G.m+1) (fun j hj=>by omega) (by omega) (by rw[h0];simp);rw[h0]at this;exact this
theorem b3E(h:∀D,Open G s D):WX G s=[]:=b2o _ fun i _=>by
 rw[c1u (h i),h (i+1) i (by omega)];rfl
theorem b4E(hs:s<G.m){D:Nat}{p:List Nat}(ho:Open G s D)(hf:(Ly G s D).find? (fun p=>cl G s (nd G p))=some p):WX G s=p:=by
 have hw:=nY hs (a8V hf)
 have h3:Xv G D [s]=p:=by rw[c1u ho,hf];rfl
 have:=b3o (f:=fun n=>Xv G n [s]) (i:=D) (n:=G.m+1) (fun j hj=>by
  rw[c1u fun d' M3=>ho d' (by omega),ho j hj];rfl) (by have:=hw.lt;omega) (by rw[h3];exact hw.ne)
 rw[h3]at this;exact this
theorem b5E(hs:s<G.m)(ZV:G.T s≠G.F s):∃K b g,Qx G (G.F s) K [G.T s] [(G.T s, -1)]=some (b,g)∧
 ((b=false/\WX G s=[])\/(b=true/\∃K2,Ky G g K2 (G.F s)=some (WX G s).tail.reverse/\∃D,Way G s D (WX G s))):=by
 have ho:Open G s (0+1):=by
  intro d' M3
  have:d'=0:=by omega
  subst this
  refine c5w.1 fun q hq=>?_
  have Vz:q∈[[s]]:=hq;simp only[a1B]at Vz;subst Vz;exact ZV
 obtain⟨b,g,h1,h2⟩:=run hs (G.m+1) 0 ho (.inr (by omega));refine⟨_,b,g,h1,?_⟩
 rcases h2 with⟨rfl,D,p,h3,h4,h5⟩|⟨rfl,h3⟩
 ·have:=b4E hs h3 h4;rw[this];exact .inr ⟨rfl,D,h5,D,nY hs (a8V h4)⟩
 ·exact .inl ⟨rfl,b3E h3⟩
theorem b6E(hs:s<G.m):∃d,Ly G s d=[]:=a9M fun hn=>by
 have h:∀d,d+1<=(Sv G s d).length:=by
  intro d
  induction d with
  |zero=>show 1<=[G.T s].length;simp
  |succ d ih=>
   rw[C9,a7J,a5O]
   have:Ly G s (d+1)≠[]:=fun h=>hn ⟨_,h⟩
   have:=a6I.2 this;omega
 have:=h G.m;have:=c1w hs G.m;omega
theorem b7E:∀d,G.T s∈Sv G s d
 | 0=>by show G.T s∈[G.T s];simp
 |d+1=>by rw[C9];exact a7N _ (b7E d)
theorem b8E(hs:s<G.m)(h:WX G s=[]):∃C:List Int,G.T s∈C/\G.F s∉C/\∀a b,a∈C->M9 G a b->b∈C:=by
 have ho:∀D,Open G s D:=by
  intro D
  induction D with
  |zero=>intro d' h;omega
  |succ D ih=>
   intro d' M3
   by_cases hd:d'<D
   ·exact ih d' hd
   ·have:d'=D:=by omega
    subst this
    cases hf:(Ly G s d').find? (fun p=>cl G s (nd G p))with
    |none=>rfl
    |some p=>
     have:=b4E hs ih hf;rw[h]at this;have hw:=nY hs (a8V hf);exact absurd this.symm hw.ne
 obtain⟨d,hd⟩:=b6E hs;have hl:=lay G s d
 have he:∀x,x∈Sv G s d->x∈Er G s d:=fun x hx=>by
  rcases(hl.c4 x).1 hx with h|⟨p,hp,_⟩
  ·exact h
  ·rw[hd]at hp;cases hp
 refine⟨Sv G s d,b7E d,fun hF=>?_,fun a b ha Iv=>hl.c3 a (he a ha) b Iv⟩;have:=c4t (ho d) _ (he _ hF);simp[cl]at this
theorem b9E{α:Type}{l:List α}{j:Nat}{x:α}(h:l[j]? =some x):l.take (j+1)=l.take j++[x]:=by
 rw[a3I,h];rfl
theorem b0F{α:Type}{l:List α}{j:Nat}{x:α}(h:l[j]? =some x):l.drop j=x::l.drop (j+1):=by
 have hl:=(a5y.1 h).1;rw[c5u hl,(a5y.1 h).2]
theorem b1F{n j:Nat}(h:j<n):(a7I n)[j]? =some j:=by simp[h]
theorem b2F{j:Nat}(h:j<G.m)(n:Int)(st:Fm×List Int):Nu G n ((a7I G.m).take (j+1)) st=Oq G n (Nu G n ((a7I G.m).take j) st) j:=by
 unfold Nu;rw[b9E (b1F h),a5U];rfl
theorem b3F{c:List Int}{j:Nat}{n:Int}(h:c[j]? =some n)(st:Fm×List Int):Ww G (c.take (j+1)) st=Nu G n (a7I G.m) (Ww G (c.take j) st):=by
 unfold Ww;rw[b9E h,a5U];rfl
theorem b4F{j:Nat}(h:j<G.m)(dst n:Int)(st:Fm×List Int):MA G dst n ((a7I G.m).drop j) st=
 if G.ok j=true/\G.F j=n/\Xz st.1 (G.T j)=none then(if G.T j=dst then(true,Oq G n st j)else MA G dst n ((a7I G.m).drop (j+1)) (Oq G n st j))else MA G dst n ((a7I G.m).drop (j+1)) st:=by
 rw[b0F (b1F h)];rfl
theorem b5F{c:List Int}{j:Nat}{n:Int}(h:c[j]? =some n)(dst:Int)(st:Fm×List Int):Mz G dst (c.drop j) st=
 if(MA G dst n (a7I G.m) st).1=true then MA G dst n (a7I G.m) st else Mz G dst (c.drop (j+1)) (Nu G n (a7I G.m) st):=by
 rw[b0F h];rfl
structure Kx (G:Gr) (s:Nat) (f:Fm):Prop where
 nodup:(f.map (·.1)).Nodup
 sub:∀x,x∈f.map (·.1)->x∈(a7I G.m).map G.T
 val:∀k i,(k,i)∈f->i<G.m
theorem Kx.len{f:Fm}(h:Kx G s f):f.length<=G.m:=by
 have:=oW h.nodup h.sub;simpa using this
def C8(G:Gr)(s n:Nat)(st:Fm×List Int):Prop:=Kx G s st.1/\st.1.length=n+st.2.length
theorem b6F{c:Nat}{n:Int}{k:Nat}(hk:k<G.m){st:Fm×List Int}(h:C8 G s c st):C8 G s c (Oq G n st k):=by
 unfold Oq;split
 ·rename_i g;refine⟨⟨?_,?_,?_⟩,?_⟩
  ·rw[a5M,b6n];refine⟨h.1.nodup,by simp,fun a ha b hb=>?_⟩;simp only[a0I,a9U,a1B]at hb;subst hb;rintro rfl;exact b7o.1 g.2.2 ha
  ·intro x hx;rw[a5M]at hx
   rcases a9E.1 hx with hx|hx
   ·exact h.1.sub x hx
   ·simp only[a0I,a9U,a1B]at hx;subst hx;exact a0E.2 ⟨k,a6V.2 hk,rfl⟩
  ·intro a i hi
   rcases a9E.1 hi with hi|hi
   ·exact h.1.val a i hi
   ·simp only[a1B,a2L]at hi;rw[hi.2];omega
  ·simp only[a7J,b4p];have:=h.2;omega
 ·exact h
theorem b7F{c:Nat}{n:Int}(ks:List Nat):∀{st:Fm×List Int},(∀k,k∈ks->k<G.m)->C8 G s c st->C8 G s c (Nu G n ks st):=by
 induction ks with
 |nil=>intro st _ h;exact h
 |cons k l ih=>intro st hk h;exact ih (fun x hx=>hk x (a9C _ hx)) (b6F (hk k a4E) h)
theorem b8F{m:Nat}(c:List Int):∀{st:Fm×List Int},C8 G s m st->C8 G s m (Ww G c st):=by
 induction c with
 |nil=>intro st h;exact h
 |cons k l ih=>intro st h;exact ih (b7F _ (fun x hx=>a6V.1 hx) h)
theorem C8.len{n:Nat}{st:Fm×List Int}(h:C8 G s n st):st.2.length<=G.m:=by have:=h.1.len;have:=h.2;omega
end
def HF(G:Gr)(first:Nat->Bool):List Nat:=S4 (fun i=>if first i then WX G i else[]) G.m
theorem b9F{G:Gr}{first:Nat->Bool}(h:HF G first≠[]):∃i,i<G.m/\first i=true/\HF G first=WX G i/\WX G i≠[]/\∀j,j<i->first j=true->WX G j=[]:=by
 obtain⟨i,h1,h2,h3⟩:=b5o h
 have Qy:HF G first=if first i then WX G i else[]:=h2
 cases hi:first i with
 |false=>rw[hi]at Qy;exact absurd Qy h
 |true=>
  rw[hi,if_pos rfl]at Qy;refine⟨i,h1,hi,Qy,Qy▸h,fun j hj hf=>?_⟩;have:=h3 j hj;simpa[hf]using this
theorem b0G{G:Gr}{first:Nat->Bool}(h:HF G first=[]){i:Nat}(hi:i<G.m)(hf:first i=true):WX G i=[]:=by
 have:=b4o h i hi;simpa[hf]using this
end Go.Rt
end

section
namespace Go.Rt
open Go.Vm
theorem e8r(l:List Int)(hl:l.length<2^63)(x:Int):ZX prog true Ga [.iv (YI l),vi x] [] (vi (W8 l x)) []:=by
 refine YG f7L (by simp) (by decide) rfl ?_;simp-dsimp[IX,YI]
 refine YJ [] [] l.length (fun i=>⟨[(8,vi i),(7,vi l.length),(0, .iv (.Z6 1 (YW l))),(1,vi x)],[]⟩)
  (fun i=>ZK i fun j=>∀y,l[j]? =some y->¬x=y) ?_ ?_ ?_
 ·simp-dsimp
 ·exact TP
 ·intro i hi hq;simp-dsimp[DK];refine⟨fun Z2=>?_,fun X9=>?_⟩
  ·obtain⟨e,he⟩:=Zr Z2;have hw:=Zk (n:=(i:Int)+1) (by omega);simp-dsimp[he,hw];refine⟨fun g=>?_,fun g=>⟨Z2,hq.succ fun y hy=>by rw[he]at hy;cases hy;exact g⟩⟩;rw[c9y he g hq]
  ·rw[c0z (HQ X9 hq)]
theorem e9r(l:List Int)(hl:l.length<2^62)(x:Int):ZX prog true Qc [.iv (YI l),vi x] [] (vi (W8 l x)) []:=by
 refine YG f3E (by simp) (by decide) rfl ?_;simp-dsimp[e6l,YI]
 refine YJ [] [] l.length (fun i=>⟨[(5,vi i),(0, .iv (.Z6 1 (YW l))),(1,vi x)],[]⟩)
  (fun i=>ZK i fun j=>∀y,l[j]? =some y->¬x=y) ?_ ?_ ?_
 ·simp-dsimp
 ·exact TP
 ·intro i hi hq;simp-dsimp[DM];refine⟨fun Z2=>?_,fun X9=>?_⟩
  ·obtain⟨e,he⟩:=Zr Z2;have hw:=Zk (n:=(i:Int)+1) (by omega);simp-dsimp[he,hw];refine⟨fun g=>?_,fun g=>⟨Z2,hq.succ fun y hy=>by rw[he]at hy;cases hy;exact fun h=>g h.symm⟩⟩;rw[c9y he g.symm hq]
  ·rw[c0z (HQ X9 hq)]
theorem e0s(l:List Int)(hl:l.length<2^62)(x:Int):ZX prog true K4 [.iv (YI l),vi x] [] (vb (decide (x∈l))) []:=by
 refine YG f1J (by simp) (by decide) rfl ?_;simp-dsimp[IY];refine ZN (e8r l (by omega) x) (by simp) (by simp) ?_;simp-dsimp;rw[c8y]
theorem e1s(l:List Eg)(hl:l.length<2^62)(x:Int):ZX prog true Lk [.iv (ZW l),vi x] [] (vb (decide (x∈l.map Eg.to))) []:=by
 refine YG f5D (by simp) (by decide) rfl ?_;simp-dsimp[e5l,ZW]
 refine YJ [] [] l.length (fun i=>⟨[(5,vi i),(0, .iv (.Z6 8 (ZM l))),(1,vi x)],[]⟩)
  (fun i=>ZK i fun j=>∀y,l[j]? =some y->y.to≠x) ?_ ?_ ?_
 ·simp-dsimp
 ·exact TP
 ·intro i hi hq;simp-dsimp[DN];refine⟨fun Z2=>?_,fun X9=>?_⟩
  ·obtain⟨e,he⟩:=Zr Z2;have hw:=Zk (n:=(i:Int)+1) (by omega);simp-dsimp[he,hw,Eg.cells];refine⟨fun g=>?_,fun g=>⟨Z2,hq.succ fun y hy=>by rw[he]at hy;cases hy;exact g⟩⟩;exact⟨e,a6y he,g⟩
  ·exact HQ X9 hq
theorem e2s:XV prog Rz=true:=by kernel_rfl
def YP(ks:List Int)(e:Eg):Bool:=decide (e.kind∈ks)
theorem e3s(ks:List Int)(hl:ks.length<2^62)(e:Eg):ZX prog true Rz [e.av, .iv (.pt [YI ks])] [] (vb (YP ks e)) []:=by
 refine YG f4K (by simp) (by decide) rfl ?_;simp-dsimp[a2n,Eg.av,Eg.cells];refine ZN (e0s ks hl e.kind) (by simp) (by simp) ?_;simp-dsimp[YP]
theorem e4s(ks:List Int):Mr prog false TU [.iv (YI ks)] [] (fun r K=>r= .fn Rz [] [.ptr 1 0]/\K=[(1, .box [.iv (YI ks)])]):=by
 refine b8Y _ f6F (by simp) (by decide) (fun x H' h=>by
  obtain⟨rfl,rfl⟩:=h;refine⟨fun id o ho=>?_,by simp⟩;simp only[Vm.look]at ho;split at ho
  ·cases ho;rfl
  ·cases ho) ?_
 simp-dsimp[DL]
 try exact⟨[],_,_,⟨rfl,rfl⟩,by simp-dsimp⟩
theorem e5s(ks:List Int)(d:Nat):ZX prog false TU [.iv (YI ks)] [] (.fn Rz [] [.ptr d 0]) [(d, .box [.iv (YI ks)])]:=by
 have h:=((e4s ks).one (fun _ _ h=>h) (fun id o ho=>by
  simp only[Vm.look]at ho;split at ho
  ·cases ho;rfl
  ·cases ho)).Zl (Ren.swap 1 d) (by simp[AV.WV,AV.Vo,AV.Va,Ob.WV,YI])
 have e:(Ren.swap 1 d).to 1=d:=by simp[Ren.swap,CP]
 simpa[Hp.Zl,AV.Zl,AV.VW,AV.VX,Ob.Zl,Z3.Zl,e]using h
def Jd(xs ys:List Eg)(i:Nat):Prop:=ys.length=xs.length/\∀k,k<xs.length->ys[k]? =if k<i\/xs.length-i<=k then xs[xs.length-1-k]? else xs[k]?
theorem c8Y{xs ys:List Eg}{i:Nat}(h:Jd xs ys i)(hi:xs.length<=2*i+1):ys=xs.reverse:=by
 refine b6r fun k=>?_
 by_cases hk:k<xs.length
 ·rw[h.2 k hk,List.getElem?_reverse hk]
  by_cases h1:k<i\/xs.length-i<=k
  ·rw[if_pos h1]
  ·rw[if_neg h1]
   have:k=xs.length-1-k:=by omega
   rw[<-this]
 ·rw[c7W (by have:=h.1;omega),c7W (by simp;omega)]
theorem c9Y{xs ys:List Eg}{i:Nat}{a b:Eg}(h:Jd xs ys i)(hi:2*i+1<xs.length)(ha:ys[i]? =some a)(hb:ys[xs.length-1-i]? =some b):Jd xs ((ys.set i b).set (xs.length-1-i) a) (i+1):=by
 have hl:=h.1;have ha':=h.2 i (by omega);rw[ha,if_neg (by omega)]at ha';have XH:=h.2 (xs.length-1-i) (by omega);rw[hb,if_neg (by omega)]at XH;refine⟨by simp[hl],fun k hk=>?_⟩;rw[c9b,c9b];simp only[d7z]
 by_cases h1:xs.length-1-i=k
 ·subst h1;rw[if_pos rfl,if_pos (by omega),if_pos (by omega),ha']
  congr 1;omega
 ·rw[if_neg h1]
  by_cases h2:i=k
  ·subst h2;rw[if_pos rfl,if_pos (by omega),if_pos (by omega),XH]
  ·rw[if_neg h2,h.2 k hk]
   by_cases h3:k<i\/xs.length-i<=k
   ·rw[if_pos h3,if_pos (by omega)]
   ·rw[if_neg h3,if_neg (by omega)]
theorem c0Z(ys:List Eg)(i:Nat)(b:Eg):(ZM ys).set i b.cells=ZM (ys.set i b):=by simp[ZM,List.map_set]
theorem c1Z(ys:List Eg)(i:Nat)(b:Eg):(ZM ys).set i [ci b.Z4,ci b.to,ci b.kind,ci b.table,cb b.key.text,ci b.key.n, .v (.string b.key.s),cb b.Zw]=ZM (ys.set i b):=c0Z ys i b
theorem c2Z(xs:List Eg)(hl:xs.length<2^40):ZX prog false KX [.sl 1000 8 0 xs.length] [(1000, .list 8 (ZM xs))] (.Zp []) [(1000, .list 8 (ZM xs.reverse))]:=by
 refine oP f6f (by simp) (by decide) (by simp) rfl ?_;simp-dsimp[a3n];have hw0:=Zk (n:=(xs.length:Int)-1) (by omega)
 refine HZ (fun k s=>∃(i:Nat) (ys:List Eg),k=xs.length-i/\i<=xs.length/\Jd xs ys i/\s=⟨[(2,vi i),(3,vi (xs.length-1-i)),(0, .sl 1000 8 0 xs.length)],[(1000, .list 8 (ZM ys))]⟩)
  ⟨_,_,LeTo.le (D:=[]) (s':=⟨[(2,vi (0:Nat)),(3,vi (xs.length-1-(0:Nat))),(0, .sl 1000 8 0 xs.length)],[(1000, .list 8 (ZM xs))]⟩) ?_,0,xs,rfl,c0t _,⟨rfl,fun k hk=>?_⟩,rfl⟩ ?_
 ·simp[hw0]
 ·rw[if_neg (by omega)]
 ·rintro k s ⟨i,ys,rfl,hi,hr,rfl⟩
  by_cases Z2:2*i+1<xs.length
  ·have hc:(i:Int)<xs.length-1-i:=by omega
   obtain⟨a,ha⟩:∃a,ys[i]? =some a:=Zr (by rw[hr.1];omega);obtain⟨b,hb⟩:∃b,ys[xs.length-1-i]? =some b:=Zr (by rw[hr.1];omega)
   have hj:(xs.length:Int)-1-i=((xs.length-1-i:Nat):Int):=by omega
   have hs:=c9Y hr Z2 ha hb;have Wp:=Zk (n:=(i:Int)+1) (by omega);have H4:=Zk (n:=((xs.length-1-i:Nat):Int)-1) (by omega)
   have Xu:i≠xs.length-1-i:=by omega
   rw[hj]at hc⊢;generalize Hg:xs.length-1-i=j at*
   have FE:(ys.set i b)[j]? =some b:=by rw[c9b,if_neg Xu];exact hb
   simp-dsimp[LU,hc,ha,hb,FE,Wp,H4,hr.1,Eg.cells,c1Z,YB];refine⟨by omega,by omega,by omega,_,by omega,_,LeTo.le (D:=[]) (s':=⟨[(2,vi (i+1:Nat)),(3,vi (xs.length-1-(i+1:Nat))),(0, .sl 1000 8 0 xs.length)],[(1000, .list 8 (ZM ((ys.set i b).set j a)))]⟩) ?_,i+1,rfl,by omega,_,hs,rfl⟩
   have:(xs.length:Int)-1-(i+1:Nat)=(j:Int)-1:=by omega
   simp[this];omega
  ·have hc:¬(i:Int)<xs.length-1-i:=by omega
   simp-dsimp[LU,hc];rw[c8Y hr (by omega)]
end Go.Rt
end

section
namespace Go.Vm
theorem b8u(D:List Nat)(hD:D.all (· <1000)=true):∀{s:St} {t j sz len:Nat},1000<=j->s.get t= .sl j sz 0 len->(s.ZR D).get t= .sl j sz 0 len:=by
 induction D with
 |nil=>intro s t j sz len _ h;exact h
 |cons i D ih=>
  intro s t j sz len hj h;simp only[List.all_cons,a3C,decide_eq_true_eq]at hD;exact ih hD.2 hj (e7w (by omega) h)
def EndMS(t id sz len:Nat)(H':Hp)(s:St):Prop:=s.get t= .sl id sz 0 len/\EndM H' s
attribute [simp] EndMS
theorem b9u{P:Program}{f:FuncId}{args:List AV}{H H':Hp}{n t id sz len:Nat}{c:Z9}(hf:ZG P f=some (n,c,[.tmp t]))(Vi:1000<=id)
 (YZ:args.length<=n) (hn:n<=999) (Uj:(H.map (·.1)).all (1000<= ·)=true) (U5:((H++H').all fun p=> !p.2.Zf)=true)
 (h:X7 P c ⟨SR 0 args,H⟩ ⟨EndMS t id sz len H',fun _ _=>False,EndMS t id sz len H',fun _ _=>False⟩):ZX P false f args H (.sl id sz 0 len) H':=
 IN hf YZ Uj U5 (M7 (Tj hn _ _ _ h) fun s h=>by
  obtain⟨D,g1,g2⟩:=a1L h.2.1 h.2.2.1 h.2.2.2
  exact⟨s.ZR D,[.sl id sz 0 len],Sg D g1 s,by simp[VN,b8u D g1 Vi h.1],rfl,g2,fun h=>by cases h⟩)
@[simp]theorem f7O(caps:List IV):d8i (Z3.av∘Z3.val) caps=caps.map AV.iv:=by simp[b7A,Z3.av]
@[simp]theorem b0v(caps:List IV)(s:St)(fr:Bool)(ids:List Nat):d8i (s.arg fr ids∘AV.iv) caps=caps.map AV.iv:=by simp[b7A,St.arg,St.arg1]
end Go.Vm
namespace Go.Rt
open Go.Vm
theorem b1v(l:List Eg)(hl:l.length<2^62){g:FuncId}(caps:List IV)(ZY:XV prog g=true)(del:Eg->Bool)
 (hd:∀e,e∈l->ZX prog true g (e.av::caps.map .iv) [] (vb (del e)) []):
 ZX prog true Gl [.iv (ZW l), .fn g [] (caps.map Z3.val)] [] (vi (Uv del l)) []:=by
 refine YG lP (by simp) (by decide) rfl ?_;simp-dsimp[a4m,ZW];refine YJ [] [] l.length (fun i=>⟨[(8,vi i),(7,vi l.length),(0, .iv (.Z6 8 (ZM l))),(1, .fn g [] (caps.map Z3.val))],[]⟩) (fun i=>ZK i fun j=>∀e,l[j]? =some e->del e=false) ?_ TP ?_
 ·simp-dsimp
 ·intro i hi hq;simp-dsimp[FG];refine⟨fun Z2=>?_,fun X9=>?_⟩
  ·obtain⟨e,he⟩:=Zr Z2;have hw:=Zk (n:=(i:Int)+1) (by omega);simp-dsimp[he,Eg.cells,YB];refine⟨ZY,PH (hd e (a6y he)) (by simp) (by simp[Eg.av,Eg.cells]) (by simp[Eg.av,Eg.cells]) ?_⟩
   cases h0:del e with
   |true=>
    have:=Cq he h0 hq;simp-dsimp[this]
   |false=>
    simp-dsimp[hw];exact⟨Z2,ZK.succ hq fun y hy=>by rw[he]at hy;cases hy;exact h0⟩
  ·rw[Di (HQ X9 hq)]
def zE:Eg:=⟨0,0,0,0,⟨false,0,⟨#[]⟩⟩,false⟩
def NH(del:Eg->Bool)(l:List Eg):List Eg:=l.filter fun e=> !del e
theorem b2v(del:Eg->Bool)(l:List Eg):(NH del l).length<=l.length:=a0V _ _
theorem b3v{del:Eg->Bool}{l:List Eg}{j:Nat}{e:Eg}(he:l[j]? =some e):NH del (l.take (j+1))=NH del (l.take j)++if del e then[]else[e]:=by
 unfold NH;rw[show l.take (j+1)=l.take j++[e] by rw[a3I,he];rfl,b4j]
 congr 1
 cases h:del e<;>simp[h]
theorem b4v{del:Eg->Bool}{l:List Eg}(h:∀x,x∈l->del x=false):NH del l=l:=by
 unfold NH;rw[List.filter_eq_self]
 exact fun x hx=>by rw[h x hx];rfl
structure NG (del:Eg->Bool) (l L:List Eg) (m j:Nat):Prop where
 len:L.length=l.length
 lt:m<j
 le:j<=l.length
 kept:L.take m=NH del (l.take j)
 rest:∀k,j<=k->L[k]? =l[k]?
theorem NG.skip{del:Eg->Bool}{l L:List Eg}{m j:Nat}{e:Eg}(h:NG del l L m j)(he:l[j]? =some e)(hd:del e=true):NG del l L m (j+1):=
 ⟨h.len,by have:=h.lt;omega,(a5y.1 he).1,by rw[h.kept,b3v he,hd];simp,fun k hk=>h.rest k (by omega)⟩
theorem NG.keep{del:Eg->Bool}{l L:List Eg}{m j:Nat}{e:Eg}(h:NG del l L m j)(he:l[j]? =some e)(hd:del e=false):NG del l (L.set m e) (m+1) (j+1):=by
 have Z2:=h.lt;have hle:=h.le;have hL:=h.len;refine⟨by rw[d7z];exact h.len,by omega,(a5y.1 he).1,?_,fun k hk=>?_⟩
 ·rw[b3v he,hd, <-h.kept,a3I,List.getElem?_set_self (by omega),List.take_set_of_le (by omega)];rfl
 ·rw[List.getElem?_set_ne (by omega)];exact h.rest k (by omega)
theorem b5v(l:List Eg)(hl:l.length<2^40){g:FuncId}(caps:List IV)(ZY:XV prog g=true)(del:Eg->Bool)
 (hd:∀e,e∈l->ZX prog true g (e.av::caps.map .iv) [] (vb (del e)) []):
 ∃js:List Eg,(NH del l++js).length=l.length/\ZX prog false N6 [.sl 1000 8 0 l.length, .fn g [] (caps.map Z3.val)] [(1000, .list 8 (ZM l))] (.sl 1000 8 0 (NH del l).length) [(1000, .list 8 (ZM (NH del l++js)))]:=by
 have hI:=b1v l (by omega) caps ZY del hd;have Vy:=b2v del l;have T7:a1V l.length (ZM l)=ZM l:=a0z (by simp)
 rcases oC del l with⟨i,x,h1,h2,h3,h4⟩|⟨h1,h2⟩
 ·have Zd:=(a5y.1 h1).1;refine⟨a2N (l.length-(NH del l).length) zE,by simp;omega,?_⟩;refine b9u FF (by decide) (by simp) (by decide) (by simp) rfl ?_;simp-dsimp[a5l];refine ZN hI (by simp[ZW,T7]) (by simp) ?_;have hw0:=Zk (n:=(i:Int)+1) (by omega)
  have Lz:¬(i:Int)= -1:=by omega
  rw[h3];simp-dsimp[Lz,hw0]
  have hA:NG del l l i (i+1):=by
   refine⟨rfl,by omega,by omega,?_,fun _ _=>rfl⟩;rw[b3v h1,h2,b4v]
   ·simp
   ·intro y hy;obtain⟨j,hj⟩:=a9B hy
    have Wd:j<i:=by have:=(a5y.1 hj).1;simp at this;omega
    rw[a8R,if_pos Wd]at hj;exact h4 j y Wd hj
  refine HZ (fun k s=>∃(j m:Nat) (L:List Eg),k=l.length-j/\NG del l L m j/\s=⟨[(6,vi j),(5,vi m),(0, .sl 1000 8 0 l.length),(1, .fn g [] (caps.map Z3.val))],[(1000, .list 8 (ZM L))]⟩)
   ⟨_,_,LeTo.le (D:=[4]) (s':=⟨[(6,vi (i+1:Nat)),(5,vi i),(0, .sl 1000 8 0 l.length),(1, .fn g [] (caps.map Z3.val))],[(1000, .list 8 (ZM l))]⟩) ?_,i+1,i,l,rfl,hA,rfl⟩ ?_
  ·simp
  ·rintro k s ⟨j,m,L,rfl,hA,rfl⟩;have hLl:=hA.len;have hml:=hA.lt;have SJ:=hA.le;have htL:a1V l.length (ZM L)=ZM L:=a0z (by simp[hLl])
   by_cases hj:j<l.length
   ·obtain⟨e,he⟩:=Zr hj
    have heL:L[j]? =some e:=by rw[hA.rest j (a8F _)];exact he
    obtain⟨u,hu⟩:∃u,L[m]? =some u:=Zr (by omega);have hw:=Zk (n:=(j:Int)+1) (by omega);have hwm:=Zk (n:=(m:Int)+1) (by omega)
    have hdj:decide (j<l.length)=true:=by simpa using hj
    simp-dsimp[PC,hdj,heL,Eg.cells,YB,hLl];refine⟨hj,ZY,PH (hd e (a6y he)) (by simp) (by simp[Eg.av,Eg.cells]) (by simp[Eg.av,Eg.cells]) ?_⟩
    cases h0:del e with
    |true=>
     simp-dsimp[hw];refine⟨l.length-(j+1),by omega,_,LeTo.le (D:=[7]) (s':=⟨[(6,vi (j+1:Nat)),(5,vi m),(0, .sl 1000 8 0 l.length),(1, .fn g [] (caps.map Z3.val))],[(1000, .list 8 (ZM L))]⟩) ?_,j+1,rfl,m,L,hA.skip he h0,rfl⟩;simp
    |false=>
     have g9w:decide (m<l.length)=true:=by simp;omega
     simp-dsimp[hw,hwm,hu,Eg.cells,YB,c1Z,hLl,g9w];refine⟨by omega,l.length-(j+1),by omega,_,LeTo.le (D:=[7]) (s':=⟨[(6,vi (j+1:Nat)),(5,vi (m+1:Nat)),(0, .sl 1000 8 0 l.length),(1, .fn g [] (caps.map Z3.val))],[(1000, .list 8 (ZM (L.set m e)))]⟩) ?_,j+1,rfl,m+1,L.set m e,hA.keep he h0,rfl⟩;simp
   ·obtain rfl:j=l.length:=by omega
    have hk:=hA.kept;rw[a6J]at hk
    have hm:m=(NH del l).length:=by rw[<-hk,a3U];omega
    have TN:(ZM L).take m++a2N (l.length-m) zE.cells++(ZM L).drop (m+(l.length-m))=ZM (NH del l++a2N (l.length-(NH del l).length) zE):=by
     rw[List.drop_of_length_le (by simp;omega),b9o, <-hm];unfold ZM;rw[<-List.map_take,hk,a5M,List.map_replicate]
    simp-dsimp[PC,hLl];refine⟨by omega,⟨by omega,by omega⟩,by omega,hm,?_⟩;rw[<-b9Z];exact TN
 ·have Zq:NH del l=l:=b4v h1;refine⟨[],by simp[Zq],?_⟩;rw[Zq,b9o];refine b9u FF (by decide) (by simp) (by decide) (by simp) rfl ?_;simp-dsimp[a5l];refine ZN hI (by simp[ZW,T7]) (by simp) ?_;rw[h2];simp-dsimp
end Go.Rt
end

section
namespace Go.Rt
open Go.Vm
@[simp]def cK:=[wx 1 0,wb 2 false]
@[simp]def cJ:=[yf 6 0 1,wl 7 6,wn 8 7,wc 9 .gtr 8 6,wm 10 9,jf 11 10 1 1,ql 12 10 11,Yn 13 10 12,qc 14 10 .gtr 13 60,wq 15 10 14,wm 16 15,jf 17 16 2 1,ql 18 16 17,Yn 19 16 18,qc 20 16 .gtr 19 30,wq 21 16 20]
@[simp]def cI:=[wb 2 false]
@[simp]def cH:=[wk 3 0]
@[simp]def cG:=[wm 22 3,yf 23 1 1,wl 24 23,wn 25 24,wt 26 .lss 22 25]
@[simp]def cF:=[yf 29 1 1,wl 30 29,wm 31 3,wi 32 22 30 31,ws 33 32 22,oo 4 (.alloc [zi,zi,zi,zi,zb,zi,zs,zi,zi,zi, .nil 3,zi,zi,zb,zi,zs,zb,zi,zs, .nil 9, .nil 5,zb]),wo 4 33 22]
@[simp]def cE:=[yf 34 20 4,wl 35 34,wn 36 35,wc 37 .gtr 36 12,wm 38 37,jf 39 38 10 4,ql 40 38 39,Yn 41 38 40,qc 42 38 .gtr 41 12,wq 43 38 42,wm 44 43,jf 45 44 11 4,Ws 46 44 45 9,og 47 44 false (.call Lq [(T 46),(K 0)]),Yu 48 44 47,wq 49 44 48]
@[simp]def cD:=[wb 2 false]
@[simp]def cC:=[wm 27 3,wc 28 .add 27 1,wm 3 28]
def EA:Z9:=
 (Q (QR cG (CX 26 0)) (Q (.block 1 (QR cF (QR cE (CR 49 cD)))) (R cC)))
@[simp]def zp:=[wk 5 0]
@[simp]def zo:=[wm 50 5,yf 51 2 1,wl 52 51,wn 53 52,wt 54 .lss 50 53]
@[simp]def zn:=[yf 57 2 1,wl 58 57,wm 59 5,wi 60 5 58 59,yf 61 4 60,wl 62 61,wn 63 62,wc 64 .gtr 63 20]
@[simp]def zm:=[wb 2 false]
@[simp]def zl:=[wm 55 5,wc 56 .add 55 1,wm 5 56]
def JH:Z9:=
 (Q (QR zo (CX 54 2)) (Q (.block 3 (QR zn (CR 64 zm))) (R zl)))
@[simp]def zk:=[wb 2 true]
def a0a:Z9:=(QR cK (Q (QR cJ (CR 21 cI)) (Q (QR cH (.block 0 (.loop EA))) (Q (QR zp (.block 2 (.loop JH))) (QR zk .ret)))))
theorem cB:ZG prog WN=some (65,a0a,[.tmp 2]):=by kernel_rfl
@[simp]def cA:=[wx 1 0,wb 2 false]
@[simp]def cz:=[ws 9 1 3,Y1 10 GB 9,wm 3 10]
@[simp]def cw:=[wm 11 3,wu 12 11]
@[simp]def cv:=[wb 2 false]
@[simp]def cu:=[wk 4 0]
@[simp]def ct:=[wm 13 4,yf 14 1 1,wl 15 14,wn 16 15,wt 17 .lss 13 16]
@[simp]def cr:=[ws 20 1 3,wm 21 4,Y2 22 GA 20 21,wm 5 22]
@[simp]def cq:=[ws 23 1 3,wm 24 4,Y2 25 Gz 23 24,wm 6 25]
@[simp]def cp:=[wm 26 5,wu 27 26,wm 28 27,qm 29 28 6,Yu 30 28 29,wq 31 28 30]
@[simp]def cn:=[wb 2 false]
@[simp]def zj:=[wm 18 4,wc 19 .add 18 1,wm 4 19]
def JM:Z9:=
 (Q (QR ct (CX 17 0)) (Q (.block 1 (QR cr (QR cq (QR cp (CR 31 cn))))) (R zj)))
@[simp]def zh:=[wk 7 0]
@[simp]def zg:=[wm 32 7,yf 33 2 1,wl 34 33,wn 35 34,wt 36 .lss 32 35]
@[simp]def zf:=[ws 39 1 3,wm 40 7,Y2 41 Gy 39 40,wm 8 41]
@[simp]def ze:=[wm 42 8,wu 43 42]
@[simp]def zd:=[wb 2 false]
@[simp]def zc:=[wm 37 7,wc 38 .add 37 1,wm 7 38]
def JL:Z9:=
 (Q (QR zg (CX 36 2)) (Q (.block 3 (QR zf (QR ze (CR 43 zd)))) (R zc)))
@[simp]def za:=[wb 2 true]
def a1a:Z9:=(QR cA (QR cz (Q (QR cw (CR 12 cv)) (Q (QR cu (.block 0 (.loop JM))) (Q (QR zh (.block 2 (.loop JL))) (QR za .ret))))))
theorem cS:ZG prog U4=some (44,a1a,[.tmp 2]):=by kernel_rfl
@[simp]def cm:=[wx 3 0,wx 5 2,wz 6 2]
@[simp]def cj:=[oo 12 (.build [zi,zi] []),oo 13 (.lit 2 1 [(0,(T 12))]),wm 7 13]
@[simp]def cg:=[wk 8 0]
@[simp]def cf:=[wm 14 8,yf 15 2 3,wl 16 15,wn 17 16,wt 18 .lss 14 17]
@[simp]def cd:=[yf 21 2 3,wl 22 21,wm 23 8,wi 24 5 22 23,ws 25 24 5,oo 9 (.alloc [zi,zb,zi,zs, .nil 1]),wo 9 25 5]
@[simp]def b9:=[yf 26 0 9,wl 27 26,wm 28 1,wt 29 .neq 27 28,wm 30 29,jf 31 30 1 9,Ws 32 30 31 3,Ws 33 30 5 3,og 34 30 false (.eqs true [.b, .i .i64, .s] (T 32) (T 33)),wq 35 30 34]
@[simp]def bZ:=[wk 10 0]
@[simp]def bY:=[wm 36 10,yf 37 4 9,wl 38 37,wn 39 38,wt 40 .lss 36 39]
@[simp]def bX:VT:=
 Ys 43 3 3<|Yf 44 1 3<|yl 45 44<|vn 46 45<|Yf 47 4 9<|yl 48 47<|ym 49 10<|yi 50 1 48 49<|yl 51 50<|ym 52 1<|Ys 53 5 3<|j5 54 Wa 43 46 51 52 53<|ym 11 54<|.done
@[simp]def bW:=[wm 55 7,yf 56 4 9,wl 57 56,wm 58 10,wi 59 1 57 58,wl 60 59,wm 61 11,oo 62 (.build [zi,zi] [(0,1,(T 60)),(1,1,(T 61))]),oo 63 (.lit 2 1 [(0,(T 62))]),oo 64 (.app 2 16 (T 55) (T 63)),wm 7 64]
@[simp]def y9:=[wm 41 10,wc 42 .add 41 1,wm 10 42]
def OY:Z9:=
 (Q (QR bY (CX 40 2)) (Q (.block 3 (Q (.any bX) (R bW))) (R y9)))
@[simp]def y8:=[wm 19 8,wc 20 .add 19 1,wm 8 20]
def TA:Z9:=
 (Q (QR cf (CX 18 0)) (Q (.block 1 (QR cd (Q (QR b9 (CT 35 (.exit 1) .skip)) (QR bZ (.block 2 (.loop OY)))))) (R y8)))
@[simp]def y7:=[wm 65 7,wm 6 65]
def a2a:Z9:=(QR cm (QR cj (Q (QR cg (.block 0 (.loop TA))) (QR y7 .ret))))
theorem bV:ZG prog RG=some (66,a2a,[.tmp 6]):=by kernel_rfl
@[simp]def bU:=[wx 2 0,wb 4 false]
@[simp]def bT:=[ws 5 2 3,wm 6 1,Y2 7 Gx 5 6,wc 8 .eql 7 5,wm 4 8]
def a3a:Z9:=(QR bU (QR bT .ret))
theorem lq:ZG prog Uz=some (9,a3a,[.tmp 4]):=by kernel_rfl
@[simp]def bS:=[wx 1 0,wz 2 1]
@[simp]def bR:=[wz 3 1]
@[simp]def bQ:=[ws 7 1 3,Y1 8 Gw 7,wm 4 8]
@[simp]def bP:=[wk 5 0]
@[simp]def bO:=[wm 9 5,wm 10 4,wn 11 10,wt 12 .lss 9 11]
@[simp]def bN:VT:=
 Ys 15 1 3<|ym 16 4<|ym 17 5<|yi 18 1 16 17<|yl 19 18<|V2 20 Uz 15 19<|ym 6 20<|.done
@[simp]def bM:=[wm 21 6]
@[simp]def bL:=[wm 22 3,wm 23 4,wm 24 5,wi 25 1 23 24,wl 26 25,oo 27 (.lit 1 1 [(0,(T 26))]),oo 28 (.app 1 8 (T 22) (T 27)),wm 3 28]
@[simp]def bK:=[wm 13 5,wc 14 .add 13 1,wm 5 14]
def MK:Z9:=
 (Q (QR bO (CX 12 0)) (Q (.block 1 (Q (.any bN) (QR bM (CT 21 (R bL) .skip)))) (R bK)))
@[simp]def y6:=[wm 29 3,wm 2 29]
def a4a:Z9:=(QR bS (QR bR (QR bQ (Q (QR bP (.block 0 (.loop MK))) (QR y6 .ret)))))
theorem mv:ZG prog SQ=some (30,a4a,[.tmp 2]):=by kernel_rfl
@[simp]def bJ:=[wb 4 false]
@[simp]def bI:=[wm 6 0,wn 7 6,wm 8 1,wn 9 8,wt 10 .neq 7 9]
@[simp]def bH:=[wb 4 false]
@[simp]def bG:=[wk 5 0]
@[simp]def bF:=[wm 11 5,wm 12 0,wn 13 12,wt 14 .lss 11 13]
@[simp]def bE:VT:=
 ym 17 0<|ym 18 5<|yi 19 1 17 18<|yl 20 19<|ym 21 1<|ym 22 5<|yi 23 1 21 22<|yl 24 23<|vt 25 .neq 20 24<|.done
@[simp]def bC:=[wb 4 false]
@[simp]def bB:=[wm 15 5,wc 16 .add 15 1,wm 5 16]
def Fj:Z9:=
 (Q (QR bF (CX 14 0)) (Q (.block 1 (Q (.any bE) (CR 25 bC))) (R bB)))
@[simp]def bA:=[wb 4 true]
def a5a:Z9:=(QR bJ (Q (QR bI (CR 10 bH)) (Q (QR bG (.block 0 (.loop Fj))) (QR bA .ret))))
theorem ll:ZG prog RE=some (26,a5a,[.tmp 4]):=by kernel_rfl
@[simp]def bz:=[wx 2 0,wk 4 0]
@[simp]def bx:=[wk 5 0]
@[simp]def bw:=[wm 6 5,yf 7 1 2,wl 8 7,wn 9 8,wt 10 .lss 6 9]
@[simp]def bu:=[yf 13 1 2,wl 14 13,wm 15 5,wi 16 22 14 15,yf 17 1 16,wl 18 17,wc 19 .eql 18 1,wm 20 19,qf 21 20 1 2,Yl 22 20 21,Ym 23 20 5,Yi 24 20 22 22 23,qf 25 20 0 24,Yl 26 20 25,Ym 27 20 1,Yt 28 20 .eql 26 27,wp 29 20 28]
@[simp]def bt:=[yf 30 1 2,wl 31 30,wm 32 5,wi 33 22 31 32,yf 34 2 33,wl 35 34,wm 4 35]
@[simp]def bq:=[wm 11 5,wc 12 .add 11 1,wm 5 12]
def Fk:Z9:=
 (Q (QR bw (CX 10 0)) (Q (.block 1 (QR bu (CR 29 bt))) (R bq)))
@[simp]def bp:=[wk 4 0]
def a6a:Z9:=(QR bz (Q (QR bx (.block 0 (.loop Fk))) (QR bp .ret)))
theorem ln:ZG prog Uy=some (36,a6a,[.tmp 4]):=by kernel_rfl
@[simp]def bn:=[wx 2 0,wb 4 false]
@[simp]def bj:=[wm 7 1,wc 8 .gtr 7 6,wm 9 8,jf 10 9 8 2,ql 11 9 10,Yn 12 9 11,qc 13 9 .gtr 12 6,wq 14 9 13]
@[simp]def bh:=[wb 4 false]
@[simp]def bg:=[wk 5 0]
@[simp]def bd:=[wm 15 5,yf 16 8 2,wl 17 16,wn 18 17,wt 19 .lss 15 18]
@[simp]def bb:=[yf 22 8 2,wl 23 22,wm 24 5,wi 25 9 23 24,ws 26 25 9,wm 27 1,wc 28 .add 27 1,Y2 29 Lq 26 28,wm 6 29]
@[simp]def aZ:=[wm 30 6,wu 31 30]
@[simp]def aY:=[wb 4 false]
@[simp]def aX:=[wm 20 5,wc 21 .add 20 1,wm 5 21]
def Ez:Z9:=
 (Q (QR bd (CX 19 0)) (Q (.block 1 (QR bb (QR aZ (CR 31 aY)))) (R aX)))
@[simp]def y0:=[ws 32 2 9,Y1 33 N2 32,wc 34 .leq 33 30,wm 4 34]
def c7I:Z9:=(QR bn (Q (QR bj (CR 14 bh)) (Q (QR bg (.block 0 (.loop Ez))) (QR y0 .ret))))
theorem aW:ZG prog Lq=some (35,c7I,[.tmp 4]):=by kernel_rfl
@[simp]def aV:=[wx 1 0,oo 2 (.QH (.const (.pointer none)))]
@[simp]def aU:=[ws 13 1 3,Y1 14 Gu 13,wc 15 .neq 14 0]
@[simp]def aT:=[oo 2 (.QH (.const (.pointer none)))]
@[simp]def aS:=[oo 16 (.XB (false,[.i .i64],false)),oo 17 (.XB (true,[.i .i64, .b, .i .i64, .s, .i .i64, .i .i64],false)),oo 18 (.XB (true,[.i .i64, .b, .i .i64, .s, .i .i64, .i .i64],false)),oo 19 (.XB (true,[.i .i64, .b, .i .i64, .s],false)),oo 20 (.build [.iv (.v (.map none)), .nil 1, .iv (.v (.map none)), .iv (.v (.map none)), .iv (.v (.map none))] [(0,1,(T 16)),(2,1,(T 17)),(3,1,(T 18)),(4,1,(T 19))]),wx 21 20,wm 3 21]
@[simp]def aR:=[yf 22 1 1,wl 23 22,wn 24 23,wk 25 0]
@[simp]def aQ:=[wt 26 .lss 25 24]
@[simp]def aP:=[wi 27 22 23 25,ws 28 27 22,oo 5 (.alloc [zi,zi,zi,zi,zb,zi,zs,zi,zi,zi, .nil 3,zi,zi,zb,zi,zs,zb,zi,zs, .nil 9, .nil 5,zb]),wo 5 28 22]
@[simp]def aO:=[yf 29 3 5,wl 30 29,yf 31 4 5,ws 32 31 3,oo 33 (.build [zi,zb,zi,zs] [(0,1,(T 30)),(1,3,(T 32))]),oo 6 (.alloc [zi,zb,zi,zs]),wo 6 33 4]
@[simp]def aN:=[yf 34 1 5,wl 35 34]
@[simp]def aM:=[wc 37 .eql 35 1,wm 36 37]
@[simp]def yZ:VT:=
 ym 38 3<|vh 39 38<|Yf 40 0 39<|yl 41 40<|Yf 42 0 5<|yl 43 42<|Yf 44 2 5<|yl 45 44<|.op (on (.Yy (false,[.i .i64],false) (T 41) (T 43) (T 45)))<|.done
@[simp]def yY:=[wc 47 .eql 35 5,wm 46 47]
@[simp]def yX:VT:=
 ym 48 3<|ym 49 3<|vh 50 49<|Yf 51 1 50<|yl 52 51<|Yf 53 0 5<|yl 54 53<|oc 55 (.lit 1 1 [(0,(T 54))])<|oc 56 (.app 1 8 (T 52) (T 55))<|vh 57 48<|Yf 58 1 57<|V (wo 58 56 1)<|.done
@[simp]def yW:=[wc 60 .eql 35 3,wm 59 60]
@[simp]def L8:VT:=
 yl 69 68<|oc 70 (.build [zi,zi] [(0,1,(T 67)),(1,1,(T 69))])<|oc 71 (.build [zi,zb,zi,zs,zi,zi] [(0,4,(T 65)),(4,2,(T 70))])<|V1 74 X5 73<|.op (on (.Yy (true,[.i .i64, .b, .i .i64, .s, .i .i64, .i .i64],false) (T 64) (T 71) (T 74)))<|.done
@[simp]def L7:VT:=
 V1 74 X5 73<|yl 69 68<|oc 70 (.build [zi,zi] [(0,1,(T 67)),(1,1,(T 69))])<|oc 71 (.build [zi,zb,zi,zs,zi,zi] [(0,4,(T 65)),(4,2,(T 70))])<|.op (on (.Yy (true,[.i .i64, .b, .i .i64, .s, .i .i64, .i .i64],false) (T 64) (T 71) (T 74)))<|.done
@[simp]def Ey:VT:=
 yl 67 66<|.alt (L8) (L7)
@[simp]def L6:VT:=
 yl 67 66<|oc 70 (.build [zi,zi] [(0,1,(T 67)),(1,1,(T 69))])<|oc 71 (.build [zi,zb,zi,zs,zi,zi] [(0,4,(T 65)),(4,2,(T 70))])<|V1 74 X5 73<|.op (on (.Yy (true,[.i .i64, .b, .i .i64, .s, .i .i64, .i .i64],false) (T 64) (T 71) (T 74)))<|.done
@[simp]def L5:VT:=
 V1 74 X5 73<|yl 67 66<|oc 70 (.build [zi,zi] [(0,1,(T 67)),(1,1,(T 69))])<|oc 71 (.build [zi,zb,zi,zs,zi,zi] [(0,4,(T 65)),(4,2,(T 70))])<|.op (on (.Yy (true,[.i .i64, .b, .i .i64, .s, .i .i64, .i .i64],false) (T 64) (T 71) (T 74)))<|.done
@[simp]def Ex:VT:=
 yl 69 68<|.alt (L6) (L5)
@[simp]def Ew:VT:=
 V1 74 X5 73<|yl 67 66<|yl 69 68<|oc 70 (.build [zi,zi] [(0,1,(T 67)),(1,1,(T 69))])<|oc 71 (.build [zi,zb,zi,zs,zi,zi] [(0,4,(T 65)),(4,2,(T 70))])<|.op (on (.Yy (true,[.i .i64, .b, .i .i64, .s, .i .i64, .i .i64],false) (T 64) (T 71) (T 74)))<|.done
@[simp]def aL:VT:=
 Ys 65 6 4<|.alt (Ey) (.alt (Ex) (Ew))
@[simp]def Eu:VT:=
 Ys 65 6 4<|.alt (L8) (L7)
@[simp]def L4:VT:=
 Ys 65 6 4<|oc 71 (.build [zi,zb,zi,zs,zi,zi] [(0,4,(T 65)),(4,2,(T 70))])<|V1 74 X5 73<|.op (on (.Yy (true,[.i .i64, .b, .i .i64, .s, .i .i64, .i .i64],false) (T 64) (T 71) (T 74)))<|.done
@[simp]def OX:VT:=
 V1 74 X5 73<|Ys 65 6 4<|oc 71 (.build [zi,zb,zi,zs,zi,zi] [(0,4,(T 65)),(4,2,(T 70))])<|.op (on (.Yy (true,[.i .i64, .b, .i .i64, .s, .i .i64, .i .i64],false) (T 64) (T 71) (T 74)))<|.done
@[simp]def JG:VT:=
 yl 69 68<|oc 70 (.build [zi,zi] [(0,1,(T 67)),(1,1,(T 69))])<|.alt (L4) (OX)
@[simp]def JF:VT:=
 V1 74 X5 73<|Ys 65 6 4<|yl 69 68<|oc 70 (.build [zi,zi] [(0,1,(T 67)),(1,1,(T 69))])<|oc 71 (.build [zi,zb,zi,zs,zi,zi] [(0,4,(T 65)),(4,2,(T 70))])<|.op (on (.Yy (true,[.i .i64, .b, .i .i64, .s, .i .i64, .i .i64],false) (T 64) (T 71) (T 74)))<|.done
@[simp]def yV:VT:=
 yl 67 66<|.alt (Eu) (.alt (JG) (JF))
@[simp]def JE:VT:=
 Ys 65 6 4<|.alt (L6) (L5)
@[simp]def JD:VT:=
 yl 67 66<|oc 70 (.build [zi,zi] [(0,1,(T 67)),(1,1,(T 69))])<|.alt (L4) (OX)
@[simp]def JC:VT:=
 V1 74 X5 73<|Ys 65 6 4<|yl 67 66<|oc 70 (.build [zi,zi] [(0,1,(T 67)),(1,1,(T 69))])<|oc 71 (.build [zi,zb,zi,zs,zi,zi] [(0,4,(T 65)),(4,2,(T 70))])<|.op (on (.Yy (true,[.i .i64, .b, .i .i64, .s, .i .i64, .i .i64],false) (T 64) (T 71) (T 74)))<|.done
@[simp]def yU:VT:=
 yl 69 68<|.alt (JE) (.alt (JD) (JC))
@[simp]def yT:VT:=
 V1 74 X5 73<|Ys 65 6 4<|yl 67 66<|yl 69 68<|oc 70 (.build [zi,zi] [(0,1,(T 67)),(1,1,(T 69))])<|oc 71 (.build [zi,zb,zi,zs,zi,zi] [(0,4,(T 65)),(4,2,(T 70))])<|.op (on (.Yy (true,[.i .i64, .b, .i .i64, .s, .i .i64, .i .i64],false) (T 64) (T 71) (T 74)))<|.done
@[simp]def yS:VT:=
 .alt (yV) (.alt (yU) (yT))
@[simp]def yR:VT:=
 yl 64 63<|.alt (aL) (yS)
@[simp]def yQ:VT:=
 yl 64 63<|.alt (Ey) (.alt (Ex) (Ew))
@[simp]def JB:VT:=
 yl 64 63<|.alt (L8) (L7)
@[simp]def OW:VT:=
 yl 64 63<|V1 74 X5 73<|.op (on (.Yy (true,[.i .i64, .b, .i .i64, .s, .i .i64, .i .i64],false) (T 64) (T 71) (T 74)))<|.done
@[simp]def OV:VT:=
 V1 74 X5 73<|yl 64 63<|.op (on (.Yy (true,[.i .i64, .b, .i .i64, .s, .i .i64, .i .i64],false) (T 64) (T 71) (T 74)))<|.done
@[simp]def JA:VT:=
 yl 69 68<|oc 70 (.build [zi,zi] [(0,1,(T 67)),(1,1,(T 69))])<|oc 71 (.build [zi,zb,zi,zs,zi,zi] [(0,4,(T 65)),(4,2,(T 70))])<|.alt (OW) (OV)
@[simp]def Jz:VT:=
 V1 74 X5 73<|yl 64 63<|yl 69 68<|oc 70 (.build [zi,zi] [(0,1,(T 67)),(1,1,(T 69))])<|oc 71 (.build [zi,zb,zi,zs,zi,zi] [(0,4,(T 65)),(4,2,(T 70))])<|.op (on (.Yy (true,[.i .i64, .b, .i .i64, .s, .i .i64, .i .i64],false) (T 64) (T 71) (T 74)))<|.done
@[simp]def yP:VT:=
 yl 67 66<|.alt (JB) (.alt (JA) (Jz))
@[simp]def Jy:VT:=
 yl 64 63<|.alt (L6) (L5)
@[simp]def Jx:VT:=
 yl 67 66<|oc 70 (.build [zi,zi] [(0,1,(T 67)),(1,1,(T 69))])<|oc 71 (.build [zi,zb,zi,zs,zi,zi] [(0,4,(T 65)),(4,2,(T 70))])<|.alt (OW) (OV)
@[simp]def Jw:VT:=
 V1 74 X5 73<|yl 64 63<|yl 67 66<|oc 70 (.build [zi,zi] [(0,1,(T 67)),(1,1,(T 69))])<|oc 71 (.build [zi,zb,zi,zs,zi,zi] [(0,4,(T 65)),(4,2,(T 70))])<|.op (on (.Yy (true,[.i .i64, .b, .i .i64, .s, .i .i64, .i .i64],false) (T 64) (T 71) (T 74)))<|.done
@[simp]def yO:VT:=
 yl 69 68<|.alt (Jy) (.alt (Jx) (Jw))
@[simp]def yN:VT:=
 V1 74 X5 73<|yl 64 63<|yl 67 66<|yl 69 68<|oc 70 (.build [zi,zi] [(0,1,(T 67)),(1,1,(T 69))])<|oc 71 (.build [zi,zb,zi,zs,zi,zi] [(0,4,(T 65)),(4,2,(T 70))])<|.op (on (.Yy (true,[.i .i64, .b, .i .i64, .s, .i .i64, .i .i64],false) (T 64) (T 71) (T 74)))<|.done
@[simp]def yM:VT:=
 .alt (yP) (.alt (yO) (yN))
@[simp]def yL:VT:=
 Ys 65 6 4<|.alt (yQ) (yM)
@[simp]def yK:VT:=
 yl 64 63<|.alt (Eu) (.alt (JG) (JF))
@[simp]def yJ:VT:=
 Ys 65 6 4<|.alt (JB) (.alt (JA) (Jz))
@[simp]def Jv:VT:=
 yl 64 63<|.alt (L4) (OX)
@[simp]def Ju:VT:=
 Ys 65 6 4<|oc 71 (.build [zi,zb,zi,zs,zi,zi] [(0,4,(T 65)),(4,2,(T 70))])<|.alt (OW) (OV)
@[simp]def Jt:VT:=
 V1 74 X5 73<|yl 64 63<|Ys 65 6 4<|oc 71 (.build [zi,zb,zi,zs,zi,zi] [(0,4,(T 65)),(4,2,(T 70))])<|.op (on (.Yy (true,[.i .i64, .b, .i .i64, .s, .i .i64, .i .i64],false) (T 64) (T 71) (T 74)))<|.done
@[simp]def yI:VT:=
 yl 69 68<|oc 70 (.build [zi,zi] [(0,1,(T 67)),(1,1,(T 69))])<|.alt (Jv) (.alt (Ju) (Jt))
@[simp]def yH:VT:=
 V1 74 X5 73<|yl 64 63<|Ys 65 6 4<|yl 69 68<|oc 70 (.build [zi,zi] [(0,1,(T 67)),(1,1,(T 69))])<|oc 71 (.build [zi,zb,zi,zs,zi,zi] [(0,4,(T 65)),(4,2,(T 70))])<|.op (on (.Yy (true,[.i .i64, .b, .i .i64, .s, .i .i64, .i .i64],false) (T 64) (T 71) (T 74)))<|.done
@[simp]def yG:VT:=
 .alt (yJ) (.alt (yI) (yH))
@[simp]def yF:VT:=
 yl 67 66<|.alt (yK) (yG)
@[simp]def yE:VT:=
 yl 64 63<|.alt (JE) (.alt (JD) (JC))
@[simp]def yD:VT:=
 Ys 65 6 4<|.alt (Jy) (.alt (Jx) (Jw))
@[simp]def yC:VT:=
 yl 67 66<|oc 70 (.build [zi,zi] [(0,1,(T 67)),(1,1,(T 69))])<|.alt (Jv) (.alt (Ju) (Jt))
@[simp]def yB:VT:=
 V1 74 X5 73<|yl 64 63<|Ys 65 6 4<|yl 67 66<|oc 70 (.build [zi,zi] [(0,1,(T 67)),(1,1,(T 69))])<|oc 71 (.build [zi,zb,zi,zs,zi,zi] [(0,4,(T 65)),(4,2,(T 70))])<|.op (on (.Yy (true,[.i .i64, .b, .i .i64, .s, .i .i64, .i .i64],false) (T 64) (T 71) (T 74)))<|.done
@[simp]def yA:VT:=
 .alt (yD) (.alt (yC) (yB))
@[simp]def yz:VT:=
 yl 69 68<|.alt (yE) (yA)
@[simp]def yy:VT:=
 V1 74 X5 73<|yl 64 63<|Ys 65 6 4<|yl 67 66<|yl 69 68<|oc 70 (.build [zi,zi] [(0,1,(T 67)),(1,1,(T 69))])<|oc 71 (.build [zi,zb,zi,zs,zi,zi] [(0,4,(T 65)),(4,2,(T 70))])<|.op (on (.Yy (true,[.i .i64, .b, .i .i64, .s, .i .i64, .i .i64],false) (T 64) (T 71) (T 74)))<|.done
@[simp]def yx:VT:=
 .alt (yF) (.alt (yz) (yy))
@[simp]def yw:VT:=
 ym 61 3<|vh 62 61<|Yf 63 2 62<|Yf 66 0 5<|Yf 68 9 5<|Yf 72 10 5<|yl 73 72<|.alt (yR) (.alt (yL) (yx))
@[simp]def yv:VT:=
 ym 75 3<|vh 76 75<|Yf 77 3 76<|yl 78 77<|Ys 79 6 4<|Yf 80 0 5<|yl 81 80<|oc 82 (.build [zi,zi] [(0,1,(T 81))])<|oc 83 (.build [zi,zb,zi,zs,zi,zi] [(0,4,(T 79)),(4,2,(T 82))])<|Yf 84 9 5<|yl 85 84<|.op (on (.Yy (true,[.i .i64, .b, .i .i64, .s, .i .i64, .i .i64],false) (T 78) (T 83) (T 85)))<|.done
@[simp]def yr:=[wc 86 .add 25 1,wm 25 86]
def UM:Z9:=
 (QR aQ (Q (CX 26 0) (Q (.block 1 (QR aP (QR aO (QR aN (.block 2 (QR aM (CT 36 (.any yZ) (QR yY (CT 46 (.any yX) (QR yW (CT 59 (Q (.any yw) (.any yv)) .skip))))))))))) (R yr))))
@[simp]def yo:=[wm 87 3,wh 88 87,yf 89 1 88,wl 90 89,Y1 91 Qb 90]
@[simp]def yk:=[yf 92 2 1,wl 93 92,wn 94 93,wk 95 0]
@[simp]def yj:=[wt 96 .lss 95 94]
@[simp]def yg:=[wi 97 5 93 95,ws 98 97 5,oo 8 (.alloc [zi,zb,zi,zs, .nil 1]),wo 8 98 5]
@[simp]def ye:=[yf 99 0 8,wl 100 99,yf 101 1 8,ws 102 101 3,oo 103 (.build [zi,zb,zi,zs] [(0,1,(T 100)),(1,3,(T 102))]),oo 9 (.alloc [zi,zb,zi,zs]),wo 9 103 4]
@[simp]def yd:=[oo 104 (.build [zi,zi] []),oo 105 (.lit 2 1 [(0,(T 104))]),wm 10 105]
@[simp]def yb:=[yf 106 4 8,wl 107 106,wn 108 107,wk 109 0]
@[simp]def ya:=[wt 110 .lss 109 108]
@[simp]def x9:=[wi 111 1 107 109,wl 112 111,wm 12 112]
@[simp]def x8:VT:=
 ym 113 10<|ym 114 12<|ym 115 3<|vh 116 115<|Yf 117 3 116<|yl 118 117<|Ys 119 9 4<|ym 120 12<|oc 121 (.build [zi,zi] [(0,1,(T 120))])<|oc 122 (.build [zi,zb,zi,zs,zi,zi] [(0,4,(T 119)),(4,2,(T 121))])<|oc 123 (.UE (true,[.i .i64, .b, .i .i64, .s, .i .i64, .i .i64],false) [zi] (T 118) (T 122) false)<|oc 124 (.build [zi,zi] [(0,1,(T 114)),(1,1,(T 123))])<|oc 125 (.lit 2 1 [(0,(T 124))])<|oc 126 (.app 2 16 (T 113) (T 125))<|ym 10 126<|.done
@[simp]def x7:=[wc 127 .add 109 1,wm 109 127]
def OU:Z9:=
 (QR ya (Q (CX 110 5) (Q (.block 6 (QR x9 (.any x8))) (R x7))))
@[simp]def x6:VT:=
 ym 128 3<|vh 129 128<|Yf 130 4 129<|yl 131 130<|Ys 132 9 4<|ym 133 10<|.op (on (.Yy (true,[.i .i64, .b, .i .i64, .s],false) (T 131) (T 132) (T 133)))<|.done
@[simp]def x0:=[wc 134 .add 95 1,wm 95 134]
def OT:Z9:=
 (QR yj (Q (CX 96 3) (Q (.block 4 (QR yg (QR ye (QR yd (Q (QR yb (.block 5 (.loop OU))) (.any x6)))))) (R x0))))
@[simp]def xZ:=[wm 135 3,wm 2 135]
def a8a:Z9:=(QR aV (Q (QR aU (CR 15 aT)) (QR aS (Q (QR aR (.block 0 (.loop UM))) (QR yo (Q (QR yk (.block 3 (.loop OT))) (QR xZ .ret)))))))
theorem Et:ZG prog U0=some (136,a8a,[.tmp 2]):=by kernel_rfl
@[simp]def aK:=[wz 2 1]
@[simp]def aJ:=[wm 3 0,oo 4 (.peq false (T 3) (.const (.pointer none)))]
@[simp]def aI:=[wz 2 1]
@[simp]def aH:=[wm 5 0,wh 6 5,yf 7 1 6,wl 8 7,Y1 9 RB 8,wm 2 9]
def a9a:Z9:=(QR aK (Q (QR aJ (CR 4 aI)) (QR aH .ret)))
theorem lJ:ZG prog N8=some (10,a9a,[.tmp 2]):=by kernel_rfl
@[simp]def aG:=[wx 1 0,wb 2 false]
@[simp]def aF:=[yf 5 0 1,wl 6 5,wn 7 6,wc 8 .lss 7 1,wm 9 8,jf 10 9 0 1,ql 11 9 10,Yn 12 9 11,qc 13 9 .gtr 12 3,wq 14 9 13]
@[simp]def aE:=[wb 2 false]
@[simp]def aD:=[wk 3 0]
@[simp]def aC:=[wm 15 3,yf 16 0 1,wl 17 16,wn 18 17,wt 19 .lss 15 18]
@[simp]def aB:=[yf 22 0 1,wl 23 22,wm 24 3,wi 25 1 23 24,ws 26 25 1,Y1 27 NZ 26,wm 4 27]
@[simp]def aA:=[wm 28 4,wu 29 28]
@[simp]def az:=[wb 2 false]
@[simp]def aw:=[wm 20 3,wc 21 .add 20 1,wm 3 21]
def ED:Z9:=
 (Q (QR aC (CX 19 0)) (Q (.block 1 (QR aB (QR aA (CR 29 az)))) (R aw)))
@[simp]def xY:=[wb 2 true]
def c8I:Z9:=(QR aG (Q (QR aF (CR 14 aE)) (Q (QR aD (.block 0 (.loop ED))) (QR xY .ret))))
theorem cT:ZG prog GB=some (30,c8I,[.tmp 2]):=by kernel_rfl
@[simp]def au:=[wx 2 0,wb 4 false]
@[simp]def aq:=[ws 6 2 3,wm 7 1,Y2 8 Gq 6 7,wm 5 8]
@[simp]def ao:=[wm 9 5,wu 10 9]
@[simp]def ak:=[wb 4 false]
@[simp]def aj:=[yf 11 1 2,wl 12 11,wm 13 1,wi 14 22 12 13,yf 15 1 14,wl 16 15]
@[simp]def ah:=[wc 18 .eql 16 2,wm 17 18]
@[simp]def ae:=[ws 19 2 3,wm 20 1,Y2 21 Gp 19 20,wm 4 21]
@[simp]def a7a:=[wc 23 .eql 16 3,wm 22 23]
@[simp]def a0b:=[ws 24 2 3,wm 25 1,Y2 26 Gn 24 25,wm 4 26]
@[simp]def a1b:=[wc 28 .eql 16 4,wm 27 28]
@[simp]def xX:=[ws 29 2 3,wm 30 1,Y2 31 Gm 29 30,wm 4 31]
@[simp]def xW:=[wb 4 true]
def c9I:Z9:=(QR au (QR aq (Q (QR ao (CR 10 ak)) (Q (QR aj (.block 0 (QR ah (CT 17 (QR ae .ret) (QR a7a (CT 22 (QR a0b .ret) (QR a1b (CR 27 xX)))))))) (QR xW .ret)))))
theorem cW:ZG prog GA=some (32,c9I,[.tmp 4]):=by kernel_rfl
@[simp]def a2b:=[wx 2 0,wb 4 false]
@[simp]def a3b:=[yf 10 1 2,wl 11 10,wm 12 1,wi 13 22 11 12,ws 14 13 22,oo 5 (.alloc [zi,zi,zi,zi,zb,zi,zs,zi,zi,zi, .nil 3,zi,zi,zb,zi,zs,zb,zi,zs, .nil 9, .nil 5,zb]),wo 5 14 22]
@[simp]def a1c:=[ws 15 2 3,yf 16 0 5,wl 17 16,Y2 18 Uz 15 17,wm 6 18]
@[simp]def a2c:=[yf 19 1 5,wl 20 19,wc 21 .neq 20 3,wm 22 21,qm 23 22 6,Yu 24 22 23,wq 25 22 24]
@[simp]def a0d:=[wb 4 true]
@[simp]def a1d:=[wk 7 0]
@[simp]def a2d:=[wm 26 7,yf 27 2 2,wl 28 27,wn 29 28,wt 30 .lss 26 29]
@[simp]def a3d:=[yf 33 2 2,wl 34 33,wm 35 7,wi 36 5 34 35,ws 37 36 5,oo 8 (.alloc [zi,zb,zi,zs, .nil 1]),wo 8 37 5]
@[simp]def a6d:=[yf 38 0 8,wl 39 38,yf 40 3 5,wl 41 40,wt 42 .neq 39 41,wm 43 42,jf 44 43 1 8,Ws 45 43 44 3,jf 46 43 4 5,Ws 47 43 46 3,og 48 43 false (.eqs true [.b, .i .i64, .s] (T 45) (T 47)),wq 49 43 48]
@[simp]def a7d:=[wk 9 0]
@[simp]def xV:=[wm 50 9,yf 51 4 8,wl 52 51,wn 53 52,wt 54 .lss 50 53]
@[simp]def xU:VT:=
 Yf 57 4 8<|yl 58 57<|ym 59 9<|yi 60 1 58 59<|yl 61 60<|Yf 62 0 5<|yl 63 62<|vt 64 .eql 61 63<|.done
@[simp]def xT:=[wb 4 true]
@[simp]def xS:=[wm 55 9,wc 56 .add 55 1,wm 9 56]
def JP:Z9:=
 (Q (QR xV (CX 54 2)) (Q (.block 3 (Q (.any xU) (CR 64 xT))) (R xS)))
@[simp]def xR:=[wm 31 7,wc 32 .add 31 1,wm 7 32]
def JQ:Z9:=
 (Q (QR a2d (CX 30 0)) (Q (.block 1 (QR a3d (Q (QR a6d (CT 49 (.exit 1) .skip)) (QR a7d (.block 2 (.loop JP)))))) (R xR)))
@[simp]def xQ:=[wb 4 false]
def c0J:Z9:=(QR a2b (QR a3b (QR a1c (Q (QR a2c (CR 25 a0d)) (Q (QR a1d (.block 0 (.loop JQ))) (QR xQ .ret))))))
theorem cV:ZG prog Gz=some (65,c0J,[.tmp 4]):=by kernel_rfl
@[simp]def a8d:=[wx 2 0,wb 4 false]
@[simp]def a9d:=[yf 10 2 2,wl 11 10,wm 12 1,wi 13 5 11 12,ws 14 13 5,oo 5 (.alloc [zi,zb,zi,zs, .nil 1]),wo 5 14 5]
@[simp]def a0e:=[wk 6 0]
@[simp]def a1e:=[wm 15 6,wm 16 1,wt 17 .lss 15 16]
@[simp]def a5e:VT:=
 Yf 20 2 2<|yl 21 20<|ym 22 6<|yi 23 5 21 22<|Yf 24 0 23<|yl 25 24<|Yf 26 0 5<|yl 27 26<|vt 28 .eql 25 27<|ym 29 28<|V (qf 30 29 2 2)<|V (Yl 31 29 30)<|V (Ym 32 29 6)<|V (Yi 33 29 5 31 32)<|V (qf 34 29 1 33)<|V (qs 35 29 34 3)<|V (qf 36 29 1 5)<|V (qs 37 29 36 3)<|V (og 38 29 true (.eqs false [.b, .i .i64, .s] (T 35) (T 37)))<|yp 39 29 38<|.done
@[simp]def a6e:=[wb 4 false]
@[simp]def a0f:=[wm 18 6,wc 19 .add 18 1,wm 6 19]
def EE:Z9:=
 (Q (QR a1e (CX 17 0)) (Q (.block 1 (Q (.any a5e) (CR 39 a6e))) (R a0f)))
@[simp]def a1f:=[wk 7 0]
@[simp]def a2f:=[wm 40 7,yf 41 4 5,wl 42 41,wn 43 42,wt 44 .lss 40 43]
@[simp]def xP:VT:=
 Ys 47 2 3<|Yf 48 4 5<|yl 49 48<|ym 50 7<|yi 51 1 49 50<|yl 52 51<|V2 53 Uz 47 52<|ym 8 53<|.done
@[simp]def xO:VT:=
 ym 54 8<|vu 55 54<|ym 56 55<|V (Ws 57 56 2 3)<|V (jf 58 56 1 2)<|V (ql 59 56 58)<|V (Yn 60 56 59)<|V (jf 61 56 4 5)<|V (ql 62 56 61)<|V (qm 63 56 7)<|V (qi 64 56 1 62 63)<|V (ql 65 56 64)<|V (jf 66 56 0 5)<|V (ql 67 56 66)<|V (jf 68 56 1 5)<|V (Ws 69 56 68 3)<|V (W5 70 56 Wa 57 60 65 67 69)<|V (qc 71 56 .eql 70 0)<|vq 72 56 71<|.done
@[simp]def xN:=[wb 4 false]
@[simp]def xM:=[wk 9 0]
@[simp]def xL:=[wm 73 9,wm 74 7,wt 75 .lss 73 74]
@[simp]def xK:VT:=
 Yf 78 4 5<|yl 79 78<|ym 80 9<|yi 81 1 79 80<|yl 82 81<|Yf 83 4 5<|yl 84 83<|ym 85 7<|yi 86 1 84 85<|yl 87 86<|vt 88 .eql 82 87<|.done
@[simp]def xJ:=[wb 4 false]
@[simp]def xI:=[wm 76 9,wc 77 .add 76 1,wm 9 77]
def JN:Z9:=
 (Q (QR xL (CX 75 4)) (Q (.block 5 (Q (.any xK) (CR 88 xJ))) (R xI)))
@[simp]def xH:=[wm 45 7,wc 46 .add 45 1,wm 7 46]
def JO:Z9:=
 (Q (QR a2f (CX 44 2)) (Q (.block 3 (Q (.any xP) (Q (Q (.any xO) (CR 72 xN)) (QR xM (.block 4 (.loop JN)))))) (R xH)))
@[simp]def xG:=[yf 89 4 5,wl 90 89,wn 91 90,wc 92 .gtr 91 0,wm 4 92]
def c1J:Z9:=(QR a8d (QR a9d (Q (QR a0e (.block 0 (.loop EE))) (Q (QR a1f (.block 2 (.loop JO))) (QR xG .ret)))))
theorem cU:ZG prog Gy=some (93,c1J,[.tmp 4]):=by kernel_rfl
@[simp]def a6f:=[wx 5 0,wx 9 4,wk 10 0]
@[simp]def a7f:=[wk 11 0]
@[simp]def a0g:=[wk 12 0]
@[simp]def a1g:=[wm 14 12,wm 15 1,wt 16 .lss 14 15,wm 17 16,Ym 18 17 12,qf 19 17 1 5,Yl 20 17 19,yn 21 17 20,Yt 22 17 .lss 18 21,wp 23 17 22]
@[simp]def a5g:=[yf 26 1 5,wl 27 26,wm 28 12,wi 29 22 27 28,ws 30 29 22,oo 13 (.alloc [zi,zi,zi,zi,zb,zi,zs,zi,zi,zi, .nil 3,zi,zi,zb,zi,zs,zb,zi,zs, .nil 9, .nil 5,zb]),wo 13 30 22]
@[simp]def a8g:=[yf 31 1 13,wl 32 31,wc 33 .eql 32 3,wm 34 33,qf 35 34 0 13,Yl 36 34 35,Ym 37 34 2,Yt 38 34 .eql 36 37,wp 39 34 38,wm 40 39,qf 41 40 3 13,Yl 42 40 41,Ym 43 40 3,Yt 44 40 .eql 42 43,wp 45 40 44,wm 46 45,qf 47 46 4 13,qs 48 46 47 3,qs 49 46 9 3,og 50 46 true (.eqs false [.b, .i .i64, .s] (T 48) (T 49)),wp 51 46 50]
@[simp]def a9g:=[wm 52 11,wc 53 .add 52 1,wm 11 53]
@[simp]def a0h:=[wm 24 12,wc 25 .add 24 1,wm 12 25]
def FV:Z9:=
 (Q (QR a1g (CX 23 0)) (Q (.block 1 (QR a5g (QR a8g (CT 51 (R a9g) .skip)))) (R a0h)))
@[simp]def a3h:=[wm 54 11,wm 10 54]
def a4b:Z9:=(QR a6f (QR a7f (Q (QR a0g (.block 0 (.loop FV))) (QR a3h .ret))))
theorem ml:ZG prog Wa=some (55,a4b,[.tmp 10]):=by kernel_rfl
@[simp]def a5h:=[wx 2 0,wk 4 0]
@[simp]def a6h:=[wk 5 0]
@[simp]def a7h:=[wm 7 5,yf 8 1 2,wl 9 8,wn 10 9,wt 11 .lss 7 10]
@[simp]def a0i:=[yf 14 1 2,wl 15 14,wm 16 5,wi 17 22 15 16,ws 18 17 22,oo 6 (.alloc [zi,zi,zi,zi,zb,zi,zs,zi,zi,zi, .nil 3,zi,zi,zb,zi,zs,zb,zi,zs, .nil 9, .nil 5,zb]),wo 6 18 22]
@[simp]def a1i:=[yf 19 0 6,wl 20 19,wm 21 1,wt 22 .eql 20 21,wm 23 22,qf 24 23 1 6,Yl 25 23 24,Yc 26 23 .eql 25 5,Ym 27 23 26,jf 28 27 1 6,ql 29 27 28,qc 30 27 .eql 29 6,yq 31 23 27 30,wp 32 23 31]
@[simp]def a2i:=[yf 33 1 6,wl 34 33,wm 4 34]
@[simp]def a4i:=[wm 12 5,wc 13 .add 12 1,wm 5 13]
def FU:Z9:=
 (Q (QR a7h (CX 11 0)) (Q (.block 1 (QR a0i (QR a1i (CR 32 a2i)))) (R a4i)))
@[simp]def a5i:=[wk 4 0]
def a5b:Z9:=(QR a5h (Q (QR a6h (.block 0 (.loop FU))) (QR a5i .ret)))
theorem mj:ZG prog Gx=some (35,a5b,[.tmp 4]):=by kernel_rfl
@[simp]def a6i:=[wx 1 0,wz 2 1]
@[simp]def a7i:=[wz 3 1]
@[simp]def a8i:=[wk 4 0]
@[simp]def a2j:=[wm 8 4,yf 9 1 1,wl 10 9,wn 11 10,wt 12 .lss 8 11]
@[simp]def a3j:=[yf 15 1 1,wl 16 15,wm 17 4,wi 18 22 16 17,ws 19 18 22,oo 5 (.alloc [zi,zi,zi,zi,zb,zi,zs,zi,zi,zi, .nil 3,zi,zi,zb,zi,zs,zb,zi,zs, .nil 9, .nil 5,zb]),wo 5 19 22]
@[simp]def a4j:=[yf 20 1 5,wl 21 20,wc 22 .neq 21 1]
@[simp]def a5j:=[wk 6 0]
@[simp]def a6j:VT:=
 ym 23 6<|ym 24 3<|vn 25 24<|vt 26 .lss 23 25<|ym 27 26<|V (Ym 28 27 3)<|V (Ym 29 27 6)<|V (Yi 30 27 1 28 29)<|V (Yl 31 27 30)<|V (qf 32 27 0 5)<|V (Yl 33 27 32)<|V (Yt 34 27 .lss 31 33)<|yp 35 27 34<|.done
@[simp]def a8j:=[wm 36 6,wc 37 .add 36 1,wm 6 37]
def Rv:Z9:=
 (Q (Q (.any a6j) (CX 35 2)) (.block 3 (R a8j)))
@[simp]def xF:VT:=
 ym 38 6<|ym 39 3<|vn 40 39<|vt 41 .lss 38 40<|ym 42 41<|V (Ym 43 42 3)<|V (Ym 44 42 6)<|V (Yi 45 42 1 43 44)<|V (Yl 46 42 45)<|V (qf 47 42 0 5)<|V (Yl 48 42 47)<|V (Yt 49 42 .eql 46 48)<|yp 50 42 49<|.done
@[simp]def xE:=[wz 7 1]
@[simp]def xD:=[wm 51 7,wm 52 3,wm 53 6,oo 54 (.cut 1 (T 52) none (some (T 53))),oo 55 (.app 1 8 (T 51) (T 54)),wm 7 55]
@[simp]def xC:=[wm 56 7,yf 57 0 5,wl 58 57,oo 59 (.lit 1 1 [(0,(T 58))]),oo 60 (.app 1 8 (T 56) (T 59)),wm 7 60]
@[simp]def xB:=[wm 61 7,wm 62 3,wm 63 6,oo 64 (.cut 1 (T 62) (some (T 63)) none),oo 65 (.app 1 8 (T 61) (T 64)),wm 7 65]
@[simp]def xA:=[wm 66 7,wm 3 66]
@[simp]def xy:=[wm 13 4,wc 14 .add 13 1,wm 4 14]
def Sd:Z9:=
 (Q (QR a2j (CX 12 0)) (Q (.block 1 (QR a3j (Q (QR a4j (CT 22 (.exit 1) .skip)) (QR a5j (Q (.block 2 (.loop Rv)) (Q (Q (.any xF) (CT 50 (.exit 1) .skip)) (QR xE (QR xD (QR xC (QR xB (R xA))))))))))) (R xy)))
@[simp]def xx:=[wm 67 3,wm 2 67]
def a6b:Z9:=(QR a6i (QR a7i (Q (QR a8i (.block 0 (.loop Sd))) (QR xx .ret))))
theorem my:ZG prog Gw=some (68,a6b,[.tmp 2]):=by kernel_rfl
@[simp]def a9j:=[wx 6 2,wx 7 3,wz 8 3,wb 9 false]
@[simp]def a1k:=[wm 12 0,oo 13 (.peq false (T 12) (.const (.pointer none)))]
@[simp]def a2k:=[wz 8 3,wb 9 false]
@[simp]def a3k:=[ws 14 7 2,oo 15 (.build [zi,zi] []),oo 16 (.eqs false [.i .i64, .i .i64] (T 14) (T 15))]
@[simp]def a4k:=[wz 8 3,wb 9 true]
@[simp]def a5k:VT:=
 ym 18 0<|vh 19 18<|Yf 20 2 19<|yl 21 20<|ym 22 1<|Ys 23 6 3<|oc 24 (.build [zi,zb,zi,zs] [(0,1,(T 22)),(1,3,(T 23))])<|Ys 25 7 2<|oc 26 (.build [zi,zb,zi,zs,zi,zi] [(0,4,(T 24)),(4,2,(T 25))])<|oc 27 (.UE (true,[.i .i64, .b, .i .i64, .s, .i .i64, .i .i64],false) [.nil 3] (T 21) (T 26) true)<|ym 17 27<|ve 28 0 17<|ve 29 1 17<|ym 10 28<|ym 11 29<|.done
@[simp]def a6k:=[wm 30 10,Y1 31 X5 30,wm 32 11,wm 8 31,wm 9 32]
def a7b:Z9:=(QR a9j (Q (QR a1k (CR 13 a2k)) (Q (QR a3k (CR 16 a4k)) (Q (.any a5k) (QR a6k .ret)))))
theorem lI:ZG prog N5=some (33,a7b,[.tmp 8, .tmp 9]):=by kernel_rfl
@[simp]def a6l:=[wx 1 0,wk 2 0]
@[simp]def a8l:=[wk 3 1]
@[simp]def a9l:=[wk 4 0]
@[simp]def a1m:=[wm 5 4,yf 6 8 1,wl 7 6,wn 8 7,wt 9 .lss 5 8]
@[simp]def a2m:=[wm 12 3,yf 13 8 1,wl 14 13,wm 15 4,wi 16 9 14 15,ws 17 16 9,Y1 18 N2 17,wt 19 .add 12 18,wm 3 19]
@[simp]def a3m:=[wm 10 4,wc 11 .add 10 1,wm 4 11]
def Fi:Z9:=
 (Q (QR a1m (CX 9 0)) (Q (.block 1 (R a2m)) (R a3m)))
@[simp]def a6m:=[wm 20 3,wm 2 20]
def a8b:Z9:=(QR a6l (QR a8l (Q (QR a9l (.block 0 (.loop Fi))) (QR a6m .ret))))
theorem lh:ZG prog N2=some (21,a8b,[.tmp 2]):=by kernel_rfl
@[simp]def a7m:=[wx 1 0,wk 2 0]
@[simp]def a8m:=[ws 10 1 3,oo 11 (.XB (false,[.i .i64],false)),oo 12 (.XB (true,[.i .i64, .i .i64, .b, .i .i64, .s],false)),oo 13 (.XB (false,[.i .i64],false)),oo 14 (.build [.nil 1, .nil 22, .nil 5, .iv (.v (.map none)), .iv (.v (.map none)), .iv (.v (.map none))] [(0,3,(T 10)),(3,1,(T 11)),(4,1,(T 12)),(5,1,(T 13))]),wx 15 14,oo 3 (.alloc [.iv (.v (.pointer none))]),wo 3 15 1]
@[simp]def a9m:=[oo 16 (.VO RA [] [(T 3)]),wm 4 16]
@[simp]def a0n:=[wl 17 3,oo 18 (.VO P7 [(T 17)] []),wm 5 18]
@[simp]def a4n:=[yf 19 0 1,wl 20 19,wn 21 20,wc 22 .lss 21 1,wm 23 22,jf 24 23 0 1,ql 25 23 24,Yn 26 23 25,qc 27 23 .gtr 26 3,wq 28 23 27]
@[simp]def a5n:=[yf 29 0 1,wl 30 29,wn 31 30,wk 32 0]
@[simp]def a6n:=[wt 33 .lss 32 31]
@[simp]def a7n:=[wi 34 1 30 32,ws 35 34 1,oo 7 (.alloc [.nil 1]),wo 7 35 1]
@[simp]def a8n:=[ws 36 7 1,Y1 37 NV 36,wc 38 .neq 37 0]
@[simp]def a9n:=[wc 39 .add 32 1,wm 32 39]
def JJ:Z9:=
 (QR a6n (Q (CX 33 0) (Q (.block 1 (QR a7n (QR a8n (CT 38 (.goto 0) .skip)))) (R a9n))))
@[simp]def xw:=[yf 40 1 1,wl 41 40,wn 42 41,wk 43 0]
@[simp]def xv:=[wt 44 .lss 43 42]
@[simp]def xu:=[wi 45 22 41 43,ws 46 45 22,oo 9 (.alloc [zi,zi,zi,zi,zb,zi,zs,zi,zi,zi, .nil 3,zi,zi,zb,zi,zs,zb,zi,zs, .nil 9, .nil 5,zb]),wo 9 46 22]
@[simp]def xr:=[wm 47 4,ws 48 9 22,oo 49 (.Zc (T 47) [(T 48)]),wu 50 49]
@[simp]def xq:=[wc 51 .add 43 1,wm 43 51]
def JI:Z9:=
 (QR xv (Q (CX 44 2) (Q (.block 3 (QR xu (QR xr (CT 50 (.goto 0) .skip)))) (R xq))))
@[simp]def xp:=[wm 52 5,oo 53 (.Zc (T 52) [])]
@[simp]def xo:=[wk 2 0]
@[simp]def xn:=[wk 2 180]
@[simp]def xl:=[wk 2 180]
def a9b:Z9:=(QR a7m (.WC (QR a8m (QR a9m (QR a0n (Q (QR a4n (CT 28 (.goto 0) .skip)) (Q (QR a5n (.block 0 (.loop JJ))) (Q (QR xw (.block 2 (.loop JI))) (Q (QR xp (CR 53 xo)) (Q .skip (QR xn .ret))))))))) 0 (Q .skip (QR xl .ret))))
theorem cM:ZG prog Gu=some (54,a9b,[.tmp 2]):=by kernel_rfl
@[simp]def a0o:=[wz 2 3]
@[simp]def a1o:=[wm 3 0,Y1 4 Gg 3,wm 2 4]
def a0c:Z9:=(QR a0o (QR a1o .ret))
theorem l4:ZG prog X5=some (5,a0c,[.tmp 2]):=by kernel_rfl
@[simp]def a2o:=[wz 2 1]
@[simp]def a3o:=[wm 3 0,oo 4 (.PG false (T 3))]
@[simp]def a4o:=[wz 2 1]
@[simp]def a6o:=[oo 5 (.lit 1 0 []),wm 6 0,oo 7 (.app 1 8 (T 5) (T 6)),wm 2 7]
def TO:Z9:=(QR a2o (Q (QR a3o (CR 4 a4o)) (QR a6o .ret)))
theorem ME:ZG prog RB=some (8,TO,[.tmp 2]):=by kernel_rfl
@[simp]def a8o:=[wx 6 2,wx 7 3,wk 8 0]
@[simp]def a9o:=[wm 12 0,wm 13 1,ws 14 6 3,ws 15 7 2,Y4 16 N5 12 13 14 15,wm 11 16,we 17 0 11,we 18 1 11,wm 9 17,wm 10 18]
@[simp]def a0p:=[wm 19 10,wu 20 19]
@[simp]def a1p:=[wk 8 (-1)]
@[simp]def a2p:=[wm 21 0,wm 22 1,ws 23 6 3,Y3 24 NU 21 22 23,oo 25 (.VO P6 [] [(T 7)]),Y2 26 Gf 24 25,wm 8 26]
def a3c:Z9:=(QR a8o (Q (QR a9o (QR a0p (CR 20 a1p))) (QR a2p .ret)))
theorem lD:ZG prog Lc=some (27,a3c,[.tmp 8]):=by kernel_rfl
@[simp]def a8p:=[wx 5 2,wz 6 2]
@[simp]def a9p:=[wm 9 0,oo 10 (.peq false (T 9) (.const (.pointer none)))]
@[simp]def a0q:=[wz 6 2]
@[simp]def a1q:=[wm 11 0,wm 12 1,ws 13 5 3,Y3 14 NU 11 12 13,wm 7 14]
@[simp]def a2q:=[wm 15 7,wn 16 15,oo 17 (.mks 2 16 [zi,zi] (T 16) (T 16)),wm 8 17]
@[simp]def a4q:=[wm 18 8,wm 19 7,oo 20 (.cpy 2 (T 18) (T 19))]
@[simp]def a6q:=[wm 21 8,wm 6 21]
def a4c:Z9:=(QR a8p (Q (QR a9p (CR 10 a0q)) (QR a1q (QR a2q (QR a4q (QR a6q .ret))))))
theorem lG:ZG prog N0=some (22,a4c,[.tmp 6]):=by kernel_rfl
@[simp]def a7q:=[wx 5 0,wx 6 1,wx 7 2,wx 9 4,wb 10 false]
@[simp]def a4r:=[wl 13 5,oo 14 (.peq false (T 13) (.const (.pointer none)))]
@[simp]def a5r:=[wb 10 false]
@[simp]def a6s:=[wl 15 5,wl 16 6,ws 17 7 3,Y3 18 NU 15 16 17,wm 11 18]
@[simp]def a7s:=[wm 19 3,wc 20 .lss 19 1,wm 21 20,qm 22 21 3,qm 23 21 11,Yn 24 21 23,qt 25 21 .geq 22 24,wq 26 21 25]
@[simp]def a8s:=[wb 10 false]
@[simp]def a9s:=[oo 27 (.VO K3 [] [(T 5),(T 6),(T 7),(T 9)]),wm 12 27]
@[simp]def a0t:VT:=
 oc 34 (.Zc (T 28) [(T 33)])<|Ys 39 38 2<|oc 40 (.Zc (T 35) [(T 39)])<|oc 41 (.beq true (T 34) (T 40))<|ym 10 41<|.done
@[simp]def a3t:VT:=
 Ys 39 38 2<|oc 34 (.Zc (T 28) [(T 33)])<|oc 40 (.Zc (T 35) [(T 39)])<|oc 41 (.beq true (T 34) (T 40))<|ym 10 41<|.done
@[simp]def a4t:VT:=
 ym 28 12<|ym 29 11<|ym 30 3<|yc 31 .sub 30 1<|yi 32 2 29 31<|Ys 33 32 2<|ym 35 12<|ym 36 11<|ym 37 3<|yi 38 2 36 37<|.alt (a0t) (a3t)
def a5c:Z9:=(QR a7q (Q (QR a4r (CR 14 a5r)) (QR a6s (Q (QR a7s (CR 26 a8s)) (QR a9s (Q (.any a4t) .ret))))))
theorem lx:ZG prog Lb=some (42,a5c,[.tmp 10]):=by kernel_rfl
@[simp]def a5t:=[wx 2 0,wx 3 1,wk 4 0]
@[simp]def a6t:=[yf 6 0 2,wl 7 6,wm 8 7,qf 9 8 0 3,Yl 10 8 9,wp 11 8 10,wm 5 11]
@[simp]def a7t:=[yf 12 2 2,wl 13 12,yf 14 2 3,wl 15 14,Y2 16 Ge 13 15,wm 4 16]
@[simp]def a8t:=[yf 18 0 2,wl 19 18,wm 17 19]
@[simp]def a9t:=[wk 4 1]
@[simp]def a0u:=[yf 21 0 3,wl 22 21,wm 20 22]
@[simp]def a1u:=[wk 4 (-1)]
@[simp]def a2u:=[yf 23 1 2,wl 24 23,yf 25 1 3,wl 26 25,Y2 27 Gd 24 26,wm 4 27]
def a6c:Z9:=(QR a5t (Q (.block 0 (QR a6t (CT 5 (QR a7t .ret) (QR a8t (CT 17 (QR a9t .ret) (QR a0u (CR 20 a1u))))))) (QR a2u .ret)))
theorem lS:ZG prog P9=some (28,a6c,[.tmp 4]):=by kernel_rfl
@[simp]def a3u:=[wx 4 0,wx 6 2,wx 7 3,wk 8 0]
@[simp]def a4u:=[ws 14 4 3,wm 15 1,ws 16 6 3,ws 17 7 2,Y4 18 KZ 14 15 16 17,wm 13 18,we 19 0 13,we 20 1 13,wm 9 19,wm 10 20]
@[simp]def a5u:=[ws 21 4 3,wm 22 1,ws 23 6 3,Y3 24 RG 21 22 23,wm 11 24]
@[simp]def a6u:=[wk 12 0]
@[simp]def a7u:=[wm 25 12,wm 26 11,wn 27 26,wt 28 .lss 25 27,wm 29 28,Ym 30 29 10,wp 31 29 30]
@[simp]def a8u:VT:=
 ym 34 11<|ym 35 12<|yi 36 2 34 35<|Yf 37 0 36<|yl 38 37<|Yf 39 0 7<|yl 40 39<|vt 41 .eql 38 40<|.done
@[simp]def a9u:=[wm 42 12,wm 8 42]
@[simp]def a0v:=[wm 32 12,wc 33 .add 32 1,wm 12 33]
def Ra:Z9:=
 (Q (QR a7u (CX 31 0)) (Q (.block 1 (Q (.any a8u) (CR 41 a9u))) (R a0v)))
@[simp]def a1v:=[wk 8 (-1)]
def a7c:Z9:=(QR a3u (QR a4u (QR a5u (Q (QR a6u (.block 0 (.loop Ra))) (QR a1v .ret)))))
theorem a2v:ZG prog La=some (43,a7c,[.tmp 8]):=by kernel_rfl
@[simp]def a3v:=[wx 5 0,wx 7 2,wx 9 4,wb 10 false]
@[simp]def a4v:=[ws 12 5 3,wm 13 1,ws 14 7 3,Y3 15 RG 12 13 14,wm 11 15]
@[simp]def a5v:=[wm 16 3,wc 17 .lss 16 1,wm 18 17,qm 19 18 3,qm 20 18 11,Yn 21 18 20,qt 22 18 .geq 19 21,wq 23 18 22]
@[simp]def a6v:=[wb 10 false]
@[simp]def a7v:VT:=
 j5 33 Zb 24 25 26 31 32<|Ys 34 5 3<|Ys 36 7 3<|Ys 40 39 2<|Ys 41 9 9<|j5 42 Zb 34 35 36 40 41<|oc 43 (.beq true (T 33) (T 42))<|ym 10 43<|.done
@[simp]def a8v:VT:=
 j5 33 Zb 24 25 26 31 32<|Ys 36 7 3<|Ys 40 39 2<|Ys 41 9 9<|j5 42 Zb 34 35 36 40 41<|oc 43 (.beq true (T 33) (T 42))<|ym 10 43<|.done
@[simp]def Es:VT:=
 j5 33 Zb 24 25 26 31 32<|Ys 40 39 2<|Ys 41 9 9<|j5 42 Zb 34 35 36 40 41<|oc 43 (.beq true (T 33) (T 42))<|ym 10 43<|.done
@[simp]def L3:VT:=
 j5 33 Zb 24 25 26 31 32<|Ys 41 9 9<|j5 42 Zb 34 35 36 40 41<|oc 43 (.beq true (T 33) (T 42))<|ym 10 43<|.done
@[simp]def LZ:VT:=
 Ys 41 9 9<|j5 33 Zb 24 25 26 31 32<|j5 42 Zb 34 35 36 40 41<|oc 43 (.beq true (T 33) (T 42))<|ym 10 43<|.done
@[simp]def Ep:VT:=
 Ys 40 39 2<|.alt (L3) (LZ)
@[simp]def LY:VT:=
 j5 33 Zb 24 25 26 31 32<|Ys 40 39 2<|j5 42 Zb 34 35 36 40 41<|oc 43 (.beq true (T 33) (T 42))<|ym 10 43<|.done
@[simp]def LX:VT:=
 Ys 40 39 2<|j5 33 Zb 24 25 26 31 32<|j5 42 Zb 34 35 36 40 41<|oc 43 (.beq true (T 33) (T 42))<|ym 10 43<|.done
@[simp]def Eo:VT:=
 Ys 41 9 9<|.alt (LY) (LX)
@[simp]def a9v:VT:=
 Ys 36 7 3<|.alt (Es) (.alt (Ep) (Eo))
@[simp]def Js:VT:=
 j5 33 Zb 24 25 26 31 32<|Ys 36 7 3<|Ys 41 9 9<|j5 42 Zb 34 35 36 40 41<|oc 43 (.beq true (T 33) (T 42))<|ym 10 43<|.done
@[simp]def xk:VT:=
 Ys 36 7 3<|.alt (L3) (LZ)
@[simp]def OS:VT:=
 j5 33 Zb 24 25 26 31 32<|Ys 36 7 3<|j5 42 Zb 34 35 36 40 41<|oc 43 (.beq true (T 33) (T 42))<|ym 10 43<|.done
@[simp]def OQ:VT:=
 Ys 36 7 3<|j5 33 Zb 24 25 26 31 32<|j5 42 Zb 34 35 36 40 41<|oc 43 (.beq true (T 33) (T 42))<|ym 10 43<|.done
@[simp]def xj:VT:=
 Ys 41 9 9<|.alt (OS) (OQ)
@[simp]def Jr:VT:=
 .alt (xk) (xj)
@[simp]def xi:VT:=
 Ys 40 39 2<|.alt (Js) (Jr)
@[simp]def Jq:VT:=
 j5 33 Zb 24 25 26 31 32<|Ys 36 7 3<|Ys 40 39 2<|j5 42 Zb 34 35 36 40 41<|oc 43 (.beq true (T 33) (T 42))<|ym 10 43<|.done
@[simp]def xh:VT:=
 Ys 36 7 3<|.alt (LY) (LX)
@[simp]def xg:VT:=
 Ys 40 39 2<|.alt (OS) (OQ)
@[simp]def Jp:VT:=
 .alt (xh) (xg)
@[simp]def xe:VT:=
 Ys 41 9 9<|.alt (Jq) (Jp)
@[simp]def xd:VT:=
 .alt (xi) (xe)
@[simp]def xc:VT:=
 Ys 34 5 3<|.alt (a8v) (.alt (a9v) (xd))
@[simp]def xb:VT:=
 j5 33 Zb 24 25 26 31 32<|Ys 34 5 3<|Ys 40 39 2<|Ys 41 9 9<|j5 42 Zb 34 35 36 40 41<|oc 43 (.beq true (T 33) (T 42))<|ym 10 43<|.done
@[simp]def xa:VT:=
 Ys 34 5 3<|.alt (Es) (.alt (Ep) (Eo))
@[simp]def Jo:VT:=
 j5 33 Zb 24 25 26 31 32<|Ys 34 5 3<|Ys 41 9 9<|j5 42 Zb 34 35 36 40 41<|oc 43 (.beq true (T 33) (T 42))<|ym 10 43<|.done
@[simp]def w9:VT:=
 Ys 34 5 3<|.alt (L3) (LZ)
@[simp]def OP:VT:=
 j5 33 Zb 24 25 26 31 32<|Ys 34 5 3<|j5 42 Zb 34 35 36 40 41<|oc 43 (.beq true (T 33) (T 42))<|ym 10 43<|.done
@[simp]def OO:VT:=
 Ys 34 5 3<|j5 33 Zb 24 25 26 31 32<|j5 42 Zb 34 35 36 40 41<|oc 43 (.beq true (T 33) (T 42))<|ym 10 43<|.done
@[simp]def wZ:VT:=
 Ys 41 9 9<|.alt (OP) (OO)
@[simp]def Jn:VT:=
 .alt (w9) (wZ)
@[simp]def wY:VT:=
 Ys 40 39 2<|.alt (Jo) (Jn)
@[simp]def Jm:VT:=
 j5 33 Zb 24 25 26 31 32<|Ys 34 5 3<|Ys 40 39 2<|j5 42 Zb 34 35 36 40 41<|oc 43 (.beq true (T 33) (T 42))<|ym 10 43<|.done
@[simp]def wX:VT:=
 Ys 34 5 3<|.alt (LY) (LX)
@[simp]def wW:VT:=
 Ys 40 39 2<|.alt (OP) (OO)
@[simp]def Jl:VT:=
 .alt (wX) (wW)
@[simp]def wV:VT:=
 Ys 41 9 9<|.alt (Jm) (Jl)
@[simp]def wU:VT:=
 .alt (wY) (wV)
@[simp]def wT:VT:=
 .alt (xa) (wU)
@[simp]def wS:VT:=
 Ys 36 7 3<|.alt (xb) (wT)
@[simp]def wR:VT:=
 j5 33 Zb 24 25 26 31 32<|Ys 34 5 3<|Ys 36 7 3<|Ys 41 9 9<|j5 42 Zb 34 35 36 40 41<|oc 43 (.beq true (T 33) (T 42))<|ym 10 43<|.done
@[simp]def wQ:VT:=
 Ys 34 5 3<|.alt (Js) (Jr)
@[simp]def wP:VT:=
 Ys 36 7 3<|.alt (Jo) (Jn)
@[simp]def Jk:VT:=
 j5 33 Zb 24 25 26 31 32<|Ys 34 5 3<|Ys 36 7 3<|j5 42 Zb 34 35 36 40 41<|oc 43 (.beq true (T 33) (T 42))<|ym 10 43<|.done
@[simp]def wO:VT:=
 Ys 34 5 3<|.alt (OS) (OQ)
@[simp]def wN:VT:=
 Ys 36 7 3<|.alt (OP) (OO)
@[simp]def Jj:VT:=
 .alt (wO) (wN)
@[simp]def wK:VT:=
 Ys 41 9 9<|.alt (Jk) (Jj)
@[simp]def wJ:VT:=
 .alt (wP) (wK)
@[simp]def wI:VT:=
 .alt (wQ) (wJ)
@[simp]def wH:VT:=
 Ys 40 39 2<|.alt (wR) (wI)
@[simp]def wG:VT:=
 j5 33 Zb 24 25 26 31 32<|Ys 34 5 3<|Ys 36 7 3<|Ys 40 39 2<|j5 42 Zb 34 35 36 40 41<|oc 43 (.beq true (T 33) (T 42))<|ym 10 43<|.done
@[simp]def wF:VT:=
 Ys 34 5 3<|.alt (Jq) (Jp)
@[simp]def wE:VT:=
 Ys 36 7 3<|.alt (Jm) (Jl)
@[simp]def wD:VT:=
 Ys 40 39 2<|.alt (Jk) (Jj)
@[simp]def wC:VT:=
 .alt (wE) (wD)
@[simp]def wA:VT:=
 .alt (wF) (wC)
@[simp]def wy:VT:=
 Ys 41 9 9<|.alt (wG) (wA)
@[simp]def wv:VT:=
 .alt (wH) (wy)
@[simp]def wj:VT:=
 .alt (wS) (wv)
@[simp]def wg:VT:=
 .alt (xc) (wj)
@[simp]def a0w:VT:=
 Ys 24 5 3<|ym 25 1<|Ys 26 7 3<|ym 27 11<|ym 28 3<|yc 29 .sub 28 1<|yi 30 2 27 29<|Ys 31 30 2<|Ys 32 9 9<|ym 35 1<|ym 37 11<|ym 38 3<|yi 39 2 37 38<|.alt (a7v) (wg)
def a8c:Z9:=(QR a3v (QR a4v (Q (QR a5v (CR 23 a6v)) (Q (.any a0w) .ret))))
theorem dg:ZG prog K9=some (44,a8c,[.tmp 10]):=by kernel_rfl
@[simp]def a1w:=[wx 1 0,wb 2 false]
@[simp]def a2w:=[yf 3 0 1,wl 4 3,wn 5 4,wc 6 .geq 5 1,wm 7 6,qf 8 7 0 1,Yl 9 7 8,yn 10 7 9,Yc 11 7 .leq 10 4,wp 12 7 11,wm 2 12]
def a9c:Z9:=(QR a1w (QR a2w .ret))
theorem dc:ZG prog NZ=some (13,a9c,[.tmp 2]):=by kernel_rfl
@[simp]def a3w:=[wx 2 0,wb 4 false]
@[simp]def a4w:=[yf 9 1 2,wl 10 9,wm 11 1,wi 12 22 10 11,ws 13 12 22,oo 5 (.alloc [zi,zi,zi,zi,zb,zi,zs,zi,zi,zi, .nil 3,zi,zi,zb,zi,zs,zb,zi,zs, .nil 9, .nil 5,zb]),wo 5 13 22]
@[simp]def a5w:=[yf 14 0 5,wl 15 14,wc 16 .lss 15 1,wm 17 16,jf 18 17 1 5,ql 19 17 18,qc 20 17 .lss 19 1,wq 21 17 20,wm 22 21,jf 23 22 1 5,ql 24 22 23,qc 25 22 .gtr 24 6,wq 26 22 25]
@[simp]def a6w:=[wb 4 false]
@[simp]def a7w:=[wb 6 false]
@[simp]def a8w:=[wk 7 0]
@[simp]def a9w:=[wm 27 7,wm 28 1,wt 29 .lss 27 28]
@[simp]def a0x:=[yf 32 1 2,wl 33 32,wm 34 7,wi 35 22 33 34,ws 36 35 22,oo 8 (.alloc [zi,zi,zi,zi,zb,zi,zs,zi,zi,zi, .nil 3,zi,zi,zb,zi,zs,zb,zi,zs, .nil 9, .nil 5,zb]),wo 8 36 22]
@[simp]def e5y:=[yf 37 0 8,wl 38 37,yf 39 0 5,wl 40 39,wt 41 .neq 38 40]
@[simp]def e6y:=[wb 6 true]
@[simp]def wa:=[yf 42 1 8,wl 43 42,wc 44 .eql 43 5,wm 45 44,jf 46 45 1 8,ql 47 45 46,qc 48 45 .eql 47 6,wq 49 45 48]
@[simp]def v8:=[wb 4 false]
@[simp]def v7:=[wm 30 7,wc 31 .add 30 1,wm 7 31]
def OZ:Z9:=
 (Q (QR a9w (CX 29 0)) (Q (.block 1 (QR a0x (Q (QR e5y (CT 41 (.exit 1) .skip)) (QR e6y (QR wa (CR 49 v8)))))) (R v7)))
@[simp]def vZ:=[yf 50 1 5,wl 51 50,wc 52 .eql 51 1]
@[simp]def vY:=[wm 53 6,wu 54 53,wm 55 54,qf 56 55 2 5,Yl 57 55 56,Yc 58 55 .geq 57 1,wp 59 55 58,wm 60 59,qf 61 60 2 5,Yl 62 60 61,Yc 63 60 .leq 62 5,wp 64 60 63,wm 4 64]
@[simp]def vX:=[wm 65 6,wm 4 65]
def c2J:Z9:=(QR a3w (QR a4w (Q (QR a5w (CR 26 a6w)) (QR a7w (Q (QR a8w (.block 0 (.loop OZ))) (Q (QR vZ (CR 52 vY)) (QR vX .ret)))))))
theorem c5:ZG prog Gq=some (66,c2J,[.tmp 4]):=by kernel_rfl
@[simp]def e7y:=[wx 2 0,wb 4 false]
@[simp]def e8y:=[yf 9 1 2,wl 10 9,wm 11 1,wi 12 22 10 11,ws 13 12 22,oo 5 (.alloc [zi,zi,zi,zi,zb,zi,zs,zi,zi,zi, .nil 3,zi,zi,zb,zi,zs,zb,zi,zs, .nil 9, .nil 5,zb]),wo 5 13 22]
@[simp]def e9y:=[ws 14 2 3,yf 15 3 5,wl 16 15,yf 17 4 5,ws 18 17 3,Y3 19 NT 14 16 18,wm 6 19]
@[simp]def e0z:=[wm 20 6,wu 21 20]
@[simp]def e1z:=[wb 4 false]
@[simp]def e2z:=[ws 22 2 3,wm 23 1,yf 24 0 5,wl 25 24,yf 26 3 5,wl 27 26,yf 28 4 5,ws 29 28 3,Y5 30 Wa 22 23 25 27 29,wm 7 30]
@[simp]def e3z:=[wm 31 7,wc 32 .gtr 31 0]
@[simp]def e4z:=[yf 33 7 5,ws 34 33 2,yf 35 0 5,wl 36 35,wm 37 7,oo 38 (.build [zi,zi] [(0,1,(T 36)),(1,1,(T 37))]),oo 39 (.eqs false [.i .i64, .i .i64] (T 34) (T 38)),wm 4 39]
@[simp]def e5z:=[oo 40 (.build [zi,zi] []),oo 8 (.alloc [zi,zi]),wo 8 40 2]
@[simp]def e6z:=[yf 41 7 5,ws 42 41 2,ws 43 8 2,oo 44 (.eqs false [.i .i64, .i .i64] (T 42) (T 43)),wm 45 44,Ws 46 45 2 3,qm 47 45 1,jf 48 45 3 5,ql 49 45 48,jf 50 45 4 5,Ws 51 45 50 3,jf 52 45 7 5,Ws 53 45 52 2,W5 54 45 KY 46 47 49 51 53,wq 55 45 54,wm 4 55]
def c3J:Z9:=(QR e7y (QR e8y (QR e9y (Q (QR e0z (CR 21 e1z)) (QR e2z (Q (QR e3z (CR 32 e4z)) (QR e5z (QR e6z .ret))))))))
theorem cY:ZG prog Gp=some (56,c3J,[.tmp 4]):=by kernel_rfl
@[simp]def e7z:=[wx 2 0,wb 4 false]
@[simp]def e8z:=[yf 8 1 2,wl 9 8,wm 10 1,wi 11 22 9 10,ws 12 11 22,oo 5 (.alloc [zi,zi,zi,zi,zb,zi,zs,zi,zi,zi, .nil 3,zi,zi,zb,zi,zs,zb,zi,zs, .nil 9, .nil 5,zb]),wo 5 12 22]
@[simp]def e9z:=[ws 13 2 3,yf 14 3 5,wl 15 14,yf 16 4 5,ws 17 16 3,Y3 18 NT 13 15 17,wm 6 18]
@[simp]def e0A:VT:=
 V (ql 23 21 22)<|V (W5 32 21 Wa 24 25 27 29 31)<|V (qc 33 21 .add 32 1)<|V (qt 34 21 .neq 23 33)<|vq 35 21 34<|.done
@[simp]def e1A:VT:=
 V (W5 32 21 Wa 24 25 27 29 31)<|V (ql 23 21 22)<|V (qc 33 21 .add 32 1)<|V (qt 34 21 .neq 23 33)<|vq 35 21 34<|.done
@[simp]def e2A:VT:=
 ym 19 6<|vu 20 19<|ym 21 20<|V (jf 22 21 9 5)<|V (Ws 24 21 2 3)<|V (qm 25 21 1)<|V (jf 26 21 0 5)<|V (ql 27 21 26)<|V (jf 28 21 3 5)<|V (ql 29 21 28)<|V (jf 30 21 4 5)<|V (Ws 31 21 30 3)<|.alt (e0A) (e1A)
@[simp]def e3A:=[wb 4 false]
@[simp]def e4A:VT:=
 Yf 36 0 2<|yl 37 36<|Yf 38 3 5<|yl 39 38<|yi 40 1 37 39<|Ys 41 40 1<|Yf 42 10 5<|yl 43 42<|V2 44 Gc 41 43<|ym 7 44<|.done
@[simp]def e5A:VT:=
 Yf 45 10 5<|yl 46 45<|vn 47 46<|yc 48 .eql 47 0<|ym 49 48<|V (qm 50 49 7)<|V (qm 51 49 50)<|V (qf 52 51 10 5)<|V (Yl 53 51 52)<|V (og 54 51 true (.ia 3 (T 53) (K 0)))<|V (qs 55 51 54 3)<|V (qf 56 51 4 5)<|V (qs 57 51 56 3)<|V (og 58 51 true (.eqs false [.b, .i .i64, .s] (T 55) (T 57)))<|V (qp 59 49 51 58)<|vq 60 49 59<|ym 4 60<|.done
def c4J:Z9:=(QR e7z (QR e8z (QR e9z (Q (Q (.any e2A) (CR 35 e3A)) (Q (.any e4A) (Q (.any e5A) .ret))))))
theorem cZ:ZG prog Gn=some (61,c4J,[.tmp 4]):=by kernel_rfl
@[simp]def e6A:=[wx 2 0,wb 4 false]
@[simp]def e7A:=[yf 14 1 2,wl 15 14,wm 16 1,wi 17 22 15 16,ws 18 17 22,oo 5 (.alloc [zi,zi,zi,zi,zb,zi,zs,zi,zi,zi, .nil 3,zi,zi,zb,zi,zs,zb,zi,zs, .nil 9, .nil 5,zb]),wo 5 18 22]
@[simp]def e8A:VT:=
 Yf 19 3 5<|yl 20 19<|yc 21 .lss 20 0<|ym 22 21<|V (jf 23 22 3 5)<|V (ql 24 22 23)<|V (jf 25 22 0 2)<|V (ql 26 22 25)<|V (Yn 27 22 26)<|V (qt 28 22 .geq 24 27)<|vq 29 22 28<|ym 30 29<|V (jf 31 30 0 2)<|V (ql 32 30 31)<|V (jf 33 30 3 5)<|V (ql 34 30 33)<|V (qi 35 30 1 32 34)<|V (Ws 36 30 35 1)<|V (jf 37 30 11 5)<|V (Ws 38 30 37 9)<|V (X2 39 30 Gb 36 38)<|V (Yu 40 30 39)<|vq 41 30 40<|.done
@[simp]def e9A:=[wb 4 false]
@[simp]def e0B:=[wk 6 0]
@[simp]def e1B:=[wm 42 6,yf 43 20 5,wl 44 43,wn 45 44,wt 46 .lss 42 45]
@[simp]def e2B:=[yf 49 20 5,wl 50 49,wm 51 6,wi 52 5 50 51,ws 53 52 5,oo 7 (.alloc [zb,zi,zs,zi,zi]),wo 7 53 5]
@[simp]def e3B:=[ws 54 2 3,yf 55 3 5,wl 56 55,yf 57 0 7,ws 58 57 3,Y3 59 NT 54 56 58,wm 8 59]
@[simp]def e4B:=[wm 60 8,wu 61 60,wm 62 61,Ws 63 62 2 3,qm 64 62 1,jf 65 62 3 5,ql 66 62 65,jf 67 62 0 7,Ws 68 62 67 3,jf 69 62 3 7,Ws 70 62 69 2,W5 71 62 KY 63 64 66 68 70,Yu 72 62 71,wq 73 62 72]
@[simp]def e5B:=[wb 4 false]
@[simp]def vW:VT:=
 ym 74 6<|yc 75 .gtr 74 0<|ym 76 75<|V (qf 77 76 20 5)<|V (Yl 78 76 77)<|V (Ym 79 76 6)<|V (Yc 80 76 .sub 79 1)<|V (Yi 81 76 5 78 80)<|V (qf 82 76 0 81)<|V (qs 83 76 82 3)<|V (qf 84 76 0 7)<|V (qs 85 76 84 3)<|V (U2 86 76 P5 83 85)<|V (Yc 87 76 .geq 86 0)<|yp 88 76 87<|.done
@[simp]def vV:=[wb 4 false]
@[simp]def vU:=[wm 47 6,wc 48 .add 47 1,wm 6 48]
def JT:Z9:=
 (Q (QR e1B (CX 46 0)) (Q (.block 1 (QR e2B (QR e3B (Q (QR e4B (CR 73 e5B)) (Q (.any vW) (CR 88 vV)))))) (R vU)))
@[simp]def vT:=[wk 9 0]
@[simp]def vS:=[wm 89 9,wm 90 1,wt 91 .lss 89 90]
@[simp]def vR:=[yf 94 1 2,wl 95 94,wm 96 9,wi 97 22 95 96,ws 98 97 22,oo 10 (.alloc [zi,zi,zi,zi,zb,zi,zs,zi,zi,zi, .nil 3,zi,zi,zb,zi,zs,zb,zi,zs, .nil 9, .nil 5,zb]),wo 10 98 22]
@[simp]def vQ:=[yf 99 1 10,wl 100 99,wc 101 .neq 100 3,wm 102 101,jf 103 102 0 10,ql 104 102 103,jf 105 102 0 5,ql 106 102 105,qt 107 102 .neq 104 106,wq 108 102 107,wm 109 108,jf 110 109 3 10,ql 111 109 110,jf 112 109 3 5,ql 113 109 112,qt 114 109 .neq 111 113,wq 115 109 114]
@[simp]def e6B:VT:=
 j5 126 Wa 118 119 121 123 125<|oc 127 (.build [zi,zi] [(0,1,(T 117)),(1,1,(T 126))])<|oc 11 (.alloc [zi,zi])<|V (wo 11 127 2)<|.done
@[simp]def e7B:VT:=
 oc 11 (.alloc [zi,zi])<|j5 126 Wa 118 119 121 123 125<|oc 127 (.build [zi,zi] [(0,1,(T 117)),(1,1,(T 126))])<|V (wo 11 127 2)<|.done
@[simp]def e8B:VT:=
 yl 117 116<|.alt (e6B) (e7B)
@[simp]def e9B:VT:=
 j5 126 Wa 118 119 121 123 125<|yl 117 116<|oc 127 (.build [zi,zi] [(0,1,(T 117)),(1,1,(T 126))])<|oc 11 (.alloc [zi,zi])<|V (wo 11 127 2)<|.done
@[simp]def e0C:VT:=
 yl 117 116<|j5 126 Wa 118 119 121 123 125<|oc 127 (.build [zi,zi] [(0,1,(T 117)),(1,1,(T 126))])<|V (wo 11 127 2)<|.done
@[simp]def e1C:VT:=
 j5 126 Wa 118 119 121 123 125<|yl 117 116<|oc 127 (.build [zi,zi] [(0,1,(T 117)),(1,1,(T 126))])<|V (wo 11 127 2)<|.done
@[simp]def e2C:VT:=
 oc 11 (.alloc [zi,zi])<|.alt (e0C) (e1C)
@[simp]def vP:VT:=
 Yf 116 0 5<|Ys 118 2 3<|ym 119 1<|Yf 120 0 5<|yl 121 120<|Yf 122 3 5<|yl 123 122<|Yf 124 4 10<|Ys 125 124 3<|.alt (e8B) (.alt (e9B) (e2C))
@[simp]def vO:=[wb 12 false]
@[simp]def vN:=[wk 13 0]
@[simp]def vM:=[wm 128 13,yf 129 20 5,wl 130 129,wn 131 130,wt 132 .lss 128 131]
@[simp]def vL:VT:=
 ym 135 12<|ym 136 135<|V (jf 137 136 20 5)<|V (ql 138 136 137)<|V (qm 139 136 13)<|V (qi 140 136 5 138 139)<|V (jf 141 136 0 140)<|V (Ws 142 136 141 3)<|V (jf 143 136 4 10)<|V (Ws 144 136 143 3)<|V (og 145 136 false (.eqs false [.b, .i .i64, .s] (T 142) (T 144)))<|V (qm 146 136 145)<|V (qf 147 146 20 5)<|V (Yl 148 146 147)<|V (Ym 149 146 13)<|V (Yi 150 146 5 148 149)<|V (qf 151 146 3 150)<|V (qs 152 146 151 2)<|V (qs 153 146 11 2)<|V (og 154 146 true (.eqs false [.i .i64, .i .i64] (T 152) (T 153)))<|V (qp 155 136 146 154)<|vq 156 136 155<|ym 12 156<|.done
@[simp]def vK:=[wm 133 13,wc 134 .add 133 1,wm 13 134]
def JR:Z9:=
 (Q (QR vM (CX 132 4)) (Q (.block 5 (.any vL)) (R vK)))
@[simp]def vJ:=[wm 157 12,wu 158 157]
@[simp]def vI:=[wb 4 false]
@[simp]def vH:=[wm 92 9,wc 93 .add 92 1,wm 9 93]
def JS:Z9:=
 (Q (QR vS (CX 91 2)) (Q (.block 3 (QR vR (Q (QR vQ (CT 115 (.exit 3) .skip)) (Q (.any vP) (QR vO (Q (QR vN (.block 4 (.loop JR))) (QR vJ (CR 158 vI)))))))) (R vH)))
@[simp]def vG:=[wb 4 true]
def c5J:Z9:=(QR e6A (QR e7A (Q (Q (.any e8A) (CR 41 e9A)) (Q (QR e0B (.block 0 (.loop JT))) (Q (QR vT (.block 2 (.loop JS))) (QR vG .ret))))))
theorem cX:ZG prog Gm=some (159,c5J,[.tmp 4]):=by kernel_rfl
@[simp]def e3C:=[wk 4 0]
@[simp]def e4C:=[wm 5 0,oo 6 (.peq false (T 5) (.const (.pointer none)))]
@[simp]def e5C:=[wk 4 0]
@[simp]def e6C:=[wm 7 0,wh 8 7,yf 9 0 8,wl 10 9,wm 11 1,oo 12 (.UE (false,[.i .i64],false) [zi] (T 10) (T 11) false),wm 4 12]
def a4d:Z9:=(QR e3C (Q (QR e4C (CR 6 e5C)) (QR e6C .ret)))
theorem lK:ZG prog YY=some (13,a4d,[.tmp 4]):=by kernel_rfl
@[simp]def e7C:=[wx 2 0,wb 3 false]
@[simp]def e8C:=[wl 4 1,ws 5 2 22,Y2 6 GK 4 5,wm 7 6,Yl 8 7 1,qs 9 7 2 22,U2 10 7 Gi 8 9,wp 11 7 10,wm 12 11,Yl 13 12 1,qs 14 12 2 22,U2 15 12 Gh 13 14,wp 16 12 15,wm 17 16,Yl 18 17 1,qs 19 17 2 22,U2 20 17 GJ 18 19,wp 21 17 20,wm 3 21]
def a5d:Z9:=(QR e7C (QR e8C .ret))
theorem kH:ZG prog RA=some (22,a5d,[.tmp 3]):=by kernel_rfl
@[simp]def e9C:=[wx 3 1,wb 4 false]
@[simp]def e0D:=[yf 6 0 3,wl 7 6,wc 8 .lss 7 1,wm 9 8,jf 10 9 1 3,ql 11 9 10,qc 12 9 .lss 11 1,wq 13 9 12,wm 14 13,jf 15 14 1 3,ql 16 14 15,qc 17 14 .gtr 16 6,wq 18 14 17]
@[simp]def e1D:=[wb 4 false]
@[simp]def e2D:VT:=
 ym 19 0<|vh 20 19<|Yf 21 3 20<|yl 22 21<|Yf 23 0 3<|yl 24 23<|oc 25 (.UE (false,[.i .i64],false) [zi] (T 22) (T 24) false)<|ym 5 25<|.done
@[simp]def e3D:=[yf 26 1 3,wl 27 26,wc 28 .eql 27 1]
@[simp]def e4D:=[wm 29 5,wc 30 .neq 29 0,wm 31 30,jf 32 31 2 3,ql 33 31 32,qc 34 31 .lss 33 1,wq 35 31 34,wm 36 35,jf 37 36 2 3,ql 38 36 37,qc 39 36 .gtr 38 5,wq 40 36 39]
@[simp]def e5D:=[wb 4 false]
@[simp]def e6D:VT:=
 ym 41 0<|vh 42 41<|Yf 43 3 42<|yl 44 43<|Yf 45 0 3<|yl 46 45<|Yf 47 1 3<|yl 48 47<|.op (on (.Yy (false,[.i .i64],false) (T 44) (T 46) (T 48)))<|.done
@[simp]def e7D:=[wb 4 true]
@[simp]def e8D:=[wm 49 5,wc 50 .neq 49 1]
@[simp]def vF:=[wb 4 false]
@[simp]def vE:=[yf 51 1 3,wl 52 51,wc 53 .eql 52 5,wm 54 53,jf 55 54 1 3,ql 56 54 55,qc 57 54 .eql 56 6,wq 58 54 57]
@[simp]def vD:VT:=
 ym 59 0<|vh 60 59<|Yf 61 3 60<|yl 62 61<|Yf 63 0 3<|yl 64 63<|Yf 65 1 3<|yl 66 65<|.op (on (.Yy (false,[.i .i64],false) (T 62) (T 64) (T 66)))<|.done
@[simp]def vC:=[wb 4 true]
def WH:Z9:=(QR e9C (Q (QR e0D (CR 18 e1D)) (Q (.any e2D) (Q (QR e3D (CT 28 (Q (QR e4D (CR 40 e5D)) (Q (.any e6D) (QR e7D .ret))) .skip)) (Q (QR e8D (CR 50 vF)) (Q (QR vE (CT 58 (.any vD) .skip)) (QR vC .ret)))))))
theorem mA:ZG prog GK=some (67,WH,[.tmp 4]):=by kernel_rfl
@[simp]def e9D:=[wx 3 1,wb 4 false]
@[simp]def e0E:=[yf 7 1 3,wl 8 7,wc 9 .neq 8 2]
@[simp]def e1E:=[wb 4 true]
@[simp]def e2E:=[yf 10 3 3,wl 11 10,yf 12 4 3,ws 13 12 3,oo 14 (.build [zi,zb,zi,zs] [(0,1,(T 11)),(1,3,(T 13))]),oo 5 (.alloc [zi,zb,zi,zs]),wo 5 14 4]
@[simp]def e3E:VT:=
 ym 15 0<|vh 16 15<|Yf 17 4 16<|yl 18 17<|Yf 19 0 3<|yl 20 19<|Ys 21 5 4<|oc 22 (.build [zi,zi,zb,zi,zs] [(0,1,(T 20)),(1,4,(T 21))])<|oc 23 (.UE (true,[.i .i64, .i .i64, .b, .i .i64, .s],false) [zi] (T 18) (T 22) false)<|ym 6 23<|.done
@[simp]def e4E:=[wm 24 6,wc 25 .gtr 24 0]
@[simp]def e5E:=[wm 26 0,yf 27 3 3,wl 28 27,yf 29 4 3,ws 30 29 3,Y3 31 P4 26 28 30,wm 32 31,qf 33 32 7 3,qs 34 32 33 2,qf 35 32 0 3,Yl 36 32 35,Ym 37 32 6,og 38 32 true (.build [zi,zi] [(0,1,(T 36)),(1,1,(T 37))]),og 39 32 true (.eqs false [.i .i64, .i .i64] (T 34) (T 38)),wp 40 32 39,wm 4 40]
@[simp]def e6E:=[wm 41 0,yf 42 3 3,wl 43 42,yf 44 4 3,ws 45 44 3,Y3 46 P4 41 43 45,wm 47 46,qf 48 47 7 3,qs 49 47 48 2,og 50 47 true (.build [zi,zi] []),og 51 47 true (.eqs false [.i .i64, .i .i64] (T 49) (T 50)),Ym 52 47 51,qm 53 52 0,Ws 54 52 5 4,jf 55 52 7 3,Ws 56 52 55 2,U3 57 52 KW 53 54 56,yq 58 47 52 57,wp 59 47 58,wm 4 59]
def TI:Z9:=(QR e9D (Q (QR e0E (CR 9 e1E)) (QR e2E (Q (Q (.any e3E) (QR e4E (CR 25 e5E))) (QR e6E .ret)))))
theorem lu:ZG prog Gi=some (60,TI,[.tmp 4]):=by kernel_rfl
@[simp]def e7E:=[wx 3 1,wb 4 false]
@[simp]def e8E:=[yf 11 1 3,wl 12 11,wc 13 .neq 12 4]
@[simp]def e9E:=[wb 4 true]
@[simp]def e0F:VT:=
 Yf 14 3 3<|yl 15 14<|yc 16 .lss 15 0<|ym 17 16<|V (jf 18 17 3 3)<|V (ql 19 17 18)<|V (qm 20 17 0)<|V (Yh 21 17 20)<|V (jf 22 17 0 21)<|V (jf 23 17 0 22)<|V (ql 24 17 23)<|V (Yn 25 17 24)<|V (qt 26 17 .geq 19 25)<|vq 27 17 26<|ym 28 27<|V (qm 29 28 0)<|V (Yh 30 28 29)<|V (jf 31 28 0 30)<|V (jf 32 28 0 31)<|V (ql 33 28 32)<|V (jf 34 28 3 3)<|V (ql 35 28 34)<|V (qi 36 28 1 33 35)<|V (Ws 37 28 36 1)<|V (jf 38 28 11 3)<|V (Ws 39 28 38 9)<|V (X2 40 28 F9 37 39)<|V (qc 41 28 .neq 40 0)<|vq 42 28 41<|.done
@[simp]def e1F:=[wb 4 false]
@[simp]def e2F:=[oo 43 (.XB (true,[.i .i64, .b, .i .i64, .s],true)),wm 5 43]
@[simp]def e3F:=[yf 44 20 3,wl 45 44,wn 46 45,wk 47 0]
@[simp]def e4F:=[wt 48 .lss 47 46]
@[simp]def e5F:=[wm 49 47,wi 50 5 45 47,ws 51 50 5,oo 7 (.alloc [zb,zi,zs,zi,zi]),wm 6 49,wo 7 51 5]
@[simp]def e6F:=[yf 52 3 3,wl 53 52,yf 54 0 7,ws 55 54 3,oo 56 (.build [zi,zb,zi,zs] [(0,1,(T 53)),(1,3,(T 55))]),oo 8 (.alloc [zi,zb,zi,zs]),wo 8 56 4]
@[simp]def vB:VT:=
 ym 57 0<|Yf 58 3 3<|yl 59 58<|Yf 60 0 7<|Ys 61 60 3<|W3 62 P4 57 59 61<|vu 63 62<|ym 64 63<|V (qm 65 64 0)<|V (Ws 66 64 8 4)<|V (jf 67 64 3 7)<|V (Ws 68 64 67 2)<|V (U3 69 64 KW 65 66 68)<|V (Yu 70 64 69)<|vq 71 64 70<|ym 72 71<|V (qm 73 72 6)<|V (qc 74 72 .gtr 73 0)<|V (qm 75 72 74)<|V (qf 76 75 20 3)<|V (Yl 77 75 76)<|V (Ym 78 75 6)<|V (Yc 79 75 .sub 78 1)<|V (Yi 80 75 5 77 79)<|V (qf 81 75 0 80)<|V (qs 82 75 81 3)<|V (qf 83 75 0 7)<|V (qs 84 75 83 3)<|V (U2 85 75 P9 82 84)<|V (Yc 86 75 .geq 85 0)<|V (qp 87 72 75 86)<|vq 88 72 87<|.done
@[simp]def vA:=[wb 4 false]
@[simp]def vz:=[wm 89 5,ws 90 8 4,yf 91 3 7,ws 92 91 2,on (.Yy (true,[.i .i64, .b, .i .i64, .s],true) (T 89) (T 90) (T 92))]
@[simp]def vy:=[wc 93 .add 47 1,wm 47 93]
def Ku:Z9:=
 (QR e4F (Q (CX 48 0) (Q (.block 1 (QR e5F (QR e6F (Q (Q (.any vB) (CR 88 vA)) (R vz))))) (R vy))))
@[simp]def vw:VT:=
 ym 94 0<|vh 95 94<|Yf 96 5 95<|yl 97 96<|Yf 98 0 3<|yl 99 98<|oc 100 (.UE (false,[.i .i64],false) [.nil 4] (T 97) (T 99) false)<|vn 101 100<|vk 102 0<|.done
@[simp]def vv:=[wt 103 .lss 102 101]
@[simp]def vj:=[wi 104 4 100 102,ws 105 104 4,oo 10 (.alloc [zi,zb,zi,zs]),wo 10 105 4]
@[simp]def vg:VT:=
 Yf 106 0 10<|yl 107 106<|Yf 108 3 3<|yl 109 108<|vt 110 .eql 107 109<|ym 111 110<|V (Ym 112 111 5)<|V (qs 113 111 10 4)<|V (og 114 111 true (.UE (true,[.i .i64, .b, .i .i64, .s],true) [zi,zi] (T 112) (T 113) false))<|V (qf 115 111 0 3)<|V (Yl 116 111 115)<|V (Ym 117 111 0)<|V (yh 118 111 117)<|V (qf 119 111 4 118)<|V (Yl 120 111 119)<|V (qf 121 111 0 3)<|V (Yl 122 111 121)<|V (qs 123 111 10 4)<|V (og 124 111 true (.build [zi,zi,zb,zi,zs] [(0,1,(T 122)),(1,4,(T 123))]))<|V (og 125 111 true (.UE (true,[.i .i64, .i .i64, .b, .i .i64, .s],false) [zi] (T 120) (T 124) false))<|V (og 126 111 true (.build [zi,zi] [(0,1,(T 116)),(1,1,(T 125))]))<|V (og 127 111 true (.eqs true [.i .i64, .i .i64] (T 114) (T 126)))<|yp 128 111 127<|.done
@[simp]def vd:=[wb 4 false]
@[simp]def va:=[wc 129 .add 102 1,wm 102 129]
def Pv:Z9:=
 (QR vv (Q (CX 103 2) (Q (.block 3 (QR vj (Q (.any vg) (CR 128 vd)))) (R va))))
@[simp]def u7:=[wb 4 true]
def TH:Z9:=(QR e7E (Q (QR e8E (CR 13 e9E)) (Q (Q (.any e0F) (CR 42 e1F)) (QR e2F (Q (QR e3F (.block 0 (.loop Ku))) (Q (Q (.any vw) (.block 2 (.loop Pv))) (QR u7 .ret)))))))
theorem lr:ZG prog Gh=some (130,TH,[.tmp 4]):=by kernel_rfl
@[simp]def e7F:=[wx 3 1,wb 4 false]
@[simp]def e8F:=[yf 7 1 3,wl 8 7,wc 9 .neq 8 3]
@[simp]def e9F:=[wb 4 true]
@[simp]def e0G:=[yf 10 3 3,wl 11 10,yf 12 4 3,ws 13 12 3,oo 14 (.build [zi,zb,zi,zs] [(0,1,(T 11)),(1,3,(T 13))]),oo 5 (.alloc [zi,zb,zi,zs]),wo 5 14 4]
@[simp]def e1G:=[yf 15 0 3,wl 16 15,ws 17 5 4,oo 18 (.build [zi,zi,zb,zi,zs] [(0,1,(T 16)),(1,4,(T 17))]),oo 6 (.alloc [zi,zi,zb,zi,zs]),wo 6 18 5]
@[simp]def e2G:VT:=
 ym 19 0<|Yf 20 3 3<|yl 21 20<|Yf 22 4 3<|Ys 23 22 3<|W3 24 P4 19 21 23<|vu 25 24<|ym 26 25<|V (jf 27 26 9 3)<|V (ql 28 26 27)<|V (qm 29 26 0)<|V (Yh 30 26 29)<|V (jf 31 26 4 30)<|V (ql 32 26 31)<|V (Ws 33 26 6 5)<|V (og 34 26 false (.UE (true,[.i .i64, .i .i64, .b, .i .i64, .s],false) [zi] (T 32) (T 33) false))<|V (qc 35 26 .add 34 1)<|V (qt 36 26 .neq 28 35)<|vq 37 26 36<|.done
@[simp]def e3G:=[wb 4 false]
@[simp]def e4G:=[yf 38 9 3,wl 39 38,wc 40 .eql 39 1]
@[simp]def e5G:VT:=
 yl 46 45<|oc 55 (.lit 4 1 [(0,(T 54))])<|oc 56 (.app 4 40 (T 53) (T 55))<|.op (on (.Yy (false,[.i .i64],false) (T 44) (T 46) (T 56)))<|.done
@[simp]def Em:VT:=
 yl 46 45<|oc 56 (.app 4 40 (T 53) (T 55))<|.op (on (.Yy (false,[.i .i64],false) (T 44) (T 46) (T 56)))<|.done
@[simp]def El:VT:=
 oc 56 (.app 4 40 (T 53) (T 55))<|yl 46 45<|.op (on (.Yy (false,[.i .i64],false) (T 44) (T 46) (T 56)))<|.done
@[simp]def e6G:VT:=
 oc 55 (.lit 4 1 [(0,(T 54))])<|.alt (Em) (El)
@[simp]def e7G:VT:=
 yl 44 43<|.alt (e5G) (e6G)
@[simp]def e8G:VT:=
 yl 44 43<|oc 55 (.lit 4 1 [(0,(T 54))])<|oc 56 (.app 4 40 (T 53) (T 55))<|.op (on (.Yy (false,[.i .i64],false) (T 44) (T 46) (T 56)))<|.done
@[simp]def Ek:VT:=
 yl 44 43<|oc 56 (.app 4 40 (T 53) (T 55))<|.op (on (.Yy (false,[.i .i64],false) (T 44) (T 46) (T 56)))<|.done
@[simp]def Ej:VT:=
 oc 56 (.app 4 40 (T 53) (T 55))<|yl 44 43<|.op (on (.Yy (false,[.i .i64],false) (T 44) (T 46) (T 56)))<|.done
@[simp]def e9G:VT:=
 oc 55 (.lit 4 1 [(0,(T 54))])<|.alt (Ek) (Ej)
@[simp]def e0H:VT:=
 yl 46 45<|.alt (e8G) (e9G)
@[simp]def u6:VT:=
 yl 44 43<|.alt (Em) (El)
@[simp]def u0:VT:=
 yl 46 45<|.alt (Ek) (Ej)
@[simp]def uZ:VT:=
 oc 56 (.app 4 40 (T 53) (T 55))<|yl 44 43<|yl 46 45<|.op (on (.Yy (false,[.i .i64],false) (T 44) (T 46) (T 56)))<|.done
@[simp]def uY:VT:=
 oc 55 (.lit 4 1 [(0,(T 54))])<|.alt (u6) (.alt (u0) (uZ))
@[simp]def e1H:VT:=
 ym 41 0<|vh 42 41<|Yf 43 5 42<|Yf 45 0 3<|ym 47 0<|vh 48 47<|Yf 49 5 48<|yl 50 49<|Yf 51 0 3<|yl 52 51<|oc 53 (.UE (false,[.i .i64],false) [.nil 4] (T 50) (T 52) false)<|Ys 54 5 4<|.alt (e7G) (.alt (e0H) (uY))
@[simp]def e2H:VT:=
 ym 57 0<|vh 58 57<|Yf 59 4 58<|yl 60 59<|Ys 61 6 5<|Yf 62 9 3<|yl 63 62<|.op (on (.Yy (true,[.i .i64, .i .i64, .b, .i .i64, .s],false) (T 60) (T 61) (T 63)))<|.done
@[simp]def uX:VT:=
 Yf 64 10 3<|yl 65 64<|vn 66 65<|yc 67 .eql 66 0<|ym 68 67<|V (qm 69 68 0)<|V (Yh 70 68 69)<|V (jf 71 68 0 70)<|V (jf 72 68 0 71)<|V (ql 73 68 72)<|V (jf 74 68 3 3)<|V (ql 75 68 74)<|V (qi 76 68 1 73 75)<|V (Ws 77 68 76 1)<|V (jf 78 68 10 3)<|V (ql 79 68 78)<|V (X2 80 68 F8 77 79)<|V (qm 81 68 80)<|V (qf 82 81 10 3)<|V (Yl 83 81 82)<|V (og 84 81 true (.ia 3 (T 83) (K 0)))<|V (qs 85 81 84 3)<|V (qf 86 81 4 3)<|V (qs 87 81 86 3)<|V (og 88 81 true (.eqs false [.b, .i .i64, .s] (T 85) (T 87)))<|V (qp 89 68 81 88)<|vq 90 68 89<|ym 4 90<|.done
def Ti:Z9:=(QR e7F (Q (QR e8F (CR 9 e9F)) (QR e0G (QR e1G (Q (Q (.any e2G) (CR 37 e3G)) (Q (QR e4G (CT 40 (.any e1H) .skip)) (Q (.any e2H) (Q (.any uX) .ret))))))))
theorem mz:ZG prog GJ=some (91,Ti,[.tmp 4]):=by kernel_rfl
@[simp]def e3H:=[wb 2 false]
@[simp]def e4H:=[oo 15 (.XB (true,[.i .i64, .i .i64, .b, .i .i64, .s],false)),wm 3 15]
@[simp]def e5H:=[wm 16 0,wh 17 16,yf 18 5 17,wl 19 18,oo 20 (.QB (false,[.i .i64],false) (T 19))]
@[simp]def e6H:=[oo 21 (.nxt (T 20)),we 22 0 21]
@[simp]def e7H:=[oo 23 (.SK (T 20)),we 24 0 23,we 25 1 23,wm 4 24,wm 5 25]
@[simp]def e8H:=[wm 26 0,wh 27 26,yf 28 3 27,wl 29 28,wm 30 4,oo 31 (.UE (false,[.i .i64],false) [zi] (T 29) (T 30) false),wc 32 .eql 31 5]
@[simp]def e9H:=[wm 33 5,wn 34 33,wk 35 0]
@[simp]def e0I:=[wt 36 .lss 35 34]
@[simp]def e1I:=[wi 37 4 33 35,ws 38 37 4,oo 7 (.alloc [zi,zb,zi,zs]),wo 7 38 4]
@[simp]def e2I:=[wm 39 3,wm 40 4,ws 41 7 4,oo 42 (.build [zi,zi,zb,zi,zs] [(0,1,(T 40)),(1,4,(T 41))]),on (.Yy (true,[.i .i64, .i .i64, .b, .i .i64, .s],false) (T 39) (T 42) (K 1))]
@[simp]def uW:=[wc 43 .add 35 1,wm 35 43]
def Ji:Z9:=
 (QR e0I (Q (CX 36 2) (Q (.block 3 (QR e1I (R e2I))) (R uW))))
def Jh:Z9:=
 (QR e6H (Q (CX 22 0) (.block 1 (QR e7H (QR e8H (CT 32 (QR e9H (.block 2 (.loop Ji))) .skip))))))
@[simp]def uV:=[oo 44 (.XB (true,[.i .i64, .b, .i .i64, .s],false)),wm 8 44]
@[simp]def uU:=[wm 45 0,wh 46 45,yf 47 0 46,yf 48 2 47,wl 49 48,wn 50 49,wk 51 0]
@[simp]def uT:=[wt 52 .lss 51 50]
@[simp]def uS:=[wi 53 5 49 51,ws 54 53 5,oo 10 (.alloc [zi,zb,zi,zs, .nil 1]),wo 10 54 5]
@[simp]def uR:=[yf 55 0 10,wl 56 55,yf 57 1 10,ws 58 57 3,oo 59 (.build [zi,zb,zi,zs] [(0,1,(T 56)),(1,3,(T 58))]),oo 11 (.alloc [zi,zb,zi,zs]),wo 11 59 4]
@[simp]def e3I:VT:=
 oc 62 (.UE (true,[.i .i64, .b, .i .i64, .s],false) [zi] (T 60) (T 61) false)<|yc 63 .add 62 1<|oc 64 (.IC (true,[.i .i64, .b, .i .i64, .s],false) [zi] (T 60) (T 61))<|ve 65 1 64<|.op (on (.est (T 60) (T 65) (T 63)))<|.done
@[simp]def e4I:VT:=
 oc 64 (.IC (true,[.i .i64, .b, .i .i64, .s],false) [zi] (T 60) (T 61))<|oc 62 (.UE (true,[.i .i64, .b, .i .i64, .s],false) [zi] (T 60) (T 61) false)<|yc 63 .add 62 1<|ve 65 1 64<|.op (on (.est (T 60) (T 65) (T 63)))<|.done
@[simp]def uQ:VT:=
 ym 60 8<|Ys 61 11 4<|.alt (e3I) (e4I)
@[simp]def uP:=[wm 66 8,ws 67 11 4,oo 68 (.UE (true,[.i .i64, .b, .i .i64, .s],false) [zi] (T 66) (T 67) false),wc 69 .gtr 68 1,wm 70 69,jf 71 70 4 10,ql 72 70 71,Yn 73 70 72,qc 74 70 .eql 73 0,wq 75 70 74]
@[simp]def uO:=[wb 2 false]
@[simp]def uN:=[yf 76 4 10,wl 77 76,wn 78 77,wk 79 0]
@[simp]def uM:=[wt 80 .lss 79 78]
@[simp]def uL:=[wi 81 1 77 79,wl 82 81,wm 13 82]
@[simp]def uK:=[wm 83 13,ws 84 11 4,oo 85 (.build [zi,zi,zb,zi,zs] [(0,1,(T 83)),(1,4,(T 84))]),oo 14 (.alloc [zi,zi,zb,zi,zs]),wo 14 85 5]
@[simp]def uJ:=[wm 86 3,ws 87 14 5,oo 88 (.UE (true,[.i .i64, .i .i64, .b, .i .i64, .s],false) [zi] (T 86) (T 87) false),wc 89 .eql 88 0]
@[simp]def uI:=[wb 2 false]
@[simp]def uH:=[wm 90 3,ws 91 14 5,on (.FY (true,[.i .i64, .i .i64, .b, .i .i64, .s],false) (T 90) (T 91))]
@[simp]def uG:=[wc 92 .add 79 1,wm 79 92]
def Jg:Z9:=
 (QR uM (Q (CX 80 6) (Q (.block 7 (QR uL (QR uK (Q (QR uJ (CR 89 uI)) (R uH))))) (R uG))))
@[simp]def uF:=[wc 93 .add 51 1,wm 51 93]
def Jf:Z9:=
 (QR uT (Q (CX 52 4) (Q (.block 5 (QR uS (QR uR (Q (.any uQ) (Q (QR uP (CR 75 uO)) (QR uN (.block 6 (.loop Jg)))))))) (R uF))))
@[simp]def uE:=[wm 94 3,oo 95 (.FX (T 94)),wc 96 .eql 95 0,wm 2 96]
def PU:Z9:=(QR e3H (QR e4H (Q (QR e5H (.block 0 (.loop Jh))) (QR uV (Q (QR uU (.block 4 (.loop Jf))) (QR uE .ret))))))
theorem e5I:ZG prog P7=some (97,PU,[.tmp 2]):=by kernel_rfl
@[simp]def e6I:=[wx 1 0,wk 2 0]
@[simp]def e7I:=[yf 3 0 1,wl 4 3,wn 5 4,wc 6 .lss 5 1,wm 7 6,jf 8 7 0 1,ql 9 7 8,Yn 10 7 9,qc 11 7 .gtr 10 4,wq 12 7 11]
@[simp]def e8I:=[wk 2 1]
@[simp]def e9I:=[wk 2 0]
def a2e:Z9:=(QR e6I (Q (QR e7I (CR 12 e8I)) (QR e9I .ret)))
theorem e0J:ZG prog NV=some (13,a2e,[.tmp 2]):=by kernel_rfl
@[simp]def e1J:=[wz 2 3]
@[simp]def e2J:=[wm 3 0,oo 4 (.PG false (T 3))]
@[simp]def e3J:=[wz 2 3]
@[simp]def e4J:=[oo 5 (.lit 3 0 []),wm 6 0,oo 7 (.app 3 32 (T 5) (T 6)),wm 2 7]
def a3e:Z9:=(QR e1J (Q (QR e2J (CR 4 e3J)) (QR e4J .ret)))
theorem l5:ZG prog Gg=some (8,a3e,[.tmp 2]):=by kernel_rfl
@[simp]def e5J:=[wk 4 0]
@[simp]def e6J:=[wm 6 0,wn 7 6,wk 8 0]
@[simp]def e7J:=[wt 9 .lss 8 7]
@[simp]def e8J:=[wm 10 8,wm 5 10]
@[simp]def e9J:=[wm 11 1,wm 12 0,wm 13 5,wi 14 2 12 13,ws 15 14 2,oo 16 (.Zc (T 11) [(T 15)])]
@[simp]def e0K:=[wm 17 5,wm 4 17]
@[simp]def e1K:=[wc 18 .add 8 1,wm 8 18]
def Fz:Z9:=
 (QR e7J (Q (CX 9 0) (Q (.block 1 (QR e8J (QR e9J (CR 16 e0K)))) (R e1K))))
@[simp]def e2K:=[wk 4 (-1)]
def a4e:Z9:=(QR e5J (Q (QR e6J (.block 0 (.loop Fz))) (QR e2K .ret)))
theorem lE:ZG prog Gf=some (19,a4e,[.tmp 4]):=by kernel_rfl
@[simp]def e3K:=[wx 5 2,wz 6 2]
@[simp]def e4K:VT:=
 ym 10 0<|vh 11 10<|Yf 12 4 11<|yl 13 12<|ym 14 1<|Ys 15 5 3<|oc 16 (.build [zi,zb,zi,zs] [(0,1,(T 14)),(1,3,(T 15))])<|oc 17 (.UE (true,[.i .i64, .b, .i .i64, .s],false) [.nil 2] (T 13) (T 16) true)<|ym 9 17<|ve 18 0 9<|ve 19 1 9<|ym 7 18<|ym 8 19<|.done
@[simp]def e5K:=[wm 20 8,wu 21 20]
@[simp]def e6K:=[oo 22 (.build [zi,zi] []),oo 23 (.lit 2 1 [(0,(T 22))]),wm 6 23]
@[simp]def e7K:=[wm 24 7,wm 6 24]
def PY:Z9:=(QR e3K (Q (.any e4K) (Q (QR e5K (CR 21 e6K)) (QR e7K .ret))))
theorem lH:ZG prog NU=some (25,PY,[.tmp 6]):=by kernel_rfl
@[simp]def e8K:=[wx 2 0,wb 3 false]
@[simp]def e9K:=[yf 4 0 2,wl 5 4,yf 6 0 1,wl 7 6,wt 8 .eql 5 7,wm 3 8]
def a7e:Z9:=(QR e8K (QR e9K .ret))
theorem lF:ZG prog P6=some (9,a7e,[.tmp 3]):=by kernel_rfl
@[simp]def e0L:=[wx 5 0,wb 6 false]
@[simp]def e1L:=[wl 10 1,wl 11 2,ws 12 3 3,ws 13 5 2,Y4 14 N5 10 11 12 13,wm 9 14,we 15 0 9,we 16 1 9,wm 7 15,wm 8 16]
@[simp]def e2L:=[wm 17 7,wn 18 17,wc 19 .gtr 18 0,wm 20 19,qs 21 20 4 9,Ym 22 20 7,U2 23 20 K0 21 22,wp 24 20 23,wm 6 24]
def a8e:Z9:=(QR e0L (QR e1L (QR e2L .ret)))
theorem ly:ZG prog K3=some (25,a8e,[.tmp 6]):=by kernel_rfl
@[simp]def e3L:=[wx 2 0,wx 3 1,wb 4 false]
@[simp]def e4L:=[oo 6 (.VO SM [] [(T 3)]),oo 5 (.alloc [.iv (.v .nilFunc)]),wo 5 6 1]
@[simp]def e5L:=[yf 7 0 2,wl 8 7]
@[simp]def e6L:=[wc 10 .eql 8 1,wm 9 10]
@[simp]def e7L:=[wb 4 true]
@[simp]def e8L:=[wc 12 .eql 8 3,wm 11 12]
@[simp]def e9L:=[wc 13 .eql 8 4,wm 11 13]
@[simp]def e0M:=[wc 14 .eql 8 5,wm 11 14]
@[simp]def e1M:=[wc 15 .eql 8 6,wm 11 15]
@[simp]def e2M:=[wc 16 .eql 8 7,wm 11 16]
@[simp]def uD:=[wc 17 .eql 8 8,wm 11 17]
@[simp]def uC:=[wc 18 .eql 8 9,wm 11 18]
@[simp]def uB:=[ws 19 2 9,wl 20 3,Y2 21 F7 19 20,wm 4 21]
@[simp]def uA:=[wc 23 .eql 8 10,wm 22 23]
@[simp]def uz:VT:=
 Yf 24 8 2<|yl 25 24<|vn 26 25<|yc 27 .eql 26 0<|ym 28 27<|V (ql 29 28 5)<|V (jf 30 28 8 2)<|V (ql 31 28 30)<|V (og 32 28 false (.ia 9 (T 31) (K 0)))<|V (Ws 33 28 32 9)<|V (og 34 28 false (.Zc (T 29) [(T 33)]))<|V (Yu 35 28 34)<|vq 36 28 35<|ym 4 36<|.done
@[simp]def uy:=[wc 38 .eql 8 11,wm 37 38]
@[simp]def ux:=[yf 39 8 2,wl 40 39,oo 41 (.VO SL [] [(T 5)]),Y2 42 P3 40 41,wu 43 42,wm 4 43]
@[simp]def uw:=[wc 45 .eql 8 12,wm 44 45]
@[simp]def uv:=[yf 46 8 2,wl 47 46,wl 48 5,Y2 49 P3 47 48,wm 4 49]
@[simp]def uu:=[wb 4 false]
def a9e:Z9:=(QR e3L (QR e4L (Q (QR e5L (.block 0 (QR e6L (CT 9 (QR e7L .ret) (Q (QR e8L (CT 11 .skip (QR e9L (CT 11 .skip (QR e0M (CT 11 .skip (QR e1M (CT 11 .skip (QR e2M (CT 11 .skip (QR uD (CT 11 .skip (R uC))))))))))))) (CT 11 (QR uB .ret) (QR uA (CT 22 (Q (.any uz) .ret) (QR uy (CT 37 (QR ux .ret) (QR uw (CR 44 uv)))))))))))) (QR uu .ret))))
theorem e3M:ZG prog K0=some (50,a9e,[.tmp 4]):=by kernel_rfl
@[simp]def e4M:=[wk 4 0]
@[simp]def e5M:=[wm 7 0,Y1 8 KV 7,wm 5 8]
@[simp]def e6M:=[wm 9 1,Y1 10 KV 9,wm 6 10]
@[simp]def e7M:=[wm 11 5]
@[simp]def e8M:=[wm 12 6]
@[simp]def e9M:=[wk 4 0]
@[simp]def e0N:=[wk 4 (-1)]
@[simp]def e1N:=[wm 13 6]
@[simp]def e2N:=[wk 4 1]
@[simp]def e3N:=[wm 14 0,wm 15 1,wt 16 .lss 14 15]
@[simp]def ur:=[wk 4 (-1)]
@[simp]def uo:=[wm 17 0,wm 18 1,wt 19 .gtr 17 18]
@[simp]def um:=[wk 4 1]
@[simp]def uk:=[wk 4 0]
def Ro:Z9:=(QR e4M (QR e5M (QR e6M (Q (QR e7M (CT 11 (Q (QR e8M (CR 12 e9M)) (QR e0N .ret)) .skip)) (Q (QR e1N (CR 13 e2N)) (Q (QR e3N (CR 16 ur)) (Q (QR uo (CR 19 um)) (QR uk .ret))))))))
theorem lU:ZG prog Ge=some (20,Ro,[.tmp 4]):=by kernel_rfl
@[simp]def e4N:=[wk 4 0]
@[simp]def e5N:=[wm 7 0,Y1 8 KU 7,wm 5 8]
@[simp]def e6N:=[wm 9 1,Y1 10 KU 9,wm 6 10]
@[simp]def e7N:=[wm 11 5]
@[simp]def e8N:=[wm 12 6]
@[simp]def e9N:=[wk 4 0]
@[simp]def e0O:=[wk 4 (-1)]
@[simp]def e1O:=[wm 13 6]
@[simp]def e2O:=[wk 4 1]
@[simp]def e3O:=[wm 14 0,wm 15 1,wt 16 .lss 14 15]
@[simp]def uj:=[wk 4 (-1)]
@[simp]def ui:=[wm 17 0,wm 18 1,wt 19 .gtr 17 18]
@[simp]def uh:=[wk 4 1]
@[simp]def ug:=[wk 4 0]
def P1:Z9:=(QR e4N (QR e5N (QR e6N (Q (QR e7N (CT 11 (Q (QR e8N (CR 12 e9N)) (QR e0O .ret)) .skip)) (Q (QR e1O (CR 13 e2O)) (Q (QR e3O (CR 16 uj)) (Q (QR ui (CR 19 uh)) (QR ug .ret))))))))
theorem lT:ZG prog Gd=some (20,P1,[.tmp 4]):=by kernel_rfl
@[simp]def e4O:=[wx 2 0,wx 3 1,wk 4 0]
@[simp]def e5O:=[yf 6 0 2,wl 7 6,yf 8 0 3,wl 9 8,oo 10 (.beq true (T 7) (T 9))]
@[simp]def e6O:=[yf 11 0 3,wl 12 11]
@[simp]def e7O:=[wk 4 (-1)]
@[simp]def e8O:=[wk 4 1]
@[simp]def e9O:=[yf 13 0 2,wl 14 13,wu 15 14]
@[simp]def e0P:=[yf 16 1 2,wl 17 16,yf 18 1 3,wl 19 18,wt 20 .lss 17 19]
@[simp]def e1P:=[wk 4 (-1)]
@[simp]def e2P:=[yf 21 1 2,wl 22 21,yf 23 1 3,wl 24 23,wt 25 .gtr 22 24]
@[simp]def e3P:=[wk 4 1]
@[simp]def uf:=[wk 4 0]
@[simp]def ud:=[wk 5 0]
@[simp]def uc:=[wm 26 5,yf 27 2 2,wl 28 27,oo 29 (.lens (T 28)),wt 30 .lss 26 29,wm 31 30,Ym 32 31 5,qf 33 31 2 3,Yl 34 31 33,og 35 31 true (.lens (T 34)),Yt 36 31 .lss 32 35,wp 37 31 36]
@[simp]def ub:VT:=
 Yf 40 2 2<|yl 41 40<|ym 42 5<|oc 43 (.is (T 41) (T 42))<|Yf 44 2 3<|yl 45 44<|ym 46 5<|oc 47 (.is (T 45) (T 46))<|vt 48 .lss 43 47<|.done
@[simp]def ua:=[wk 4 (-1)]
@[simp]def tZ:VT:=
 Yf 49 2 2<|yl 50 49<|ym 51 5<|oc 52 (.is (T 50) (T 51))<|Yf 53 2 3<|yl 54 53<|ym 55 5<|oc 56 (.is (T 54) (T 55))<|vt 57 .gtr 52 56<|.done
@[simp]def tY:=[wk 4 1]
@[simp]def tX:=[wm 38 5,wc 39 .add 38 1,wm 5 39]
def KK:Z9:=
 (Q (QR uc (CX 37 0)) (Q (.block 1 (Q (Q (.any ub) (CR 48 ua)) (Q (.any tZ) (CR 57 tY)))) (R tX)))
@[simp]def tW:=[yf 58 2 2,wl 59 58,oo 60 (.lens (T 59)),yf 61 2 3,wl 62 61,oo 63 (.lens (T 62)),wt 64 .lss 60 63]
@[simp]def tV:=[wk 4 (-1)]
@[simp]def tU:=[yf 65 2 2,wl 66 65,oo 67 (.lens (T 66)),yf 68 2 3,wl 69 68,oo 70 (.lens (T 69)),wt 71 .gtr 67 70]
@[simp]def tT:=[wk 4 1]
@[simp]def tS:=[wk 4 0]
def a3f:Z9:=(QR e4O (Q (QR e5O (CT 10 (Q (QR e6O (CR 12 e7O)) (QR e8O .ret)) .skip)) (Q (QR e9O (CT 15 (Q (QR e0P (CR 20 e1P)) (Q (QR e2P (CR 25 e3P)) (QR uf .ret))) .skip)) (Q (QR ud (.block 0 (.loop KK))) (Q (QR tW (CR 64 tV)) (Q (QR tU (CR 71 tT)) (QR tS .ret)))))))
theorem lR:ZG prog P5=some (72,a3f,[.tmp 4]):=by kernel_rfl
@[simp]def e4P:=[wx 4 0,wx 6 2,wx 7 3,wz 8 3,wb 9 false]
@[simp]def e5P:=[oo 13 (.build [zi,zi] []),oo 10 (.alloc [zi,zi]),wo 10 13 2]
@[simp]def e6P:=[ws 14 7 2,ws 15 10 2,oo 16 (.eqs false [.i .i64, .i .i64] (T 14) (T 15))]
@[simp]def e7P:=[wz 8 3,wb 9 true]
@[simp]def e8P:=[wk 11 0]
@[simp]def e9P:=[wm 17 11,yf 18 1 4,wl 19 18,wn 20 19,wt 21 .lss 17 20]
@[simp]def e0Q:=[yf 24 1 4,wl 25 24,wm 26 11,wi 27 22 25 26,ws 28 27 22,oo 12 (.alloc [zi,zi,zi,zi,zb,zi,zs,zi,zi,zi, .nil 3,zi,zi,zb,zi,zs,zb,zi,zs, .nil 9, .nil 5,zb]),wo 12 28 22]
@[simp]def e1Q:=[yf 29 1 12,wl 30 29,wc 31 .eql 30 3,wm 32 31,qf 33 32 0 12,Yl 34 32 33,qf 35 32 0 7,Yl 36 32 35,Yt 37 32 .eql 34 36,wp 38 32 37,wm 39 38,qf 40 39 9 12,Yl 41 39 40,qf 42 39 1 7,Yl 43 39 42,Yt 44 39 .eql 41 43,wp 45 39 44,wm 46 45,qf 47 46 3 12,Yl 48 46 47,Ym 49 46 1,Yt 50 46 .eql 48 49,wp 51 46 50,wm 52 51,qf 53 52 4 12,qs 54 52 53 3,qs 55 52 6 3,og 56 52 true (.eqs false [.b, .i .i64, .s] (T 54) (T 55)),wp 57 52 56]
@[simp]def e2Q:=[yf 58 10 12,wl 59 58,wm 8 59,wb 9 true]
@[simp]def e3Q:=[wm 22 11,wc 23 .add 22 1,wm 11 23]
def V8:Z9:=
 (Q (QR e9P (CX 21 0)) (Q (.block 1 (QR e0Q (QR e1Q (CR 57 e2Q)))) (R e3Q)))
@[simp]def tR:=[wz 8 3,wb 9 false]
def a4f:Z9:=(QR e4P (QR e5P (Q (QR e6P (CR 16 e7P)) (Q (QR e8P (.block 0 (.loop V8))) (QR tR .ret)))))
theorem lj:ZG prog KZ=some (60,a4f,[.tmp 8, .tmp 9]):=by kernel_rfl
@[simp]def e4Q:=[wx 5 0,wx 7 2,wx 8 3,wx 9 4,wb 10 false]
@[simp]def e5Q:=[ws 15 5 3,wm 16 1,ws 17 7 3,ws 18 8 2,Y4 19 KZ 15 16 17 18,wm 14 19,we 20 0 14,we 21 1 14,wm 11 20,wm 12 21]
@[simp]def e6Q:=[ws 22 9 9,wm 23 11,Y2 24 KT 22 23,wm 13 24]
@[simp]def e7Q:=[wm 25 11,wn 26 25,wc 27 .gtr 26 0,wm 28 27,Ym 29 28 13,wp 30 28 29,wm 10 30]
def a5f:Z9:=(QR e4Q (QR e5Q (QR e6Q (QR e7Q .ret))))
theorem dh:ZG prog Zb=some (31,a5f,[.tmp 10]):=by kernel_rfl
@[simp]def e8Q:=[wx 3 0,wx 5 2,wb 6 false]
@[simp]def e9Q:=[wm 8 1,wc 9 .lss 8 0,wm 10 9,qm 11 10 1,jf 12 10 0 3,ql 13 10 12,Yn 14 10 13,qt 15 10 .geq 11 14,wq 16 10 15]
@[simp]def e0R:=[wb 6 false]
@[simp]def e1R:=[ws 17 5 3,Y1 18 NS 17,wm 7 18]
@[simp]def e2R:VT:=
 ym 19 7<|ym 20 19<|V (qf 21 20 0 5)<|V (Yl 22 20 21)<|V (qf 23 20 0 3)<|V (Yl 24 20 23)<|V (Ym 25 20 1)<|V (Yi 26 20 1 24 25)<|V (qf 27 20 0 26)<|V (Yl 28 20 27)<|V (og 29 20 true (.ia 1 (T 28) (K 0)))<|V (Yl 30 20 29)<|V (og 31 20 true (.beq false (T 22) (T 30)))<|yp 32 20 31<|ym 6 32<|.done
def c6J:Z9:=(QR e8Q (Q (QR e9Q (CR 16 e0R)) (QR e1R (Q (.any e2R) .ret))))
theorem c7:ZG prog NT=some (33,c6J,[.tmp 6]):=by kernel_rfl
@[simp]def e3R:=[wx 5 0,wx 8 3,wx 9 4,wb 10 false]
@[simp]def e4R:=[ws 12 5 3,wm 13 1,yf 14 0 9,wl 15 14,wm 16 2,ws 17 8 3,Y5 18 Wa 12 13 15 16 17,wm 11 18]
@[simp]def e5R:=[yf 19 1 9,wl 20 19,wc 21 .geq 20 1,wm 22 21,qf 23 22 1 9,Yl 24 22 23,Ym 25 22 11,Yt 26 22 .leq 24 25,wp 27 22 26,wm 10 27]
def c7J:Z9:=(QR e3R (QR e4R (QR e5R .ret)))
theorem c6:ZG prog KY=some (28,c7J,[.tmp 10]):=by kernel_rfl
@[simp]def e6R:=[wx 2 0,wb 4 false]
@[simp]def e7R:=[ws 8 2 1,Y1 9 NZ 8,wm 5 9]
@[simp]def e8R:=[wm 10 5,wu 11 10,wm 12 11,qm 13 12 1,Yn 14 12 13,jf 15 12 0 2,ql 16 12 15,Yn 17 12 16,qt 18 12 .neq 14 17,wq 19 12 18]
@[simp]def e9R:=[wb 4 false]
@[simp]def e0S:=[wk 6 0]
@[simp]def e1S:=[wm 20 6,wm 21 1,wn 22 21,wt 23 .lss 20 22]
@[simp]def e2S:=[wm 26 1,wm 27 6,wi 28 3 26 27,ws 29 28 3,Y1 30 NS 29,wm 7 30]
@[simp]def e3S:VT:=
 ym 31 7<|vu 32 31<|ym 33 32<|V (qm 34 33 1)<|V (qm 35 33 6)<|V (qi 36 33 3 34 35)<|V (jf 37 33 0 36)<|V (ql 38 33 37)<|V (jf 39 33 0 2)<|V (ql 40 33 39)<|V (qm 41 33 6)<|V (qi 42 33 1 40 41)<|V (ql 43 33 42)<|V (og 44 33 false (.beq true (T 38) (T 43)))<|vq 45 33 44<|.done
@[simp]def e4S:=[wb 4 false]
@[simp]def e5S:=[wm 24 6,wc 25 .add 24 1,wm 6 25]
def JU:Z9:=
 (Q (QR e1S (CX 23 0)) (Q (.block 1 (QR e2S (Q (.any e3S) (CR 45 e4S)))) (R e5S)))
@[simp]def tQ:=[wb 4 true]
def a8f:Z9:=(QR e6R (QR e7R (Q (QR e8R (CR 19 e9R)) (Q (QR e0S (.block 0 (.loop JU))) (QR tQ .ret)))))
theorem db:ZG prog Gc=some (46,a8f,[.tmp 4]):=by kernel_rfl
@[simp]def e6S:=[wx 2 0,wx 3 1,wb 4 false]
@[simp]def e7S:=[ws 6 2 1,Y1 7 NZ 6,wm 5 7]
@[simp]def e8S:=[wm 8 5,wm 9 8,qs 10 9 3 9,U1 11 9 N2 10,Yc 12 9 .leq 11 15,wp 13 9 12,wm 14 13,qs 15 14 2 1,qs 16 14 3 9,U2 17 14 KS 15 16,wp 18 14 17,wm 4 18]
def a9f:Z9:=(QR e6S (QR e7S (QR e8S .ret)))
theorem c8:ZG prog Gb=some (19,a9f,[.tmp 4]):=by kernel_rfl
@[simp]def e9S:=[wx 5 2,wb 6 false]
@[simp]def e0T:VT:=
 ym 7 1<|yc 8 .geq 7 0<|ym 9 8<|V (Ym 10 9 1)<|V (Ym 11 9 0)<|V (yh 12 9 11)<|V (qf 13 9 0 12)<|V (qf 14 9 0 13)<|V (Yl 15 9 14)<|V (yn 16 9 15)<|V (Yt 17 9 .lss 10 16)<|yp 18 9 17<|ym 19 18<|V (qs 20 19 5 3)<|V (U1 21 19 NR 20)<|yp 22 19 21<|ym 23 22<|V (qf 24 23 0 5)<|V (Yl 25 23 24)<|V (Ym 26 23 0)<|V (yh 27 23 26)<|V (qf 28 23 0 27)<|V (qf 29 23 0 28)<|V (Yl 30 23 29)<|V (Ym 31 23 1)<|V (Yi 32 23 1 30 31)<|V (qf 33 23 0 32)<|V (Yl 34 23 33)<|V (og 35 23 true (.ia 1 (T 34) (K 0)))<|V (Yl 36 23 35)<|V (og 37 23 true (.beq false (T 25) (T 36)))<|yp 38 23 37<|ym 6 38<|.done
def KL:Z9:=(QR e9S (Q (.any e0T) .ret))
theorem lY:ZG prog P4=some (39,KL,[.tmp 6]):=by kernel_rfl
@[simp]def e1T:=[wx 4 1,wx 5 2,wb 6 false]
@[simp]def e2T:VT:=
 Yf 7 1 5<|yl 8 7<|yc 9 .geq 8 1<|ym 10 9<|V (qf 11 10 1 5)<|V (Yl 12 10 11)<|V (Ym 13 10 0)<|V (yh 14 10 13)<|V (qf 15 10 4 14)<|V (Yl 16 10 15)<|V (qf 17 10 0 5)<|V (Yl 18 10 17)<|V (qs 19 10 4 4)<|V (og 20 10 true (.build [zi,zi,zb,zi,zs] [(0,1,(T 18)),(1,4,(T 19))]))<|V (og 21 10 true (.UE (true,[.i .i64, .i .i64, .b, .i .i64, .s],false) [zi] (T 16) (T 20) false))<|V (Yt 22 10 .leq 12 21)<|yp 23 10 22<|ym 6 23<|.done
def SI:Z9:=(QR e1T (Q (.any e2T) .ret))
theorem lX:ZG prog KW=some (24,SI,[.tmp 6]):=by kernel_rfl
@[simp]def e3T:=[wx 2 0,wx 3 1,wk 4 0]
@[simp]def e4T:=[ws 8 2 1,Y1 9 NV 8,wm 5 9]
@[simp]def e5T:=[wm 10 5,wc 11 .neq 10 0]
@[simp]def e6T:=[wm 12 5,wm 4 12]
@[simp]def e7T:=[ws 13 2 1,oo 14 (.build [.nil 1,zb] [(0,1,(T 13))]),wx 15 14,wm 6 15]
@[simp]def e8T:=[wm 16 6,oo 17 (.VO NQ [(T 16)] []),wm 7 17]
@[simp]def e9T:=[ws 18 3 9,wm 19 7,Y2 20 Rx 18 19]
@[simp]def e0U:=[wm 21 6,wh 22 21,yf 23 1 22,wl 24 23,wm 25 24,Ws 26 25 3 9,X1 27 25 F6 26,qc 28 25 .gtr 27 15,wq 29 25 28]
@[simp]def e1U:=[wk 4 30]
@[simp]def e2U:=[wk 4 0]
def a2g:Z9:=(QR e3T (Q (QR e4T (QR e5T (CR 11 e6T))) (QR e7T (QR e8T (QR e9T (Q (QR e0U (CR 29 e1U)) (QR e2U .ret)))))))
theorem kW:ZG prog F9=some (30,a2g,[.tmp 4]):=by kernel_rfl
@[simp]def e3U:=[wx 2 0,wb 4 false]
@[simp]def e4U:=[ws 7 2 1,Y1 8 NV 7,wc 9 .neq 8 0,wm 10 9,qm 11 10 1,Yn 12 10 11,jf 13 10 0 2,ql 14 10 13,Yn 15 10 14,qt 16 10 .neq 12 15,wq 17 10 16]
@[simp]def e5U:=[wb 4 false]
@[simp]def e6U:=[wm 18 1,wn 19 18,wk 20 0]
@[simp]def e7U:=[wt 21 .lss 20 19]
@[simp]def e8U:=[wm 22 20,wi 23 3 18 20,ws 24 23 3,oo 6 (.alloc [zb,zi,zs]),wm 5 22,wo 6 24 3]
@[simp]def e9U:VT:=
 Yf 25 0 6<|yl 26 25<|Yf 27 0 2<|yl 28 27<|ym 29 5<|yi 30 1 28 29<|yl 31 30<|oc 32 (.beq true (T 26) (T 31))<|ym 33 32<|V (Ws 34 33 6 3)<|V (X1 35 33 NR 34)<|V (Yu 36 33 35)<|vq 37 33 36<|.done
@[simp]def e0V:=[wb 4 false]
@[simp]def e1V:=[wc 38 .add 20 1,wm 20 38]
def Ei:Z9:=
 (QR e7U (Q (CX 21 0) (Q (.block 1 (QR e8U (Q (.any e9U) (CR 37 e0V)))) (R e1V))))
@[simp]def tP:=[wb 4 true]
def a3g:Z9:=(QR e3U (Q (QR e4U (CR 17 e5U)) (Q (QR e6U (.block 0 (.loop Ei))) (QR tP .ret))))
theorem e2V:ZG prog F8=some (39,a3g,[.tmp 4]):=by kernel_rfl
@[simp]def e3V:=[wx 2 0,wb 3 false]
@[simp]def e4V:=[ws 4 2 9,wl 5 1,Y2 6 K0 4 5,wm 3 6]
def a4g:Z9:=(QR e3V (QR e4V .ret))
theorem e5V:ZG prog SM=some (7,a4g,[.tmp 3]):=by kernel_rfl
@[simp]def e6V:=[wx 2 0,wb 4 false]
@[simp]def e7V:=[yf 6 1 2,wl 7 6,wc 8 .lss 7 0,wm 9 8,jf 10 9 1 2,ql 11 9 10,qm 12 9 1,Yn 13 9 12,qt 14 9 .geq 11 13,wq 15 9 14]
@[simp]def e8V:=[wb 4 false]
@[simp]def e9V:VT:=
 ym 16 1<|Yf 17 1 2<|yl 18 17<|yi 19 3 16 18<|Ys 20 19 3<|Yf 21 2 2<|Ys 22 21 3<|V2 23 P9 20 22<|ym 5 23<|.done
@[simp]def e0W:=[yf 24 0 2,wl 25 24]
@[simp]def e1W:=[wc 27 .eql 25 3,wm 26 27]
@[simp]def e2W:=[wm 28 5,wc 29 .eql 28 0,wm 4 29]
@[simp]def e3W:=[wc 31 .eql 25 4,wm 30 31]
@[simp]def e4W:=[wm 32 5,wc 33 .neq 32 0,wm 4 33]
@[simp]def e5W:=[wc 35 .eql 25 5,wm 34 35]
@[simp]def tO:=[wm 36 5,wc 37 .lss 36 0,wm 4 37]
@[simp]def tN:=[wc 39 .eql 25 6,wm 38 39]
@[simp]def tM:=[wm 40 5,wc 41 .leq 40 0,wm 4 41]
@[simp]def tL:=[wc 43 .eql 25 7,wm 42 43]
@[simp]def tK:=[wm 44 5,wc 45 .gtr 44 0,wm 4 45]
@[simp]def tJ:=[wc 47 .eql 25 8,wm 46 47]
@[simp]def tI:=[wm 48 5,wc 49 .geq 48 0,wm 4 49]
@[simp]def tH:VT:=
 ym 50 5<|yc 51 .geq 50 0<|ym 52 51<|V (Ym 53 52 1)<|V (qf 54 52 1 2)<|V (Yl 55 52 54)<|V (Yi 56 52 3 53 55)<|V (qs 57 52 56 3)<|V (qf 58 52 5 2)<|V (qs 59 52 58 3)<|V (U2 60 52 P9 57 59)<|V (Yc 61 52 .leq 60 0)<|yp 62 52 61<|ym 4 62<|.done
def c8J:Z9:=(QR e6V (Q (QR e7V (CR 15 e8V)) (Q (.any e9V) (Q (QR e0W (.block 0 (QR e1W (CT 26 (QR e2W .ret) (QR e3W (CT 30 (QR e4W .ret) (QR e5W (CT 34 (QR tO .ret) (QR tN (CT 38 (QR tM .ret) (QR tL (CT 42 (QR tK .ret) (QR tJ (CR 46 tI)))))))))))))) (Q (.any tH) .ret)))))
theorem e6W:ZG prog F7=some (63,c8J,[.tmp 4]):=by kernel_rfl
@[simp]def e7W:=[wb 4 false]
@[simp]def e8W:=[wm 5 0,wm 6 1,Y2 7 KR 5 6,wc 8 .geq 7 0,wm 4 8]
def a6g:Z9:=(QR e7W (QR e8W .ret))
theorem Eh:ZG prog P3=some (9,a6g,[.tmp 4]):=by kernel_rfl
@[simp]def e9W:=[wx 2 0,wb 3 false]
@[simp]def e0X:=[wl 4 1,ws 5 2 9,oo 6 (.Zc (T 4) [(T 5)]),wu 7 6,wm 3 7]
def a7g:Z9:=(QR e9W (QR e0X .ret))
theorem e1X:ZG prog SL=some (8,a7g,[.tmp 3]):=by kernel_rfl
@[simp]def e2X:=[wb 2 false]
@[simp]def e3X:=[wm 3 0,wm 4 0,wt 5 .neq 3 4,wm 2 5]
def Rp:Z9:=(QR e2X (QR e3X .ret))
theorem lW:ZG prog KV=some (6,Rp,[.tmp 2]):=by kernel_rfl
@[simp]def e4X:=[wb 2 false]
@[simp]def e5X:=[wm 3 0,wm 4 0,wt 5 .neq 3 4,wm 2 5]
def P2:Z9:=(QR e4X (QR e5X .ret))
theorem lV:ZG prog KU=some (6,P2,[.tmp 2]):=by kernel_rfl
@[simp]def e6X:=[wx 2 0,wb 4 false]
@[simp]def e7X:=[yf 10 0 2,wl 11 10,wc 12 .geq 11 3,wm 13 12,qf 14 13 0 2,Yl 15 13 14,Yc 16 13 .leq 15 9,wp 17 13 16]
@[simp]def e8X:=[ws 18 2 9,wm 19 1,Y2 20 F5 18 19,wm 4 20]
@[simp]def e9X:=[wb 5 true]
@[simp]def e0Y:=[wb 6 false]
@[simp]def e1Y:=[wb 7 false]
@[simp]def e2Y:=[wk 8 0]
@[simp]def e3Y:=[wm 21 8,yf 22 8 2,wl 23 22,wn 24 23,wt 25 .lss 21 24]
@[simp]def e4Y:=[yf 28 8 2,wl 29 28,wm 30 8,wi 31 9 29 30,ws 32 31 9,wm 33 1,Y2 34 KT 32 33,wm 9 34]
@[simp]def e5Y:=[wm 35 5,wm 36 35,Ym 37 36 9,wp 38 36 37,wm 5 38]
@[simp]def tG:=[wm 39 6,wm 40 39,qm 41 40 9,wq 42 40 41,wm 6 42]
@[simp]def tF:=[wm 43 8,wc 44 .eql 43 0]
@[simp]def tE:=[wm 45 9,wm 7 45]
@[simp]def tD:=[wm 26 8,wc 27 .add 26 1,wm 8 27]
def ON:Z9:=
 (Q (QR e3Y (CX 25 0)) (Q (.block 1 (QR e4Y (QR e5Y (QR tG (QR tF (CT 44 (R tE) .skip)))))) (R tD)))
@[simp]def tC:=[yf 46 0 2,wl 47 46]
@[simp]def tB:=[wc 49 .eql 47 1,wm 48 49]
@[simp]def tA:=[wb 4 true]
@[simp]def tz:=[wc 51 .eql 47 10,wm 50 51]
@[simp]def tw:=[wm 52 7,wu 53 52,wm 4 53]
@[simp]def tv:=[wc 55 .eql 47 11,wm 54 55]
@[simp]def tu:=[wm 56 5,wm 4 56]
@[simp]def tt:=[wc 58 .eql 47 12,wm 57 58]
@[simp]def tq:=[wm 59 6,wm 4 59]
@[simp]def tp:=[wb 4 false]
def a1h:Z9:=(QR e6X (Q (QR e7X (CR 17 e8X)) (QR e9X (QR e0Y (QR e1Y (Q (QR e2Y (.block 0 (.loop ON))) (Q (QR tC (.block 2 (QR tB (CT 48 (QR tA .ret) (QR tz (CT 50 (QR tw .ret) (QR tv (CT 54 (QR tu .ret) (QR tt (CR 57 tq)))))))))) (QR tp .ret))))))))
theorem e6Y:ZG prog KT=some (60,a1h,[.tmp 4]):=by kernel_rfl
@[simp]def e7Y:=[wx 1 0,wb 2 false]
@[simp]def e8Y:=[yf 3 0 1,wl 4 3]
@[simp]def e9Y:=[yf 5 1 1,wl 6 5,wc 7 .eql 6 0,wm 8 7,qf 9 8 2 1,Yl 10 8 9,og 11 8 true (.lens (T 10)),Yc 12 8 .leq 11 12,wp 13 8 12,wm 2 13]
@[simp]def e0Z:=[yf 14 2 1,wl 15 14,oo 16 (.bin .eql (T 15) (.const (.string ⟨#[]⟩))),wm 2 16]
def a2h:Z9:=(QR e7Y (Q (QR e8Y (CR 4 e9Y)) (QR e0Z .ret)))
theorem de:ZG prog NS=some (17,a2h,[.tmp 2]):=by kernel_rfl
@[simp]def e1Z:=[wx 2 0,wx 3 1,wb 4 false]
@[simp]def e2Z:=[wk 5 0]
@[simp]def e3Z:=[wm 7 5,yf 8 8 3,wl 9 8,wn 10 9,wt 11 .lss 7 10]
@[simp]def e4Z:VT:=
 Ys 14 2 1<|Yf 15 8 3<|yl 16 15<|ym 17 5<|yi 18 9 16 17<|Ys 19 18 9<|V2 20 KS 14 19<|ym 6 20<|.done
@[simp]def e5Z:=[wm 21 6,wu 22 21]
@[simp]def e6Z:=[wb 4 false]
@[simp]def e7Z:=[wm 12 5,wc 13 .add 12 1,wm 5 13]
def UW:Z9:=
 (Q (QR e3Z (CX 11 0)) (Q (.block 1 (Q (.any e4Z) (QR e5Z (CR 22 e6Z)))) (R e7Z)))
@[simp]def e8Z:=[yf 23 0 3,wl 24 23]
@[simp]def e9Z:=[wc 26 .eql 24 1,wm 25 26]
@[simp]def tn:=[wc 27 .eql 24 2,wm 25 27]
@[simp]def tm:=[yf 28 8 3,wl 29 28,wn 30 29,wc 31 .eql 30 0,wm 4 31]
@[simp]def tk:=[wc 33 .eql 24 3,wm 32 33]
@[simp]def tj:=[wc 34 .eql 24 4,wm 32 34]
@[simp]def tf:=[wc 35 .eql 24 5,wm 32 35]
@[simp]def td:=[wc 36 .eql 24 6,wm 32 36]
@[simp]def ta:=[wc 37 .eql 24 7,wm 32 37]
@[simp]def s9:=[wc 38 .eql 24 8,wm 32 38]
@[simp]def s8:=[yf 39 8 3,wl 40 39,wn 41 40,wc 42 .eql 41 0,wm 43 42,qs 44 43 2 1,qf 45 43 1 3,Yl 46 43 45,qf 47 43 2 3,qs 48 43 47 3,V3 49 43 NP 44 46 48,wp 50 43 49,wm 4 50]
@[simp]def s7:=[wc 52 .eql 24 9,wm 51 52]
@[simp]def s6:=[yf 53 8 3,wl 54 53,wn 55 54,wc 56 .eql 55 0,wm 57 56,qs 58 57 2 1,qf 59 57 1 3,Yl 60 57 59,qf 61 57 2 3,qs 62 57 61 3,V3 63 57 NP 58 60 62,wp 64 57 63,wm 65 64,qs 66 65 2 1,qf 67 65 1 3,Yl 68 65 67,qf 69 65 5 3,qs 70 65 69 3,V3 71 65 NP 66 68 70,wp 72 65 71,wm 4 72]
@[simp]def s5:=[wc 74 .eql 24 10,wm 73 74]
@[simp]def s4:=[yf 75 8 3,wl 76 75,wn 77 76,wc 78 .eql 77 1,wm 4 78]
@[simp]def sZ:=[wc 80 .eql 24 11,wm 79 80]
@[simp]def sY:=[wc 81 .eql 24 12,wm 79 81]
@[simp]def sX:=[yf 82 8 3,wl 83 82,wn 84 83,wc 85 .gtr 84 0,wm 4 85]
@[simp]def sW:=[wb 4 false]
def c9J:Z9:=(QR e1Z (Q (QR e2Z (.block 0 (.loop UW))) (Q (QR e8Z (.block 2 (Q (QR e9Z (CT 25 .skip (R tn))) (CT 25 (QR tm .ret) (Q (QR tk (CT 32 .skip (QR tj (CT 32 .skip (QR tf (CT 32 .skip (QR td (CT 32 .skip (QR ta (CT 32 .skip (R s9))))))))))) (CT 32 (QR s8 .ret) (QR s7 (CT 51 (QR s6 .ret) (QR s5 (CT 73 (QR s4 .ret) (Q (QR sZ (CT 79 .skip (R sY))) (CR 79 sX)))))))))))) (QR sW .ret))))
theorem c9:ZG prog KS=some (86,c9J,[.tmp 4]):=by kernel_rfl
@[simp]def f0a:=[wx 1 0,wb 2 false]
@[simp]def f1a:=[yf 3 0 1,wl 4 3]
@[simp]def f2a:=[ws 5 1 3,yf 6 2 1,wl 7 6,oo 8 (.build [zb,zi,zs] [(0,1,(B true)),(2,1,(T 7))]),oo 9 (.eqs false [.b, .i .i64, .s] (T 5) (T 8)),wm 10 9,qf 11 10 2 1,Yl 12 10 11,og 13 10 true (.lens (T 12)),Yc 14 10 .leq 13 12,wp 15 10 14,wm 2 15]
@[simp]def f3a:=[ws 16 1 3,yf 17 1 1,wl 18 17,oo 19 (.build [zb,zi,zs] [(1,1,(T 18))]),oo 20 (.eqs false [.b, .i .i64, .s] (T 16) (T 19)),wm 2 20]
def a4h:Z9:=(QR f0a (Q (QR f1a (CR 4 f2a)) (QR f3a .ret)))
theorem f4a:ZG prog NR=some (21,a4h,[.tmp 2]):=by kernel_rfl
@[simp]def f5a:=[wx 3 1]
@[simp]def f6a:=[wb 4 false]
@[simp]def f7a:=[yf 5 0 3,wl 6 5]
@[simp]def f8a:=[wc 8 .eql 6 1,wm 7 8]
@[simp]def f9a:=[wc 9 .eql 6 2,wm 7 9]
@[simp]def f0b:=[yf 10 8 3,wl 11 10,wn 12 11,wc 13 .eql 12 0,wm 4 13]
@[simp]def f1b:=[wc 15 .eql 6 3,wm 14 15]
@[simp]def f2b:=[wc 16 .eql 6 4,wm 14 16]
@[simp]def f3b:=[wc 17 .eql 6 5,wm 14 17]
@[simp]def f4b:=[wc 18 .eql 6 6,wm 14 18]
@[simp]def sV:=[wc 19 .eql 6 7,wm 14 19]
@[simp]def sU:=[wc 20 .eql 6 8,wm 14 20]
@[simp]def sS:=[yf 21 8 3,wl 22 21,wn 23 22,wc 24 .eql 23 0,wm 25 24,Ym 26 25 0,qf 27 25 1 3,Yl 28 25 27,qf 29 25 2 3,qs 30 25 29 3,V3 31 25 NN 26 28 30,wp 32 25 31,wm 4 32]
@[simp]def sR:=[wc 34 .eql 6 9,wm 33 34]
@[simp]def sQ:=[yf 35 8 3,wl 36 35,wn 37 36,wc 38 .eql 37 0,wm 39 38,Ym 40 39 0,qf 41 39 1 3,Yl 42 39 41,qf 43 39 2 3,qs 44 39 43 3,V3 45 39 NN 40 42 44,wp 46 39 45,wm 47 46,Ym 48 47 0,qf 49 47 1 3,Yl 50 47 49,qf 51 47 5 3,qs 52 47 51 3,V3 53 47 NN 48 50 52,wp 54 47 53,wm 4 54]
@[simp]def sP:=[wc 56 .eql 6 10,wm 55 56]
@[simp]def sO:=[yf 57 8 3,wl 58 57,wn 59 58,wc 60 .eql 59 1,wm 4 60]
@[simp]def sN:=[wc 62 .eql 6 11,wm 61 62]
@[simp]def sM:=[wc 63 .eql 6 12,wm 61 63]
@[simp]def sL:=[yf 64 8 3,wl 65 64,wn 66 65,wc 67 .gtr 66 0,wm 4 67]
@[simp]def sK:=[wm 68 0,wm 69 0,wh 70 69,yf 71 1 70,wl 72 71,wm 73 72,qm 74 73 4,Yu 75 73 74,wq 76 73 75,wh 77 68,yf 78 1 77,wo 78 76 1]
def Wv:Z9:=(QR f5a (QR f6a (Q (QR f7a (.block 0 (Q (QR f8a (CT 7 .skip (R f9a))) (CT 7 (R f0b) (Q (QR f1b (CT 14 .skip (QR f2b (CT 14 .skip (QR f3b (CT 14 .skip (QR f4b (CT 14 .skip (QR sV (CT 14 .skip (R sU))))))))))) (CT 14 (R sS) (QR sR (CT 33 (R sQ) (QR sP (CT 55 (R sO) (Q (QR sN (CT 61 .skip (R sM))) (CT 61 (R sL) .skip)))))))))))) (R sK))))
theorem kZ:ZG prog NQ=some (79,Wv,[]):=by kernel_rfl
@[simp]def f5b:=[wx 2 0]
@[simp]def f6b:=[wm 6 1,ws 7 2 9,oo 8 (.Zc (T 6) [(T 7)])]
@[simp]def f7b:=[yf 9 8 2,wl 10 9,wn 11 10,wk 12 0]
@[simp]def f8b:=[wt 13 .lss 12 11]
@[simp]def f9b:=[wi 14 9 10 12,ws 15 14 9,oo 5 (.alloc [zi,zi,zb,zi,zs,zb,zi,zs, .nil 9]),wo 5 15 9]
@[simp]def f0c:=[ws 16 5 9,wm 17 1,Y2 18 Rx 16 17]
@[simp]def f1c:=[wc 19 .add 12 1,wm 12 19]
def Mt:Z9:=
 (QR f8b (Q (CX 13 0) (Q (.block 1 (QR f9b (R f0c))) (R f1c))))
def c0K:Z9:=(QR f5b (QR f6b (QR f7b (.block 0 (.loop Mt)))))
theorem lg:ZG prog Rx=some (20,c0K,[]):=by kernel_rfl
@[simp]def f2c:=[wx 1 0,wk 2 0]
@[simp]def f3c:=[oo 3 (.alloc [zi]),on (.st (T 3) (K 0) 1)]
@[simp]def f4c:=[ws 4 1 9,oo 5 (.VO NM [] [(T 3)]),Y2 6 Rx 4 5]
@[simp]def f5c:=[wl 7 3,wm 2 7]
def a8h:Z9:=(QR f2c (QR f3c (QR f4c (QR f5c .ret))))
theorem lb:ZG prog F6=some (8,a8h,[.tmp 2]):=by kernel_rfl
@[simp]def f6c:=[wk 4 0]
@[simp]def f7c:=[wm 6 0,wn 7 6,wk 8 0]
@[simp]def f8c:=[wt 9 .lss 8 7]
@[simp]def f9c:=[wm 10 8,wm 5 10]
@[simp]def f0d:=[wm 11 1,wm 12 0,wm 13 5,wi 14 9 12 13,ws 15 14 9,oo 16 (.Zc (T 11) [(T 15)])]
@[simp]def f1d:=[wm 17 5,wm 4 17]
@[simp]def f2d:=[wc 18 .add 8 1,wm 8 18]
def LW:Z9:=
 (QR f8c (Q (CX 9 0) (Q (.block 1 (QR f9c (QR f0d (CR 16 f1d)))) (R f2d))))
@[simp]def f3d:=[wk 4 (-1)]
def a9h:Z9:=(QR f6c (Q (QR f7c (.block 0 (.loop LW))) (QR f3d .ret)))
theorem Ef:ZG prog KR=some (19,a9h,[.tmp 4]):=by kernel_rfl
@[simp]def f4d:=[wx 2 0,wb 4 false]
@[simp]def f5d:=[yf 7 1 2,wl 8 7,wc 9 .lss 8 0,wm 10 9,jf 11 10 1 2,ql 12 10 11,qm 13 10 1,Yn 14 10 13,qt 15 10 .geq 12 14,wq 16 10 15]
@[simp]def f6d:=[wb 4 false]
@[simp]def f7d:=[wm 17 1,yf 18 1 2,wl 19 18,wi 20 3 17 19,ws 21 20 3,oo 5 (.alloc [zb,zi,zs]),wo 5 21 3]
@[simp]def f8d:=[ws 22 5 3,yf 23 2 2,ws 24 23 3,Y2 25 P5 22 24,wm 6 25]
@[simp]def f9d:=[yf 26 0 2,wl 27 26]
@[simp]def f0e:=[wc 29 .eql 27 3,wm 28 29]
@[simp]def f1e:=[wm 30 6,wc 31 .eql 30 0,wm 4 31]
@[simp]def f2e:=[wc 33 .eql 27 4,wm 32 33]
@[simp]def f3e:=[wm 34 6,wc 35 .neq 34 0,wm 4 35]
@[simp]def sJ:=[wc 37 .eql 27 5,wm 36 37]
@[simp]def sI:=[wm 38 6,wc 39 .lss 38 0,wm 4 39]
@[simp]def sH:=[wc 41 .eql 27 6,wm 40 41]
@[simp]def sG:=[wm 42 6,wc 43 .leq 42 0,wm 4 43]
@[simp]def sF:=[wc 45 .eql 27 7,wm 44 45]
@[simp]def sD:=[wm 46 6,wc 47 .gtr 46 0,wm 4 47]
@[simp]def sC:=[wc 49 .eql 27 8,wm 48 49]
@[simp]def sB:=[wm 50 6,wc 51 .geq 50 0,wm 4 51]
@[simp]def sA:=[wm 52 6,wc 53 .geq 52 0,wm 54 53,qs 55 54 5 3,qf 56 54 5 2,qs 57 54 56 3,U2 58 54 P5 55 57,Yc 59 54 .leq 58 0,wp 60 54 59,wm 4 60]
def c1K:Z9:=(QR f4d (Q (QR f5d (CR 16 f6d)) (QR f7d (QR f8d (Q (QR f9d (.block 0 (QR f0e (CT 28 (QR f1e .ret) (QR f2e (CT 32 (QR f3e .ret) (QR sJ (CT 36 (QR sI .ret) (QR sH (CT 40 (QR sG .ret) (QR sF (CT 44 (QR sD .ret) (QR sC (CR 48 sB)))))))))))))) (QR sA .ret))))))
theorem f4e:ZG prog F5=some (61,c1K,[.tmp 4]):=by kernel_rfl
@[simp]def f5e:=[wx 3 0,wx 5 2,wb 6 false]
@[simp]def f6e:=[ws 8 5 3,Y1 9 NS 8,wm 7 9]
@[simp]def f7e:VT:=
 ym 10 1<|yc 11 .geq 10 0<|ym 12 11<|V (Ym 13 12 1)<|V (qf 14 12 0 3)<|V (Yl 15 12 14)<|V (yn 16 12 15)<|V (Yt 17 12 .lss 13 16)<|yp 18 12 17<|ym 19 18<|V (Ym 20 19 7)<|yp 21 19 20<|ym 22 21<|V (qf 23 22 0 5)<|V (Yl 24 22 23)<|V (qf 25 22 0 3)<|V (Yl 26 22 25)<|V (Ym 27 22 1)<|V (Yi 28 22 1 26 27)<|V (Yl 29 22 28)<|V (og 30 22 true (.beq false (T 24) (T 29)))<|yp 31 22 30<|ym 6 31<|.done
def c2K:Z9:=(QR f5e (QR f6e (Q (.any f7e) .ret)))
theorem da:ZG prog NP=some (32,c2K,[.tmp 6]):=by kernel_rfl
@[simp]def f8e:=[wx 5 2,wb 6 false]
@[simp]def f9e:VT:=
 ym 7 1<|yc 8 .geq 7 0<|ym 9 8<|V (Ym 10 9 1)<|V (Ym 11 9 0)<|V (yh 12 9 11)<|V (qf 13 9 0 12)<|V (qf 14 9 0 13)<|V (Yl 15 9 14)<|V (yn 16 9 15)<|V (Yt 17 9 .lss 10 16)<|yp 18 9 17<|ym 19 18<|V (qf 20 19 0 5)<|V (Yl 21 19 20)<|V (Ym 22 19 0)<|V (yh 23 19 22)<|V (qf 24 19 0 23)<|V (qf 25 19 0 24)<|V (Yl 26 19 25)<|V (Ym 27 19 1)<|V (Yi 28 19 1 26 27)<|V (Yl 29 19 28)<|V (og 30 19 true (.beq false (T 21) (T 29)))<|yp 31 19 30<|ym 32 31<|V (qs 33 32 5 3)<|V (U1 34 32 NR 33)<|yp 35 32 34<|ym 6 35<|.done
def Fh:Z9:=(QR f8e (Q (.any f9e) .ret))
theorem k9:ZG prog NN=some (36,Fh,[.tmp 6]):=by kernel_rfl
@[simp]def f0f:=[wx 2 0]
@[simp]def f1f:=[wl 3 1,wc 4 .add 3 1,wo 1 4 1]
def a3i:Z9:=(QR f0f (R f1f))
theorem lf:ZG prog NM=some (5,a3i,[]):=by kernel_rfl
def Vl.right(v:Vl):Bool:=if v.text then decide (v.n=0)&&decide (v.s.size<=12)else decide (v.s=⟨#[]⟩)
theorem e5j(v:Vl):ZX prog true NR [v.av] [] (vb v.right) []:=by
 refine YG f4a (by simp) (by decide) rfl ?_;simp-dsimp[a4h,Vl.right]
 grind
def WB(t:Tb):Prop:=1<=t.length/\t.length<=4
noncomputable def C5(t:Tb):Int:=if Y7 (WB t)=true then 0 else 1
@[simp]theorem e7j(t:Tb):(C5 t != 0)= !Y7 (WB t):=by
 unfold C5;cases Y7 (WB t)<;>rfl
@[simp]theorem e8j(t:Tb):(C5 t==0)=Y7 (WB t):=by
 unfold C5;cases Y7 (WB t)<;>rfl
theorem e9j{t:Tb}(h:WB t):C5 t=0:=by unfold C5;rw[if_pos (UQ.2 h)]
theorem e0k{t:Tb}(h:¬WB t):C5 t=1:=by unfold C5;rw[if_neg (by simpa using h)]
theorem e1k(t:Tb):ZX prog true NV [YK t] [] (vi (C5 t)) []:=by
 refine YG e0J (by simp) (by decide) rfl ?_
 by_cases h:WB t
 ·have h':=h;unfold WB at h';simp-dsimp[a2e,YK,V4,e9j h];omega
 ·have h':=h;unfold WB at h';simp-dsimp[a2e,YK,V4,e0k h];omega
def e2k(t:Tb)(r:List Vl)(i:Nat):Prop:=∀(v:Vl) (c:Bool),r[i]? =some v->t[i]? =some c->v.text=c/\v.right=true
def Fits(t:Tb)(r:List Vl):Prop:=WB t/\r.length=t.length/\ZK r.length (e2k t r)
theorem e3k{t:Tb}{r:List Vl}{i:Nat}{v:Vl}{c:Bool}(hv:r[i]? =some v)(hc:t[i]? =some c)(h:¬(v.text=c/\v.right=true)):¬Fits t r:=
 fun hf=>h (hf.2.2 i (a5y.1 hv).1 v c hv hc)
theorem e4k{t:Tb}{r:List Vl}{i:Nat}{v:Vl}{c:Bool}(hv:r[i]? =some v)(hc:t[i]? =some c)(h:v.text=c/\v.right=true):e2k t r i:=by
 intro v' c' h1 h2;rw[hv]at h1;rw[hc]at h2;cases h1;cases h2;exact h
theorem e5k(t:Tb)(r:List Vl):ZX prog true F8 [YK t, .iv (oM r)] [] (vb (Y7 (Fits t r))) []:=by
 refine YG e2V (by simp) (by decide) rfl ?_;simp-dsimp[a3g,YK];refine ZN (e1k t) (by simp[YK]) rfl ?_;simp-dsimp[V4,oM, -a1S];refine⟨fun h1=>⟨fun h3 h=>by have:=h.2.1;omega,fun h3=>?_⟩,fun h h'=>h h'.1⟩
 refine YJ [] [6] r.length (fun i=>⟨[(20,vi i),(19,vi r.length),(18, .iv (.Z6 3 (r.map Vl.cells))),(2, .ptr 2 0)],[(2, .box [.iv (.Z6 1 (nT t))])]⟩)
  (fun i=>ZK i (e2k t r)) ?_ ?_ ?_
 ·simp-dsimp
 ·simp-dsimp
 ·intro i hi hq;simp-dsimp[Ei];refine⟨fun Z2=>?_,fun X9=>?_⟩
  ·obtain⟨v,hv⟩:=Zr Z2;obtain⟨c,hc⟩:∃c,t[i]? =some c:=Zr (by omega);simp-dsimp[hv,hc];refine⟨fun e=>ZN (e5j v) (by simp) rfl ?_,fun e=>e3k hv hc fun h=>e h.1⟩;simp-dsimp;have h2:=h1.2;exact⟨fun e2=>e3k hv hc (by simp[e2]),fun e2=>⟨Z2,Zk (by omega),hq.succ (e4k hv hc ⟨e,e2⟩)⟩⟩
  ·exact⟨h1,by omega,fun j hj=>hq j (by omega)⟩
def Rq(a b:Int):Int:=if a<b then-1 else if b<a then 1 else 0
def Wz(a b:ByteArray):Int:=if Uu a b=true then-1 else if a=b then 0 else 1
def Vl.cmp(a b:Vl):Int:=if a.text=true then(if b.text=true then Wz a.s b.s else 1)else if b.text=true then-1 else Rq a.n b.n
theorem b2t(a:ByteArray):ZX prog true KV [.iv (.v (.string a))] [] (vb false) []:=by
 refine YG lW (by simp) (by decide) rfl ?_;simp-dsimp[Rp]
theorem b3t(a:Int):ZX prog true KU [vi a] [] (vb false) []:=by
 refine YG lV (by simp) (by decide) rfl ?_;simp-dsimp[P2]
theorem b4t(a:ByteArray):Uu a a=false:=by
 unfold Uu;generalize a.toList=x
 induction x with
 |nil=>rfl
 |cons c x ih=>simp[Op.bytesLess,ih]
theorem g4w(a b:ByteArray):ZX prog true Ge [.iv (.v (.string a)), .iv (.v (.string b))] [] (vi (Wz a b)) []:=by
 refine YG lU (by simp) (by decide) rfl ?_;simp-dsimp[Ro];refine ZN (b2t a) (by simp) rfl ?_;simp-dsimp;refine ZN (b2t b) (by simp) rfl ?_;simp-dsimp[Wz]
 grind
theorem g5w(a b:Int):ZX prog true Gd [vi a,vi b] [] (vi (Rq a b)) []:=by
 refine YG lT (by simp) (by decide) rfl ?_;simp-dsimp[P1];refine ZN (b3t a) (by simp) rfl ?_;simp-dsimp;refine ZN (b3t b) (by simp) rfl ?_;simp-dsimp[Rq]
 grind
theorem b5t(a b:Vl):ZX prog true P9 [a.av,b.av] [] (vi (a.cmp b)) []:=by
 refine YG lS (by simp) (by decide) rfl ?_
 cases ha:a.text<;>cases hb:b.text<;>simp-dsimp[a6c,ha,hb,Vl.cmp]
 ·exact ZN (g5w a.n b.n) (by simp) rfl (by simp)
 ·exact ZN (g4w a.s b.s) (by simp) rfl (by simp)
theorem b6t:∀(p x y:List UInt8),Op.bytesLess (p++x) (p++y)=Op.bytesLess x y
 | [],x,y=>rfl
 |c::p,x,y=>by simp[Op.bytesLess,b6t p x y]
theorem b7t(a:ByteArray):a.toList=a.data.toList:=by simp[ByteArray.toList_eq]
def IA(a b:ByteArray)(i:Nat):Prop:=i<=a.size/\i<=b.size/\∀j,j<i->a[j]? =b[j]?
theorem b9t(a:ByteArray)(i:Nat):a[i]? =a.data.toList[i]? :=by
 simp only[Array.getElem?_toList];rfl
theorem IA.split{a b:ByteArray}{i:Nat}(h:IA a b i):∃p,a.toList=p++a.data.toList.drop i/\b.toList=p++b.data.toList.drop i:=by
 refine⟨a.data.toList.take i,by rw[b7t,c2X],?_⟩
 have:a.data.toList.take i=b.data.toList.take i:=by
  apply b6r;intro j;simp only[a8R];split
  ·rename_i hj;rw[<-b9t, <-b9t];exact h.2.2 j hj
  ·rfl
 rw[this,b7t,c2X]
theorem b0u{l:List UInt8}{i:Nat}{c:UInt8}(h:l[i]? =some c):l.drop i=c::l.drop (i+1):=by
 have hi:=(a5y.1 h).1;rw[c5u hi,(a5y.1 h).2]
theorem IA.lt{a b:ByteArray}{i:Nat}(h:IA a b i){c d:UInt8}(h1:a[i]? =some c)(h2:b[i]? =some d)(hcd:c<d):Wz a b= -1:=by
 obtain⟨p,e1,e2⟩:=h.split;rw[b9t]at h1 h2
 have:Uu a b=true:=by
  unfold Uu;rw[e1,e2,b6t,b0u h1,b0u h2];simp-dsimp[Op.bytesLess,hcd]
 simp-dsimp[Wz,this]
theorem IA.gt{a b:ByteArray}{i:Nat}(h:IA a b i){c d:UInt8}(h1:a[i]? =some c)(h2:b[i]? =some d)(hcd:d<c):Wz a b=1:=by
 obtain⟨p,e1,e2⟩:=h.split
 have ZV:a≠b:=by
  rintro rfl;rw[h1]at h2;cases h2;exact absurd hcd (by simp)
 rw[b9t]at h1 h2
 have:Uu a b=false:=by
  unfold Uu;rw[e1,e2,b6t,b0u h1,b0u h2]
  have:¬c<d:=by
   have:=UInt8.lt_iff_toNat_lt.1 hcd;rw[UInt8.lt_iff_toNat_lt];omega
  have h3:¬c=d:=by rintro rfl;exact absurd hcd (by simp)
  simp-dsimp[Op.bytesLess,this,h3]
 simp-dsimp[Wz,this,ZV]
theorem b1u(a:ByteArray):a.size=a.data.toList.length:=by rw[Array.length_toList];rfl
theorem IA.g6w{a b:ByteArray}(h:IA a b a.size)(hl:a.size<b.size):Wz a b= -1:=by
 obtain⟨p,e1,e2⟩:=h.split
 have:Uu a b=true:=by
  unfold Uu;rw[e1,e2,b6t];rw[b1u]at hl⊢;simp only[c7v];rw[b1u]at hl
  cases hd:b.data.toList.drop a.data.toList.length with
  |nil=>have:=congrArg List.length hd;simp at this;simp at hl;omega
  |cons x y=>rfl
 simp-dsimp[Wz,this]
theorem IA.g7w{a b:ByteArray}(h:IA a b b.size)(hl:b.size<a.size):Wz a b=1:=by
 obtain⟨p,e1,e2⟩:=h.split
 have ZV:a≠b:=by rintro rfl;omega
 have:Uu a b=false:=by
  unfold Uu;rw[e1,e2,b6t];rw[b1u];simp only[c7v]
  cases (a.data.toList.drop b.data.toList.length)<;>rfl
 simp-dsimp[Wz,this,ZV]
theorem IA.g8w{a b:ByteArray}(h:IA a b a.size)(hl:b.size=a.size):Wz a b=0:=by
 obtain⟨p,e1,e2⟩:=h.split
 have:a=b:=by
  have e:a.data.toList=b.data.toList:=by
   rw[<-b7t, <-b7t,e1,e2]
   congr 1
   rw[b1u];rw[b1u,b1u]at hl;rw[c7v, <-hl,c7v]
  cases a;cases b;simp only at e
  congr 1
  exact Array.toList_inj.1 e
 subst this;simp-dsimp[Wz,b4t]
theorem b2u(a b:Vl)(hla:a.s.size<2^63):ZX prog true P5 [a.av,b.av] [] (vi (a.cmp b)) []:=by
 refine YG lR (by simp) (by decide) rfl ?_
 cases ha:a.text<;>cases hb:b.text<;>simp-dsimp[a3f,ha,hb,Vl.cmp]
 ·simp-dsimp[Rq];grind
 ·refine YJ [] [] (min a.s.size b.s.size) (fun i=>⟨[(5,vi i),(2, .ptr 2 0),(3, .ptr 3 0)],[(3, .box [.iv (cb true), .iv (ci b.n), .iv (.v (.string b.s))]),(2, .box [.iv (cb true), .iv (ci a.n), .iv (.v (.string a.s))])]⟩)
   (fun i=>IA a.s b.s i) ?_ ?_ ?_
  ·simp-dsimp
  ·exact⟨c0t _,c0t _,fun j hj=>absurd hj (Nat.not_lt_zero _)⟩
  ·intro i hi hq;simp-dsimp[KK]
   have hE:∀h:a.s.size<=i\/b.s.size<=i,(a.s.size<b.s.size-> -1=Wz a.s b.s)∧
    (b.s.size<=a.s.size->(b.s.size<a.s.size->1=Wz a.s b.s)/\(a.s.size<=b.s.size->0=Wz a.s b.s)):=by
    intro h;have h1:=hq.1;have h2:=hq.2.1;refine⟨fun g=>?_,fun g=>⟨fun g2=>?_,fun g2=>?_⟩⟩
    ·have e:i=a.s.size:=by omega
     subst e;exact hq.g6w g |>.symm
    ·have e:i=b.s.size:=by omega
     subst e;exact hq.g7w g2 |>.symm
    ·have e:i=a.s.size:=by omega
     subst e;exact(hq.g8w (by omega)).symm
   refine⟨fun h1=>⟨fun h2=>?_,fun h2=>hE (.inr h2)⟩,fun h=>hE (.inl h)⟩;obtain⟨c,hc⟩:∃c,a.s[i]? =some c:=⟨_,getElem?_pos a.s i h1⟩;obtain⟨d,hd⟩:∃c,b.s[i]? =some c:=⟨_,getElem?_pos b.s i h2⟩;simp-dsimp[hc,hd]
   refine⟨fun g=>(hq.lt hc hd (UInt8.lt_iff_toNat_lt.2 g)).symm,fun g=>⟨fun g2=>(hq.gt hc hd (UInt8.lt_iff_toNat_lt.2 g2)).symm,fun g2=>⟨by omega,Zk (by omega),by omega,by omega,fun j hj=>?_⟩⟩⟩
   by_cases e:j=i
   ·subst e;rw[hc,hd];congr 1;exact UInt8.toNat_inj.1 (by omega)
   ·exact hq.2.2 j (by omega)
def Pd.box(p:Pd):Ob:= .box [.iv (ci p.op), .iv (ci p.col), .iv (cb p.v.text), .iv (ci p.v.n), .iv (.v (.string p.v.s)), .iv (cb p.w.text), .iv (ci p.w.n), .iv (.v (.string p.w.s)), .iv (.Z6 9 (p.l.map Pd.cells))]
theorem b1I{p:Pd}(h:p.Ok):ZX prog true N2 [p.av] [] (vi (IntKind.i64.wrap p.size)) []:=by
 induction h with
 |mk p hl _ _ hq ih=>
 refine YG lh (by simp) (by decide) rfl ?_;simp-dsimp[a8b,Pd.Z5]
 refine YJ [] [] p.l.length (fun i=>⟨[(4,vi i),(3,vi (IntKind.i64.wrap (1+Pd.sizes (p.l.take i)))),(1, .ptr 1 0)],[(1,p.box)]⟩)
  (fun _=>True) ?_ trivial ?_
 ·simp-dsimp[Pd.box];rfl
 ·intro i hi _;simp-dsimp[Fi,Pd.box];refine⟨fun Z2=>?_,fun X9=>?_⟩
  ·obtain⟨q,VE⟩:=Zr Z2;simp-dsimp[VE,Pd.Z8 q];refine ZN (ih q (a6y VE)) (by simp[Pd.Z5]) (by simp[Pd.Z5]) ?_;simp-dsimp;refine⟨Z2,Zk (by omega),?_⟩;rw[e0d,Pd.Mu VE,c2S]
  ·rw[Pd.size_eq,a0z X9]
mutual
def Pd.fold{σ:Type}(F:Pd->σ->σ):Pd->σ->σ
 | .mk o c v w l,st=>Pd.Xl F l (F (.mk o c v w l) st)
def Pd.Xl{σ:Type}(F:Pd->σ->σ):List Pd->σ->σ
 | [],st=>st
 |p::r,st=>Pd.Xl F r (p.fold F st)
end
theorem Pd.fold_eq{σ:Type}(F:Pd->σ->σ)(p:Pd)(st:σ):p.fold F st=Pd.Xl F p.l (F p st):=by cases p;rw[Pd.fold];rfl
theorem Pd.PW{σ:Type}(F:Pd->σ->σ)(st:σ):Pd.Xl F [] st=st:=by rw[Pd.Xl]
theorem Pd.Ud{σ:Type}(F:Pd->σ->σ):∀{l:List Pd} {i:Nat} {p:Pd} (st:σ),l[i]? =some p->Pd.Xl F (l.take (i+1)) st=p.fold F (Pd.Xl F (l.take i) st)
 | [],i,p,st,h=>by cases h
 |q::r,0,p,st,h=>by
  simp only[a0F,a3y]at h;subst h;simp-dsimp[Pd.Xl]
 |q::r,i+1,p,st,h=>by
  simp only[List.getElem?_cons_succ]at h;simp only[List.take_succ_cons,Pd.Xl];exact Pd.Ud F _ h
theorem b2I{σ:Type}(f:FuncId)(b:Bool)(F:Pd->σ->σ)(cs:σ->List IV)(hf:XV prog f=true)
 (hdo:∀(p:Pd) (st:σ),ZX prog false f (bif b then[.ptr 1000 0,p.av]else[p.av, .ptr 1000 0]) [(1000, .box ((cs st).map .iv))] (.Zp []) [(1000, .box ((cs (F p st)).map .iv))]) {p:Pd} (h:p.Ok):
 ∀st:σ,ZX prog false Rx [p.av, .fn f (bif b then[.ptr 1000 0]else[]) (bif b then[]else[.ptr 1000 0])] [(1000, .box ((cs st).map .iv))] (.Zp []) [(1000, .box ((cs (p.fold F st)).map .iv))]:=by
 induction h with
 |mk p hl _ _ hq ih=>
 intro st;refine oP lg (by simp) (by decide) (by simp) rfl ?_
 have Tp:∀(i:Nat) (q:Pd),p.l[i]? =some q->IntKind.i64.wrap ((i:Int)+1)=(i:Int)+1:=fun i q h=>Zk (by have:=(a5y.1 h).1;omega)
 cases b
 all_goals
  simp-dsimp[c0K,Pd.Z5,hf];refine T6 (hdo p st) rfl (by simp) (by simp[Pd.Z5]) (by simp[Pd.Z5]) (by simp) (by simp) (by simp) (by simp) ?_;simp-dsimp
 ·refine YJ [2] [5] p.l.length (fun i=>⟨[(12,vi i),(11,vi p.l.length),(10, .iv (.Z6 9 (p.l.map Pd.cells))),(1, .fn f [] [.ptr 1000 0])],[(1000, .box ((cs (Pd.Xl F (p.l.take i) (F p st))).map .iv))]⟩)
   (fun _=>True) ?_ trivial ?_
  ·simp-dsimp[Pd.PW]
  ·intro i hi _;simp-dsimp[Mt];refine⟨fun Z2=>?_,fun X9=>?_⟩
   ·obtain⟨q,VE⟩:=Zr Z2;simp-dsimp[VE,Pd.Z8 q];refine T6 (ih q (a6y VE) (Pd.Xl F (p.l.take i) (F p st))) rfl (by simp) (by simp[Pd.Z5]) (by simp[Pd.Z5]) (by simp) (by simp) (by simp) (by simp) ?_;simp-dsimp[Z2,Tp i q VE,Pd.Ud F _ VE]
   ·simp-dsimp[Pd.fold_eq,a0z X9]
 ·refine YJ [2] [5] p.l.length (fun i=>⟨[(12,vi i),(11,vi p.l.length),(10, .iv (.Z6 9 (p.l.map Pd.cells))),(1, .fn f [.ptr 1000 0] [])],[(1000, .box ((cs (Pd.Xl F (p.l.take i) (F p st))).map .iv))]⟩)
   (fun _=>True) ?_ trivial ?_
  ·simp-dsimp[Pd.PW]
  ·intro i hi _;simp-dsimp[Mt];refine⟨fun Z2=>?_,fun X9=>?_⟩
   ·obtain⟨q,VE⟩:=Zr Z2;simp-dsimp[VE,Pd.Z8 q];refine T6 (ih q (a6y VE) (Pd.Xl F (p.l.take i) (F p st))) rfl (by simp) (by simp[Pd.Z5]) (by simp[Pd.Z5]) (by simp) (by simp) (by simp) (by simp) ?_;simp-dsimp[Z2,Tp i q VE,Pd.Ud F _ VE]
   ·simp-dsimp[Pd.fold_eq,a0z X9]
theorem b3I(p:Pd)(n:Int):ZX prog false NM [p.av, .ptr 1000 0] [(1000, .box [vi n])] (.Zp []) [(1000, .box [vi (IntKind.i64.wrap (n+1))])]:=by
 refine oP lf (by simp) (by decide) (by simp) rfl ?_;simp-dsimp[a3i,Pd.Z5]
def b4I(_:Pd)(n:Int):Int:=IntKind.i64.wrap (n+1)
mutual
theorem b5I:∀(p:Pd) (n:Int),p.fold b4I (IntKind.i64.wrap n)=IntKind.i64.wrap (n+p.size)
 | .mk o c v w l,n=>by
  rw[Pd.fold,b4I,e1d,b6I l,Pd.size,c2S]
theorem b6I:∀(l:List Pd) (n:Int),Pd.Xl b4I l (IntKind.i64.wrap n)=IntKind.i64.wrap (n+Pd.sizes l)
 | [],n=>by rw[Pd.Xl,Pd.sizes,Int.add_zero]
 |p::r,n=>by rw[Pd.Xl,b5I p,b6I r,Pd.sizes,c2S]
end
theorem b7I{p:Pd}(h:p.Ok):ZX prog true F6 [p.av] [] (vi (IntKind.i64.wrap p.size)) []:=by
 refine YG lb (by simp) (by decide) rfl ?_;have he:=b2I NM false b4I (fun n:Int=>[ci n]) (by kernel_rfl) (fun p n=>b3I p n) h 0;rw[Pd.Z5]at he
 have hr:ZX prog false Rx [p.av, .fn NM [] [.ptr 3 0]] [(3, .box [vi 0])] (.Zp []) [(3, .box [vi (p.fold b4I 0)])]:=by
  rw[Pd.Z5];exact he.Zl (Ren.Xe [(1000,3)]) rfl
 have hc:p.fold b4I 0=IntKind.i64.wrap p.size:=by
  have:=b5I p 0;rwa [Int.zero_add,show IntKind.i64.wrap 0=0 from rfl]at this
 simp-dsimp[a8h,Pd.Z5];refine T6 hr rfl (by simp) (by simp[Pd.Z5]) (by simp[Pd.Z5]) (by simp) (by simp) (by simp) (by simp) ?_;simp-dsimp[hc]
def Is(t:Tb)(i:Int)(v:Vl):Prop:=0<=i/\i<t.length/\t[i.toNat]? =some v.text/\v.right=true
theorem b9I{t:Tb}{k:Nat}{v:Vl}{c:Bool}(hc:t[k]? =some c):Is t k v↔v.text=c/\v.right=true:=by
 have hk:=(a5y.1 hc).1;unfold Is;rw[show(k:Int).toNat=k from rfl,hc];constructor
 ·rintro⟨_,_,h,h2⟩;cases h;exact⟨rfl,h2⟩
 ·rintro⟨h,h2⟩;exact⟨by omega,by omega,by rw[h],h2⟩
theorem b0J(t:Tb)(w:Bool)(i:Int)(v:Vl):ZX prog true NN [.iv (.pt [V4 t,cb w]),vi i,v.av] [] (vb (Y7 (Is t i v))) []:=by
 refine YG k9 (by simp) (by decide) rfl ?_;simp-dsimp[Fh,V4];refine⟨fun h1=>⟨fun h2=>⟨h1,?_⟩,fun h2 h=>by have:=h.2.1;omega⟩,fun h1 h=>by have:=h.1;omega⟩;obtain⟨k,rfl⟩:=c3y h1;obtain⟨c,hc⟩:∃c,t[k]? =some c:=Zr (by omega);simp-dsimp[hc];refine⟨fun h3=>ZN (e5j v) (by simp) rfl ?_,fun h3=>?_⟩
 ·simp-dsimp[Tf,b9I hc,h3]
 ·simp-dsimp[b9I hc,h3]
def TF(t:Tb)(p:Pd):Prop:=
 if p.op=1\/p.op=2 then p.l.length=0
 else if 3<=p.op/\p.op<=8 then p.l.length=0/\Is t p.col p.v
 else if p.op=9 then p.l.length=0/\Is t p.col p.v/\Is t p.col p.w
 else if p.op=10 then p.l.length=1
 else if p.op=11\/p.op=12 then 0<p.l.length
 else False
theorem b2J(t:Tb)(p:Pd)(w:Bool):ZX prog false NQ [.ptr 1000 0,p.av] [(1000, .box [.iv (V4 t),vb w])] (.Zp []) [(1000, .box [.iv (V4 t),vb (w|| !Y7 (TF t p))])]:=by
 refine oP kZ (by simp) (by decide) (by simp) rfl ?_
 have Na:(p.op=1\/p.op=2)\/(p.op=3\/p.op=4\/p.op=5\/p.op=6\/p.op=7\/p.op=8)\/p.op=9\/p.op=10\/(p.op=11\/p.op=12)\/(p.op<1\/12<p.op):=by omega
 have Ms:((p.l.length:Int)==0)=Y7 (p.l.length=0):=by rw[Tf,beq_iff_eq];omega
 have kY:((p.l.length:Int)==1)=Y7 (p.l.length=1):=by rw[Tf,beq_iff_eq];omega
 have kX:(decide (0<(p.l.length:Int)))=Y7 (0<p.l.length):=by rw[Tf,decide_eq_true_eq];omega
 rcases Na with h|h|h|h|h|h
 ·have e:TF t p↔p.l.length=0:=by unfold TF;rw[if_pos h]
  rcases h with h|h<;>simp-dsimp[Wv,Pd.Z5,h,Ms,e]<;>cases w<;>simp
 ·have e:TF t p↔p.l.length=0/\Is t p.col p.v:=by
   unfold TF;rw[if_neg (by omega),if_pos (by omega)]
  rcases h with h|h|h|h|h|h
  all_goals
   simp-dsimp[Wv,Pd.Z5,h,Ms,e];refine⟨fun h0=>?_,fun h0=>?_⟩
   ·refine ZN (b0J t w p.col p.v) (by simp) (by simp) ?_;simp-dsimp[h0]
    cases w<;>simp
   ·simp-dsimp[h0]
    try (cases w<;>simp)
 ·have e:TF t p↔p.l.length=0/\Is t p.col p.v/\Is t p.col p.w:=by
   unfold TF;rw[if_neg (by omega),if_neg (by omega),if_pos (by omega)]
  simp-dsimp[Wv,Pd.Z5,h,Ms,e];refine⟨fun h0=>?_,fun h0=>?_⟩
  ·refine ZN (b0J t w p.col p.v) (by simp) (by simp) ?_;simp-dsimp;refine⟨fun h1=>?_,fun h1=>?_⟩
   ·refine ZN (b0J t w p.col p.w) (by simp) (by simp) ?_;simp-dsimp[h0,h1]
    cases w<;>simp
   ·simp-dsimp[h0,h1]
    try (cases w<;>simp)
  ·simp-dsimp[h0]
   try (cases w<;>simp)
 ·have e:TF t p↔p.l.length=1:=by
   unfold TF;rw[if_neg (by omega),if_neg (by omega),if_neg (by omega),if_pos h]
  simp-dsimp[Wv,Pd.Z5,h,kY,e]
  cases w<;>simp
 ·have e:TF t p↔0<p.l.length:=by
   unfold TF;rw[if_neg (by omega),if_neg (by omega),if_neg (by omega),if_neg (by omega),if_pos h]
  rcases h with h|h<;>simp-dsimp[Wv,Pd.Z5,h,kX,e]<;>cases w<;>simp[Tf]
 ·have e:¬TF t p:=by
   unfold TF;rw[if_neg (by omega),if_neg (by omega),if_neg (by omega),if_neg (by omega),if_neg (by omega)];exact id
  have ne:∀k:Int,1<=k->k<=12->(p.op==k)=false:=fun k h1 h2=>by rw[beq_eq_false_iff_ne];omega
  simp-dsimp[Wv,Pd.Z5,e,ne]
mutual
def Pd.Vj(t:Tb):Pd->Prop
 | .mk o c v w l=>TF t (.mk o c v w l)/\Pd.Vu t l
def Pd.Vu(t:Tb):List Pd->Prop
 | []=>True
 |p::r=>p.Vj t/\Pd.Vu t r
end
noncomputable def b3J(t:Tb)(p:Pd)(w:Bool):Bool:=w|| !Y7 (TF t p)
mutual
theorem b4J(t:Tb):∀(p:Pd) (w:Bool),p.fold (b3J t) w=(w|| !Y7 (p.Vj t))
 | .mk o c v w l,b=>by
  rw[Pd.fold,b3J,b5J t l,Pd.Vj,b4H];simp only[b6w,b1K,U6]
  grind
theorem b5J(t:Tb):∀(l:List Pd) (w:Bool),Pd.Xl (b3J t) l w=(w|| !Y7 (Pd.Vu t l))
 | [],b=>by rw[Pd.Xl,Pd.Vu];cases b<;>simp
 |p::r,b=>by
  rw[Pd.Xl,b4J t p,b5J t r,Pd.Vu,b4H];simp only[b6w,b1K,U6]
  grind
end
def Pw(t:Tb)(p:Pd):Prop:=WB t/\IntKind.i64.wrap p.size<=15/\p.Vj t
noncomputable def b6J(t:Tb)(p:Pd):Int:=if Y7 (WB t)=true then(if Y7 (Pw t p)=true then 0 else 30)else 1
@[simp]theorem b7J(t:Tb)(p:Pd):(b6J t p != 0)= !Y7 (Pw t p):=by
 unfold b6J
 by_cases h:WB t
 ·rw[if_pos (UQ.2 h)];cases Y7 (Pw t p)<;>rfl
 ·rw[if_neg (by simpa using h)]
  have:Y7 (Pw t p)=false:=U6.2 fun g=>h g.1
  rw[this];rfl
theorem b8J(t:Tb){p:Pd}(h:p.Ok):ZX prog true F9 [YK t,p.av] [] (vi (b6J t p)) []:=by
 refine YG kW (by simp) (by decide) rfl ?_;have he:=b2I NQ true (b3J t) (fun w:Bool=>[V4 t,cb w]) (by kernel_rfl) (fun p w=>b2J t p w) h false;rw[Pd.Z5]at he
 have hr:ZX prog false Rx [p.av, .fn NQ [.ptr 15 0] []] [(15, .box [.iv (V4 t),vb false])] (.Zp []) [(15, .box [.iv (V4 t),vb (p.fold (b3J t) false)])]:=by
  rw[Pd.Z5];exact he.Zl (Ren.Xe [(1000,15)]) rfl
 rw[b4J,Bool.false_or]at hr;simp-dsimp[a2g,Pd.Z5,YK];refine ZN (e1k t) (by simp[YK]) (by simp[YK]) ?_;simp-dsimp;refine⟨fun h1=>?_,fun h1=>?_⟩
 ·simp[b6J,C5,h1]
 ·refine T6 hr rfl (by simp) (by simp[Pd.Z5]) (by simp[Pd.Z5]) (by simp) (by simp) (by simp) (by simp) ?_;simp-dsimp;refine⟨fun h2=>?_,fun h2=>?_⟩
  ·refine ZN (b7I h) (by simp[Pd.Z5]) (by simp[Pd.Z5]) ?_;simp-dsimp;rw[b6J,if_pos (UQ.2 h1)];refine⟨fun h3=>?_,fun h3=>?_⟩
   ·rw[if_neg (by simp only[UQ];intro g;have:=g.2.1;omega)]
   ·rw[if_pos (by simp only[UQ];exact⟨h1,h3,h2⟩)]
  ·rw[b6J,if_pos (UQ.2 h1),if_neg (by simp only[UQ];intro g;exact h2 g.2.2)]
theorem mn{h:Hs}(ZY:h.Ok)(a:Nat)(txn table:Int)(k:Vl):ZX prog true Wa [h.av,vi a,vi txn,vi table,k.av] [] (vi (Yk (h.events.take a) txn table k)) []:=by
 refine YG ml (by simp) (by decide) rfl ?_;simp-dsimp[a4b,Hs.av]
 refine YJ [] [13] (min a h.events.length) (fun i=>⟨[(12,vi i),(11,vi (Yk (h.events.take i) txn table k)),(1,vi a),(2,vi txn),(3,vi table),(5, .ptr 5 0),(9, .ptr 9 0)],
  [(9, .box [.iv (cb k.text), .iv (ci k.n), .iv (.v (.string k.s))]),(5, .box [.iv (.Z6 1 (Za h.tables)), .iv (.Z6 22 (ZB h.events)), .iv (.Z6 5 (Zi h.order))])]⟩)
  (fun _=>True) ?_ trivial ?_
 ·simp-dsimp[Yk]
 ·intro i hi _;have XM:=ZY.events;simp-dsimp[FV];refine⟨fun h1=>⟨fun h2=>?_,fun h2=>?_⟩,fun h1=>?_⟩
  ·obtain⟨e,he⟩:=Zr h2;have hw:=Zk (n:=(i:Int)+1) (by omega);have H4:=Zk (n:=(Yk (h.events.take i) txn table k:Int)+1) (by have:=d8P (h.events.take i) txn table k;rw[a3U]at this;omega)
   have hn:=d7P he txn table k
   have Vg:i<min a h.events.length:=by omega
   simp only[Ev.Yg]at hn;simp-dsimp[he];rw[hw,H4,hn]
   grind
  ·rw[show h.events.take a=h.events.take i from by rw[a0z (by omega),a0z h2]]
  ·rw[show i=a from by omega]
def Ev.ends(txn:Int)(e:Ev):Prop:=e.txn=txn/\(e.kind=5\/e.kind=6)
instance (txn:Int) (e:Ev):Decidable (e.ends txn):=by unfold Ev.ends;exact inferInstance
def Xd:List Ev->Int->Int
 | [],_=>0
 |e::r,txn=>if e.ends txn then e.kind else Xd r txn
theorem b6j:∀{es:List Ev} {txn:Int},(∀e,e∈es->¬e.ends txn)->Xd es txn=0
 | [],_,_=>rfl
 |e::r,txn,h=>by rw[Xd,if_neg (h e a4E)];exact b6j fun x hx=>h x (a9C _ hx)
theorem b7j:∀{es:List Ev} {i:Nat} {e:Ev} {txn:Int},(∀j,j<i->∀x,es[j]? =some x->¬x.ends txn)->es[i]? =some e->e.ends txn->Xd es txn=e.kind
 | [],i,e,txn,_,h,_=>by cases h
 |x::r,0,e,txn,_,h,he=>by simp only[a0F,a3y]at h;subst h;rw[Xd,if_pos he]
 |x::r,i+1,e,txn,hn,h,he=>by
  rw[Xd,if_neg (hn 0 (by omega) x rfl)];exact b7j (i:=i) (fun j hj y hy=>hn (j+1) (by omega) y (by simpa using hy)) (by simpa using h) he
theorem b8j{h:Hs}(ZY:h.Ok)(txn:Int):ZX prog true Gx [h.av,vi txn] [] (vi (Xd h.events txn)) []:=by
 refine YG mj (by simp) (by decide) rfl ?_;simp-dsimp[a5b,Hs.av]
 refine YJ [] [6] h.events.length (fun i=>⟨[(5,vi i),(1,vi txn),(2, .ptr 2 0)],[(2, .box [.iv (.Z6 1 (Za h.tables)), .iv (.Z6 22 (ZB h.events)), .iv (.Z6 5 (Zi h.order))])]⟩)
  (fun i=>ZK i fun j=>∀e,h.events[j]? =some e->¬e.ends txn) ?_ ?_ ?_
 ·simp-dsimp
 ·simp
 ·intro i hi hq;have XM:=ZY.events;simp-dsimp[FU];refine⟨fun h2=>?_,fun h2=>?_⟩
  ·obtain⟨e,he⟩:=Zr h2;have hw:=Zk (n:=(i:Int)+1) (by omega)
   have hS:(e.txn=txn/\(e.kind=5\/e.kind=6))->e.kind=Xd h.events txn:=fun hh=>(b7j (i:=i) (fun j hj=>hq j hj) he hh).symm
   have hN:¬(e.txn=txn/\(e.kind=5\/e.kind=6))->ZK (i+1) fun j=>∀e,h.events[j]? =some e->¬e.ends txn:=fun hn=>hq.succ fun x hx=>by rw[he]at hx;cases hx;exact hn
   simp-dsimp[he];rw[hw]
   grind
  ·exact(b6j fun e he=>by
    obtain⟨j,hj⟩:=a9B he
    exact hq j (Nat.lt_of_lt_of_le (a5y.1 hj).1 h2) e hj).symm
def Se(h:Hs)(table:Int)(k:Vl):Prop:=0<=table/\∃t,h.tables[table.toNat]? =some t/\k.right=true/\t[0]? =some k.text
def Hs.WD(h:Hs):Prop:=∀t,t∈h.tables->WB t
def M5(es:List Ev)(table:Int)(k:Vl)(v:Vs):Prop:=1<=v.n/\v.n<=Yk es v.txn table k
def HV(h:Hs)(es:List Ev)(e:Ev):Prop:=Se h e.table e.key/\e.n=Yk es e.txn e.table e.key+1/\(e.row=[]\/∃t,h.tables[e.table.toNat]? =some t/\Fits t e.row/\e.row[0]? =some e.key)
def Kw(h:Hs)(es:List Ev)(e:Ev):Prop:=Se h e.table e.key∧
 if 0<Yk es e.txn e.table e.key then e.Z4=⟨e.txn,Yk es e.txn e.table e.key⟩else e.Z4=⟨0,0⟩\/M5 es e.table e.key e.Z4
def My(h:Hs)(es:List Ev)(e:Ev)(i:Nat):Prop:=∀r,e.refs[i]? =some r->Se h e.table r.key/\M5 es e.table r.key r.Z4/\(∀q,0<i->e.refs[i-1]? =some q->q.key.cmp r.key<0)
def d6t(es:List Ev)(e:Ev)(x:Ev):Prop:=x.kind=3->x.txn=e.txn->x.table=e.table->∃r,r∈e.refs/\r.key=x.key/\r.Z4=⟨e.txn,Yk es e.txn e.table x.key⟩
def d7t(h:Hs)(es:List Ev)(e:Ev):Prop:=(0<=e.table/\∃t,h.tables[e.table.toNat]? =some t/\Pw t e.pred)/\ZK e.refs.length (My h es e)/\∀x,x∈es->d6t es e x
def Hd(l:List Rf)(k:Vl)(v:Vs):Prop:=∃r,r∈l/\r.key=k/\r.Z4=v
@[simp]theorem d9t{k:Vl}{v:Vs}:Hd [] k v↔False:=by unfold Hd;simp
theorem d0u{l:List Rf}{q:Rf}{k:Vl}{v:Vs}:Hd (l++[q]) k v↔Hd l k v\/((q.key.text=k.text/\q.key.n=k.n/\q.key.s=k.s)/\q.Z4.txn=v.txn/\q.Z4.n=v.n):=by
 unfold Hd;rw[<-Vl.eq_iff, <-Vs.eq_iff];constructor
 ·rintro⟨r,hr,g⟩
  rcases a9E.1 hr with hr|hr
  ·exact .inl ⟨r,hr,g⟩
  ·simp only[a1B]at hr;subst hr;exact .inr g
 ·rintro(⟨r,hr,g⟩|g)
  ·exact⟨r,a7N _ hr,g⟩
  ·exact⟨q,by simp,g⟩
def M1(h:Hs)(es:List Ev)(e:Ev):Prop:=Fo es e/\(e.kind=2->Kw h es e)/\(e.kind=3->HV h es e)/\(e.kind=4->d7t h es e)
theorem b0H{h:Hs}(ZY:h.Ok)(txn:Int):ZX prog true Uz [h.av,vi txn] [] (vb (decide (Xd h.events txn=5))) []:=by
 refine YG lq (by simp) (by decide) rfl ?_;simp-dsimp[a3a,Hs.av];refine ZN (b8j ZY txn) (by simp[Hs.av]) (by simp[Hs.av]) ?_;simp-dsimp;rfl
def Ins.S2(table:Int)(k:Vl)(o:Ins):Prop:=o.table=table/\o.key=k
def C6(h:Hs)(e:Ev):Prop:=e.kind=3->Xd h.events e.txn=5->∃o,o∈h.order/\o.S2 e.table e.key/\e.txn∈o.ZU
def Fl(h:Hs)(a:Nat)(o:Ins):Prop:=(∀x,x∈h.order.take a->¬x.S2 o.table o.key)∧
 (ZK o.ZU.length fun i=>∀t,o.ZU[i]? =some t->Xd h.events t=5/\Yk h.events t o.table o.key≠0/\t∉o.ZU.take i)/\0<o.ZU.length
def lp(h:Hs):Prop:=(1<=h.tables.length/\h.tables.length<=3)/\h.WD
def Zo(h:Hs):Prop:=lp h/\(ZK h.events.length fun i=>∀e,h.events[i]? =some e->M1 h (h.events.take i) e/\C6 h e)/\ZK h.order.length fun i=>∀o,h.order[i]? =some o->Fl h i o
mutual
def Pd.Flat(d:Int):Pd->Prop
 | .mk o c v w l=>d<=6/\l.length<=6/\Pd.QY (d+1) l/\IntKind.i64.wrap (Pd.size (.mk o c v w l))<=30
def Pd.QY(d:Int):List Pd->Prop
 | []=>True
 |p::r=>p.Flat d/\Pd.QY d r
end
theorem Pd.RO(d:Int)(p:Pd):p.Flat d↔d<=6/\p.l.length<=6/\Pd.QY (d+1) p.l/\IntKind.i64.wrap p.size<=30:=by cases p;rw[Pd.Flat];rfl
theorem Pd.SY(d:Int):∀l:List Pd,Pd.QY d l↔∀p,p∈l->p.Flat d
 | []=>by simp[Pd.QY]
 |p::r=>by simp[Pd.QY,Pd.SY d r]
theorem d6m{p:Pd}(h:p.Ok):∀d:Int,0<=d->ZX prog true Lq [p.av,vi d] [] (vb (Y7 (p.Flat d))) []:=by
 induction h with
 |mk p hl hv hw hq ih=>
 intro d hd;refine YG aW (by simp) (by decide) rfl ?_
 by_cases h1:d<=6
 ·by_cases h2:p.l.length<=6
  ·have n1:¬6<d:=by omega
   have n2:¬(6:Int)<p.l.length:=by omega
   simp-dsimp[c7I,Pd.Z5,n1,n2];refine YJ [] [] p.l.length (fun i=>⟨[(5,vi i),(1,vi d),(2, .ptr 2 0)],[(2,p.box)]⟩) (fun i=>ZK i fun j=>∀q,p.l[j]? =some q->q.Flat (d+1)) ?_ ?_ ?_
   ·simp-dsimp[Pd.box]
   ·exact TP
   ·intro i hi hqq;simp-dsimp[Ez,Pd.box];refine⟨fun Z2=>?_,fun X9=>?_⟩
    ·obtain⟨q,VE⟩:=Zr Z2;have hw:=Zk (n:=(i:Int)+1) (by omega);have hwd:=Zk (n:=d+1) (by omega);simp-dsimp[VE,Pd.Z8 q,hwd];refine ZN (ih q (a6y VE) (d+1) (by omega)) (by simp[Pd.Z5]) (by simp[Pd.Z5]) ?_;simp-dsimp[hw]
     exact⟨fun g g2=>g ((Pd.SY _ _).1 ((Pd.RO d p).1 g2).2.2.1 q (a6y VE)),fun g=>⟨Z2,hqq.succ fun q' Vz=>by rw[VE]at Vz;cases Vz;exact g⟩⟩
    ·have Zq:Pd.QY (d+1) p.l:=(Pd.SY _ _).2 fun q hqm=>by
      obtain⟨j,hj⟩:=a9B hqm;exact hqq j (by have:=(a5y.1 hj).1;omega) q hj
     refine ZN (b1I (.mk p hl hv hw hq)) (by simp[Pd.Z5]) (by simp[Pd.Z5]) ?_;simp-dsimp[d0Q,Pd.RO d p,h1,h2,Zq]
  ·have n1:¬6<d:=by omega
   have n2:(6:Int)<p.l.length:=by omega
   simp-dsimp[c7I,Pd.Z5,n1,n2]
   exact fun g=>h2 ((Pd.RO d p).1 g).2.1
 ·have n1:6<d:=by omega
  simp-dsimp[c7I,Pd.Z5,n1]
  exact fun g=>h1 ((Pd.RO d p).1 g).1
structure OC (e:Ev):Prop where
 refs:e.refs.length<=12
 row:e.row.length<=12
 flat:e.pred.Flat 0
structure YM (h:Hs):Prop where
 tables:h.tables.length<=6
 events:h.events.length<=60
 order:h.order.length<=30
 ev:ZK h.events.length fun i=>∀e,h.events[i]? =some e->OC e
 ZU:ZK h.order.length fun i=>∀o,h.order[i]? =some o->o.ZU.length<=20
theorem d7m{h:Hs}(ZY:h.Ok):ZX prog true WN [h.av] [] (vb (Y7 (YM h))) []:=by
 refine YG cB (by simp) (by decide) rfl ?_
 by_cases h1:h.tables.length<=6
 ·by_cases h2:h.events.length<=60
  ·by_cases h3:h.order.length<=30
   ·have n1:¬(6:Int)<h.tables.length:=by omega
    have n2:¬(60:Int)<h.events.length:=by omega
    have n3:¬(30:Int)<h.order.length:=by omega
    simp-dsimp[a0a,Hs.av,n1,n2,n3]
    refine YJ [] [4] h.events.length (fun i=>⟨[(3,vi i),(1, .ptr 1 0)],[(1, .box [.iv (.Z6 1 (Za h.tables)), .iv (.Z6 22 (ZB h.events)), .iv (.Z6 5 (Zi h.order))])]⟩)
     (fun i=>ZK i fun i=>∀e,h.events[i]? =some e->OC e) ?_ ?_ ?_
    ·simp-dsimp
    ·exact TP
    ·intro i hi hq;simp-dsimp[EA];refine⟨fun Z2=>?_,fun X9=>?_⟩
     ·obtain⟨e,he⟩:=Zr Z2;have hw:=Zk (n:=(i:Int)+1) (by omega)
      have YQ:¬OC e->¬YM h:=fun g g2=>g (g2.ev i Z2 e he)
      have XJ:=ZY.ev e (a6y he)
      by_cases e1:e.refs.length<=12
      ·by_cases e2:e.row.length<=12
       ·have m1:¬(12:Int)<e.refs.length:=by omega
        have m2:¬(12:Int)<e.row.length:=by omega
        simp-dsimp[he,m1,m2];refine ZN (d6m XJ.pred 0 (by omega)) (by simp[Pd.av]) (by simp[Pd.av]) ?_;simp-dsimp[hw];exact⟨fun g=>YQ fun g2=>g g2.flat,fun g=>⟨Z2,hq.succ fun e' XF=>by rw[he]at XF;cases XF;exact⟨e1,e2,g⟩⟩⟩
       ·have m1:¬(12:Int)<e.refs.length:=by omega
        have m2:(12:Int)<e.row.length:=by omega
        simp-dsimp[he,m1,m2]
        exact YQ fun g=>e2 g.row
      ·have m1:(12:Int)<e.refs.length:=by omega
       simp-dsimp[he,m1]
       exact YQ fun g=>e1 g.refs
     ·refine YJ [] [] h.order.length (fun i=>⟨[(5,vi i),(1, .ptr 1 0)],[(1, .box [.iv (.Z6 1 (Za h.tables)), .iv (.Z6 22 (ZB h.events)), .iv (.Z6 5 (Zi h.order))])]⟩)
       (fun i=>ZK i fun i=>∀o,h.order[i]? =some o->o.ZU.length<=20) ?_ ?_ ?_
      ·simp-dsimp
      ·exact TP
      ·intro j hj Iu;simp-dsimp[JH];refine⟨fun Xf=>?_,fun Pu=>?_⟩
       ·obtain⟨o,ho⟩:=Zr Xf;have hw:=Zk (n:=(j:Int)+1) (by omega);simp-dsimp[ho,Ins.Z8 o,hw];refine⟨fun g g2=>?_,fun g=>⟨Xf,Iu.succ fun o' XI=>by rw[ho]at XI;cases XI;omega⟩⟩;have:=g2.ZU j Xf o ho;omega
       ·exact⟨h1,h2,h3,fun k hk=>hq k (by omega),fun k hk=>Iu k (by omega)⟩
   ·have n1:¬(6:Int)<h.tables.length:=by omega
    have n2:¬(60:Int)<h.events.length:=by omega
    have n3:(30:Int)<h.order.length:=by omega
    simp-dsimp[a0a,Hs.av,n1,n2,n3]
    exact fun g=>h3 g.order
  ·have n1:¬(6:Int)<h.tables.length:=by omega
   have n2:(60:Int)<h.events.length:=by omega
   simp-dsimp[a0a,Hs.av,n1,n2]
   exact fun g=>h2 g.events
 ·have n1:(6:Int)<h.tables.length:=by omega
  simp-dsimp[a0a,Hs.av,n1]
  exact fun g=>h1 g.tables
abbrev zq:Sk:=(false,[.i .i64],false)
abbrev cO:Sk:=(true,[.i .i64, .i .i64, .b, .i .i64, .s],false)
def Xy(es:List Ev)(txn:Int):Int:=es.foldl (fun s e=>if e.txn=txn/\(e.kind=1\/e.kind=5\/e.kind=6)then e.kind else s) 0
theorem e2p(es:List Ev)(e:Ev)(txn:Int):Xy (es++[e]) txn=if e.txn=txn/\(e.kind=1\/e.kind=5\/e.kind=6)then e.kind else Xy es txn:=by
 unfold Xy;rw[a5U];rfl
def gS(es:List Ev):List Value->Option (List IV)
 | [.int .i64 txn]=>if Xy es txn=0 then none else some [ci (Xy es txn)]
 | _=>none
def gW(es:List Ev):List Value->Option (List IV)
 | [.int .i64 txn, .int .i64 table, .bool t, .int .i64 n, .string s]=>if Yk es txn table ⟨t,n,s⟩=0 then none else some [ci (Yk es txn table ⟨t,n,s⟩)]
 | _=>none
def Fp(o:Int×Vl):List IV:=[ci o.1,cb o.2.text,ci o.2.n, .v (.string o.2.s)]
def Zv(es:List Ev)(txn:Int):List (Int×Vl):=(es.filter fun e=>decide (e.kind=3)&&decide (e.txn=txn)&&decide (e.n=1)).map fun e=>(e.table,e.key)
def gP(es:List Ev):List Value->Option (List (List IV))
 | [.int .i64 txn]=>if Zv es txn=[]then none else some ((Zv es txn).map Fp)
 | _=>none
def sy(es:List Ev)(k:List Value):Option (List IV):=(gP es k).map fun xs=>[IV.Z6 4 xs]
@[simp]theorem h6c(es:List Ev)(txn:Int):Nz [.iv (.v (.int .i64 0))] false false (gS es [Value.int .i64 txn])=vi (Xy es txn):=by
 simp only[gS]
 by_cases h:Xy es txn=0
 ·rw[if_pos h,h];rfl
 ·rw[if_neg h];rfl
@[simp]theorem h7c(es:List Ev)(txn table:Int)(t:Bool)(n:Int)(s:ByteArray):
 Nz [.iv (.v (.int .i64 0))] false false (gW es [Value.int .i64 txn,Value.int .i64 table,Value.bool t,Value.int .i64 n,Value.string s])=vi (Yk es txn table ⟨t,n,s⟩):=by
 simp only[gW]
 by_cases h:Yk es txn table ⟨t,n,s⟩=0
 ·rw[if_pos h,h];rfl
 ·rw[if_neg h];rfl
def Kv(l:List Rf)(k:Vl):Option Vs:=l.foldl (fun s r=>if r.key=k then some r.Z4 else s) none
theorem e4p(l:List Rf)(r:Rf)(k:Vl):Kv (l++[r]) k=if r.key=k then some r.Z4 else Kv l k:=by
 unfold Kv;rw[a5U];rfl
abbrev skO:Sk:=(true,[.i .i64, .b, .i .i64, .s],true)
def gR(tab:Int)(l:List Rf):List Value->Option (List IV)
 | [.int .i64 table, .bool t, .int .i64 n, .string s]=>if table=tab then(Kv l ⟨t,n,s⟩).map Vs.cells else none
 | _=>none
@[simp]theorem h8c(tab:Int)(l:List Rf)(t:Bool)(n:Int)(s:ByteArray):
 Nz [.iv (.v (.int .i64 0)), .iv (.v (.int .i64 0))] true false (gR tab l [Value.int .i64 tab,Value.bool t,Value.int .i64 n,Value.string s])= .agg [vi ((Kv l ⟨t,n,s⟩).getD ⟨0,0⟩).txn,vi ((Kv l ⟨t,n,s⟩).getD ⟨0,0⟩).n]:=by
 simp only[gR,if_pos trivial]
 cases Kv l ⟨t,n,s⟩<;>rfl
theorem e5p(tab:Int):gR tab []=fun _=>none:=by
 funext q;unfold gR;split
 ·split<;>rfl
 ·rfl
theorem e6p(tab:Int)(l:List Rf)(r:Rf):ZH (gR tab l) [.int .i64 tab, .bool r.key.text, .int .i64 r.key.n, .string r.key.s] (some [ci r.Z4.txn,ci r.Z4.n])=gR tab (l++[r]):=by
 funext q
 simp only[ZH];split
 ·rename_i e;subst e;simp[gR,e4p]
 ·rename_i ZV;unfold gR;split
  ·rename_i table t n s
   by_cases h1:table=tab
   ·subst h1;rw[if_pos rfl,if_pos rfl,e4p,if_neg];rintro h2;exact ZV (by rw[h2])
   ·rw[if_neg h1,if_neg h1]
  ·rfl
theorem e7p(es:List Ev)(txn:Int):(Zv es txn).length<=es.length:=by
 unfold Zv;rw[a5O];exact a0V _ _
theorem e8p{es:List Ev}{txn:Int}(h:Zv es txn=[]):sy es [.int .i64 txn]=none:=by simp[sy,gP,h]
theorem e9p{es:List Ev}{txn:Int}(h:Zv es txn≠[]):sy es [.int .i64 txn]=some [.Z6 4 ((Zv es txn).map Fp)]:=by simp[sy,gP,h]
def YE(h:Hs)(a es:List Ev):IV:= .pt [.Z6 1 (Za h.tables), .Z6 22 (ZB h.events), .Z6 5 (Zi h.order), .mp zq (gS a), .mp cO (gW es), .mp zq (sy es)]
abbrev f9Z(h:Hs):Ob:= .box [.iv (.Z6 1 (Za h.tables)), .iv (.Z6 22 (ZB h.events)), .iv (.Z6 5 (Zi h.order)), .mpr 1001, .mpr 1002, .mpr 1003]
abbrev ckH(h:Hs)(a b c:List Ev):Hp:=[(1000,f9Z h),(1001, .map zq (gS a)),(1002, .map cO (gW b)),(1003, .YA zq 4 (gP c) none)]
theorem e0q{es:List Ev}{e:Ev}(hk:e.kind=1\/e.kind=5\/e.kind=6):ZH (gS es) [.int .i64 e.txn] (some [ci e.kind])=gS (es++[e]):=by
 funext q
 simp only[ZH];split
 ·rename_i h;subst h
  have hs:Xy (es++[e]) e.txn=e.kind:=by rw[e2p,if_pos ⟨rfl,hk⟩]
  simp only[gS,hs];rw[if_neg (by omega)]
 ·rename_i ZV;unfold gS;split
  ·rename_i t
   have hs:Xy (es++[e]) t=Xy es t:=by
    rw[e2p,if_neg];rintro⟨rfl,_⟩;exact ZV rfl
   rw[hs]
  ·rfl
theorem e1q{es:List Ev}{e:Ev}(hk:¬(e.kind=1\/e.kind=5\/e.kind=6)):gS (es++[e])=gS es:=by
 funext q
 unfold gS;split
 ·rename_i t
  have hs:Xy (es++[e]) t=Xy es t:=by rw[e2p,if_neg fun g=>hk g.2]
  rw[hs]
 ·rfl
theorem e2q(es:List Ev)(e:Ev)(txn table:Int)(k:Vl):Yk (es++[e]) txn table k=Yk es txn table k+if e.Sw txn table k=true then 1 else 0:=by
 unfold Yk;rw[b4j,a7J]
 congr 1
 cases hw:e.Sw txn table k<;>simp[hw]
theorem e3q{es:List Ev}{e:Ev}(hk:e.kind=3):ZH (gW es) [.int .i64 e.txn, .int .i64 e.table, .bool e.key.text, .int .i64 e.key.n, .string e.key.s] (some [ci ((Yk es e.txn e.table e.key:Int)+1)])=gW (es++[e]):=by
 funext q
 simp only[ZH];split
 ·rename_i h;subst h
  have hw:Yk (es++[e]) e.txn e.table ⟨e.key.text,e.key.n,e.key.s⟩=Yk es e.txn e.table e.key+1:=by
   rw[e2q,if_pos (Ev.Yg.2 ⟨hk,rfl,rfl,rfl,rfl,rfl⟩)]
  simp only[gW,hw];rw[if_neg (by omega)];simp
 ·rename_i ZV;unfold gW;split
  ·rename_i txn table t n s
   have hw:Yk (es++[e]) txn table ⟨t,n,s⟩=Yk es txn table ⟨t,n,s⟩:=by
    rw[e2q,if_neg,b1H];rw[Ev.Yg];rintro⟨_,rfl,rfl,h1,h2,h3⟩;simp only at h1 h2 h3;subst h1 h2 h3;exact ZV rfl
   rw[hw]
  ·rfl
theorem e4q{es:List Ev}{e:Ev}(hk:e.kind≠3):gW (es++[e])=gW es:=by
 funext q
 unfold gW;split
 ·rw[e2q,if_neg (fun g=>hk (Ev.Yg.1 g).1),b1H]
 ·rfl
theorem e5q(es:List Ev)(e:Ev)(txn:Int):Zv (es++[e]) txn=Zv es txn++(if e.kind=3/\e.txn=txn/\e.n=1 then[(e.table,e.key)]else[]):=by
 unfold Zv;rw[b4j,a5M]
 congr 1
 simp only[b2p,d0A,a3C,decide_eq_true_eq,and_assoc]
 split<;>simp
theorem e6q{es:List Ev}{e:Ev}(hk:e.kind=3)(hn:e.n=1):ZH (gP es) [.int .i64 e.txn] (some ((Zv es e.txn).map Fp++[Fp (e.table,e.key)]))=gP (es++[e]):=by
 funext q
 simp only[ZH];split
 ·rename_i h;subst h
  have hs:Zv (es++[e]) e.txn=Zv es e.txn++[(e.table,e.key)]:=by rw[e5q,if_pos ⟨hk,rfl,hn⟩]
  simp only[gP,hs];rw[if_neg (by simp)];simp
 ·rename_i ZV;unfold gP;split
  ·rename_i t
   have hs:Zv (es++[e]) t=Zv es t:=by
    rw[e5q,if_neg,b9o];rintro⟨_,rfl,_⟩;exact ZV rfl
   rw[hs]
  ·rfl
theorem e7q{es:List Ev}{e:Ev}(hk:¬(e.kind=3/\e.n=1)):gP (es++[e])=gP es:=by
 funext q
 unfold gP;split
 ·rename_i t
  have hs:Zv (es++[e]) t=Zv es t:=by rw[e5q,if_neg (fun g=>hk ⟨g.1,g.2.2⟩),b9o]
  rw[hs]
 ·rfl
theorem e8q{es:List Ev}{txn:Int}(h:Zv es txn=[]):gP es [.int .i64 txn]=none:=by simp[gP,h]
theorem e9q{es:List Ev}{txn:Int}(h:Zv es txn≠[]):gP es [.int .i64 txn]=some ((Zv es txn).map Fp):=by simp[gP,h]
@[simp]theorem e0r{β:Type}(g:List Value->Option β)(k:List Value)(a b:Option β):ZH (ZH g k a) k b=ZH g k b:=by
 funext q;simp only[ZH];split<;>rfl
theorem b0t{h:Hs}(ht:h.WD)(a es:List Ev)(table:Int)(k:Vl):ZX prog true P4 [.iv (YE h a es),vi table,k.av] [] (vb (Y7 (Se h table k))) []:=by
 refine YG lY (by simp) (by decide) rfl ?_;simp-dsimp[KL,YE];refine⟨fun h1=>⟨fun h2=>?_,fun h2=>?_⟩,fun h1 g=>absurd g.1 (by omega)⟩
 ·obtain⟨n,rfl⟩:=c3y h1;obtain⟨t,WG⟩:∃t,h.tables[n]? =some t:=Zr (by omega);have hT:=ht t (a6y WG);obtain⟨c,hc⟩:∃c,t[0]? =some c:=Zr hT.1
  have hK:Se h n k↔k.right=true/\k.text=c:=by
   unfold Se;constructor
   ·rintro⟨_,t',h3,h4,h5⟩;rw[show((n:Int)).toNat=n from rfl,WG]at h3;cases h3;rw[hc]at h5;cases h5;exact⟨h4,rfl⟩
   ·rintro⟨h4,h5⟩;exact⟨h1,t,by simpa using WG,h4,by rw[hc,h5]⟩
  refine ZN (e5j k) (by simp) (by simp) ?_;simp-dsimp;refine⟨fun h3=>?_,fun h3 g=>by rw[hK]at g;rw[h3]at g;cases g.1⟩
  simp-dsimp[WG,hc,V4,Tf,hK,h3]
 ·rintro⟨_,t,h3,_⟩;have:=(a5y.1 h3).1;omega
theorem b1t(h:Hs)(a es:List Ev)(table:Int)(k:Vl)(v:Vs):
 ZX prog true KW [.iv (YE h a es), .agg [.iv (ci table), .iv (cb k.text), .iv (ci k.n), .iv (.v (.string k.s))],v.av] [] (vb (Y7 (M5 es table k v))) []:=by
 refine YG lX (by simp) (by decide) rfl ?_;simp-dsimp[SI,YE,Tf,M5]
 grind
theorem b6G{h:Hs}(ht:h.WD)(a es:List Ev)(e:Ev):ZX prog true Gi [.iv (YE h a es),e.av] [] (vb (Y7 (e.kind=2->Kw h es e))) []:=by
 refine YG lu (by simp) (by decide) rfl ?_
 by_cases k2:e.kind=2
 ·by_cases hw:0<Yk es e.txn e.table e.key
  ·simp-dsimp[TI,YE,Ev.av,k2,hw];refine ZN (b0t ht a es e.table e.key) (by simp[YE]) (by simp[YE]) ?_;simp-dsimp;refine⟨fun g=>?_,fun g g2=>g g2.1⟩;rw[Tf];unfold Kw;rw[if_pos hw];simp[g,Vs.eq_iff]
  ·have hR:Kw h es e↔Se h e.table e.key/\((e.Z4.txn=0/\e.Z4.n=0)\/M5 es e.table e.key e.Z4):=by
    unfold Kw;rw[if_neg hw];simp[Vs.eq_iff]
   simp-dsimp[TI,YE,Ev.av,k2,hw];refine ZN (b0t ht a es e.table e.key) (by simp[YE]) (by simp[YE]) ?_;simp-dsimp;refine⟨fun g=>⟨fun g2=>?_,fun g2 g3=>hR.2 ⟨g, .inl ⟨g2,g3⟩⟩⟩,fun g g2=>g g2.1⟩;refine ZN (b1t h a es e.table e.key e.Z4) (by simp[YE]) (by simp[YE]) ?_;simp-dsimp[d9P,hR]
   grind
 ·simp-dsimp[TI,YE,Ev.av,k2]
def C7(h:Hs)(es:List Ev)(e:Ev):Prop:=(0<=e.table/\∃t,h.tables[e.table.toNat]? =some t/\Pw t e.pred)/\ZK e.refs.length (My h es e)∧
 ∀o,o∈Zv es e.txn->o.1=e.table->(Kv e.refs o.2).getD ⟨0,0⟩=⟨e.txn,Yk es e.txn o.1 o.2⟩
theorem b8G{h:Hs}(ht:h.WD)(QQ:h.tables.length<2^63)(a es:List Ev)(LJ:es.length<2^63)(e:Ev)(XJ:e.Ok):ZX prog true Gh [.iv (YE h a es),e.av] [] (vb (Y7 (e.kind=4->C7 h es e))) []:=by
 refine YG lr (by simp) (by decide) rfl ?_
 by_cases k4:e.kind=4
 ·by_cases hT:0<=e.table/\e.table<h.tables.length
  ·obtain⟨t0,t1⟩:=id hT;obtain⟨t,Od⟩:∃t,h.tables[e.table.toNat]? =some t:=Zr (by omega)
   have t2:¬(h.tables.length:Int)<=e.table:=by omega
   have t3:¬e.table<0:=by omega
   simp-dsimp[TH,YE,Ev.av,k4,t0,t3,t2,Od];refine ZN (b8J t XJ.pred) (by simp[YK,Pd.av]) (by simp[YK,Pd.av]) ?_;simp-dsimp
   have hS:C7 h es e↔Pw t e.pred/\ZK e.refs.length (My h es e)/\∀o,o∈Zv es e.txn->o.1=e.table->(Kv e.refs o.2).getD ⟨0,0⟩=⟨e.txn,Yk es e.txn o.1 o.2⟩:=by
    unfold C7;constructor
    ·rintro⟨⟨_,t',g1,g2⟩,g3⟩;rw[Od]at g1;cases g1;exact⟨g2,g3⟩
    ·rintro⟨g2,g3⟩;exact⟨⟨t0,t,Od,g2⟩,g3⟩
   refine⟨fun h2 g=>h2 (hS.1 g).1,fun h2=>?_⟩
   refine YJ [] [7,8] e.refs.length (fun i=>⟨[(47,vi i),(46,vi e.refs.length),(45, .iv (.Z6 5 (Mx e.refs))),(0, .iv (YE h a es)),(3, .ptr 3 0),(5, .mpr 43)],
    [(43, .map skO (gR e.table (e.refs.take i))),(3, .box (e.cells.map .iv))]⟩) (fun i=>ZK i (My h es e)) ?_ ?_ ?_
   ·simp-dsimp[e5p,YE]
   ·simp
   ·intro i hi hq;simp-dsimp[Ku,YE];refine⟨fun Z2=>?_,fun X9=>?_⟩
    ·obtain⟨q,VE⟩:=Zr Z2;have hre:=XJ.refs;have hw:=Zk (n:=(i:Int)+1) (by omega);have Wp:=Zk (n:=(i:Int)-1) (by omega)
     have YQ:¬My h es e i->¬C7 h es e:=fun g1 g=>g1 (g.2.1 i Z2)
     have UH:My h es e i↔Se h e.table q.key/\M5 es e.table q.key q.Z4/\(∀p,0<i->e.refs[i-1]? =some p->p.key.cmp q.key<0):=by
      unfold My;rw[VE];exact⟨fun g=>g q rfl,fun g r hr=>by cases hr;exact g⟩
     simp-dsimp[VE,Rf.Z8 q];refine ZN (b0t ht a es e.table q.key) (by simp[YE]) (by simp[YE]) ?_;simp-dsimp
     by_cases k1:Se h e.table q.key
     ·simp-dsimp[k1];refine ZN (b1t h a es e.table q.key q.Z4) (by simp[YE]) (by simp[YE]) ?_;simp-dsimp
      by_cases k2:M5 es e.table q.key q.Z4
      ·by_cases Fq:0<i
       ·obtain⟨p,hp⟩:∃p,e.refs[i-1]? =some p:=Zr (by omega)
        have e1:((i:Int)-1).toNat=i-1:=by omega
        have e2:(0:Int)<=(i:Int)-1:=by omega
        simp-dsimp[k2,Fq,Wp,e1,e2,hp,Rf.Z8 p];refine⟨⟨by omega,ZN (b5t p.key q.key) (by simp) (by simp) ?_⟩,fun g=>absurd g (by omega)⟩;simp-dsimp[hw,e6p,Qp VE];refine⟨fun k3=>YQ fun g=>absurd ((UH.1 g).2.2 p Fq hp) (by omega),fun k3=>⟨Z2,hq.succ (UH.2 ⟨k1,k2,fun p' _ Dy=>by rw[hp]at Dy;cases Dy;exact k3⟩)⟩⟩
       ·simp-dsimp[k2,Fq,hw,e6p,Qp VE]
        exact fun _=>⟨Z2,hq.succ (UH.2 ⟨k1,k2,fun p h=>absurd h Fq⟩)⟩
      ·simp-dsimp[k2]
       exact YQ fun g=>k2 (UH.1 g).2.1
     ·simp-dsimp[k1]
      exact YQ fun g=>k1 (UH.1 g).1
    ·have Zq:ZK e.refs.length (My h es e):=fun j hj=>hq j (by omega)
     rw[a0z X9]
     by_cases hs:Zv es e.txn=[]
     ·simp-dsimp[e8p hs]
      refine YJ [] [] 0 (fun i=>⟨[(102,vi i),(101,vi 0),(100, .nil 4),(0, .iv (YE h a es)),(3, .ptr 3 0),(5, .mpr 43)],
       [(43, .map skO (gR e.table e.refs)),(3, .box (e.cells.map .iv))]⟩) (fun _=>True) ?_ trivial ?_
      ·simp-dsimp[YE]
      ·intro j hj _
       obtain rfl:j=0:=by omega
       simp-dsimp[Pv];exact hS.2 ⟨h2,Zq,by rw[hs];simp⟩
     ·simp-dsimp[e9p hs]
      refine YJ [] [10] (Zv es e.txn).length (fun i=>⟨[(102,vi i),(101,vi (Zv es e.txn).length),(100, .iv (.Z6 4 ((Zv es e.txn).map Fp))),(0, .iv (YE h a es)),(3, .ptr 3 0),(5, .mpr 43)],
       [(43, .map skO (gR e.table e.refs)),(3, .box (e.cells.map .iv))]⟩) (fun i=>∀o,o∈(Zv es e.txn).take i->o.1=e.table->(Kv e.refs o.2).getD ⟨0,0⟩=⟨e.txn,Yk es e.txn o.1 o.2⟩) ?_ ?_ ?_
      ·simp-dsimp[YE]
      ·simp
      ·intro j hj Iu;have hsl:=e7p es e.txn;simp-dsimp[Pv,YE];refine⟨fun Xf=>?_,fun Pu=>?_⟩
       ·obtain⟨o,ho⟩:=Zr Xf;have Mw:=Zk (n:=(j:Int)+1) (by omega)
        by_cases c:o.1=e.table
        ·simp-dsimp[ho,Fp,c,Mw,Qp ho];constructor
         ·intro g g2;have g3:=(hS.1 g2).2.2 o (a6y ho) c;rw[c]at g3;rw[g3]at g;simp at g
         ·intro g1 g2;refine⟨Xf,?_⟩;rintro a' b (g|rfl) rfl
          ·exact Iu _ g rfl
          ·exact Vs.eq_iff.2 ⟨g1,g2⟩
        ·simp-dsimp[ho,Fp,c,Mw,Qp ho];refine⟨Xf,?_⟩;rintro a' b (g|rfl) rfl
         ·exact Iu _ g rfl
         ·exact absurd rfl c
       ·rw[a0z Pu]at Iu;exact hS.2 ⟨h2,Zq,Iu⟩
  ·have YQ:¬C7 h es e:=by
    rintro⟨⟨g0,t,g,_⟩,_⟩;have:=(a5y.1 g).1;omega
   by_cases t0:0<=e.table
   ·have t1:¬e.table<h.tables.length:=fun g=>hT ⟨t0,g⟩
    simp-dsimp[TH,YE,Ev.av,k4,t0,t1,YQ]
   ·simp-dsimp[TH,YE,Ev.av,k4,t0,YQ]
 ·simp-dsimp[TH,YE,Ev.av,k4]
def GL(es:List Ev)(e:Ev):Prop:=1<=e.txn/\1<=e.kind/\e.kind<=6/\(e.kind=1->Xy es e.txn=0/\1<=e.level/\e.level<=5)/\(e.kind≠1->Xy es e.txn=1)
instance (es:List Ev) (e:Ev):Decidable (GL es e):=by unfold GL;exact inferInstance
def Dt(es:List Ev)(e:Ev):List Ev:=if GL es e then es++[e]else es
theorem a1Q(h:Hs)(es b c:List Ev)(e:Ev):ZX prog false GK [.ptr 1000 0,e.av] (ckH h es b c) (vb (Y7 (GL es e))) (ckH h (Dt es e) b c):=by
 refine a3L mA (by simp) (by decide) rfl rfl ?_
 by_cases hF:GL es e
 ·have hE:Dt es e=es++[e]:=if_pos hF;rw[hE];obtain⟨h1,h2,h3,h4,h5⟩:=id hF
  have n1:¬e.txn<1:=by omega
  have n2:¬e.kind<1:=by omega
  have n3:¬6<e.kind:=by omega
  by_cases k1:e.kind=1
  ·obtain⟨g1,g2,g3⟩:=h4 k1
   have n4:¬e.level<1:=by omega
   have n5:¬5<e.level:=by omega
   have hg:=e0q (es:=es) (e:=e) (.inl k1);rw[k1]at hg;simp-dsimp[WH,Ev.av,n1,n2,n3,k1,g1,n4,n5,hg,hF]
  ·have g1:=h5 k1
   by_cases k5:e.kind=5
   ·have hg:=e0q (es:=es) (e:=e) (.inr (.inl k5));rw[k5]at hg;simp-dsimp[WH,Ev.av,n1,n2,n3,k1,g1,k5,hg,hF]
   ·by_cases k6:e.kind=6
    ·have hg:=e0q (es:=es) (e:=e) (.inr (.inr k6));rw[k6]at hg;simp-dsimp[WH,Ev.av,n1,n2,n3,k1,g1,k6,hg,hF]
    ·have hg:=e1q (es:=es) (e:=e) (by omega);simp-dsimp[WH,Ev.av,n1,n2,n3,k1,g1,k5,k6,hg,hF]
 ·have hE:Dt es e=es:=if_neg hF;rw[hE];simp-dsimp[WH,Ev.av,hF];unfold GL at hF
  grind
def CkW(h:Hs)(es:List Ev)(e:Ev):Prop:=e.kind=3->Se h e.table e.key/\e.n=Yk es e.txn e.table e.key+1
noncomputable def oN(h:Hs)(es:List Ev)(e:Ev):List Ev:= @ite _ (CkW h es e) (b8I _) (es++[e]) es
theorem a2Q{h:Hs}(ht:h.WD)(a es:List Ev)(LJ:es.length<2^40)(e:Ev):ZX prog false GJ [.ptr 1000 0,e.av] (ckH h a es es) (vb (Y7 (e.kind=3->HV h es e))) (ckH h a (oN h es e) (oN h es e)):=by
 refine a3L mz (by simp) (by decide) rfl rfl ?_
 by_cases k3:e.kind=3
 ·simp-dsimp[Ti,Ev.av,k3];refine ZN (b0t ht a es e.table e.key) (by simp[YE];rfl) (by simp[YE]) ?_
  by_cases hK:Se h e.table e.key
  ·have hwl:=d8P es e.txn e.table e.key;have hw:=Zk (n:=(Yk es e.txn e.table e.key:Int)+1) (by omega)
   by_cases hn:e.n=Yk es e.txn e.table e.key+1
   ·have hE:oN h es e=es++[e]:=if_pos fun g=>⟨hK,hn⟩
    rw[hE];obtain⟨h0,t,Od,hr,hc⟩:=id hK;have Ds:=e3q (es:=es) (e:=e) k3
    have IH:HV h es e↔e.row=[]\/(Fits t e.row/\e.row[0]? =some e.key):=by
     unfold HV;constructor
     ·rintro⟨_,_,g|⟨t',g2,g3,g4⟩⟩
      ·exact .inl g
      ·rw[Od]at g2;cases g2;exact .inr ⟨g3,g4⟩
     ·rintro(g|⟨g3,g4⟩)
      ·exact⟨hK,hn, .inl g⟩
      ·exact⟨hK,hn, .inr ⟨t,Od,g3,g4⟩⟩
    have Wp:IntKind.i64.wrap 1=1:=by rw[IntKind.wrap_i64];omega
    by_cases h1:Yk es e.txn e.table e.key=0
    ·have Lz:e.n=1:=by omega
     rw[h1]at Ds;have GI:=e6q (es:=es) (e:=e) k3 Lz
     by_cases hs:Zv es e.txn=[]
     ·rw[hs]at GI
      by_cases Y8:e.row=[]
      ·simp-dsimp[hK,Wp,Lz,h1,e8q hs,Y8,IH];exact⟨Ds,GI⟩
      ·obtain⟨v,hv⟩:∃v,e.row[0]? =some v:=Zr (a6I.2 Y8);simp-dsimp[hK,Wp,Lz,h1,e8q hs,Y8,h0,Od]
       repeat' apply b5Z
       all_goals try omega
       all_goals
        refine ZN (e5k t e.row) (by simp[YK,oM,Yp]) (by simp[YK]) ?_
        by_cases hf:Fits t e.row
        ·simp-dsimp[hf,hv,IH,Y8,Tf,Vl.eq_iff];exact⟨Ds,GI⟩
        ·simp-dsimp[hf,IH,Y8];exact⟨Ds,GI⟩
     ·have hsl:=e7p es e.txn
      by_cases Y8:e.row=[]
      ·simp-dsimp[hK,Wp,Lz,h1,e9q hs,Y8,IH];exact⟨by omega,by omega,Ds,GI⟩
      ·obtain⟨v,hv⟩:∃v,e.row[0]? =some v:=Zr (a6I.2 Y8);simp-dsimp[hK,Wp,Lz,h1,e9q hs,Y8,h0,Od]
       repeat' apply b5Z
       all_goals try omega
       all_goals
        refine ZN (e5k t e.row) (by simp[YK,oM,Yp]) (by simp[YK]) ?_
        by_cases hf:Fits t e.row
        ·simp-dsimp[hf,hv,IH,Y8,Tf,Vl.eq_iff];exact⟨Ds,GI⟩
        ·simp-dsimp[hf,IH,Y8];exact⟨Ds,GI⟩
    ·have GI:=e7q (es:=es) (e:=e) (by omega)
     have Lz:¬((Yk es e.txn e.table e.key:Int)+1=1):=by omega
     by_cases Y8:e.row=[]
     ·simp-dsimp[hK,hw,hn,Lz,Y8,IH];exact⟨Ds,GI.symm⟩
     ·obtain⟨v,hv⟩:∃v,e.row[0]? =some v:=Zr (a6I.2 Y8);simp-dsimp[hK,hw,hn,Lz,Y8,h0,Od]
      repeat' apply b5Z
      all_goals
       refine ZN (e5k t e.row) (by simp[YK,oM,Yp]) (by simp[YK]) ?_
       by_cases hf:Fits t e.row
       ·simp-dsimp[hf,hv,IH,Y8,Tf,Vl.eq_iff];exact⟨Ds,GI.symm⟩
       ·simp-dsimp[hf,IH,Y8];exact⟨Ds,GI.symm⟩
   ·have hE:oN h es e=es:=if_neg fun g=>hn (g k3).2
    rw[hE];simp-dsimp[hK,hw,hn]
    exact fun g=>hn g.2.1
  ·have hE:oN h es e=es:=if_neg fun g=>hK (g k3).1
   rw[hE];simp-dsimp[hK]
   exact fun g=>hK g.1
 ·have hE:oN h es e=es++[e]:=if_pos fun g=>absurd g k3
  rw[hE];simp-dsimp[Ti,Ev.av,k3,e4q k3,e7q (fun g=>k3 g.1)]
end Go.Rt
end

section
namespace Go.Rt
open Go.Vm
open Classical in
noncomputable def RR(p:Int->Int×Vl->Prop):List Value->Option (List IV)
 | [.int .i64 txn, .int .i64 table, .bool t, .int .i64 n, .string s]=>if p txn (table,⟨t,n,s⟩)then some [ci 1]else none
 | _=>none
theorem c0L:RR (fun _ _=>False)=fun _=>none:=by
 funext q;unfold RR;split
 ·rw[if_neg];exact fun h=>h
 ·rfl
theorem c1L{p p':Int->Int×Vl->Prop}(h:∀t o,p t o↔p' t o):RR p=RR p':=by
 have:p=p':=by funext t o;exact propext (h t o)
 rw[this]
theorem c2L(p:Int->Int×Vl->Prop)(txn:Int)(o:Int×Vl):ZH (RR p) [.int .i64 txn, .int .i64 o.1, .bool o.2.text, .int .i64 o.2.n, .string o.2.s] (some [ci 1])=RR (fun t x=>p t x\/(t=txn/\x=o)):=by
 funext q
 simp only[ZH];split
 ·rename_i h;subst h;simp only[RR];rw[if_pos];exact .inr ⟨rfl,rfl⟩
 ·rename_i ZV;unfold RR;split
  ·rename_i t table b n s
   have hn:¬(t=txn/\(table,(⟨b,n,s⟩:Vl))=o):=by rintro⟨rfl,rfl⟩;exact ZV rfl
   by_cases hp:p t (table,⟨b,n,s⟩)
   ·rw[if_pos hp,if_pos (.inl hp)]
   ·rw[if_neg hp,if_neg fun g=>g.elim hp hn]
  ·rfl
theorem c3L(p:Int->Int×Vl->Prop)(txn:Int)(o:Int×Vl):ZH (RR p) [.int .i64 txn, .int .i64 o.1, .bool o.2.text, .int .i64 o.2.n, .string o.2.s] none=RR (fun t x=>p t x/\¬(t=txn/\x=o)):=by
 funext q
 simp only[ZH];split
 ·rename_i h;subst h;simp only[RR];rw[if_neg]
  exact fun g=>g.2 ⟨rfl,rfl⟩
 ·rename_i ZV;unfold RR;split
  ·rename_i t table b n s
   have hn:¬(t=txn/\(table,(⟨b,n,s⟩:Vl))=o):=by rintro⟨rfl,rfl⟩;exact ZV rfl
   by_cases hp:p t (table,⟨b,n,s⟩)
   ·rw[if_pos hp,if_pos ⟨hp,hn⟩]
   ·rw[if_neg hp,if_neg fun g=>hp g.1]
  ·rfl
open Classical in
theorem c4L(p:Int->Int×Vl->Prop)(txn table:Int)(t:Bool)(n:Int)(s:ByteArray):
 Nz [.iv (.v (.int .i64 0))] false false (RR p [Value.int .i64 txn,Value.int .i64 table,Value.bool t,Value.int .i64 n,Value.string s])=vi (if p txn (table,⟨t,n,s⟩)then 1 else 0):=by
 simp only[RR]
 split<;>rfl
theorem c5L{p:Int->Int×Vl->Prop}:(∀k,RR p k=none)↔∀t o,¬p t o:=by
 constructor
 ·intro h t o hp;have:=h [.int .i64 t, .int .i64 o.1, .bool o.2.text, .int .i64 o.2.n, .string o.2.s];simp only[RR]at this;rw[if_pos hp]at this;cases this
 ·intro h k;unfold RR;split
  ·rw[if_neg (h _ _)]
  ·rfl
def VH(l:List Ins)(table:Int)(k:Vl):Nat:=(l.filter fun o=>decide (o.table=table)&&decide (o.key=k)).length
theorem c6L(l:List Ins)(o:Ins)(table:Int)(k:Vl):VH (l++[o]) table k=VH l table k+if o.table=table/\o.key=k then 1 else 0:=by
 unfold VH;rw[b4j,a7J]
 congr 1
 simp only[b2p,d0A,a3C,decide_eq_true_eq]
 split<;>rfl
theorem c7L{l:List Ins}{table:Int}{k:Vl}:VH l table k=0↔∀x,x∈l->¬(x.table=table/\x.key=k):=by
 unfold VH;rw[a1S,List.filter_eq_nil_iff];simp
theorem c8L(l:List Ins)(table:Int)(k:Vl):VH l table k<=l.length:=a0V _ _
abbrev skM:Sk:=(true,[.i .i64, .b, .i .i64, .s],false)
def UU(l:List Ins):List Value->Option (List IV)
 | [.int .i64 table, .bool t, .int .i64 n, .string s]=>if VH l table ⟨t,n,s⟩=0 then none else some [ci (VH l table ⟨t,n,s⟩)]
 | _=>none
theorem c9L:UU []=fun _=>none:=by
 funext q;unfold UU;split
 ·rfl
 ·rfl
@[simp]theorem g3g(l:List Ins)(table:Int)(t:Bool)(n:Int)(s:ByteArray):
 Nz [.iv (.v (.int .i64 0))] false false (UU l [Value.int .i64 table,Value.bool t,Value.int .i64 n,Value.string s])=vi (VH l table ⟨t,n,s⟩):=by
 simp only[UU]
 by_cases h:VH l table ⟨t,n,s⟩=0
 ·rw[if_pos h,h];rfl
 ·rw[if_neg h];rfl
theorem c0M(l:List Ins)(o:Ins):ZH (UU l) [.int .i64 o.table, .bool o.key.text, .int .i64 o.key.n, .string o.key.s] (some [ci ((VH l o.table o.key:Int)+1)])=UU (l++[o]):=by
 funext q
 simp only[ZH];split
 ·rename_i h;subst h
  have hw:VH (l++[o]) o.table ⟨o.key.text,o.key.n,o.key.s⟩=VH l o.table o.key+1:=by
   rw[c6L,if_pos ⟨rfl,rfl⟩]
  simp only[UU,hw];rw[if_neg (by omega)];simp
 ·rename_i ZV;unfold UU;split
  ·rename_i table t n s
   have hw:VH (l++[o]) table ⟨t,n,s⟩=VH l table ⟨t,n,s⟩:=by
    rw[c6L,if_neg,b1H];rintro⟨rfl,h⟩;rw[h]at ZV;exact ZV rfl
   rw[hw]
  ·rfl
theorem c1M{es:List Ev}{k:List Value}{c:List IV}(h:sy es k=some c):∃txn,k=[.int .i64 txn]/\Zv es txn≠[]/\c=[.Z6 4 ((Zv es txn).map Fp)]:=by
 unfold sy gP at h;split at h
 ·rename_i txn;split at h
  ·cases h
  ·rename_i ZV;simp only[Option.map_some,a3y]at h;exact⟨txn,rfl,ZV,h.symm⟩
 ·cases h
@[simp]theorem c2M{s:St}{fr:Bool}{ids:List Nat}:s.arg1 fr ids∘AV.iv=AV.iv:=funext fun _=>by simp
theorem c3M{k q:List Value}{l:List (List Value)}:q∈Ou k l↔q∈l/\q≠k:=by
 unfold Ou;rw[a2E];simp
theorem c4M{k:List Value}{l:List (List Value)}(h:k∈l):(Ou k l).length<l.length:=by
 unfold Ou;refine List.length_filter_lt_length_iff_exists.2 ⟨k,h,?_⟩;simp
@[simp]theorem g4g{β:Type}(g:List Value->Option β)(k:List Value)(c:Option β):ZH g k c k=c:=by simp[ZH]
theorem c5M{P:Program}{c:Z9}{s:St}{O:Yr}(D D':List Nat)(S:List (List Value)->Option (List Value)->St)(Q:List (List Value)->Prop)(L:List (List Value))(h0:LeTo D s (S L none))(q0:Q L)
 (hs:∀left last,Q left->X7 P c (S left last) {O with n:=fun s2=>∃k Je,k∈left/\LeTo D' s2 (S (Ou k left) Je)/\Q (Ou k left)}):HY P c s O:=by
 refine HZ (fun n s=>∃left last,n=left.length/\s=S left last/\Q left) ⟨_,_,h0.le,L,none,rfl,rfl,q0⟩ ?_;rintro k s' ⟨left,last,rfl,rfl,hq⟩;refine CB c (O:={O with n:=fun s2=>∃k Je,k∈left/\LeTo D' s2 (S (Ou k left) Je)/\Q (Ou k left)}) (fun s2 h=>?_) (fun _ _ h=>h) (fun _ h=>h) (fun _ _ h=>h) (hs left last hq)
 obtain⟨k,Je,hk,hle,Vz⟩:=h;exact⟨_,_,c4M hk,hle.le,_,_,rfl,rfl,Vz⟩
def c6M(h:Hs)(es:List Ev)(i:Nat)(o:Ins):Prop:=(∀x,x∈h.order.take i->¬(x.table=o.table/\x.key=o.key))/\0<o.ZU.length∧
 ZK o.ZU.length fun k=>∀t,o.ZU[k]? =some t->Xy es t=5/\(o.table,o.key)∈Zv es t/\t∉o.ZU.take k
def cN(h:Hs)(es:List Ev):Prop:=(ZK h.order.length fun i=>∀o,h.order[i]? =some o->c6M h es i o)∧
 ∀t o,Xy es t=5->o∈Zv es t->∃x,x∈h.order/\(x.table=o.1/\x.key=o.2)/\t∈x.ZU
end Go.Rt
end

section
namespace Go.Rt
open Go.Vm
def c3Z(h:Hs)(es:List Ev)(i:Nat)(t:Int)(o:Int×Vl):Prop:=(Xy es t=5/\o∈Zv es t)/\¬∃x,x∈h.order.take i/\(x.table=o.1/\x.key=o.2)/\t∈x.ZU
theorem c4Z{h:Hs}(ZY:h.Ok)(es:List Ev)(LJ:es.length<2^40):ZX prog true P7 [.iv (YE h es es)] [] (vb (Y7 (cN h es))) []:=by
 refine YG e5I (by simp) (by decide) rfl ?_;simp-dsimp[PU,YE];intro L _ hL _
 refine c5M [] [] (fun left last=>⟨[(20, .ptr 20 0),(0, .iv (YE h es es)),(3, .mpr 15)],[(20, .iter zq (sy es) left last),(15, .map cO (RR fun t o=>(Xy es t=5/\o∈Zv es t)/\[Value.int .i64 t]∉left))]⟩)
  (fun left=>∀k,k∈left->k∈L) L ?_ (fun _ h=>h) ?_
 ·have h0:(RR fun t o=>(Xy es t=5/\o∈Zv es t)/\[Value.int .i64 t]∉L)=fun _=>none:=by
   rw[<-c0L]
   refine c1L fun t o=>⟨?_,fun g=>g.elim⟩
   rintro⟨⟨_,g⟩,g2⟩;refine g2 ((hL _).2 ?_);rw[e9p (c3u g)];intro g3;cases g3
  simp-dsimp[YE,h0]
 ·intro left last hq;simp-dsimp[Jh,YE];refine⟨?_,?_⟩
  ·rintro rfl;have Ny:=ZY.order
   refine YJ [20] [10,11,14] h.order.length (fun i=>⟨[(51,vi i),(50,vi h.order.length),(49, .iv (.Z6 5 (Zi h.order))),(3, .mpr 15),(8, .mpr 44)],
    [(44, .map skM (UU (h.order.take i))),(15, .map cO (RR (c3Z h es i)))]⟩) (fun i=>ZK i fun i=>∀o,h.order[i]? =some o->c6M h es i o) ?_ ?_ ?_
   ·have h0:(RR fun t o=>(Xy es t=5/\o∈Zv es t)/\¬[Value.int .i64 t]∈([]:List (List Value)))=RR (c3Z h es 0):=c1L fun t o=>by simp[c3Z]
    simp-dsimp[c9L];simpa using h0
   ·exact TP
   ·intro i hi VE;simp-dsimp[Jf];refine⟨fun Z2=>?_,fun X9=>?_⟩
    ·obtain⟨o,ho⟩:=Zr Z2;have hw:=Zk (n:=(i:Int)+1) (by omega);have hml:=c8L (h.order.take i) o.table o.key;rw[a3U]at hml;have Wp:=Zk (n:=(VH (h.order.take i) o.table o.key:Int)+1) (by omega);have EH:=c7L (l:=h.order.take i) (table:=o.table) (k:=o.key)
     have YQ:¬c6M h es i o->¬cN h es:=fun g1 g=>g1 (g.1 i Z2 o ho)
     by_cases hm:VH (h.order.take i) o.table o.key=0
     ·have hg:UU (h.order.take i) [.int .i64 o.table, .bool o.key.text, .int .i64 o.key.n, .string o.key.s]=none:=by simp[UU,hm]
      have Cs:=c0M (h.order.take i) o;rw[hm]at Cs
      have g4J:IntKind.i64.wrap 1=1:=by rw[IntKind.wrap_i64];omega
      have f9R:ZH (UU (h.order.take i)) [.int .i64 o.table, .bool o.key.text, .int .i64 o.key.n, .string o.key.s] (some [ci 1])=UU (h.order.take (i+1)):=by rw[Qp ho];exact Cs
      have hm1:VH (h.order.take (i+1)) o.table o.key=1:=by rw[Qp ho,c6L,hm,if_pos ⟨rfl,rfl⟩]
      have QQ:=ZY.ZU o (a6y ho)
      have hLo:∀t,c3Z h es i t (o.table,o.key)↔Xy es t=5/\(o.table,o.key)∈Zv es t:=fun t=>
       ⟨fun g=>g.1,fun g=>⟨g,fun⟨x,g1,g2,_⟩=>EH.1 hm x g1 g2⟩⟩
      simp-dsimp[ho,Ins.Z8 o,hg,hm,g4J,f9R,hm1];constructor
      all_goals
       intro n;refine⟨fun g=>YQ fun g2=>absurd g2.2.1 (by rw[g];simp),fun ZV=>?_⟩
       refine YJ [10] [14] o.ZU.length (fun k=>⟨[(79,vi k),(78,vi o.ZU.length),(77, .iv (.Z6 1 (YW o.ZU))),(11, .ptr 11 0),(51,vi i),(50,vi h.order.length),(49, .iv (.Z6 5 (Zi h.order))),(3, .mpr 15),(8, .mpr 44)],
        [(11, .box [.iv (ci o.table), .iv (cb o.key.text), .iv (ci o.key.n), .iv (.v (.string o.key.s))]),(44, .map skM (UU (h.order.take (i+1)))),(15, .map cO (RR fun t x=>c3Z h es i t x/\¬(x=(o.table,o.key)/\t∈o.ZU.take k)))]⟩)
        (fun k=>ZK k fun k=>∀t,o.ZU[k]? =some t->Xy es t=5/\(o.table,o.key)∈Zv es t/\t∉o.ZU.take k) ?_ ?_ ?_
       ·simp-dsimp
       ·exact TP
       ·intro k hk nS;simp-dsimp[Jg];refine⟨fun Sr=>?_,fun Ip=>?_⟩
        ·obtain⟨t,T7⟩:=Zr Sr;have MF:=Zk (n:=(k:Int)+1) (by omega);simp-dsimp[T7,MF,c4L];refine⟨fun g=>YQ fun g2=>?_,fun g1 g2=>⟨Sr,?_,nS.succ fun t' IT=>?_⟩⟩
         ·obtain⟨a1,a2,a3⟩:=g2.2.2 k Sr t T7;exact a3 (g ((hLo t).2 ⟨a1,a2⟩))
         ·refine(c3L _ t (o.table,o.key)).trans (c1L fun t' x=>?_);rw[Qp T7,a9E,a1B];constructor
          ·rintro⟨⟨a1,a2⟩,a3⟩;exact⟨a1,fun e g=>g.elim (a2 e) fun e2=>a3 ⟨e2,e⟩⟩
          ·rintro⟨a1,a2⟩;exact⟨⟨a1,fun e g=>a2 e (.inl g)⟩,fun g=>a2 g.2 (.inr g.1)⟩
         ·rw[T7]at IT;cases IT;exact⟨((hLo t).1 g1).1,((hLo t).1 g1).2,g2⟩
        ·simp-dsimp[hw];refine⟨Z2,c1L fun t x=>?_,ZK.succ VE fun o' XI=>?_⟩
         ·rw[a0z Ip];unfold c3Z;rw[Qp ho];constructor
          ·rintro⟨⟨a1,a2⟩,a3⟩;refine⟨a1,?_⟩;rintro⟨y,b1,b2,b3⟩
           rcases a9E.1 b1 with b1|b1
           ·exact a2 ⟨y,b1,b2,b3⟩
           ·simp only[a1B]at b1;subst b1;exact a3 (by rw[b2.1,b2.2]) b3
          ·rintro⟨a1,a2⟩;refine⟨⟨a1,fun⟨y,b1,b2,b3⟩=>a2 ⟨y,a7N _ b1,b2,b3⟩⟩,fun e g=>a2 ⟨o,by simp,?_,g⟩⟩;subst e;exact⟨rfl,rfl⟩
         ·rw[ho]at XI;cases XI;exact⟨EH.1 hm,a6I.2 ZV,fun j hj=>nS j (by omega)⟩
     ·have hn:¬c6M h es i o:=fun g=>hm (EH.2 g.1)
      obtain⟨c,hc⟩:∃c,UU (h.order.take i) [.int .i64 o.table, .bool o.key.text, .int .i64 o.key.n, .string o.key.s]=some c:=⟨_,by simp only[UU];rw[if_neg hm]⟩
      have QO:c=[ci (VH (h.order.take i) o.table o.key)]:=by
       simp only[UU]at hc;rw[if_neg hm]at hc;exact(c8c hc).symm
      have hgt:(1:Int)<(VH (h.order.take i) o.table o.key:Int)+1:=by omega
      subst QO;simp-dsimp[ho,Ins.Z8 o,Wp,hc,hgt];exact YQ hn
    ·intro n hn
     have h2:(n=0)↔cN h es:=by
      rw[hn,c5L]
      have Vg:i=h.order.length:=by omega
      subst Vg;unfold cN c3Z;rw[a6J];constructor
      ·intro g;refine⟨VE,fun t o g1 g2=>?_⟩;have:=g t o
       exact a9M fun g3=>this ⟨⟨g1,g2⟩,g3⟩
      ·rintro⟨_,g⟩ t o ⟨⟨g1,g2⟩,g3⟩;exact g3 (g t o g1 g2)
     rw[Tf, <-h2];simp
  ·intro k c hk hc hkd;obtain⟨txn,rfl,hsp,rfl⟩:=c1M hc;simp-dsimp[hc]
   by_cases h5:Xy es txn=5
   ·have hsl:=e7p es txn;simp-dsimp[h5]
    refine YJ [] [7] (Zv es txn).length (fun i=>⟨[(35,vi i),(34,vi (Zv es txn).length),(33, .iv (.Z6 4 ((Zv es txn).map Fp))),(4,vi txn),(20, .ptr 20 0),(0, .iv (YE h es es)),(3, .mpr 15)],
     [(20, .iter zq (sy es) (Ou [.int .i64 txn] left) (some [.int .i64 txn])),(15, .map cO (RR fun t o=>((Xy es t=5/\o∈Zv es t)/\[Value.int .i64 t]∉left)\/(t=txn/\o∈(Zv es txn).take i)))]⟩) (fun _=>True) ?_ trivial ?_
    ·simp-dsimp[YE]
    ·intro i hi _;simp-dsimp[Ji,YE];refine⟨fun Z2=>?_,fun X9=>?_⟩
     ·obtain⟨o,ho⟩:=Zr Z2;have hw:=Zk (n:=(i:Int)+1) (by omega);simp-dsimp[ho,Fp,hw,c2L,Qp ho];exact⟨Z2,c1L fun t x=>by grind⟩
     ·refine⟨_,hk,⟨rfl,c1L fun t x=>?_⟩,fun q Vz=>hq q (c3M.1 Vz).1⟩;rw[a0z X9,c3M];constructor
      ·rintro(⟨g1,g2⟩|⟨rfl,g⟩)
       ·exact⟨g1,fun g=>g2 g.1⟩
       ·exact⟨⟨h5,g⟩,fun g=>g.2 rfl⟩
      ·rintro⟨⟨g1,g2⟩,g3⟩
       by_cases e:t=txn
       ·subst e;exact .inr ⟨rfl,g2⟩
       ·exact .inl ⟨⟨g1,g2⟩,fun g=>g3 ⟨g,fun e2=>e (by cases e2;rfl)⟩⟩
   ·simp-dsimp[h5];refine⟨_,hk,⟨rfl,c1L fun t x=>?_⟩,fun q Vz=>hq q (c3M.1 Vz).1⟩;rw[c3M];constructor
    ·rintro⟨g1,g2⟩;exact⟨g1,fun g=>g2 g.1⟩
    ·rintro⟨⟨g1,g2⟩,g3⟩;exact⟨⟨g1,g2⟩,fun g=>g3 ⟨g,fun e2=>h5 (by cases e2;exact g1)⟩⟩
def g8x(h:Hs)(es:List Ev)(e:Ev):Prop:=GL es e/\(e.kind=2->Kw h es e)/\(e.kind=4->C7 h es e)
def Cc(h:Hs)(es:List Ev)(e:Ev):Prop:=GL es e/\(e.kind=2->Kw h es e)/\(e.kind=4->C7 h es e)/\(e.kind=3->HV h es e)
noncomputable def C2(h:Hs)(es:List Ev)(e:Ev):List Ev:= @ite _ (g8x h es e) (b8I _) (oN h es e) es
theorem c6e{h:Hs}(ht:h.WD)(QQ:h.tables.length<2^63)(es:List Ev)(LJ:es.length<2^40)(e:Ev)(XJ:e.Ok):
 ZX prog false RA [e.av, .ptr 1004 0] ((1004, .box [.ptr 1000 0])::ckH h es es es) (vb (Y7 (Cc h es e))) ((1004, .box [.ptr 1000 0])::ckH h (Dt es e) (C2 h es e) (C2 h es e)):=by
 refine a3L kH (by simp) (by decide) rfl rfl ?_
 have hEF:¬GL es e->Dt es e=es:=fun g=>if_neg g
 simp-dsimp[a5d,Ev.av];refine T6 (a1Q h es es es e) rfl (by simp) (by simp[Ev.av]) (by simp[Ev.av]) (by simp) (by simp) (by simp) (by simp) ?_;simp-dsimp;refine⟨fun h1=>?_,fun h1=>?_⟩
 ·refine ZN (b6G ht (Dt es e) es e) (by simp[YE,Ev.av];rfl) (by simp[YE,Ev.av]) ?_
  by_cases h2:e.kind=2->Kw h es e
  ·simp-dsimp[UQ.2 h2];refine ZN (b8G ht QQ (Dt es e) es (by omega) e XJ) (by simp[YE,Ev.av];rfl) (by simp[YE,Ev.av]) ?_
   by_cases h3:e.kind=4->C7 h es e
   ·have hX:C2 h es e=oN h es e:=if_pos ⟨h1,h2,h3⟩;rw[hX];simp-dsimp[UQ.2 h3];refine T6 (a2Q ht (Dt es e) es LJ e) rfl (by simp) (by simp[Ev.av]) (by simp[Ev.av]) (by simp) (by simp) (by simp) (by simp) ?_;simp-dsimp[d9P];exact⟨fun g=>⟨h1,h2,h3,g⟩,fun g=>g.2.2.2⟩
   ·have hX:C2 h es e=es:=if_neg fun g=>h3 g.2.2
    rw[hX];simp-dsimp[U6.2 h3]
    exact fun g=>h3 g.2.2.1
  ·have hX:C2 h es e=es:=if_neg fun g=>h2 g.2.1
   rw[hX];simp-dsimp[U6.2 h2]
   exact fun g=>h2 g.2.1
 ·have hX:C2 h es e=es:=if_neg fun g=>h1 g.1
  rw[hX];exact⟨fun g=>h1 g.1,rfl,rfl⟩
theorem Ev.Z5(e:Ev):e.av= .agg ([ci e.txn,ci e.kind,ci e.level,ci e.table,cb e.key.text,ci e.key.n, .v (.string e.key.s),ci e.Z4.txn,ci e.Z4.n,ci e.n, .Z6 3 (Yp e.row),
 ci e.pred.op,ci e.pred.col,cb e.pred.v.text,ci e.pred.v.n, .v (.string e.pred.v.s),cb e.pred.w.text,ci e.pred.w.n, .v (.string e.pred.w.s), .Z6 9 (e.pred.l.map Pd.cells), .Z6 5 (Mx e.refs),cb e.cur].map .iv):=by
 unfold Ev.av;rw[Ev.Z8]
abbrev f6R(h:Hs):Ob:= .box [.iv (.Z6 1 (Za h.tables)), .iv (.Z6 22 (ZB h.events)), .iv (.Z6 5 (Zi h.order)), .mpr 11, .mpr 12, .mpr 13]
abbrev lkH(h:Hs)(a b c:List Ev):Hp:=[(3, .box [.ptr 15 0]),(15,f6R h),(11, .map zq (gS a)),(12, .map cO (gW b)),(13, .YA zq 4 (gP c) none)]
theorem c8E{h:Hs}(ht:h.WD)(QQ:h.tables.length<2^63)(es:List Ev)(LJ:es.length<2^40)(e:Ev)(XJ:e.Ok):
 ZX prog false RA [e.av, .ptr 3 0] (lkH h es es es) (vb (Y7 (Cc h es e))) (lkH h (Dt es e) (C2 h es e) (C2 h es e)):=by
 have hs:=c6e ht QQ es LJ e XJ;rw[Ev.Z5]at hs⊢;exact hs.Zl (Ren.Xe [(1004,3),(1000,15),(1001,11),(1002,12),(1003,13)]) rfl
theorem Py{P:Program}{c:Z9}{s s':St}{O:Yr}(h:Le s s')(k:HY P c s' O):HY P c s O:=by
 obtain⟨I,h3,h4⟩:=k;exact⟨I,h3.le h,h4⟩
theorem c9E:gS []=fun _=>none:=by
 funext q;unfold gS;split
 ·rfl
 ·rfl
theorem c0F:gW []=fun _=>none:=by
 funext q;unfold gW;split
 ·rfl
 ·rfl
theorem c1F:gP []=fun _=>none:=by
 funext q;unfold gP;split
 ·rfl
 ·rfl
theorem c2F:XV prog RA=true:=by kernel_rfl
theorem c3F:XV prog P7=true:=by kernel_rfl
def c4F(h:Hs):Prop:=((1<=h.tables.length/\h.tables.length<=3)/\ZK h.tables.length fun i=>∀t,h.tables[i]? =some t->WB t)∧
 (ZK h.events.length fun i=>∀e,h.events[i]? =some e->Cc h (h.events.take i) e)/\cN h h.events
noncomputable def c5F(h:Hs):Int:=if Y7 (c4F h)=true then 0 else 180
theorem c6F{h:Hs}(hc:c4F h):c5F h=0:=if_pos (UQ.2 hc)
theorem c7F{h:Hs}(hc:¬c4F h):c5F h=180:=if_neg (by simpa using hc)
theorem c8F{h:Hs}(ZY:h.Ok)(XM:h.events.length<2^40):ZX prog true Gu [h.av] [] (vi (c5F h)) []:=by
 refine YG cM (by simp) (by decide) rfl ?_
 by_cases hn:1<=h.tables.length/\h.tables.length<=3
 ·have n1:¬(
   h.tables.length:Int)<1:=by omega
  have n2:¬(3:Int)<h.tables.length:=by omega
  simp-dsimp[a9b,Hs.av,n1,n2];refine Py (e2w _ (id:=13) (sk:=zq) 4 rfl (by simp)) ?_
  refine YJ [] [7] h.tables.length (fun i=>⟨[(32,vi i),(31,vi h.tables.length),(30, .iv (.Z6 1 (Za h.tables))),(4, .fn RA [] [.ptr 3 0]),(5, .fn P7 [.ptr 15 0] []),(1, .ptr 1 0)],
   (1, .box [.iv (.Z6 1 (Za h.tables)), .iv (.Z6 22 (ZB h.events)), .iv (.Z6 5 (Zi h.order))])::lkH h [] [] []⟩) (fun i=>ZK i fun i=>∀t,h.tables[i]? =some t->WB t) ?_ ?_ ?_
  ·simp-dsimp[c9E,c0F,c1F]
  ·exact TP
  ·intro i hi hq;simp-dsimp[JJ];refine⟨fun Z2=>?_,fun X9=>?_⟩
   ·obtain⟨t,cL⟩:=Zr Z2;have hw:=Zk (n:=(i:Int)+1) (by omega);simp-dsimp[cL];refine ZN (e1k t) (by simp[YK]) (by simp[YK]) ?_;simp-dsimp[hw];refine⟨fun g=>?_,fun g=>⟨Z2,hq.succ fun t' IT=>by rw[cL]at IT;cases IT;exact g⟩⟩;rw[c7F fun g2=>g (g2.1.2 i Z2 t cL)]
   ·have hT:h.WD:=fun t ht=>by
     obtain⟨j,hj⟩:=a9B ht;exact hq j (by have:=(a5y.1 hj).1;omega) t hj
    have QQ:=ZY.tables
    refine YJ [] [9] h.events.length (fun i=>⟨[(43,vi i),(42,vi h.events.length),(41, .iv (.Z6 22 (ZB h.events))),(4, .fn RA [] [.ptr 3 0]),(5, .fn P7 [.ptr 15 0] []),(1, .ptr 1 0)],
     (1, .box [.iv (.Z6 1 (Za h.tables)), .iv (.Z6 22 (ZB h.events)), .iv (.Z6 5 (Zi h.order))])::lkH h (h.events.take i) (h.events.take i) (h.events.take i)⟩)
     (fun i=>ZK i fun i=>∀e,h.events[i]? =some e->Cc h (h.events.take i) e) ?_ ?_ ?_
    ·simp-dsimp
    ·exact TP
    ·intro j hj Iu;simp-dsimp[JI];refine⟨fun Xf=>?_,fun Pu=>?_⟩
     ·obtain⟨e,he⟩:=Zr Xf;have Mw:=Zk (n:=(j:Int)+1) (by omega);have XJ:=ZY.ev e (a6y he)
      have hlen:(h.events.take j).length<2^40:=by rw[a3U];omega
      simp-dsimp[he];refine⟨c2F,T6 (c8E hT QQ (h.events.take j) hlen e XJ) rfl (by simp) (by simp[Ev.av]) (by simp[Ev.av]) (by simp) (by simp) (by simp) (by simp) ?_⟩
      by_cases ha:Cc h (h.events.take j) e
      ·have e1:Dt (h.events.take j) e=h.events.take (j+1):=by rw[Qp he];exact if_pos ha.1
       have e2:C2 h (h.events.take j) e=h.events.take (j+1):=by
        rw[Qp he];unfold C2;rw[if_pos ⟨ha.1,ha.2.1,ha.2.2.1⟩]
        exact if_pos fun g=>⟨(ha.2.2.2 g).1,(ha.2.2.2 g).2.1⟩
       simp-dsimp[ha,e1,e2,Mw];exact⟨Xf,Iu.succ fun e' XF=>by rw[he]at XF;cases XF;exact ha⟩
      ·simp-dsimp[ha];rw[c7F fun g2=>ha (g2.2.1 j Xf e he)]
     ·rw[a0z Pu];refine⟨c3F,PH (c4Z ZY h.events XM) (by simp) (by simp[YE];rfl) (by simp[YE]) ?_⟩;simp-dsimp;constructor
      ·intro g;rw[c6F ⟨⟨hn,fun k hk=>hq k (by omega)⟩,fun k hk=>Iu k (by omega),g⟩]
      ·intro g;rw[c7F fun g2=>g g2.2.2]
 ·have YQ:¬c4F h:=fun g=>hn g.1.1
  by_cases n1:(h.tables.length:Int)<1
  ·simp-dsimp[a9b,Hs.av,n1,c7F YQ]
  ·have n2:(3:Int)<h.tables.length:=by omega
   simp-dsimp[a9b,Hs.av,n1,n2,c7F YQ]
theorem d9a{α:Type}{p:List α->Prop}(nil:p [])(snoc:∀(l:List α) (x:α),p l->p (l++[x]))(l:List α):p l:=by
 rw[<-d0e l]
 induction l.reverse with
 |nil=>exact nil
 |cons x r ih=>rw[d2l];exact snoc _ _ ih
theorem d0b:∀{x y z:List UInt8},Op.bytesLess x y=true->Op.bytesLess y z=true->Op.bytesLess x z=true
 | _,[],_,h,_=>by simp[Op.bytesLess]at h
 | _,_::_,[],_,h=>by simp[Op.bytesLess]at h
 | [],_::_,_::_,_,_=>rfl
 |a::x,b::y,c::z,h1,h2=>by
  simp only[Op.bytesLess,b6w,decide_eq_true_eq,a3C,beq_iff_eq]at h1 h2⊢
  rcases h1 with h1|⟨rfl,h1⟩
  ·rcases h2 with h2|⟨rfl,h2⟩
   ·exact .inl (UInt8.lt_trans h1 h2)
   ·exact .inl h1
  ·rcases h2 with h2|⟨rfl,h2⟩
   ·exact .inl h2
   ·exact .inr ⟨rfl,d0b h1 h2⟩
theorem d1b{a b:ByteArray}:Wz a b<0↔Uu a b=true:=by
 unfold Wz;split
 ·rename_i h;simp[h]
 ·rename_i h;split<;>simp[h]
theorem d2b{a b:Int}:Rq a b<0↔a<b:=by
 unfold Rq;split
 ·rename_i h;simp[h]
 ·rename_i h;split<;>simp[h]
theorem d3b{a b:Vl}:a.cmp b<0↔(a.text=true/\b.text=true/\Uu a.s b.s=true)\/(a.text=false/\b.text=true)\/(a.text=false/\b.text=false/\a.n<b.n):=by
 unfold Vl.cmp
 cases a.text<;>cases b.text<;>simp[d1b,d2b]
theorem d4b{a b c:Vl}(h1:a.cmp b<0)(h2:b.cmp c<0):a.cmp c<0:=by
 rw[d3b]at*
 rcases h1 with⟨h1,h3,h4⟩|⟨h1,h3⟩|⟨h1,h3,h4⟩<;>rcases h2 with⟨g1,g3,g4⟩|⟨g1,g3⟩|⟨g1,g3,g4⟩<;>simp_all
 ·exact d0b h4 g4
 ·omega
theorem d5b(a:Vl):¬a.cmp a<0:=by
 rw[d3b];simp[b4t]
theorem d6b{h:Hs}{es:List Ev}{e:Ev}(hr:ZK e.refs.length (My h es e)):∀{i j:Nat},i<j->∀{a b:Rf},e.refs[i]? =some a->e.refs[j]? =some b->a.key.cmp b.key<0:=by
 intro i j
 induction j with
 |zero=>intro h;omega
 |succ j ih=>
  intro Xu a b ha hb;have SJ:=(a5y.1 hb).1;obtain⟨q,hq⟩:∃q,e.refs[j]? =some q:=Zr (by omega);have h1:=(hr (j+1) SJ b hb).2.2 q (by omega) (by simpa using hq)
  rcases Nat.lt_or_ge i j with h2|h2
  ·exact d4b (ih h2 ha hq) h1
  ·obtain rfl:i=j:=by omega
   rw[ha]at hq;cases hq;exact h1
theorem d7b{l:List Rf}(hu:∀a b,a∈l->b∈l->a.key=b.key->a=b):∀k v,Kv l k=some v↔Hd l k v:=by
 intro k v
 have key:∀(l':List Rf),(∀a,a∈l'->a∈l)->(Kv l' k=some v↔Hd l' k v):=by
  intro l'
  induction l' using d9a with
  |nil=>intro _;simp[Kv]
  |snoc l' r ih=>
   intro hs
   have ih:=ih fun a ha=>hs a (a7N _ ha)
   rw[e4p]
   have f8f:Hd (l'++[r]) k v↔Hd l' k v\/(r.key=k/\r.Z4=v):=by
    rw[d0u, <-Vl.eq_iff, <-Vs.eq_iff]
   rw[f8f]
   by_cases hk:r.key=k
   ·rw[if_pos hk];constructor
    ·intro g;exact .inr ⟨hk,c8c g⟩
    ·rintro(⟨q,g1,g2,g3⟩|⟨_,g⟩)
     ·have:=hu q r (hs q (a7N _ g1)) (hs r (by simp)) (by rw[g2,hk]);subst this;rw[g3]
     ·rw[g]
   ·rw[if_neg hk,ih];exact⟨.inl,fun g=>g.elim id fun g=>absurd g.1 hk⟩
 exact key l fun _ h=>h
theorem d8b{h:Hs}{es:List Ev}{e:Ev}(hr:ZK e.refs.length (My h es e)):∀a b,a∈e.refs->b∈e.refs->a.key=b.key->a=b:=by
 intro a b ha hb hk;obtain⟨i,hi⟩:=a9B ha;obtain⟨j,hj⟩:=a9B hb
 rcases Nat.lt_trichotomy i j with h1|h1|h1
 ·have:=d6b hr h1 hi hj;rw[hk]at this;exact absurd this (d5b _)
 ·subst h1;rw[hi]at hj;exact c8c hj
 ·have:=d6b hr h1 hj hi;rw[hk]at this;exact absurd this (d5b _)
def Hm(es:List Ev):Prop:=∀t,(¬MW es t/\On es t/\Xy es t=0/\Xd es t=0)\/(MW es t/\On es t/\Xy es t=1/\Xd es t=0)∨
 (MW es t/\¬On es t/\Xy es t=Xd es t/\(Xd es t=5\/Xd es t=6))
theorem Hm.nil:Hm []:=fun t=> .inl ⟨by simp,by simp,rfl,rfl⟩
theorem Hm.ck{es:List Ev}(hs:Hm es)(e:Ev):GL es e↔Fo es e:=by
 unfold GL Fo
 rcases hs e.txn with⟨h1,h2,h3,h4⟩|⟨h1,h2,h3,h4⟩|⟨h1,h2,h3,h4⟩
 ·rw[h3];simp only[h1,h2];grind
 ·rw[h3];simp only[h1,h2];grind
 ·rw[h3];simp only[h1,h2];grind
theorem d0c{es:List Ev}{t:Int}:On es t↔∀x,x∈es->¬x.ends t:=by
 unfold On Ev.ends;constructor
 ·rintro h x hx ⟨h1,h2⟩;have:=h x hx h1;omega
 ·intro h x hx h1;have:=h x hx;constructor<;>(intro h2;exact this ⟨h1,by omega⟩)
theorem d1c{es r:List Ev}{t:Int}(h:On es t):Xd (es++r) t=Xd r t:=by
 rw[d0c]at h
 induction es with
 |nil=>rfl
 |cons x es ih=>
  rw[b4O,Xd,if_neg (h x a4E)]
  exact ih fun y hy=>h y (a9C _ hy)
theorem d2c{es r:List Ev}{t:Int}(h:¬On es t):Xd (es++r) t=Xd es t:=by
 rw[d0c]at h
 induction es with
 |nil=>exact absurd (fun x hx=>by cases hx) h
 |cons x es ih=>
  rw[b4O,Xd,Xd]
  by_cases hx:x.ends t
  ·rw[if_pos hx,if_pos hx]
  ·rw[if_neg hx,if_neg hx]
   refine ih fun g=>h fun y hy=>?_
   rcases a5E.1 hy with rfl|hy
   ·exact hx
   ·exact g y hy
theorem d3c(e:Ev)(t:Int):Xd [e] t=if e.ends t then e.kind else 0:=by rw[Xd];rfl
theorem Hm.next{es:List Ev}(hs:Hm es){e:Ev}(hf:Fo es e):Hm (es++[e]):=by
 intro t;obtain⟨f1,f2,f3,f4,f5,f6⟩:=hf;rw[d6Q,d7Q,e2p]
 by_cases ht:e.txn=t
 ·subst ht;rw[d1c f4,d3c];have Eb:e.ends e.txn↔e.kind=5\/e.kind=6:=⟨fun g=>g.2,fun g=>⟨rfl,g⟩⟩
  rcases hs e.txn with⟨h1,h2,h3,h4⟩|⟨h1,h2,h3,h4⟩|⟨h1,h2,h3,h4⟩
  ·have k1:e.kind=1:=a9M fun g=>h1 (f6 g)
   right;left
   have:¬e.ends e.txn:=fun g=>by have:=Eb.1 g;omega
   simp[k1,h2,this]
  ·have k1:e.kind≠1:=fun g=>(f5 g).1 h1
   by_cases k5:e.kind=5\/e.kind=6
   ·right;right;rw[if_pos ⟨rfl, .inr k5⟩,if_pos (Eb.2 k5)];refine⟨.inl h1,?_,rfl,k5⟩;rintro⟨_,g⟩;have:=g rfl;omega
   ·right;left;rw[if_neg (by rintro⟨_,g⟩;omega),if_neg (fun g=>k5 (Eb.1 g))];exact⟨.inl h1,⟨h2,fun _=>by omega⟩,h3,rfl⟩
  ·exact absurd f4 h2
 ·have e1:Xy es t=Xy es t:=rfl;rw[if_neg fun g=>ht g.1]
  have e2:Xd (es++[e]) t=Xd es t:=by
   by_cases hn:On es t
   ·rw[d1c hn,d3c,if_neg fun g=>ht g.1];exact(b6j fun x hx=>d0c.1 hn x hx).symm
   ·exact d2c hn
  rw[e2];have e3:(MW es t\/e.txn=t)↔MW es t:=⟨fun g=>g.elim id fun g=>absurd g ht, .inl⟩;have e4:(On es t/\(e.txn=t->e.kind≠5/\e.kind≠6))↔On es t:=⟨fun g=>g.1,fun g=>⟨g,fun g2=>absurd g2 ht⟩⟩;rw[e3,e4];exact hs t
def d4c(es:List Ev):Prop:=ZK es.length fun i=>∀e,es[i]? =some e->Fo (es.take i) e
theorem d5c{α:Type}{l:List α}{x:α}{p:List α->α->Prop}:(ZK (l++[x]).length fun i=>∀e,(l++[x])[i]? =some e->p ((l++[x]).take i) e)↔
 (ZK l.length fun i=>∀e,l[i]? =some e->p (l.take i) e)/\p l x:=by
 constructor
 ·intro h;refine⟨fun i hi e he=>?_,?_⟩
  ·have:=h i (by rw[a7J];omega) e (by rw[a9L hi];exact he);rwa [c7M (by omega)]at this
  ·have:=h l.length (by simp) x (by simp);rwa [d5P]at this
 ·rintro⟨h1,h2⟩ i hi e he
  by_cases hl:i<l.length
  ·rw[a9L hl]at he;rw[c7M (by omega)];exact h1 i hl e he
  ·have:i=l.length:=by simp at hi;omega
   subst this;rw[d5P];simp at he;subst he;exact h2
theorem d4c.stands{es:List Ev}:d4c es->Hm es:=by
 induction es using d9a with
 |nil=>exact fun _=>Hm.nil
 |snoc es e ih=>intro h;have:=d5c.1 h;exact(ih this.1).next this.2
def d6c(es:List Ev):Prop:=ZK es.length fun i=>∀e,es[i]? =some e->e.kind=3->e.n=Yk (es.take i) e.txn e.table e.key+1
theorem d6c.Zv{es:List Ev}:d6c es->∀t o,o∈Zv es t↔0<Yk es t o.1 o.2:=by
 induction es using d9a with
 |nil=>intro _ t o;simp[Go.Rt.Zv,Yk]
 |snoc es e ih=>
  intro h t o;have h2:=(d5c (p:=fun(es:List Ev) (e:Ev)=>e.kind=3->e.n=Yk es e.txn e.table e.key+1)).1 h;rw[e5q,e2q,a9E,ih h2.1 t o];obtain⟨tab,k⟩:=o
  by_cases hw:e.Sw t tab k=true
  ·rw[if_pos hw];obtain⟨w1,w2,w3,w4⟩:=Ev.Yg.1 hw;have hk:=Vl.eq_iff.2 w4;subst w2 w3 hk;have hn:=h2.2 w1
   by_cases h0:0<Yk es e.txn e.table e.key
   ·simp[h0]
   ·rw[if_pos ⟨w1,rfl,by omega⟩];simp
  ·rw[if_neg hw,b1H];constructor
   ·rintro(g|g)
    ·exact g
    ·split at g
     ·rename_i c;simp only[a1B,a2L]at g;exact absurd (Ev.Yg.2 ⟨c.1,c.2.1,g.1.symm,by rw[g.2],by rw[g.2],by rw[g.2]⟩) hw
     ·cases g
   ·exact .inl
theorem d7c{es:List Ev}{t tab:Int}{k:Vl}:0<Yk es t tab k↔∃x,x∈es/\x.kind=3/\x.txn=t/\x.table=tab/\x.key=k:=by
 unfold Yk;rw[List.length_pos_iff_exists_mem];constructor
 ·rintro⟨x,hx⟩;obtain⟨h1,h2⟩:=a2E.1 hx;obtain⟨w1,w2,w3,w4⟩:=Ev.Yg.1 h2;exact⟨x,h1,w1,w2,w3,Vl.eq_iff.2 w4⟩
 ·rintro⟨x,h1,w1,w2,w3,w4⟩;exact⟨x,a2E.2 ⟨h1,Ev.Yg.2 ⟨w1,w2,w3,Vl.eq_iff.1 w4⟩⟩⟩
theorem d8c{h:Hs}{es:List Ev}(hc:d6c es){e:Ev}(he:1<=e.txn):C7 h es e↔d7t h es e:=by
 unfold C7 d7t
 refine and_congr_right fun _=>and_congr_right fun hr=>?_
 have hl:=d7b (d8b hr);constructor
 ·intro g x hx k3 k1 k2;have W0:0<Yk es e.txn x.table x.key:=d7c.2 ⟨x,hx,k3,k1,rfl,rfl⟩;have:=g (x.table,x.key) ((hc.Zv _ _).2 W0) k2;rw[k2]at this
  cases hlr:Kv e.refs x.key with
  |none=>rw[hlr]at this;have:=congrArg Vs.txn this;simp at this;omega
  |some v=>rw[hlr]at this;simp only[a1J]at this;subst this;exact(hl _ _).1 hlr
 ·rintro g ⟨tab,k⟩ ho rfl;have W0:=(hc.Zv _ _).1 ho;obtain⟨x,hx,k3,k1,k2,rfl⟩:=d7c.1 W0;have:=g x hx k3 k1 k2;have h5:=(hl _ _).2 this;simp only;rw[h5];rfl
theorem d9c{h:Hs}{es:List Ev}(hs:Hm es)(hc:d6c es){e:Ev}:Cc h es e↔M1 h es e:=by
 unfold Cc M1;rw[hs.ck];constructor
 ·rintro⟨h1,h2,h3,h4⟩;exact⟨h1,h2,h4,fun g=>(d8c hc h1.1).1 (h3 g)⟩
 ·rintro⟨h1,h2,h3,h4⟩;exact⟨h1,h2,fun g=>(d8c hc h1.1).2 (h4 g),h3⟩
def d0d(h:Hs)(es:List Ev):Prop:=ZK es.length fun i=>∀e,es[i]? =some e->M1 h (es.take i) e
theorem d0d.good{h:Hs}{es:List Ev}(g:d0d h es):d4c es/\d6c es:=
 ⟨fun i hi e he=>(g i hi e he).1,fun i hi e he k3=>((g i hi e he).2.2.1 k3).2.1⟩
theorem d1d{h:Hs}(es:List Ev):(ZK es.length fun i=>∀e,es[i]? =some e->Cc h (es.take i) e)↔d0d h es:=by
 induction es using d9a with
 |nil=>exact⟨fun _=>TP,fun _=>TP⟩
 |snoc es e ih=>
  unfold d0d;rw[d5c (p:=Cc h),d5c (p:=M1 h),ih]
  refine and_congr_right fun g=>?_
  exact d9c g.good.1.stands g.good.2
theorem d2d{es:List Ev}(hs:Hm es)(t:Int):Xy es t=5↔Xd es t=5:=by
 rcases hs t with⟨_,_,h3,h4⟩|⟨_,_,h3,h4⟩|⟨_,_,h3,h4⟩<;>omega
theorem d3d{h:Hs}(hs:Hm h.events)(hc:d6c h.events):cN h h.events↔
 (ZK h.order.length fun i=>∀o,h.order[i]? =some o->Fl h i o)/\ZK h.events.length fun i=>∀e,h.events[i]? =some e->C6 h e:=by
 unfold cN;refine and_congr ?_ ?_
 ·have key:∀i o,c6M h h.events i o↔Fl h i o:=by
   intro i o;unfold c6M Fl;constructor
   ·rintro⟨h1,h2,h3⟩;exact⟨h1,fun k hk t ht=>⟨(d2d hs t).1 (h3 k hk t ht).1,c8D.1 ((hc.Zv _ _).1 (h3 k hk t ht).2.1),(h3 k hk t ht).2.2⟩,h2⟩
   ·rintro⟨h1,h2,h3⟩;exact⟨h1,h3,fun k hk t ht=>⟨(d2d hs t).2 (h2 k hk t ht).1,(hc.Zv _ _).2 (c8D.2 (h2 k hk t ht).2.1),(h2 k hk t ht).2.2⟩⟩
  constructor
  ·intro g i hi o ho;exact(key i o).1 (g i hi o ho)
  ·intro g i hi o ho;exact(key i o).2 (g i hi o ho)
 ·constructor
  ·intro g i hi e he k3 k5;have hm:=a6y he;exact g e.txn (e.table,e.key) ((d2d hs _).2 k5) ((hc.Zv _ _).2 (d7c.2 ⟨e,hm,k3,rfl,rfl,rfl⟩))
  ·rintro g t ⟨tab,k⟩ h1 h2;obtain⟨x,hx,k3,rfl,rfl,rfl⟩:=d7c.1 ((hc.Zv _ _).1 h2);obtain⟨i,hi⟩:=a9B hx;exact g i (a5y.1 hi).1 x hi k3 ((d2d hs _).1 h1)
theorem d4d(h:Hs):c4F h↔Zo h:=by
 unfold c4F Zo;rw[d1d]
 have hT:((1<=h.tables.length/\h.tables.length<=3)/\ZK h.tables.length fun i=>∀t,h.tables[i]? =some t->WB t)↔lp h:=by
  unfold lp
  refine and_congr_right fun _=>?_
  constructor
  ·intro g t ht;obtain⟨j,hj⟩:=a9B ht;exact g j (a5y.1 hj).1 t hj
  ·intro g i hi t ht;exact g t (a6y ht)
 rw[hT]
 refine and_congr_right fun _=>?_
 constructor
 ·rintro⟨g1,g2⟩;have g3:=(d3d g1.good.1.stands g1.good.2).1 g2;exact⟨fun i hi e he=>⟨g1 i hi e he,g3.2 i hi e he⟩,g3.1⟩
 ·rintro⟨g1,g2⟩
  have g4:d0d h h.events:=fun i hi e he=>(g1 i hi e he).1
  exact⟨g4,(d3d g4.good.1.stands g4.good.2).2 ⟨g2,fun i hi e he=>(g1 i hi e he).2⟩⟩
theorem b9r{xs:List (List IV)}(hl:xs.length<2^40):ZX prog false RB [.iv (.Z6 1 xs)] [] (.iv (.Z6 1 xs)) []:=by
 refine e6w [2,5] ME (by simp) (by decide) ?_
 by_cases h:xs=[]
 ·subst h;simp-dsimp[TO]
 ·simp-dsimp[TO,h];omega
theorem b0s{xs:List (List IV)}(hl:xs.length<2^40):ZX prog false Gg [.iv (.Z6 3 xs)] [] (.iv (.Z6 3 xs)) []:=by
 refine e6w [2,5] l5 (by simp) (by decide) ?_
 by_cases h:xs=[]
 ·subst h;simp-dsimp[a3e]
 ·simp-dsimp[a3e,h];omega
theorem b1s{xs:List (List IV)}(hl:xs.length<2^40):ZX prog false X5 [.iv (.Z6 3 xs)] [] (.iv (.Z6 3 xs)) []:=by
 refine e6w [2] l4 (by simp) (by decide) ?_;simp-dsimp[a0c];refine T6 (b0s hl) rfl (by simp) (by simp) (by simp) (by simp) (by simp) (by simp) (by simp) ?_;simp-dsimp
def Wr{α:Type}(p:α->Bool)(l:List α):Option α:=l.foldl (fun s e=>if p e=true then some e else s) none
theorem MX{α:Type}(p:α->Bool)(l:List α)(e:α):Wr p (l++[e])=if p e=true then some e else Wr p l:=by
 unfold Wr;rw[a5U];rfl
theorem d5i{α:Type}(p:α->Bool):Wr p []=none:=rfl
theorem d6i{α:Type}(p:α->Bool)(l:List α):Wr p l=l.reverse.find? p:=by
 suffices h:∀r:List α,Wr p r.reverse=r.find? p by
  have:=h l.reverse;rwa [d0e]at this
 intro r
 induction r with
 |nil=>rfl
 |cons a r ih=>
  rw[d2l,MX,c4y,ih]
  cases p a<;>rfl
theorem d7i{α:Type}{p:α->Bool}{l:List α}:Wr p l=none↔∀e,e∈l->p e=false:=by
 rw[d6i,b8O];simp only[d5t,Bool.not_eq_true]
theorem MS{α:Type}{p:α->Bool}{l:List α}{e:α}(h:Wr p l=some e):e∈l/\p e=true:=by
 rw[d6i]at h;exact⟨d5t.1 (a8V h),d7x h⟩
abbrev skL:Sk:=(false,[.i .i64],false)
abbrev nP:Sk:=(true,[.i .i64, .b, .i .i64, .s, .i .i64, .i .i64],false)
abbrev skC:Sk:=(true,[.i .i64, .b, .i .i64, .s],false)
def Ev.UP(t:Int)(e:Ev):Bool:=decide (e.kind=1)&&decide (e.txn=t)
def Ev.Us(txn table:Int)(k:Vl)(m:Int)(e:Ev):Bool:=e.Sw txn table k&&decide (e.n=m)
def Ins.Sj(table:Int)(k:Vl)(o:Ins):Bool:=decide (o.table=table)&&decide (o.key=k)
def Vk(l:List Vs):List (List IV):=l.map Vs.cells
@[simp]theorem g8m(l:List Vs):(Vk l).length=l.length:=by simp[Vk]
@[simp]theorem d9i(l:List Vs)(i:Nat):(Vk l)[i]? =(l[i]?).map Vs.cells:=by simp[Vk]
def KI(es:List Ev):List Value->Option (List IV)
 | [.int .i64 t]=>(Wr (Ev.UP t) es).map fun e=>[ci e.level]
 | _=>none
def KG(es:List Ev):List Value->Option (List IV)
 | [.int .i64 table, .bool t, .int .i64 n, .string s, .int .i64 txn, .int .i64 m]=>(Wr (Ev.Us txn table ⟨t,n,s⟩ m) es).map fun e=>[.Z6 3 (Yp e.row)]
 | _=>none
def LV(es:List Ev):List Value->Option (List IV)
 | [.int .i64 table, .bool t, .int .i64 n, .string s, .int .i64 txn, .int .i64 m]=>if m=0 then(Wr (Ev.Sw txn table ⟨t,n,s⟩) es).map fun e=>[ci e.n]else none
 | _=>none
def HD(es:List Ev)(txn table:Int)(k:Vl):Int:=((Wr (Ev.Sw txn table k) es).map Ev.n).getD 0
def SG(es:List Ev)(o:Ins):List Vs:=⟨0,0⟩::o.ZU.map fun txn=>⟨txn,HD es txn o.table o.key⟩
def Dc(es:List Ev)(os:List Ins):List Value->Option (List IV)
 | [.int .i64 table, .bool t, .int .i64 n, .string s]=>(Wr (Ins.Sj table ⟨t,n,s⟩) os).map fun o=>[.Z6 2 (Vk (SG es o))]
 | _=>none
theorem d1j:KI []=fun _=>none:=by funext q;unfold KI;split<;>rfl
theorem d2j:KG []=fun _=>none:=by funext q;unfold KG;split<;>rfl
theorem d3j:LV []=fun _=>none:=by
 funext q;unfold LV;split
 ·split<;>rfl
 ·rfl
theorem d4j(es:List Ev):Dc es []=fun _=>none:=by funext q;unfold Dc;split<;>rfl
theorem d5j{es:List Ev}{e:Ev}(hk:e.kind=1):ZH (KI es) [.int .i64 e.txn] (some [ci e.level])=KI (es++[e]):=by
 funext q
 simp only[ZH];split
 ·rename_i h;subst h;simp[KI,MX,Ev.UP,hk]
 ·rename_i ZV;unfold KI;split
  ·rename_i t;rw[MX,if_neg];simp only[Ev.UP,a3C,decide_eq_true_eq];rintro⟨_,rfl⟩;exact ZV rfl
  ·rfl
theorem d6j{es:List Ev}{e:Ev}(hk:e.kind≠1):KI (es++[e])=KI es:=by
 funext q
 unfold KI;split
 ·rw[MX,if_neg];simp[Ev.UP,hk]
 ·rfl
theorem d7j{e:Ev}(hk:e.kind=3):e.Sw e.txn e.table e.key=true:=Ev.Yg.2 ⟨hk,rfl,rfl,rfl,rfl,rfl⟩
theorem d8j{es:List Ev}{e:Ev}(hk:e.kind=3):
 ZH (KG es) [.int .i64 e.table, .bool e.key.text, .int .i64 e.key.n, .string e.key.s, .int .i64 e.txn, .int .i64 e.n] (some [.Z6 3 (Yp e.row)])=KG (es++[e]):=by
 funext q
 simp only[ZH];split
 ·rename_i h;subst h
  have:e.Us e.txn e.table e.key e.n=true:=by unfold Ev.Us;rw[d7j hk];simp
  simp[KG,MX,this]
 ·rename_i ZV;unfold KG;split
  ·rename_i table t n s txn m;rw[MX,if_neg];simp only[Ev.Us,a3C,decide_eq_true_eq,Ev.Yg];rintro⟨⟨_,h1,h2,h3,h4,h5⟩,h6⟩;subst h1 h2 h3 h4 h5 h6;exact ZV rfl
  ·rfl
theorem d9j{es:List Ev}{e:Ev}(hk:e.kind≠3):KG (es++[e])=KG es:=by
 funext q
 unfold KG;split
 ·rw[MX,if_neg];simp only[Ev.Us,a3C,decide_eq_true_eq,Ev.Yg]
  exact fun h=>hk h.1.1
 ·rfl
theorem d0k{es:List Ev}{e:Ev}(hk:e.kind=3):
 ZH (LV es) [.int .i64 e.table, .bool e.key.text, .int .i64 e.key.n, .string e.key.s, .int .i64 e.txn, .int .i64 0] (some [ci e.n])=LV (es++[e]):=by
 funext q
 simp only[ZH];split
 ·rename_i h;subst h;have:=d7j hk;simp[LV,MX,this]
 ·rename_i ZV;unfold LV;split
  ·rename_i table t n s txn m
   by_cases hm:m=0
   ·rw[if_pos hm,if_pos hm,MX,if_neg];simp only[Ev.Yg];rintro⟨_,h1,h2,h3,h4,h5⟩;subst h1 h2 h3 h4 h5 hm;exact ZV rfl
   ·rw[if_neg hm,if_neg hm]
  ·rfl
theorem d1k{es:List Ev}{e:Ev}(hk:e.kind≠3):LV (es++[e])=LV es:=by
 funext q
 unfold LV;split
 ·split
  ·rw[MX,if_neg];simp only[Ev.Yg]
   exact fun h=>hk h.1
  ·rfl
 ·rfl
theorem d2k(es:List Ev)(os:List Ins)(o:Ins):ZH (Dc es os) [.int .i64 o.table, .bool o.key.text, .int .i64 o.key.n, .string o.key.s] (some [.Z6 2 (Vk (SG es o))])=Dc es (os++[o]):=by
 funext q
 simp only[ZH];split
 ·rename_i h;subst h;simp[Dc,MX,Ins.Sj]
 ·rename_i ZV;unfold Dc;split
  ·rename_i table t n s;rw[MX,if_neg];simp only[Ins.Sj,a3C,decide_eq_true_eq,Vl.eq_iff];rintro⟨h1,h2,h3,h4⟩;subst h1 h2 h3 h4;exact ZV rfl
  ·rfl
@[simp]theorem g6P(es:List Ev)(txn table:Int)(t:Bool)(n:Int)(s:ByteArray):
 Nz [.iv (.v (.int .i64 0))] false false (LV es [.int .i64 table, .bool t, .int .i64 n, .string s, .int .i64 txn, .int .i64 0])=vi (HD es txn table ⟨t,n,s⟩):=by
 simp only[LV,if_true,HD]
 cases Wr (Ev.Sw txn table ⟨t,n,s⟩) es<;>rfl
def Ye(es:List Ev):List Int:=(es.filter fun e=>decide (e.kind=5)).map Ev.txn
theorem d4k:Ye []=[]:=rfl
theorem d5k(es:List Ev)(e:Ev):Ye (es++[e])=Ye es++if e.kind=5 then[e.txn]else[]:=by
 unfold Ye;rw[b4j,a5M]
 congr 1
 by_cases h:e.kind=5<;>simp[h]
theorem d6k(es:List Ev):(Ye es).length<=es.length:=by
 unfold Ye;rw[a5O];exact a0V _ _
def PT(o c d:Int):Bool:=
 if o=3 then c==0 else if o=4 then c != 0 else if o=5 then decide (c<0)else if o=6 then decide (c<=0)else if o=7 then decide (0<c)else if o=8 then decide (0<=c)else decide (0<=c)&&decide (d<=0)
def Pd.Ty(p:Pd)(r:List Vl):Bool:=if p.col<0\/(r.length:Int)<=p.col then false else match r[p.col.toNat]? with
 |none=>false
 |some x=>PT p.op (x.cmp p.v) (x.cmp p.w)
theorem c7S{p:Pd}{r:List Vl}(h:p.col<0\/(r.length:Int)<=p.col):p.Ty r=false:=by unfold Pd.Ty;rw[if_pos h]
theorem c8S{p:Pd}{r:List Vl}{k:Nat}{x:Vl}(hk:p.col=k)(hx:r[k]? =some x):p.Ty r=PT p.op (x.cmp p.v) (x.cmp p.w):=by
 have:=(a5y.1 hx).1;unfold Pd.Ty;rw[if_neg (by omega),hk,c4c,hx]
theorem c9S{α:Type}{p:Pd}{r:List α}(h1:¬p.col<0)(h2:¬(r.length:Int)<=p.col):∃(k:Nat) (x:α),p.col=k/\r[k]? =some x:=by
 obtain⟨x,hx⟩:=Zr (l:=r) (i:=p.col.toNat) (by omega);exact⟨p.col.toNat,x,by omega,hx⟩
theorem c0T(
 p:Pd) (r:List Vl) (hr:r.length<2^63):ZX prog true F7 [p.av, .iv (.Z6 3 (Yp r))] [] (vb (p.Ty r)) []:=by
 refine YG e6W (by simp) (by decide) rfl ?_
 by_cases h1:p.col<0
 ·simp-dsimp[c8J,Pd.Z5,h1,c7S (.inl h1)]
 ·by_cases h2:(r.length:Int)<=p.col
  ·simp-dsimp[c8J,Pd.Z5,h1,h2,c7S (.inr h2)]
  ·obtain⟨k,x,hk,hx⟩:=c9S h1 h2
   have Vy:¬(r.length:Int)<=k:=by omega
   have M0:¬(k:Int)<0:=by omega
   rw[c8S hk hx];simp-dsimp[c8J,Pd.Z5,hk,Vy,M0,hx,YB];refine ZN (b5t x p.v) (by simp) (by simp) ?_;generalize x.cmp p.v=c
   by_cases o3:p.op=3
   ·simp-dsimp[o3,PT]
   ·by_cases o4:p.op=4
    ·simp-dsimp[o4,PT]
    ·by_cases o5:p.op=5
     ·simp-dsimp[o5,PT]
     ·by_cases o6:p.op=6
      ·simp-dsimp[o6,PT]
      ·by_cases o7:p.op=7
       ·simp-dsimp[o7,PT]
       ·by_cases o8:p.op=8
        ·simp-dsimp[o8,PT]
        ·by_cases hc:0<=c
         ·simp-dsimp[o3,o4,o5,o6,o7,o8,PT,hc,hx,YB];refine ZN (b5t x p.w) (by simp) (by simp) ?_;simp-dsimp[o3,o4,o5,o6,o7,o8,PT,hc]
         ·simp-dsimp[o3,o4,o5,o6,o7,o8,PT,hc]
theorem c1T(
 p:Pd) (r:List Vl) (hr:r.length<2^63) (hv:∀x,x∈r->x.s.size<2^63):ZX prog true F5 [p.av, .iv (.Z6 3 (Yp r))] [] (vb (p.Ty r)) []:=by
 refine YG f4e (by simp) (by decide) rfl ?_
 by_cases h1:p.col<0
 ·simp-dsimp[c1K,Pd.Z5,h1,c7S (.inl h1)]
 ·by_cases h2:(r.length:Int)<=p.col
  ·simp-dsimp[c1K,Pd.Z5,h1,h2,c7S (.inr h2)]
  ·obtain⟨k,x,hk,hx⟩:=c9S h1 h2
   have Vy:¬(r.length:Int)<=k:=by omega
   have M0:¬(k:Int)<0:=by omega
   have hs:=hv x (a6y hx);rw[c8S hk hx];simp-dsimp[c1K,Pd.Z5,hk,Vy,M0,hx,YB];refine ZN (b2u x p.v hs) (by simp) (by simp) ?_;generalize x.cmp p.v=c
   by_cases o3:p.op=3
   ·simp-dsimp[o3,PT]
   ·by_cases o4:p.op=4
    ·simp-dsimp[o4,PT]
    ·by_cases o5:p.op=5
     ·simp-dsimp[o5,PT]
     ·by_cases o6:p.op=6
      ·simp-dsimp[o6,PT]
      ·by_cases o7:p.op=7
       ·simp-dsimp[o7,PT]
       ·by_cases o8:p.op=8
        ·simp-dsimp[o8,PT]
        ·by_cases hc:0<=c
         ·simp-dsimp[o3,o4,o5,o6,o7,o8,PT,hc];refine ZN (b2u x p.w hs) (by simp) (by simp) ?_;simp-dsimp[o3,o4,o5,o6,o7,o8,PT,hc]
         ·simp-dsimp[o3,o4,o5,o6,o7,o8,PT,hc]
mutual
def Pd.holds(r:List Vl):Pd->Bool
 | .mk o c v w l=>if 3<=o/\o<=9 then(Pd.mk o c v w l).Ty r else if o=1 then true else if o=10 then !((Pd.Ua r l).headD false)else if o=11 then(Pd.Ua r l).all id else if o=12 then(Pd.Ua r l).any id else false
def Pd.Ua(r:List Vl):List Pd->List Bool
 | []=>[]
 |p::q=>p.holds r::Pd.Ua r q
end
theorem Pd.Q9(r:List Vl):∀l:List Pd,Pd.Ua r l=l.map (Pd.holds r)
 | []=>by simp[Pd.Ua]
 |p::q=>by simp[Pd.Ua,Pd.Q9 r q]
theorem Pd.Ed(r:List Vl)(p:Pd):p.holds r=if 3<=p.op/\p.op<=9 then p.Ty r else if p.op=1 then true else if p.op=10 then !((p.l.map (Pd.holds r)).headD false)else if p.op=11 then p.l.all (Pd.holds r)else if p.op=12 then p.l.any (Pd.holds r)else false:=by
 cases p with
 |mk o c v w l=>
  rw[Pd.holds,Pd.Q9];simp only[Pd.op,Pd.l,List.all_map,List.any_map];rfl
def OM(r:List Vl)(l:List Pd):Bool:=(l.map (Pd.holds r)).headD false
def Q8(r:List Vl)(l:List Pd):Bool:=l.all (Pd.holds r)
def OL(r:List Vl)(l:List Pd):Bool:=l.any (Pd.holds r)
theorem c2T{r:List Vl}{l:List Pd}{i:Nat}{q:Pd}(h:l[i]? =some q):OM r (l.take (i+1))=if i=0 then q.holds r else OM r (l.take i):=by
 have WG:l.take (i+1)=l.take i++[q]:=by rw[a3I,h];rfl
 have Zd:=(a5y.1 h).1;unfold OM;rw[WG]
 cases i with
 |zero=>rfl
 |succ i=>
  cases l with
  |nil=>cases Zd
  |cons a b=>rfl
theorem c3T{r:List Vl}{l:List Pd}{i:Nat}{q:Pd}(h:l[i]? =some q):Q8 r (l.take (i+1))=(Q8 r (l.take i)&&q.holds r):=by
 have WG:l.take (i+1)=l.take i++[q]:=by rw[a3I,h];rfl
 unfold Q8;rw[WG,List.all_append];simp
theorem c4T{r:List Vl}{l:List Pd}{i:Nat}{q:Pd}(h:l[i]? =some q):OL r (l.take (i+1))=(OL r (l.take i)||q.holds r):=by
 have WG:l.take (i+1)=l.take i++[q]:=by rw[a3I,h];rfl
 unfold OL;rw[WG,List.any_append];simp
theorem Pd.PR(r:List Vl)(p:Pd):p.holds r=if 3<=p.op/\p.op<=9 then p.Ty r else if p.op=1 then true else if p.op=10 then !OM r p.l else if p.op=11 then Q8 r p.l else if p.op=12 then OL r p.l else false:=Pd.Ed r p
theorem c5T{p:Pd}(h:p.Ok)(r:List Vl)(hr:r.length<2^63)(hv:∀x,x∈r->x.s.size<2^63):ZX prog true KT [p.av, .iv (.Z6 3 (Yp r))] [] (vb (p.holds r)) []:=by
 induction h with
 |mk p hl _ _ hq ih=>
 refine YG e6Y (by simp) (by decide) rfl ?_;rw[Pd.PR]
 by_cases ho:3<=p.op/\p.op<=9
 ·simp-dsimp[a1h,Pd.Z5,ho.1,ho.2];refine ZN (c1T p r hr hv) (by simp[Pd.Z5]) (by simp[Pd.Z5]) ?_;simp-dsimp
 ·rw[if_neg ho]
  have Nh:∀i:Nat,i<=p.l.length->True:=fun _ _=>trivial
  by_cases h3:3<=p.op
  all_goals
   have h9:3<=p.op->¬p.op<=9:=fun h h'=>ho ⟨h,h'⟩
   simp-dsimp[a1h,Pd.Z5,h3,h9];refine YJ [] [] p.l.length (fun i=>⟨[(8,vi i),(7,vb (OM r (p.l.take i))),(6,vb (OL r (p.l.take i))),(5,vb (Q8 r (p.l.take i))),(2, .ptr 2 0),(1, .iv (.Z6 3 (Yp r)))],[(2,p.box)]⟩) (fun _=>True) (by simp[Pd.box,OM,Q8,OL]) trivial ?_;intro i hi _
   by_cases Zd:i<p.l.length
   ·obtain⟨q,VE⟩:=Zr Zd;have hw:=Zk (n:=(i:Int)+1) (by omega);simp-dsimp[ON,Pd.box,VE,Pd.Z8 q];refine⟨fun _=>?_,fun h=>absurd h (by omega)⟩;refine ZN (ih q (a6y VE)) (by simp[Pd.Z5]) (by simp[Pd.Z5]) ?_;have hF:=c2T (r:=r) VE;have hA:=c3T (r:=r) VE;have hO:=c4T (r:=r) VE;rw[hF,hA,hO];generalize q.holds r=b
    generalize Q8 r (p.l.take i)=ba;generalize OL r (p.l.take i)=bo;generalize OM r (p.l.take i)=bf
    by_cases h0:i=0
    ·subst h0
     cases ba<;>cases bo<;>simp-dsimp
     all_goals exact⟨Zd,by decide⟩
    ·cases ba<;>cases bo<;>simp-dsimp[h0,hw]
     all_goals exact Zd
   ·have VR:i=p.l.length:=by omega
    subst VR;rw[a6J];simp-dsimp[ON,Pd.box]
    by_cases o1:p.op=1
    ·simp-dsimp[o1]
    ·by_cases o10:p.op=10
     ·simp-dsimp[o10]
     ·by_cases o11:p.op=11
      ·simp-dsimp[o11]
      ·by_cases o12:p.op=12
       ·simp-dsimp[o12]
       ·simp-dsimp[o1,o10,o11,o12]
theorem c7Z:XV prog SM=true:=by kernel_rfl
theorem c8Z:XV prog SL=true:=by kernel_rfl
def nK(r:List Vl)(p:Pd):Prop:=ZX prog true K0 [p.av, .iv (.Z6 3 (Yp r))] [] (vb (p.holds r)) []
theorem d0a{r:List Vl}{q:Pd}(h:nK r q):ZX prog true SM [q.av, .iv (.pt [.Z6 3 (Yp r)])] [] (vb (q.holds r)) []:=by
 refine YG e5V (by simp) (by decide) rfl ?_;simp-dsimp[a4g,Pd.Z5];refine ZN h (by simp[Pd.Z5]) (by simp[Pd.Z5]) ?_;simp-dsimp
def Hc(r:List Vl):Ob:= .box [.fn SM [] [.val (.pt [.Z6 3 (Yp r)])]]
@[simp]theorem h0b(r:List Vl):(Hc r).hi=true:=rfl
theorem d1a{r:List Vl}{q:Pd}(h:nK r q):ZX prog false SL [q.av, .ptr 1000 0] [(1000,Hc r)] (vb (!q.holds r)) [(1000,Hc r)]:=by
 refine a3L e1X (by simp) (by decide) (by simp) rfl ?_;simp-dsimp[a7g,Pd.Z5,Hc];refine⟨c7Z,PH (d0a h) (by simp) (by simp[Pd.Z5]) (by simp[Pd.Z5]) ?_⟩;simp-dsimp;rfl
theorem d2a{l:List Pd}(hl:l.length<2^63){r:List Vl}(h:∀q,q∈l->nK r q):
 ZX prog true KR [.iv (.Z6 9 (l.map Pd.cells)), .fn SM [] [.val (.pt [.Z6 3 (Yp r)])]] [] (vi (Uv (Pd.holds r) l)) []:=by
 refine YG Ef (by simp) (by decide) rfl ?_;simp-dsimp[a9h];refine YJ [] [] l.length (fun i=>⟨[(8,vi i),(7,vi l.length),(0, .iv (.Z6 9 (l.map Pd.cells))),(1, .fn SM [] [.val (.pt [.Z6 3 (Yp r)])])],[]⟩) (fun i=>ZK i fun j=>∀e,l[j]? =some e->e.holds r=false) ?_ TP ?_
 ·simp-dsimp
 ·intro i hi hq;simp-dsimp[LW];refine⟨fun Z2=>?_,fun X9=>?_⟩
  ·obtain⟨e,he⟩:=Zr Z2;have hw:=Zk (n:=(i:Int)+1) (by omega);simp-dsimp[he,Pd.Z8 e];refine⟨c7Z,PH (d0a (h e (a6y he))) (by simp) (by simp[Pd.Z5]) (by simp[Pd.Z5]) ?_⟩
   cases hf:e.holds r with
   |true=>
    have:=Cq (p:=Pd.holds r) he hf hq;simp-dsimp[this]
   |false=>
    simp-dsimp[hw];exact⟨Z2,hq.succ fun y hy=>by rw[he]at hy;cases hy;exact hf⟩
  ·rw[Di (HQ X9 hq)]
theorem d3a{l:List Pd}(hl:l.length<2^63){r:List Vl}(h:∀q,q∈l->nK r q):
 ZX prog false KR [.iv (.Z6 9 (l.map Pd.cells)), .fn SL [] [.ptr 1000 0]] [(1000,Hc r)] (vi (Uv (fun q=> !q.holds r) l)) [(1000,Hc r)]:=by
 refine a3L Ef (by simp) (by decide) (by simp) rfl ?_;simp-dsimp[a9h];refine YJ [] [] l.length (fun i=>⟨[(8,vi i),(7,vi l.length),(0, .iv (.Z6 9 (l.map Pd.cells))),(1, .fn SL [] [.ptr 1000 0])],[(1000,Hc r)]⟩) (fun i=>ZK i fun j=>∀e,l[j]? =some e->(!e.holds r)=false) ?_ TP ?_
 ·simp-dsimp
 ·intro i hi hq;simp-dsimp[LW];refine⟨fun Z2=>?_,fun X9=>?_⟩
  ·obtain⟨e,he⟩:=Zr Z2;have hw:=Zk (n:=(i:Int)+1) (by omega);simp-dsimp[he,Pd.Z8 e];refine⟨c8Z,T6 (d1a (h e (a6y he))) rfl (by simp) (by simp[Pd.Z5]) (by simp[Pd.Z5]) (by simp) (by simp[Hc]) (by simp[Hc]) (by simp) ?_⟩
   cases hf:e.holds r with
   |true=>
    simp-dsimp[hw];exact⟨Z2,ZK.succ (fun j hj y hy=>by simpa using hq j hj y hy) fun y hy=>by rw[he]at hy;cases hy;exact hf⟩
   |false=>
    have:=Cq (p:=fun q=> !Pd.holds r q) he (by rw[hf];rfl) hq;simp-dsimp[this]
  ·rw[Di (HQ X9 hq)]
theorem d4a{α:Type}(p:α->Bool)(l:List α):decide (0<=Uv p l)=l.any p:=by
 rw[b4H,decide_eq_true_eq,c6y,List.any_eq_true]
theorem d5a{l:List Pd}(hl:l.length<2^63){r:List Vl}(h:∀q,q∈l->nK r q):
 ZX prog true P3 [.iv (.Z6 9 (l.map Pd.cells)), .fn SM [] [.val (.pt [.Z6 3 (Yp r)])]] [] (vb (OL r l)) []:=by
 refine YG Eh (by simp) (by decide) rfl ?_;simp-dsimp[a6g];refine ZN (d2a hl h) (by simp) (by simp) ?_;simp-dsimp;have:=d4a (Pd.holds r) l;simpa[OL]using this
theorem d6a{l:List Pd}(hl:l.length<2^63){r:List Vl}(h:∀q,q∈l->nK r q):
 ZX prog false P3 [.iv (.Z6 9 (l.map Pd.cells)), .fn SL [] [.ptr 1000 0]] [(1000,Hc r)] (vb (!Q8 r l)) [(1000,Hc r)]:=by
 refine a3L Eh (by simp) (by decide) (by simp) rfl ?_;simp-dsimp[a6g];refine T6 (d3a hl h) rfl (by simp) (by simp) (by simp) (by simp) (by simp[Hc]) (by simp[Hc]) (by simp) ?_;simp-dsimp;have:=d4a (fun q=> !Pd.holds r q) l
 have h2:(l.any fun q=> !Pd.holds r q)= !Q8 r l:=by unfold Q8;rw[List.not_all_eq_any_not]
 rw[h2]at this;simpa using this
theorem d7a{l:List Pd}(hl:l.length<2^63){r:List Vl}(h:∀q,q∈l->nK r q):
 ZX prog false P3 [.iv (.Z6 9 (l.map Pd.cells)), .fn SL [] [.ptr 5 0]] [(5,Hc r)] (vb (!Q8 r l)) [(5,Hc r)]:=
 (d6a hl h).Zl (Ren.Xe [(1000,5)]) rfl
theorem d8a{p:Pd}(h:p.Ok)(r:List Vl)(hr:r.length<2^63):nK r p:=by
 induction h with
 |mk p hl _ _ hq ih=>
 refine YG e3M (by simp) (by decide) rfl ?_;rw[Pd.PR]
 by_cases o1:p.op=1
 ·simp-dsimp[a9e,Pd.Z5,o1]
 ·by_cases ho:3<=p.op/\p.op<=9
  ·rw[if_pos ho]
   have:p.op=3\/p.op=4\/p.op=5\/p.op=6\/p.op=7\/p.op=8\/p.op=9:=by omega
   rcases this with o|o|o|o|o|o|o
   all_goals
    simp-dsimp[a9e,Pd.Z5,o];refine ZN (c0T p r hr) (by simp[Pd.Z5,o]) (by simp[Pd.Z5]) ?_;simp-dsimp
  ·rw[if_neg ho]
   have n3:¬p.op=3:=by omega
   have n4:¬p.op=4:=by omega
   have n5:¬p.op=5:=by omega
   have n6:¬p.op=6:=by omega
   have n7:¬p.op=7:=by omega
   have n8:¬p.op=8:=by omega
   have n9:¬p.op=9:=by omega
   by_cases o10:p.op=10
   ·simp-dsimp[a9e,Pd.Z5,o10]
    cases Ul:p.l with
    |nil=>simp-dsimp[Ul,OM]
    |cons a b=>
     have ha:a∈p.l:=by rw[Ul];exact a4E
     simp-dsimp[Ul,Pd.Z8 a];refine⟨c7Z,PH (d0a (ih a ha)) (by simp) (by simp[Pd.Z5]) (by simp[Pd.Z5]) ?_⟩;simp-dsimp[OM]
   ·by_cases o11:p.op=11
    ·simp-dsimp[a9e,Pd.Z5,o11];refine d1u (Sg [3] (by decide) _) ?_;refine T6 (d7a (l:=p.l) hl ih) rfl (by simp) (by simp) (by simp) (by simp[Hc]) (by simp[Hc]) (by simp[Hc]) (by simp) ?_;simp-dsimp
    ·by_cases o12:p.op=12
     ·simp-dsimp[a9e,Pd.Z5,o12];refine ZN (d5a (l:=p.l) hl ih) (by simp) (by simp) ?_;simp-dsimp
     ·simp-dsimp[a9e,Pd.Z5,o1,n3,n4,n5,n6,n7,n8,n9,o10,o11,o12]
end Go.Rt
end

section
namespace Go.Proofs
open Go.Shelf
def Tryz.lays189_ren:Go.Shelf.Ren:=⟨fun| 189=>105| 125=>115| 257=>147| 128=>162| 129=>163| 294=>181| 295=>182| 296=>183| 297=>184| 298=>185| 299=>186| 216=>187| 300=>188| 301=>189| 328=>208| 329=>195| 330=>196| 331=>209| 332=>210| 215=>211| 343=>218|n=>n,fun| 28=>49| 3=>3| 46=>135| 0=>0| 51=>177| 53=>179| 4=>4| 183=>170| 182=>169| 131=>174| 5=>5| 9=>9| 218=>209| 222=>213| 228=>226| 229=>227|n=>n,fun|n=>n⟩
theorem Tryz.lays189:Go.Proofs.Lays.n189 Tryz.prog Tryz.lays189_ren:={
 mixed:=by kernel_rfl
 f125:=Tryz.func115.trans (congrArg some (by kernel_rfl))
 f128:=Tryz.func162.trans (congrArg some (by kernel_rfl))
 f129:=Tryz.func163.trans (congrArg some (by kernel_rfl))
 f189:=Tryz.func105.trans (congrArg some (by kernel_rfl))
 f215:=Tryz.func211.trans (congrArg some (by kernel_rfl))
 f216:=Tryz.func187.trans (congrArg some (by kernel_rfl))
 f257:=Tryz.func147.trans (congrArg some (by kernel_rfl))
 f294:=Tryz.func181.trans (congrArg some (by kernel_rfl))
 f295:=Tryz.func182.trans (congrArg some (by kernel_rfl))
 f296:=Tryz.func183.trans (congrArg some (by kernel_rfl))
 f297:=Tryz.func184.trans (congrArg some (by kernel_rfl))
 f298:=Tryz.func185.trans (congrArg some (by kernel_rfl))
 f299:=Tryz.func186.trans (congrArg some (by kernel_rfl))
 f300:=Tryz.func188.trans (congrArg some (by kernel_rfl))
 f301:=Tryz.func189.trans (congrArg some (by kernel_rfl))
 f328:=Tryz.func208.trans (congrArg some (by kernel_rfl))
 f329:=Tryz.func195.trans (congrArg some (by kernel_rfl))
 f330:=Tryz.func196.trans (congrArg some (by kernel_rfl))
 f331:=Tryz.func209.trans (congrArg some (by kernel_rfl))
 f332:=Tryz.func210.trans (congrArg some (by kernel_rfl))
 f343:=Tryz.func218.trans (congrArg some (by kernel_rfl))
 t0:=Tryz.underlying0
 a0:=Tryz.isAgg0
 z0:=Tryz.sizeOf0
 v0:=Tryz.zeroValue0
 t3:=Tryz.underlying3
 a3:=Tryz.isAgg3
 z3:=Tryz.sizeOf3
 v3:=Tryz.zeroValue3
 t4:=Tryz.underlying4
 a4:=Tryz.isAgg4
 z4:=Tryz.sizeOf4
 v4:=Tryz.zeroValue4
 t5:=Tryz.underlying5
 a5:=Tryz.isAgg5
 z5:=Tryz.sizeOf5
 v5:=Tryz.zeroValue5
 t9:=Tryz.underlying9
 a9:=Tryz.isAgg9
 z9:=Tryz.sizeOf9
 v9:=Tryz.zeroValue9
 t28:=Tryz.underlying49
 a28:=Tryz.isAgg49
 z28:=Tryz.sizeOf49
 v28:=Tryz.zeroValue49
 t46:=Tryz.underlying135
 a46:=Tryz.isAgg135
 z46:=Tryz.sizeOf135
 v46:=Tryz.zeroValue135
 t51:=Tryz.underlying177
 a51:=Tryz.isAgg177
 z51:=Tryz.sizeOf177
 v51:=Tryz.zeroValue177
 t53:=Tryz.underlying179
 a53:=Tryz.isAgg179
 z53:=Tryz.sizeOf179
 v53:=Tryz.zeroValue179
 t131:=Tryz.underlying174
 a131:=Tryz.isAgg174
 z131:=Tryz.sizeOf174
 v131:=Tryz.zeroValue174
 t182:=Tryz.underlying169
 a182:=Tryz.isAgg169
 z182:=Tryz.sizeOf169
 v182:=Tryz.zeroValue169
 t183:=Tryz.underlying170
 a183:=Tryz.isAgg170
 z183:=Tryz.sizeOf170
 v183:=Tryz.zeroValue170
 t218:=Tryz.underlying209
 a218:=Tryz.isAgg209
 z218:=Tryz.sizeOf209
 v218:=Tryz.zeroValue209
 t222:=Tryz.underlying213
 a222:=Tryz.isAgg213
 z222:=Tryz.sizeOf213
 v222:=Tryz.zeroValue213
 t228:=Tryz.underlying226
 a228:=Tryz.isAgg226
 z228:=Tryz.sizeOf226
 v228:=Tryz.zeroValue226
 t229:=Tryz.underlying227
 a229:=Tryz.isAgg227
 z229:=Tryz.sizeOf227
 v229:=Tryz.zeroValue227}
open Go.Sort Go.RowKit in
theorem Tryz.slices_Sort_int(Wh off cap:Nat)(zs:List Int)(w:World)(hH:Holds (Value.int .i64) w Wh off zs.toArray)(hblk:Wh<w.heap.size)(Ya:zs.length<4611686018427387904):
 Calls Tryz.prog 105 #[.slice (some ⟨Wh,off,none⟩) zs.length cap] w fun e w'=>
  e= .returned (.tuple #[])/\∃n os,w'=grow (putRow (Value.int .i64) (Sort.ahead w n) Wh off (zs.mergeSort fun x y=>decide (x<=y)).toArray) os:=Any.slices_Sort_int Tryz.lays189 Wh off cap zs w hH hblk Ya
def Tryz.laysNm220_ren:Go.Shelf.Ren:=⟨fun| 20=>133|n=>n,fun| 22=>49| 3=>3| 4=>4| 0=>0|n=>n,fun|n=>n⟩
theorem Tryz.laysNm220:Go.Proofs.Lays2.n20 Tryz.prog Tryz.laysNm220_ren:={
 mixed:=by kernel_rfl
 f20:=Tryz.func133.trans (congrArg some (by kernel_rfl))
 t0:=Tryz.underlying0
 a0:=Tryz.isAgg0
 z0:=Tryz.sizeOf0
 v0:=Tryz.zeroValue0
 t3:=Tryz.underlying3
 a3:=Tryz.isAgg3
 z3:=Tryz.sizeOf3
 v3:=Tryz.zeroValue3
 t4:=Tryz.underlying4
 a4:=Tryz.isAgg4
 z4:=Tryz.sizeOf4
 v4:=Tryz.zeroValue4
 t22:=Tryz.underlying49
 a22:=Tryz.isAgg49
 z22:=Tryz.sizeOf49
 v22:=Tryz.zeroValue49
 i3:=by kernel_rfl}
open Go.RowKit Go.Lib Go.Sort in
theorem Tryz.slices_Compact_int(Wh off cap:Nat)(zs:List Int)(w:World)(hH:Holds (Value.int .i64) w Wh off zs.toArray)(Ya:zs.length<=9223372036854775807)(WT:zs.length<=cap):
 Calls Tryz.prog 133 #[.slice (some ⟨Wh,off,none⟩) zs.length cap] w fun e w'=>e= .returned (.slice (some ⟨Wh,off,none⟩) (Lib.compact zs).length cap)/\∃q,w'=putRow (Value.int .i64) (Sort.ahead w q) Wh off (Lib.compact zs++a2N (zs.length-(Lib.compact zs).length) 0).toArray:=Any.slices_Compact_int Tryz.laysNm220 Wh off cap zs w hH Ya WT
open Go.RowKit Go.Lib Go.Sort in
theorem Tryz.slices_Compact_int_empty(a:Option Addr)(cap:Nat)(w:World):
 Calls Tryz.prog 133 #[.slice a 0 cap] w fun e w'=>e= .returned (.slice a 0 cap)/\w'=w:=Any.slices_Compact_int_empty Tryz.laysNm220 a cap w
def Tryz.laysNm223_ren:Go.Shelf.Ren:=⟨fun| 23=>137|n=>n,fun| 22=>49| 3=>3| 4=>4| 0=>0|n=>n,fun|n=>n⟩
theorem Tryz.laysNm223:Go.Proofs.Lays2.n23 Tryz.prog Tryz.laysNm223_ren:={
 mixed:=by kernel_rfl
 f23:=Tryz.func137.trans (congrArg some (by kernel_rfl))
 t0:=Tryz.underlying0
 a0:=Tryz.isAgg0
 z0:=Tryz.sizeOf0
 v0:=Tryz.zeroValue0
 t3:=Tryz.underlying3
 a3:=Tryz.isAgg3
 z3:=Tryz.sizeOf3
 v3:=Tryz.zeroValue3
 t4:=Tryz.underlying4
 a4:=Tryz.isAgg4
 z4:=Tryz.sizeOf4
 v4:=Tryz.zeroValue4
 t22:=Tryz.underlying49
 a22:=Tryz.isAgg49
 z22:=Tryz.sizeOf49
 v22:=Tryz.zeroValue49
 i3:=by kernel_rfl}
open Go.RowKit Go.Lib Go.Sort in
theorem Tryz.slices_Delete_int(Wh off cap i j:Nat)(zs:List Int)(w:World)(hH:Holds (Value.int .i64) w Wh off zs.toArray)(WT:zs.length<=cap)(hm:cap<=9223372036854775807)(Xu:i<=j)(hj:j<=zs.length):
 Calls Tryz.prog 137 #[.slice (some ⟨Wh,off,none⟩) zs.length cap, .int .i64 i, .int .i64 j] w fun e w'=>e= .returned (.slice (some ⟨Wh,off,none⟩) (zs.length-(j-i)) cap)/\∃q,w'=putRow (Value.int .i64) (Sort.ahead w q) Wh off (zs.take i++zs.drop j++a2N (j-i) 0).toArray:=Any.slices_Delete_int Tryz.laysNm223 Wh off cap i j zs w hH WT hm Xu hj
end Go.Proofs
end

section
namespace Go.Rt
open Go.Vm
theorem KH(l:List Int):(Xo l).length=l.length:=List.length_mergeSort _
theorem c1N(xs:List Int)(hl:xs.length<2^62):ZX prog false Qb [.sl 1000 1 0 xs.length] [(1000, .list 1 (YW xs))] (.Zp []) [(1000, .list 1 (YW (Xo xs)))]:=
 c5H Xo KH (by simp[Xo]) (fun Wh off cap zs w hH hb hs=>Go.Proofs.Tryz.slices_Sort_int Wh off cap zs w hH hb hs) (fun p cap w=>Go.Proofs.Any.slices_Sort_int_none Go.Proofs.Tryz.lays189 p cap w) xs hl
theorem c2N(xs:List Int)(hl:xs.length<2^62):ZX prog false Qb [.sl 900 1 0 xs.length] [(900, .list 1 (YW xs))] (.Zp []) [(900, .list 1 (YW (Xo xs)))]:=
 (c1N xs hl).Zl (Ren.Xe [(1000,900)]) rfl
def Ee(es:List Ev)(o:Ins)(k:Nat):List Vs:=⟨0,0⟩::(o.ZU.take k).map fun txn=>⟨txn,HD es txn o.table o.key⟩
theorem c3N(es:List Ev)(o:Ins):Ee es o 0=[⟨0,0⟩]:=rfl
theorem c4N{es:List Ev}{o:Ins}{k:Nat}{txn:Int}(h:o.ZU[k]? =some txn):Ee es o (k+1)=Ee es o k++[⟨txn,HD es txn o.table o.key⟩]:=by
 unfold Ee;rw[show o.ZU.take (k+1)=o.ZU.take k++[txn] by rw[a3I,h];rfl];simp
theorem c5N(es:List Ev)(o:Ins):Ee es o o.ZU.length=SG es o:=by unfold Ee SG;rw[a6J]
theorem c6N{es:List Ev}{o:Ins}{k:Nat}(h:k<=o.ZU.length):(Ee es o k).length=k+1:=by simp[Ee];omega
def HK(es:List Ev):Prop:=∀e,e∈es->e.kind=3->e.row.length<2^40
def Yv(es:List Ev)(os:List Ins):IV:= .pt [.mp skL (KI es), .Z6 1 (YW (Xo (Ye es))), .mp nP (KG es), .mp nP (LV es), .mp skC (Dc es os)]
theorem c8N{h:Hs}(ZY:h.Ok)(XM:h.events.length<2^40)(hw:¬Zo h):ZX prog false U0 [h.av] [] (.iv (.v (.pointer none))) []:=by
 refine Te Et (by simp) (by decide) ?_;have hck:=c7F (h:=h) (fun hc=>hw ((d4d h).1 hc));simp-dsimp[a8a,Hs.av];refine ZN (c8F ZY XM) (by simp[Hs.av]) (by simp[Hs.av]) ?_;simp-dsimp[hck];exact⟨[1],by simp[Yz,AV.Xt]⟩
theorem c9N{h:Hs}(ZY:h.Ok)(XM:h.events.length<2^40)(hw:Zo h)(Y8:HK h.events)(nQ:∀o,o∈h.order->o.ZU.length<2^40):ZX prog false U0 [h.av] [] (.iv (Yv h.events h.order)) []:=by
 refine Te Et (by simp) (by decide) ?_;have hck:=c6F ((d4d h).2 hw);simp-dsimp[a8a,Hs.av];refine ZN (c8F ZY XM) (by simp[Hs.av]) (by simp[Hs.av]) ?_;simp-dsimp[hck]
 refine b8l [5,6,55] h.events.length (fun i=>⟨[(25,vi i),(24,vi h.events.length),(23, .iv (.Z6 22 (ZB h.events))),(3, .ptr 21 0),(1, .ptr 1 0)],
  [(900, .list 1 (YW (Ye (h.events.take i)))),(21, .box [.mpr 16, .sl 900 1 0 (Ye (h.events.take i)).length, .mpr 17, .mpr 18, .mpr 19]),(16, .map skL (KI (h.events.take i))),(17, .map nP (KG (h.events.take i))),(18, .map nP (LV (h.events.take i))),(19, .map skC (fun _=>none)),
   (1, .box [.iv (.Z6 1 (Za h.tables)), .iv (.Z6 22 (ZB h.events)), .iv (.Z6 5 (Zi h.order))])]⟩) (fun _=>True) ?_ trivial ?_
 ·refine(b7l (j:=21) (i:=1) (id:=900) (sz:=1) rfl rfl rfl (by decide)).trans (LeTo.le (D:=[]) ?_);simp-dsimp[St.add,d1j,d2j,d3j,d4k,YW]
 ·intro i hi _
  by_cases Zd:i<h.events.length
  ·obtain⟨e,he⟩:=Zr Zd;have Sc:=Zk (n:=(i:Int)+1) (by omega)
   have WG:h.events.take (i+1)=h.events.take i++[e]:=by rw[a3I,he];rfl
   have QA:=d6k (h.events.take i)
   have QQ:(h.events.take i).length<=h.events.length:=by simp;omega
   by_cases k1:e.kind=1
   ·have Ht:=d5j (es:=h.events.take i) k1;have Ik:=d9j (es:=h.events.take i) (e:=e) (by omega);have hg3:=d1k (es:=h.events.take i) (e:=e) (by omega)
    have ou:Ye (h.events.take i++[e])=Ye (h.events.take i):=by rw[d5k,if_neg (by omega)];simp
    rw[WG,Ik,hg3,ou];simp-dsimp[UM,he,YB,k1,Ht,Sc]
    exact fun h=>absurd h (by omega)
   ·by_cases k5:e.kind=5
    ·have Ht:=d6j (es:=h.events.take i) (e:=e) k1;have Ik:=d9j (es:=h.events.take i) (e:=e) (by omega);have hg3:=d1k (es:=h.events.take i) (e:=e) (by omega)
     have ou:Ye (h.events.take i++[e])=Ye (h.events.take i)++[e.txn]:=by rw[d5k,if_pos k5]
     rw[WG,Ht,Ik,hg3,ou];simp-dsimp[UM,he,YB,k5,Sc];exact⟨fun _=>⟨by omega,by omega,Zd,by simp[YW]⟩,fun h=>absurd h (by omega)⟩
    ·have Ht:=d6j (es:=h.events.take i) (e:=e) k1
     have ou:Ye (h.events.take i++[e])=Ye (h.events.take i):=by rw[d5k,if_neg (by omega)];simp
     by_cases k3:e.kind=3
     ·have Ik:=d8j (es:=h.events.take i) k3;have hg3:=d0k (es:=h.events.take i) k3;rw[WG,Ht,ou];simp-dsimp[UM,he,YB,k3];refine⟨fun _=>?_,fun h=>absurd h (by omega)⟩;have hre:=Y8 e (a6y he) k3;have g1J:ZX prog false X5 [.iv (.Z6 3 (Yp e.row))] [] (.iv (.Z6 3 (Yp e.row))) []:=b1s (by simpa using hre)
      repeat' first
       |(refine b5Z ?_ ?_)
       |(refine Y6 g1J rfl (by simp) (by simp) (by simp) (by simp) ?_;simp-dsimp[YB,Ik,hg3,Sc])
      all_goals exact Zd
     ·have Ik:=d9j (es:=h.events.take i) (e:=e) k3;have hg3:=d1k (es:=h.events.take i) (e:=e) k3;rw[WG,Ht,Ik,hg3,ou];simp-dsimp[UM,he,YB,k1,k3,k5,Sc]
      exact fun h=>absurd h (by omega)
  ·have VR:i=h.events.length:=by omega
   subst VR;rw[a6J];have QA:=d6k h.events;simp-dsimp[UM];refine T6 (c2N (Ye h.events) (by omega)) rfl (by simp) (by simp) (by simp) (by simp) (by simp) (by simp only[a6L,a5L,and_true];exact⟨_,rfl,Ob.RM rfl rfl (by simp[KH])⟩) (by simp) ?_
   simp-dsimp;have Ny:=ZY.order
   refine YJ [1] [9,105] h.order.length (fun i=>⟨[(95,vi i),(94,vi h.order.length),(93, .iv (.Z6 5 (Zi h.order))),(3, .ptr 21 0)],
    [(900, .list 1 (YW (Xo (Ye h.events)))),(21, .box [.mpr 16, .sl 900 1 0 (Ye h.events).length, .mpr 17, .mpr 18, .mpr 19]),(16, .map skL (KI h.events)),(17, .map nP (KG h.events)),(18, .map nP (LV h.events)),(19, .map skC (Dc h.events (h.order.take i)))]⟩) (fun _=>True) ?_ trivial ?_
   ·simp[d4j]
   ·intro i hi _
    by_cases Zd:i<h.order.length
    ·obtain⟨o,ho⟩:=Zr Zd;have Sc:=Zk (n:=(i:Int)+1) (by omega)
     have WG:h.order.take (i+1)=h.order.take i++[o]:=by rw[a3I,ho];rfl
     have hot:=nQ o (a6y ho);have Np:=d2k h.events (h.order.take i) o;rw[WG];simp-dsimp[OT,ho,Ins.cells,YB];refine⟨fun _=>?_,fun hh=>absurd hh (by omega)⟩
     refine YJ [8] [125] o.ZU.length (fun k=>⟨[(109,vi k),(108,vi o.ZU.length),(107, .iv (.Z6 1 (YW o.ZU))),(10, .sl 105 2 0 (k+1)),(9, .ptr 9 0),(95,vi i),(94,vi h.order.length),(93, .iv (.Z6 5 (Zi h.order))),(3, .ptr 21 0)],
      [(105, .list 2 (Vk (Ee h.events o k))),(9, .box [vi o.table,vb o.key.text,vi o.key.n, .iv (.v (.string o.key.s))]),(900, .list 1 (YW (Xo (Ye h.events)))),(21, .box [.mpr 16, .sl 900 1 0 (Ye h.events).length, .mpr 17, .mpr 18, .mpr 19]),(16, .map skL (KI h.events)),(17, .map nP (KG h.events)),(18, .map nP (LV h.events)),(19, .map skC (Dc h.events (h.order.take i)))]⟩) (fun _=>True) ?_ trivial ?_
     ·simp[c3N,Vk]
     ·intro k hk _
      by_cases Vy:k<o.ZU.length
      ·obtain⟨txn,f7R⟩:=Zr Vy;have MF:=Zk (n:=(k:Int)+1) (by omega);have Ve:=c4N (es:=h.events) f7R;have QA:=c6N (es:=h.events) (o:=o) (k:=k) (by omega)
       have kP:Vk (Ee h.events o k)++[[ci txn,ci (HD h.events txn o.table o.key)]]=Vk (Ee h.events o (k+1)):=by rw[Ve];simp[Vk]
       simp-dsimp[OU,f7R,MF,QA,kP];exact⟨fun _=>⟨by omega,by omega,Vy⟩,fun h=>absurd h (by omega)⟩
      ·have Dr:k=o.ZU.length:=by omega
       subst Dr;rw[c5N];have QA:=c6N (es:=h.events) (o:=o) (k:=o.ZU.length) (by omega);rw[c5N]at QA;have T7:a1V (o.ZU.length+1) (Vk (SG h.events o))=Vk (SG h.events o):=a0z (by simp[QA]);simp-dsimp[OU,T7,Np,Sc];exact Zd
    ·have VR:i=h.order.length:=by omega
     subst VR;rw[a6J];simp-dsimp[OT];have T7:a1V (Ye h.events).length (YW (Xo (Ye h.events)))=YW (Xo (Ye h.events)):=a0z (by simp[KH]);exact⟨[16,17,18,19,900,21],by simp[Yz,AV.Xt,Yv,T7]⟩
end Go.Rt
end
