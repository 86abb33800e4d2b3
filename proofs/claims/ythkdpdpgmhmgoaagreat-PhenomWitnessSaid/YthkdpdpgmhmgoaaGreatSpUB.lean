/- Contracts of functions of the program, and what they lean on. Conditions: those of each theorem. -/
import Derived.Test.YthkdpdpgmhmgoaaGreatSpUA
import Derived.MapKept
import Derived.Laws.MakeOwn
import Derived.Maps.RangeRun
import Derived.Scope
import Derived.ScopeJumps
import Derived.Orders
import Derived.Stop.Looks

set_option linter.unusedVariables false
set_option linter.unusedSimpArgs false
set_option maxHeartbeats 64000000
set_option maxRecDepth 100000
open Array renaming ext'->b3n,getElem?_toList->a9C,getD_eq_getD_getElem?->a4E,toList_push->a5U,getElem?_modify->a1Q,eraseIdxIfInBounds->c8w,toList_eraseIdx->c2V,getElem?_eq_some_iff->c0r,getElem?_setIfInBounds_ne->a9R,eq_empty_of_size_eq_zero->b8T,mem_filter->d7p,contains_eq_mem->c3V,getElem?_eq_none->b9l,all_eq_true'->d5n,replicate->c1A,getElem?_eq_getElem->a2S
open Bool renaming and_eq_true->a4C,false_eq_true->a5M,not_eq_true'->b9O,or_eq_true->b6L
open Classical renaming choose->b6u,choose_spec->b5P
open Eq renaming symm->d0w
open Int renaming le_refl->d7R
open List renaming mapM_cons->a3N,map_cons->a0G,drop_zero->c2T,take_of_length_le->a2B,getElem?_map->a0C,mem_cons->a2E,append_assoc->c1y,eq_nil_of_length_eq_zero->a8R,getD_cons_zero->c0F,nodup_cons->b0q,mem_map->a3E,mem_of_getElem?->a8y,all_eq_true->a0E,mem_append->a1E,mem_singleton->a2z,map_append->a6M,nodup_append->b5m,map_singleton->c2F,ext_getElem?->b9j,mem_of_mem_eraseIdx->c3T,eraseIdx_sublist->c7W,getElem?_of_mem->a9B,mem_append_left->a6O,mem_eraseIdx_iff_getElem?->c6L,pairwise_iff_getElem->c8x,getElem?_eq_some_iff->a7y,getD_eq_getElem?_getD->b4P,getElem?_cons_succ->a2I,replicate->a6R,length_replicate->c6X,eq_of_mem_replicate->c9x,getElem?_replicate->c7U,getElem?_eq_getElem->a3I,getD->a7V,getElem?_set->b6T,getElem?_toArray->c8E,getElem?_cons_zero->a9E,getElem?_append_left->a1N,getElem?_append_right->a5V,mem_cons_of_mem->a2C,mem_cons_self->a8C,range->a0I,isEmpty_iff->c2y,contains_iff_mem->a0N,mapM_nil->d0Q
open List.Sublist renaming map->c4T
open List.cons renaming injEq->a4S
open Nat renaming add_assoc->b3P,add_comm->c4K,zero_add->b4s,le_refl->a8F,eq_zero_or_pos->b5j,mul_le_mul_right->a5E,add_mul->a8M,add_mul_mod_self_right->c9S,mod_eq_of_lt->d1w,mul_one->d3n,add_zero->b1P,le_trans->a9L,le_of_not_lt->d2z,lt_of_lt_of_le->a4N
open Option renaming map_eq_some_iff->a1S,bind_some->a5J,map_some->a4G,pure_def->a8H,bind_eq_bind->a1V,bind_eq_some_iff->b2q,getD_some->a2L,isSome_iff_exists->c7w
open Option.some renaming injEq->a5y,inj->c0i
open Prod.mk renaming injEq->a6J

section
namespace Go.Vm
def e3n:Kd->TypeDesc
 | .b=> .bool
 | .i j=> .int j
 | .s=> .string
theorem e4n(s t:ByteArray):(s==t)=true↔s=t:=by
 constructor
 ·intro h;obtain⟨a⟩:=s;obtain⟨b⟩:=t;have h:(a==b)=true:=h;rw[eq_of_beq h]
 ·rintro rfl;obtain⟨a⟩:=s
  show(a==a)=true
  simp
theorem e5n{v:Value}{k:Kd}(h:Za v=some k):v.cells= #[v]/\v.oneCell'=true/\(∀cs,v≠ .agg cs):=by
 cases v<;>simp[Za]at h<;>refine⟨rfl,rfl,by simp⟩
theorem Hh{v:Value}{ag:Bool}{ks:List Kd}(h:Xl v=some (ag,ks)):
 (∃cs:Array Value,v= .agg cs/\ag=true/\cs.toList.mapM Za=some ks/\X9 v=cs.toList)\/(∃k,ag=false/\ks=[k]/\Za v=some k/\X9 v=[v]):=by
 cases v with
 |agg cs=>
  left;simp only[Xl,a1S,a6J]at h;obtain⟨l,h1,rfl,rfl⟩:=h;exact⟨cs,rfl,rfl,h1,rfl⟩
 | _=>
  right;simp only[Xl,a1S,a6J]at h;obtain⟨k,h1,rfl,rfl⟩:=h;exact⟨k,rfl,rfl,h1,by simp[X9,(e5n h1).1]⟩
theorem e7n{x y:Value}{ag:Bool}{ks:List Kd}(hx:Xl x=some (ag,ks))(hy:Xl y=some (ag,ks))(h:X9 x=X9 y):x=y:=by
 rcases Hh hx with⟨cs,rfl,h1,h2,h3⟩|⟨k,h1,h2,h3,h4⟩
 ·rcases Hh hy with⟨ds,rfl,g1,g2,g3⟩|⟨k',g1,g2,g3,g4⟩
  ·rw[h3,g3]at h
   congr 1
   exact b3n h
  ·rw[h1]at g1;cases g1
 ·rcases Hh hy with⟨ds,rfl,g1,g2,g3⟩|⟨k',g1,g2,g3,g4⟩
  ·rw[h1]at g1;cases g1
  ·rw[h4,g4]at h;simpa using h
theorem e8n{k:Kd}{u v:Value}(hu:Za u=some k)(hv:Za v=some k):∃b,IJ k u v=some b/\(b=true↔u=v):=by
 cases u<;>simp only[Za]at hu<;>(first|(cases hu;done)|skip)<;>cases hu<;>cases v<;>simp only[Za]at hv<;>(first|(cases hv;done)|skip)
 ·exact⟨_,rfl,by simp⟩
 ·cases hv;exact⟨_,by simp only[IJ,if_true];rfl,by simp⟩
 ·exact⟨_,rfl,by rw[e4n];simp⟩
theorem e9n:∀(ks:List Kd) (l m:List Value),l.mapM Za=some ks->m.mapM Za=some ks->
 ∃b,Ug ks (l.map fun v=> .iv (.v v)) (m.map fun v=> .iv (.v v))=some b/\(b=true↔l=m):=by
 intro ks
 induction ks with
 |nil=>
  intro l m hl hm
  cases l with
  |nil=>cases m with
   |nil=>exact⟨true,rfl,by simp⟩
   |cons y m=>rw[a3N]at hm;cases hy:Za y<;>simp[hy]at hm;cases hq:m.mapM Za<;>simp[hq]at hm
  |cons x l=>rw[a3N]at hl;cases hx:Za x<;>simp[hx]at hl;cases hq:l.mapM Za<;>simp[hq]at hl
 |cons k ks ih=>
  intro l m hl hm
  have dest:∀l:List Value,l.mapM Za=some (k::ks)->∃x r,l=x::r/\Za x=some k/\r.mapM Za=some ks:=by
   intro l h
   cases l with
   |nil=>simp at h
   |cons x r=>
    rw[a3N]at h
    cases hx:Za x with
    |none=>simp[hx]at h
    |some kx=>
     cases hq:r.mapM Za with
     |none=>simp[hx,hq]at h
     |some q=>
      simp[hx,hq]at h;obtain⟨rfl,rfl⟩:=h;exact⟨x,r,rfl,hx,hq⟩
  obtain⟨x,r,rfl,hx,hr⟩:=dest l hl;obtain⟨y,q,rfl,hy,hq⟩:=dest m hm;obtain⟨b,h1,h2⟩:=e8n hx hy;obtain⟨c,h3,h4⟩:=ih r q hr hq;refine⟨b&&c,?_,?_⟩
  ·simp only[a0G,Ug,h1,a5J,h3,a4G]
  ·rw[a4C,h2,h4,a4S]
section
variable{P:Program}{w:World}
theorem e0o{d:Nat}{t:TypeId}{ks:List Kd}(h:Sd P (d+1) t=some ks)(hg:XZ P t=false):
 ∃k,ks=[k]/\P.underlying t=some (e3n k):=by
 unfold Sd at h;split at h
 ·rename_i hu;exact⟨.b,by simpa using h.symm,hu⟩
 ·rename_i k hu;exact⟨.i k,by simpa using h.symm,hu⟩
 ·rename_i hu;exact⟨.s,by simpa using h.symm,hu⟩
 ·rename_i fs hu;unfold XZ at hg;rw[hu]at hg;cases hg
 ·cases h
theorem e1o{l:List Value}{ks:List Kd}(h:l.mapM Za=some ks):l.length=ks.length:=by
 induction l generalizing ks with
 |nil=>simp at h;subst h;rfl
 |cons x r ih=>
  rw[a3N]at h
  cases hx:Za x with
  |none=>simp[hx]at h
  |some kx=>
   cases hq:r.mapM Za with
   |none=>simp[hx,hq]at h
   |some q=>
    simp[hx,hq]at h;subst h;simp[ih hq]
theorem e2o{t:TypeId}{ks:List Kd}(hk:Sd P 20 t=some ks)(hi:X7 P t=some ks.length){x y:Value}(hx:Xl x=some (XZ P t,ks))(hy:Xl y=some (XZ P t,ks)):
 ∃b,(Op.equal t x y).run P w= .ok b w/\(b=true↔x=y):=by
 rcases Hh hx with⟨us,rfl,h1,h2,h3⟩|⟨k,h1,h2,h3,h4⟩
 ·rcases Hh hy with⟨vs,rfl,g1,g2,g3⟩|⟨k',g1,g2,g3,g4⟩
  ·obtain⟨b,e1,e2⟩:=e9n ks _ _ h2 g2;refine⟨b,?_,?_⟩
   ·have hl:=e1o h2;have hm:=e1o g2
    have key:=(a5x (w:=w) 20 t ks hk 10000 (by omega) us vs (us.toList.map fun v=> .iv (.v v)) (vs.toList.map fun v=> .iv (.v v)) 0 b ⟨by simp,fun i x hx=>?_⟩ ⟨by simp,fun i x hx=>?_⟩ (by simp at hl⊢;omega) (by simp at hm⊢;omega) (by
     rw[c2T,c2T,a2B (by simp at hl⊢;omega),a2B (by simp at hm⊢;omega)];exact e1)).1 h1 hi
    ·have x1:us.extract 0 (0+ks.length)=us:=by rw[<-hl];simp
     have x2:vs.extract 0 (0+ks.length)=vs:=by rw[<-hm];simp
     rw[x1,x2]at key;exact key
    ·rw[a0C]at hx
     cases hq:us.toList[i]? with
     |none=>rw[hq]at hx;cases hx
     |some z=>rw[hq]at hx;cases hx;rw[a9C]at hq;simp[a4E,hq]
    ·rw[a0C]at hx
     cases hq:vs.toList[i]? with
     |none=>rw[hq]at hx;cases hx
     |some z=>rw[hq]at hx;cases hx;rw[a9C]at hq;simp[a4E,hq]
   ·rw[e2];constructor
    ·intro e;congr 1;exact b3n e
    ·intro e;cases e;rfl
  ·rw[h1]at g1;cases g1
 ·rcases Hh hy with⟨vs,rfl,g1,g2,g3⟩|⟨k',g1,g2,g3,g4⟩
  ·rw[h1]at g1;cases g1
  ·obtain⟨k0,RH,hu⟩:=e0o hk h1;rw[h2]at RH;simp only[a4S,and_true]at RH;subst RH;rw[h2]at g2;simp only[a4S,and_true]at g2;subst g2;obtain⟨b,e1,e2⟩:=e8n h3 g3;exact⟨b,a3x (d:=9999) (by rw[hu];cases k<;>rfl) e1 w,e2⟩
theorem e3o{t:TypeId}{ks:List Kd}(hk:Sd P 20 t=some ks)(hi:X7 P t=some ks.length){x:Value}(hx:Xl x=some (XZ P t,ks)):
 ∀(es:List MapEntry) (i:Nat),(∀e∈es,Xl e.key=some (XZ P t,ks))->
  ((Instr.findAsking t x es i).run P w= .ok none w/\∀e∈es,e.key≠x)∨
  ∃j e,(Instr.findAsking t x es i).run P w= .ok (some (i+j,e.val)) w/\es[j]? =some e/\e.key=x
 | [],i,_=> .inl ⟨by simp[Instr.findAsking],by simp⟩
 |e::es,i,Zt=>by
  obtain⟨r,hr,Fu⟩:=e2o (w:=w) hk hi hx (Zt e (by simp));cases r
  ·have ZS:e.key≠x:=fun h=>by have:=Fu.2 h.symm;cases this
   rcases e3o hk hi hx es (i+1) (fun y hy=>Zt y (by simp[hy]))with⟨h1,h2⟩|⟨j,e',h1,h2,h3⟩
   ·left;refine⟨by simp[Instr.findAsking,hr,h1],fun y hy=>?_⟩
    rcases a2E.1 hy with rfl|hy
    ·exact ZS
    ·exact h2 y hy
   ·right;exact⟨j+1,e',by simp[Instr.findAsking,hr,h1,b3P,c4K 1 j],by simpa using h2,h3⟩
  ·right;exact⟨0,e,by simp[Instr.findAsking,hr],rfl,(Fu.1 rfl).symm⟩
theorem e4o{k:Kd}{u v:Value}(hu:Za u=some k)(hv:Za v=some k):∃b,Instr.sameNow (e3n k) u v=some b/\(b=true↔v=u):=by
 cases u<;>simp only[Za]at hu<;>(first|(cases hu;done)|skip)<;>cases hu<;>cases v<;>simp only[Za]at hv<;>(first|(cases hv;done)|skip)
 ·exact⟨_,rfl,by rw[beq_iff_eq,Value.bool.injEq];exact⟨d0w,d0w⟩⟩
 ·cases hv;exact⟨_,by simp only[e3n,Instr.sameNow,if_true];rfl,by rw[beq_iff_eq,Value.int.injEq];exact⟨fun h=>⟨rfl,h.symm⟩,fun h=>h.2.symm⟩⟩
 ·exact⟨_,rfl,by rw[e4n,Value.string.injEq];exact⟨d0w,d0w⟩⟩
theorem e5o{k:Kd}{x:Value}(hx:Za x=some k):
 ∀(es:List MapEntry) (i:Nat),(∀e∈es,Za e.key=some k)->
  (Instr.findNow (e3n k) x es i=some none/\∀e∈es,e.key≠x)∨
  ∃j e,Instr.findNow (e3n k) x es i=some (some (i+j,e.val))/\es[j]? =some e/\e.key=x
 | [],i,_=> .inl ⟨by simp[Instr.findNow],by simp⟩
 |e::es,i,Zt=>by
  obtain⟨r,hr,Fu⟩:=e4o hx (Zt e (by simp));cases r
  ·have ZS:e.key≠x:=fun h=>by have:=Fu.2 h;cases this
   rcases e5o hx es (i+1) (fun y hy=>Zt y (by simp[hy]))with⟨h1,h2⟩|⟨j,e',h1,h2,h3⟩
   ·left;refine⟨by simp only[Instr.findNow,hr];exact h1,fun y hy=>?_⟩
    rcases a2E.1 hy with rfl|hy
    ·exact ZS
    ·exact h2 y hy
   ·right;exact⟨j+1,e',by simp only[Instr.findNow,hr];rw[h1,b3P,c4K 1 j],by simpa using h2,h3⟩
  ·right;exact⟨0,e,by simp only[Instr.findNow,hr];rfl,rfl,Fu.1 rfl⟩
theorem rK{t:TypeId}{ks:List Kd}(hk:Sd P 20 t=some ks)(hi:X7 P t=some ks.length){x:Value}(hx:Xl x=some (XZ P t,ks))
 (es:List MapEntry) (Zt:∀e∈es,Xl e.key=some (XZ P t,ks)):
 ((
  Instr.findKey t x es).run P w= .ok none w/\∀e∈es,e.key≠x)∨
  ∃j e,(Instr.findKey t x es).run P w= .ok (some (j,e.val)) w/\es[j]? =some e/\e.key=x:=by
 by_cases hg:XZ P t=true
 ·have hd:∃dd,P.underlying t=some dd/\(∀y z,Instr.sameNow dd y z=none):=by
   unfold XZ at hg;split at hg
   ·rename_i hu;exact⟨_,hu,fun y z=>by simp[Instr.sameNow]⟩
   ·rename_i hu;exact⟨_,hu,fun y z=>by simp[Instr.sameNow]⟩
   ·cases hg
  obtain⟨dd,hu,hs⟩:=hd
  have e:(Instr.findKey t x es).run P w=(Instr.findAsking t x es).run P w:=by
   cases es with
   |nil=>simp[Instr.findKey,Vm.run_underlying w hu,Instr.findNow,Instr.findAsking]
   |cons e es=>simp[Instr.findKey,Vm.run_underlying w hu,Instr.findNow,hs]
  rw[e]
  rcases e3o (w:=w) hk hi hx es 0 Zt with h|⟨j,e',h1,h2,h3⟩
  ·exact .inl h
  ·exact .inr ⟨j,e',by simpa using h1,h2,h3⟩
 ·have hg:XZ P t=false:=by simpa using hg
  obtain⟨k,rfl,hu⟩:=e0o hk hg
  have kd:∀v,Xl v=some (XZ P t,[k])->Za v=some k:=by
   intro v hv;rw[hg]at hv
   rcases Hh hv with⟨cs,_,h1,_⟩|⟨k',_,h2,h3,_⟩
   ·cases h1
   ·simp only[a4S,and_true]at h2;subst h2;exact h3
  have e:∀r,Instr.findNow (e3n k) x es 0=some r->(Instr.findKey t x es).run P w= .ok r w:=by
   intro r hr;simp only[Instr.findKey,Sem.run_bind,Vm.run_underlying w hu,Result.andThen_ok,hr,Sem.run_pure]
  rcases e5o (kd x hx) es 0 (fun e he=>kd _ (Zt e he))with⟨h1,h2⟩|⟨j,e',h1,h2,h3⟩
  ·exact .inl ⟨e _ h1,h2⟩
  ·exact .inr ⟨j,e',by rw[e _ h1,b4s],h2,h3⟩
end
section
variable{P:Program}{w:World}
theorem c1Q(
 em:Bool):∀(d:Nat) (t:TypeId) (ks:List Kd),Sd P d t=some ks->∀(D:Nat),d<=D->∀(us:Array Value) (o:Nat),o+ks.length<=us.size->
 (XZ P t=true->X7 P t=some ks.length->(Instr.checkKey em D t (.agg (us.extract o (o+ks.length)))).run P w= .ok () w)∧
 (X7 P t=some ks.length->∃X,(part t us o).run P w= .ok X w/\(Instr.checkKey em D t X).run P w= .ok () w):=by
 intro d
 induction d with
 |zero=>intro t ks h;cases h
 |succ d ih=>
  intro t ks WZ D hD us o l1;obtain⟨D,rfl⟩:∃D',D=D'+1:=⟨D-1,by omega⟩;unfold Sd at WZ
  have leaf:∀(k:Kd),P.underlying t=some (e3n k)->ks=[k]->
   (XZ P t=true->X7 P t=some ks.length->(Instr.checkKey em (D+1) t (.agg (us.extract o (o+ks.length)))).run P w= .ok () w)∧
   (X7 P t=some ks.length->∃X,(part t us o).run P w= .ok X w/\(Instr.checkKey em (D+1) t X).run P w= .ok () w):=by
   rintro k hu rfl
   have hg:XZ P t=false:=by unfold XZ;rw[hu];cases k<;>rfl
   simp only[List.length_singleton]at l1⊢;refine⟨(by rw[hg];intro h;cases h),fun _=>⟨us.getD o undef,c4v hu hg (by omega) w,?_⟩⟩;rw[Instr.checkKey];simp only[Sem.run_bind,Vm.run_underlying w hu,Result.andThen_ok]
   cases k<;>rfl
  split at WZ
  ·rename_i hu;exact leaf .b hu (by simpa using WZ.symm)
  ·rename_i k hu;exact leaf (.i k) hu (by simpa using WZ.symm)
  ·rename_i hu;exact leaf .s hu (by simpa using WZ.symm)
  ·rename_i fs hu;split at WZ
   ·cases WZ
   ·have hg:XZ P t=true:=by unfold XZ;rw[hu]
    have fields:∀(l:List Field) (k0 ks:List Kd) (us:Array Value),ks.length<=us.size->
     l.foldlM (fun ks f=>if f.name≠ "_"/\f.offset=ks.length then(Sd P d f.type).bind fun q=>if X7 P f.type=some q.length then some (ks++q)else none else none) k0=some ks->
     (∃k3,ks=k0++k3)/\(forIn l () fun f _=>do
      if f.name≠ "_" then Instr.checkKey em D f.type (<-part f.type us f.offset)
      pure (ForInStep.yield ()):Sem Unit).run P w= .ok () w:=by
     intro l
     induction l with
     |nil=>
      intro k0 ks us _ hf;simp only[List.foldlM_nil,a8H,a5y]at hf;subst hf;exact⟨⟨[],by simp⟩,by simp⟩
     |cons f l ihl=>
      intro k0 ks us SJ hf;rw[List.foldlM_cons]at hf
      by_cases hc:f.name≠ "_"/\f.offset=k0.length
      ·rw[if_pos hc]at hf
       cases hp:Sd P d f.type with
       |none=>simp[hp]at hf
       |some q=>
        simp only[hp,a5J]at hf
        by_cases hq:X7 P f.type=some q.length
        ·rw[if_pos hq]at hf;simp only[a1V,a5J]at hf;obtain⟨⟨k3,NI⟩,OX⟩:=ihl (k0++q) ks us SJ hf
         have hlen:k0.length+q.length<=us.size:=by rw[NI]at SJ;simp at SJ;omega
         obtain⟨X,p1,p2⟩:=(ih f.type q hp D (by omega) us k0.length hlen).2 hq;refine⟨⟨q++k3,by rw[NI,c1y]⟩,?_⟩;simp only[List.forIn_cons,Sem.run_bind,hc.1,ne_eq,not_false_eq_true,if_true,hc.2,p1,p2,Result.andThen_ok,Sem.run_pure];simpa using OX
        ·rw[if_neg hq]at hf;simp at hf
      ·rw[if_neg hc]at hf;simp at hf
    have whole:X7 P t=some ks.length->(Instr.checkKey em (D+1) t (.agg (us.extract o (o+ks.length)))).run P w= .ok () w:=by
     intro _;rw[Instr.checkKey];simp only[Sem.run_bind,Vm.run_underlying w hu,Result.andThen_ok];rw[<-Array.forIn_toList];have:=(fields fs.toList [] ks (us.extract o (o+ks.length)) (by simp;omega) (by simpa using WZ)).2;simp at this⊢;exact congrArg (fun(r:Result Unit)=>r.andThen fun _ w'=>Result.ok () w') this
    exact⟨fun _=>whole,fun hi=>⟨_,c5v hu hg hi us o w,whole hi⟩⟩
  ·cases WZ
theorem Ha{t:TypeId}{ks:List Kd}(hk:Sd P 20 t=some ks)(hi:X7 P t=some ks.length){x:Value}(hx:Xl x=some (XZ P t,ks))(em:Bool):
 (Instr.checkKey em 10000 t x).run P w= .ok () w:=by
 rcases Hh hx with⟨us,rfl,h1,h2,h3⟩|⟨k,h1,h2,h3,h4⟩
 ·have hl:=e1o h2;have:=(c1Q (w:=w) em 20 t ks hk 10000 (by omega) us 0 (by simp at hl;omega)).1 h1 hi;rw[show us.extract 0 (0+ks.length)=us from by rw[<-hl];simp]at this;exact this
 ·obtain⟨k0,RH,hu⟩:=e0o hk h1;rw[show(10000:Nat)=9999+1 from rfl,Instr.checkKey];simp only[Sem.run_bind,Vm.run_underlying w hu,Result.andThen_ok]
  cases k0<;>rfl
end
theorem Ja{P:Program}{w:World}{r:Nat}{es:Array MapEntry}{clock:Nat}(hb:w.heap[r]? =some (.map es clock)):(getObj r).run P w= .ok (.map es clock) w:=by
 simp[getObj,Sem.run,hb]
theorem D7{P:Program}{w:World}{r:Nat}{es:Array MapEntry}{clock:Nat}(o:Obj)(hb:w.heap[r]? =some (.map es clock)):(setObj r o).run P w= .ok () {w with heap:=w.heap.setIfInBounds r o}:=by
 simp[setObj,Sem.run,hb]
theorem d3f{u:Value}{k:Kd}(h:Za u=some k):Xl u=some (false,[k])/\X9 u=[u]:=by
 have h1:=e5n h;refine⟨?_,by simp[X9,h1.1]⟩
 cases u<;>simp_all[Za,Xl]
section
variable{A:Nat->Prop}{ψ:Pl}{H:Hp}{w:World}
theorem d4f:∀(cs:List AV) (L:List Value) (l:List (Kd×Value)),L.length=cs.length->(∀i c,cs[i]? =some c->ZK A ψ H w c (L.getD i undef))->cs.mapM IX=some l->
 L.mapM Za=some (l.map (·.1))/\L=l.map (·.2):=by
 intro cs
 induction cs with
 |nil=>
  intro L l hl _ hm;simp at hm;subst hm;have:L=[]:=a8R (by simpa using hl);subst this;exact⟨by simp,by simp⟩
 |cons c cs ih=>
  intro L l hl hc hm
  cases L with
  |nil=>simp at hl
  |cons v L=>
   rw[a3N]at hm
   cases hk:IX c with
   |none=>simp[hk]at hm
   |some p=>
    cases hq:cs.mapM IX with
    |none=>simp[hk,hq]at hm
    |some q=>
     simp[hk,hq]at hm;subst hm;obtain⟨g1,g2⟩:=ih L q (by simpa using hl) (fun i c h=>by simpa using hc (i+1) c (by simpa using h)) hq;have h0:=hc 0 c rfl;simp only[c0F]at h0;unfold IX at hk;split at hk
     ·rename_i u;simp only[a1S]at hk;obtain⟨k,Xm,rfl⟩:=hk;have:=VN h0;subst this;refine⟨?_,by simp[<-g2]⟩;rw[a3N];simp[Xm,g1]
     ·cases hk
theorem d5f{x:AV}{v:Value}{Tm:Bool×List Kd}{kk:List Value}(h:ZK A ψ H w x v)(hk:SY x=some (Tm,kk)):Xl v=some Tm/\X9 v=kk:=by
 unfold SY at hk;split at hk
 ·rename_i u;simp only[a1S,a6J]at hk;obtain⟨k,Xm,rfl,rfl⟩:=hk;have:=VN h;subst this;exact d3f Xm
 ·rename_i cs;simp only[a1S,a6J]at hk;obtain⟨l,hl,rfl,rfl⟩:=hk;obtain⟨us,h1,h2,rfl⟩:=qD h;obtain⟨g1,g2⟩:=d4f cs us.toList l (by simpa using h1) (fun i c hc=>by rw[SK];exact h2 i c hc) hl;exact⟨by simp[Xl,g1],by simp only[X9,Value.cells];exact g2⟩
 ·cases hk
theorem GD{α β:Type}{f:α->β}:∀{l:List α},(l.map f).Nodup->∀x∈l,∀y∈l,f x=f y->x=y:=by
 intro l
 induction l with
 |nil=>intro _ x hx;cases hx
 |cons a l ih=>
  intro h x hx y hy he;rw[a0G,b0q]at h
  rcases a2E.1 hx with rfl|Vw
  ·rcases a2E.1 hy with rfl|hy'
   ·rfl
   ·exact absurd (a3E.2 ⟨y,hy',he.symm⟩) h.1
  ·rcases a2E.1 hy with rfl|hy'
   ·exact absurd (a3E.2 ⟨x,Vw,he⟩) h.1
   ·exact ih h.2 x Vw y hy' he
end
section
variable{P:Program}{E:En}{n:Nat}{ψ:Pl}{s:St}{a:Act}{w:World}
variable{dst:Option Nat}{ty:TypeId}{pos:String}{af:Array Edge}{g:Option (Nat×Bool)}{r:Wu}{d:Nat}{K:St->AV->Prop}
theorem d7f(h:Z7 E n ψ s a w){x:AV}{v:Value}(hx:ZK (Im E ψ s.hp) ψ s.hp w x v){sk:Sk}{gm:List Value->Option (List IV)}(hm:s.mapOf x=some (sk,gm)):
 (v= .map none/\∀k,gm k=none)\/∃b es clock,v= .map (some b)/\w.heap[b]? =some (.map es clock)/\Xx (Im E ψ s.hp) w sk gm es:=by
 unfold St.mapOf at hm;split at hm
 ·rename_i id;split at hm
  ·rename_i E5 g' ho;simp only[a5y,a6J]at hm;obtain⟨rfl,rfl⟩:=hm
   cases hx with
   |mpr _ b k o XQ hb=>
    obtain⟨b',es,clock,h1,h2,_,h3⟩:=h.YH id _ ho;rw[h1]at hb;cases hb;exact .inr ⟨b,es,clock,rfl,h2,h3⟩
  ·rename_i E5 g' ns ks ho;simp only[a5y,a6J]at hm;obtain⟨rfl,rfl⟩:=hm
   cases hx with
   |mpr _ b k o XQ hb=>
    obtain⟨b',es,clock,h1,h2,_,h3,_⟩:=h.YH id _ ho;rw[h1]at hb;cases hb;exact .inr ⟨b,es,clock,rfl,h2,h3⟩
  ·cases hm
 ·rename_i E5 g';simp only[a5y,a6J]at hm;obtain⟨rfl,rfl⟩:=hm
  cases hx with
  |iv _ _ hr=>
   cases hr with
   |mp _ _ b clock es vs hA hh UM Yq Y6 _ hg ou=>
    refine .inr ⟨b,es,clock,rfl,hh,UM,Yq,Y6,fun k c hc=>?_⟩;obtain⟨e,he,g1,g2,g3⟩:=hg k c hc;refine⟨e,he,g1,g2,fun i y hy=>?_⟩;have:=g3 i y hy;rw[show e.val.cells.getD i undef=vs k i from by simp[a4E,this]];exact ou k c hc i y hy
   |Nd _ _ hn=>exact .inl ⟨rfl,hn⟩
 ·cases hm
theorem d8f{k e:TypeId}{sk:Sk}(h:Nt P k e=some sk):Sd P 20 k=some sk.2.1/\X7 P k=some sk.2.1.length/\sk.1=XZ P k/\sk.2.2=XZ P e:=by
 unfold Nt at h;obtain⟨l,hl,h⟩:=b2q.1 h;split at h
 ·rename_i hi;split at h
  ·simp only[a5y]at h;subst h;exact⟨hl,hi,rfl,rfl⟩
  ·cases h
 ·cases h
theorem d9f{t k e:TypeId}{sk:Sk}(hd:d<1000)(h:Z7 E n ψ s a w)(hk:ZP P d s K (.XD sk)):
 X6 P E n ⟨dst, .makeMap t none,ty,pos,af,g⟩ a w K:=by
 simp only[ZP]at hk;have h1:=h.drop (id:=d) hd
 have h2:=h1.new (o:= .map sk fun _=>none) (p:=some (w.heap.size,(0,0))) hd (JY s d) (Ext.alloc w (.map #[] 0)) (fun b k e=>by cases e;exact a8F _)
  ⟨w.heap.size, #[],0,by simp[XF],qq _ _,⟨by simp,by simp⟩,by simp,by simp,by simp,fun k c hc=>by cases hc⟩
 refine SH (v:= .map (some w.heap.size)) (w':=w.alloc (.map #[] 0)) ?_ hk h2 (.mpr d w.heap.size (0,0) _ (by simp[WX];rfl) (by simp[XF]));simp[execOp,Instr.makeMap]
theorem d0g{A:Nat->Prop}{H:Hp}{cs:List AV}{v:Value}{ag:Bool}(hg:SU v=ag)(hl:v.cells.size=cs.length)(hc:∀i x,cs[i]? =some x->ZK A ψ H w x (v.cells.getD i undef)):
 ZK A ψ H w (Tq ag cs) v:=by
 subst hg
 cases v with
 |agg us=>exact .agg cs us hl hc
 | _=>
  simp only[Tq,SU,a5M,if_false]
  match cs,hl,hc with
  | [x],_,hc=>exact hc 0 x rfl
  | [],hl,_=>simp[Value.cells]at hl
  |x::y::r,hl,_=>simp[Value.cells]at hl
theorem d1g{t k' e':TypeId}{m k:Operand}{ok:Bool}{sk:Sk}{z:List AV}(hu:P.underlying t=some (.map k' e'))(UM:Nt P k' e'=some sk)(hz:Q6 P e'=some z)
 (Q0:((P.info? e').bind (·.zero)).map SU=some (XZ P e')) (h:Z7 E n ψ s a w) (hk:match s.mapOf (s.ev m),SY (s.ev k)with
  |some (Xn,g),some (Tm,kk)=>Xn=sk/\Tm=(sk.1,sk.2.1)/\K s (N9 z sk.2.2 ok (g kk))
  | _,_=>False):
 ∃v av,(∀u,Ext w u->(execOp a.eval ⟨dst, .lookup t m k ok,ty,pos,af,g⟩).run P u= .ok (.value v) u)/\K s av/\ZK (Im E ψ s.hp) ψ s.hp w av v:=by
 obtain⟨p1,p2,p3,p4⟩:=d8f UM;have hm:=h.ev m;have Hd:=h.ev k;split at hk
 ·rename_i Xn gm Tm kk I9 RN;obtain⟨rfl,rfl,hk⟩:=hk;obtain⟨Xm,UD⟩:=d5f Hd RN;rw[p3]at Xm
  have found:∀es:Array MapEntry,(a.eval m= .map none/\es= #[]\/∃b clock,a.eval m= .map (some b)/\w.heap[b]? =some (.map es clock))->Xx (Im E ψ s.hp) w Xn gm es->
   ∃v,(∀u,Ext w u->(execOp a.eval ⟨dst, .lookup t m k ok,ty,pos,af,g⟩).run P u= .ok (.value v) u)/\ZK (Im E ψ s.hp) ψ s.hp w (N9 z Xn.2.2 ok (gm kk)) v:=by
   intro es Fc hr
   have Zt:∀e∈es.toList,Xl e.key=some (XZ P k',Xn.2.1):=fun e he=>by rw[<-p3];exact(hr.1 e he).1
   have fin:∀u,Ext w u->∀r v,(Instr.findKey k' (a.eval k) es.toList).run P u= .ok r u->(match r with|some (_,v')=>v'=v/\True|none=>(zeroValue e').run P u= .ok v u)->
    (execOp a.eval ⟨dst, .lookup t m k ok,ty,pos,af,g⟩).run P u= .ok (.value (if ok then .tuple #[v, .bool r.isSome]else v)) u:=by
    intro u hx r v h1 h2;simp only[execOp,Sem.run_bind]
    have:(Instr.lookup t (a.eval m) (a.eval k) ok).run P u= .ok (if ok then .tuple #[v, .bool r.isSome]else v) u:=by
     unfold Instr.lookup;rw[Sem.run_bind,Vm.run_underlying u hu,Result.andThen_ok]
     rcases Fc with⟨e1,rfl⟩|⟨b,clock,e1,e2⟩
     ·rw[e1];simp only[Sem.run_bind,Sem.run_pure,Ha p1 p2 Xm,Result.andThen_ok,h1]
      cases r with
      |none=>simp only[Sem.run_bind,h2,Result.andThen_ok,Sem.run_pure];cases ok<;>rfl
      |some p=>obtain⟨i,v'⟩:=p;obtain⟨rfl,_⟩:=h2;simp only[Sem.run_pure,Result.andThen_ok];cases ok<;>rfl
     rw[e1];simp only[Sem.run_bind,Sem.run_pure,Ja (hx.heap e2),Ha p1 p2 Xm es.isEmpty,Result.andThen_ok,h1]
     cases r with
     |none=>simp only[Sem.run_bind,h2,Result.andThen_ok,Sem.run_pure];cases ok<;>rfl
     |some p=>obtain⟨i,v'⟩:=p;obtain⟨rfl,_⟩:=h2;simp only[Sem.run_pure,Result.andThen_ok];cases ok<;>rfl
    rw[this];rfl
   by_cases hex:∃e∈es.toList,e.key=a.eval k
   ·obtain⟨e,he,h3⟩:=hex;obtain⟨c,hc⟩:=hr.2.1 e he;rw[h3,UD]at hc;obtain⟨e2,GF,g1,g2,g3⟩:=hr.2.2.2 kk c hc;have:e2=e:=GD hr.2.2.1 e2 GF e he (by rw[g1,h3,UD]);subst this;refine⟨if ok then .tuple #[e2.val, .bool true]else e2.val,fun u hx=>?_,?_⟩
    ·rcases rK (w:=u) p1 p2 Xm es.toList Zt with⟨h1,h2⟩|⟨j,e,h1,h2,h4⟩
     ·exact absurd h3 (h2 e2 he)
     ·have:e=e2:=GD hr.2.2.1 e (a8y h2) e2 he (by rw[h3,h4]);subst this;exact fin u hx (some (j,e.val)) e.val h1 ⟨rfl,trivial⟩
    rw[hc]
    have hp:ZK (Im E ψ s.hp) ψ s.hp w (Tq Xn.2.2 (c.map .iv)) e2.val:=
     d0g (hr.1 e2 GF).2 (by simpa using g2) fun i x hx=>by
      rw[a0C]at hx
      cases hi:c[i]? with
      |none=>rw[hi]at hx;cases hx
      |some y=>rw[hi]at hx;cases hx;exact .iv _ _ (g3 i y hi)
    cases ok
    ·exact hp
    ·refine .Zp _ _ rfl fun i c hc=>?_
     match i,hc with
     | 0,hc=>cases hc;exact hp
     | 1,hc=>cases hc;exact UP rfl
   ·have Y6:gm kk=none:=by
     cases hc:gm kk with
     |none=>rfl
     |some c=>
      obtain⟨e,he,g1,_⟩:=hr.2.2.2 kk c hc;exact absurd ⟨e,he,e7n (Zt e he) Xm (by rw[g1,UD])⟩ hex
    obtain⟨i,zv,z1,z2,rfl⟩:=Fl hz;rw[z1]at Q0;simp only[a5J,z2,a4G,a5y]at Q0;refine⟨if ok then .tuple #[zv, .bool false]else zv,fun u hx=>?_,?_⟩
    ·rcases rK (w:=u) p1 p2 Xm es.toList Zt with⟨h1,h2⟩|⟨j,e,h1,h2,h4⟩
     ·exact fin u hx none zv h1 (IB z1 z2 u)
     ·exact absurd ⟨e,a8y h2,h4⟩ hex
    rw[Y6]
    have hp:ZK (Im E ψ s.hp) ψ s.hp w (Tq Xn.2.2 (O9 zv.cells.toList (sj P 20 e'))) zv:=
     d0g (by rw[p4];exact Q0) (by rw[IC];simp) fun i x hx=>by
      obtain⟨sz,e⟩:=qu _ _ _ _ hx;rw[e,SK];exact Ew _ _
    cases ok
    ·exact hp
    ·refine .Zp _ _ rfl fun i c hc=>?_
     match i,hc with
     | 0,hc=>cases hc;exact hp
     | 1,hc=>cases hc;exact UP rfl
  rcases d7f h hm I9 with⟨hv,hn⟩|⟨b,es,clock,hv,hh,hr⟩
  ·obtain⟨v,h1,h2⟩:=found #[] (.inl ⟨hv,rfl⟩) ⟨by simp,by simp,by simp,fun k c hc=>by rw[hn]at hc;cases hc⟩;exact⟨v,_,h1,hk,h2⟩
  ·obtain⟨v,h1,h2⟩:=found es (.inr ⟨b,clock,hv,hh⟩) hr;exact⟨v,_,h1,hk,h2⟩
 ·exact hk.elim
end
theorem b2s{v:Value}{k:Kd}(h:Za v=some k)(n:Nat):Instr.sameBits n v v=true:=by
 cases v<;>simp[Za]at h<;>cases n<;>simp[Instr.sameBits,e4n]
theorem b3s{v:Value}{ag:Bool}{ks:List Kd}(h:Xl v=some (ag,ks)):Instr.sameBits 10000 v v=true:=by
 rcases Hh h with⟨cs,rfl,h1,h2,h3⟩|⟨k,h1,h2,h3,h4⟩
 ·rw[show(10000:Nat)=9999+1 from rfl];simp only[Instr.sameBits,beq_self_eq_true,Bool.true_and,a0E]
  have aux:∀(l:List Value) (ks:List Kd),l.mapM Za=some ks->∀p∈l.zip l,Instr.sameBits 9999 p.1 p.2=true:=by
   intro l
   induction l with
   |nil=>intro ks _ p hp;simp at hp
   |cons x r ih=>
    intro ks hm p hp;rw[a3N]at hm
    cases hx:Za x with
    |none=>simp[hx]at hm
    |some kx=>
     cases hq:r.mapM Za with
     |none=>simp[hx,hq]at hm
     |some q=>
      rw[List.zip_cons_cons]at hp
      rcases a2E.1 hp with rfl|hp
      ·exact b2s hx _
      ·exact ih q hq p hp
  exact fun p hp=>aux _ _ h2 p hp
 ·exact b2s h3 _
theorem pK(g:List Value->Option (List IV))(k:List Value)(c:Option (List IV)):ZG g k c k=c:=by simp[ZG]
theorem rM(g:List Value->Option (List IV)){k q:List Value}(c:Option (List IV))(h:q≠k):ZG g k c q=g q:=by simp[ZG,h]
theorem WG.push{es:Array MapEntry}{clock:Nat}(h:WG es clock)(e:MapEntry)(he:e.born=clock):WG (es.push e) (clock+1):=by
 obtain⟨h1,h2⟩:=h;constructor
 ·intro x hx;rw[a5U,a1E,a2z]at hx
  rcases hx with hx|rfl
  ·exact Nat.lt_succ_of_lt (h1 x hx)
  ·omega
 ·rw[a5U,a6M,b5m];refine⟨h2,by simp,?_⟩;intro x hx y hy VX;rw[c2F,a2z]at hy;obtain⟨z,hz,hzx⟩:=a3E.1 hx;have:=h1 z hz;omega
theorem b6s(es:Array MapEntry)(i:Nat)(f:MapEntry->MapEntry)(hf:∀e,(f e).born=e.born):(es.modify i f).toList.map (·.born)=es.toList.map (·.born):=by
 apply b9j;intro j;rw[a0C,a0C,a9C,a1Q,a9C];split
 ·cases es[j]? <;>simp[hf]
 ·rfl
theorem WG.of_map{es VK:Array MapEntry}{clock:Nat}(h:WG es clock)(he:VK.toList.map (·.born)=es.toList.map (·.born)):WG VK clock:=by
 obtain⟨h1,h2⟩:=h;refine⟨fun x hx=>?_,by rw[he];exact h2⟩;have:x.born∈VK.toList.map (·.born):=a3E.2 ⟨x,hx,rfl⟩;rw[he]at this;obtain⟨y,hy,e⟩:=a3E.1 this;rw[<-e];exact h1 y hy
theorem WG.modify{es:Array MapEntry}{clock:Nat}(h:WG es clock)(i:Nat)(f:MapEntry->MapEntry)(hf:∀e,(f e).born=e.born):WG (es.modify i f) clock:=
 h.of_map (b6s es i f hf)
theorem WG.erase{es:Array MapEntry}{clock:Nat}(h:WG es clock)(i:Nat):WG (es.eraseIdxIfInBounds i) clock:=by
 by_cases hi:i<es.size
 ·have Rl:(es.eraseIdxIfInBounds i).toList=es.toList.eraseIdx i:=by
   simp[c8w,hi,c2V]
  refine⟨fun x hx=>?_,?_⟩
  ·rw[Rl]at hx;exact h.1 x (c3T hx)
  ·rw[Rl];exact h.2.sublist (c4T _ (c7W _ _))
 ·have:es.eraseIdxIfInBounds i=es:=by simp[c8w,hi]
  rw[this];exact h
section
variable{A:Nat->Prop}{w:World}
theorem Xx.modify{A':Nat->Prop}{w':World}{sk:Sk}{g:List Value->Option (List IV)}{es:Array MapEntry}(h:Xx A w sk g es)(tr:∀x v,YB A w x v->YB A' w' x v){j:Nat}{e:MapEntry}(he:es[j]? =some e){val:Value}{c:List IV}
 (hv:SU val=sk.2.2) (hl:val.cells.size=c.length) (hc:∀i x,c[i]? =some x->YB A' w' x (val.cells.getD i undef)):
 Xx A' w' sk (ZG g (X9 e.key) (some c)) (es.modify j fun e=>{e with val:=val}):=by
 obtain⟨h1,h2,h3,h4⟩:=h
 have RP:∀i,(es.modify j fun e=>{e with val:=val})[i]? =if j=i then(es[i]?).map (fun e=>{e with val:=val})else es[i]? :=by
  intro i;rw[a1Q]
 have UW:∀e'∈(es.modify j fun e=>{e with val:=val}).toList,(e'={e with val:=val})\/(e'∈es.toList/\∃i,i≠j/\es[i]? =some e'):=by
  intro e' Xr;obtain⟨i,hi⟩:=a9B Xr;rw[a9C,RP]at hi;split at hi
  ·rename_i WB;subst WB;rw[he]at hi;simp only[a4G,a5y]at hi;exact .inl hi.symm
  ·rename_i WB;exact .inr ⟨by rw[<-a9C]at hi;exact a8y hi,i,fun e=>WB e.symm,hi⟩
 have hee:e∈es.toList:=by rw[<-a9C]at he;exact a8y he
 have Hg:({e with val:=val}:MapEntry)∈(es.modify j fun e=>{e with val:=val}).toList:=by
  refine a8y (i:=j) ?_;rw[a9C,RP,if_pos rfl,he];rfl
 have Hf:(es.modify j fun e=>{e with val:=val}).toList.map (fun e=>X9 e.key)=es.toList.map (fun e=>X9 e.key):=by
  apply b9j;intro i;rw[a0C,a0C,a9C,RP,a9C];split
  ·cases es[i]? <;>rfl
  ·rfl
 refine⟨fun e' Xr=>?_,fun e' Xr=>?_,by rw[Hf];exact h3,fun k q hq=>?_⟩
 ·rcases UW e' Xr with rfl|⟨hm,_⟩
  ·exact⟨(h1 e hee).1,hv⟩
  ·exact h1 e' hm
 ·by_cases hk:X9 e'.key=X9 e.key
  ·exact⟨c,by rw[hk,pK]⟩
  ·rw[rM _ _ hk]
   rcases UW e' Xr with rfl|⟨hm,_⟩
   ·exact absurd rfl hk
   ·exact h2 e' hm
 ·by_cases hk:k=X9 e.key
  ·subst hk;rw[pK]at hq;cases hq;exact⟨_,Hg,rfl,hl,hc⟩
  ·rw[rM _ _ hk]at hq;obtain⟨e',Xr,g1,g2,g3⟩:=h4 k q hq;refine⟨e',?_,g1,g2,fun i x hx=>tr _ _ (g3 i x hx)⟩;obtain⟨i,hi⟩:=a9B Xr;refine a8y (i:=i) ?_;rw[a9C,RP];rw[a9C]at hi;rw[if_neg ?_]
   ·exact hi
   ·rintro rfl;rw[he]at hi;cases hi;exact hk g1.symm
theorem Xx.push{A':Nat->Prop}{w':World}{sk:Sk}{g:List Value->Option (List IV)}{es:Array MapEntry}(h:Xx A w sk g es)(tr:∀x v,YB A w x v->YB A' w' x v){e:MapEntry}(Y6:∀e'∈es.toList,X9 e'.key≠X9 e.key){c:List IV}
 (hf:Fits sk e) (hl:e.val.cells.size=c.length) (hc:∀i x,c[i]? =some x->YB A' w' x (e.val.cells.getD i undef)):
 Xx A' w' sk (ZG g (X9 e.key) (some c)) (es.push e):=by
 obtain⟨h1,h2,h3,h4⟩:=h
 have UW:∀e'∈(es.push e).toList,e'=e\/e'∈es.toList:=by
  intro e' Xr;rw[a5U,a1E,a2z]at Xr;exact Xr.symm
 refine⟨fun e' Xr=>?_,fun e' Xr=>?_,?_,fun k q hq=>?_⟩
 ·rcases UW e' Xr with rfl|hm
  ·exact hf
  ·exact h1 e' hm
 ·by_cases hk:X9 e'.key=X9 e.key
  ·exact⟨c,by rw[hk,pK]⟩
  ·rw[rM _ _ hk]
   rcases UW e' Xr with rfl|hm
   ·exact absurd rfl hk
   ·exact h2 e' hm
 ·rw[a5U,a6M,b5m];refine⟨h3,by simp,?_⟩;intro x hx y hy VX;rw[c2F,a2z]at hy;subst hy;subst VX;obtain⟨e',Xr,e2⟩:=a3E.1 hx;exact Y6 e' Xr e2
 ·by_cases hk:k=X9 e.key
  ·subst hk;rw[pK]at hq;cases hq;exact⟨e,by simp,rfl,hl,hc⟩
  ·rw[rM _ _ hk]at hq;obtain⟨e',Xr,g1,g2,g3⟩:=h4 k q hq;exact⟨e',by rw[a5U];exact a6O _ Xr,g1,g2,fun i x hx=>tr _ _ (g3 i x hx)⟩
theorem Xx.erase{A':Nat->Prop}{w':World}{sk:Sk}{g:List Value->Option (List IV)}{es:Array MapEntry}(h:Xx A w sk g es)(tr:∀x v,YB A w x v->YB A' w' x v){j:Nat}{e:MapEntry}(he:es[j]? =some e):
 Xx A' w' sk (ZG g (X9 e.key) none) (es.eraseIdxIfInBounds j):=by
 obtain⟨h1,h2,h3,h4⟩:=h;have hj:j<es.size:=(c0r.1 he).1
 have Rl:(es.eraseIdxIfInBounds j).toList=es.toList.eraseIdx j:=by
  simp[c8w,hj,c2V]
 have Y7:∀e'∈es.toList.eraseIdx j,e'∈es.toList:=fun e' h=>c3T h
 have Qd:es.toList[j]? =some e:=by rw[a9C];exact he
 have hnk:∀e'∈es.toList.eraseIdx j,X9 e'.key≠X9 e.key:=by
  intro e' Xr hk;obtain⟨i,Xo,hi⟩:=c6L.1 Xr;have hh:=c8x.1 h3
  have a1:(es.toList.map fun e=>X9 e.key)[i]? =some (X9 e.key):=by rw[a0C,hi];simp[hk]
  have a2:(es.toList.map fun e=>X9 e.key)[j]? =some (X9 e.key):=by rw[a0C,Qd];rfl
  obtain⟨Zb,e1⟩:=a7y.1 a1;obtain⟨RO,e2⟩:=a7y.1 a2
  rcases Nat.lt_or_gt_of_ne Xo with h|h
  ·exact hh i j Zb RO h (e1.trans e2.symm)
  ·exact hh j i RO Zb h (e2.trans e1.symm)
 refine⟨fun e' Xr=>h1 e' (Y7 e' (by rw[<-Rl];exact Xr)),fun e' Xr=>?_,?_,fun k q hq=>?_⟩
 ·rw[Rl]at Xr;rw[rM _ _ (hnk e' Xr)];exact h2 e' (Y7 e' Xr)
 ·rw[Rl];exact h3.sublist (c4T _ (c7W _ _))
 ·by_cases hk:k=X9 e.key
  ·subst hk;rw[pK]at hq;cases hq
  ·rw[rM _ _ hk]at hq;obtain⟨e',Xr,g1,g2,g3⟩:=h4 k q hq;refine⟨e',?_,g1,g2,fun i x hx=>tr _ _ (g3 i x hx)⟩;rw[Rl];obtain⟨i,hi⟩:=a9B Xr;refine c6L.2 ⟨i,?_,hi⟩;rintro rfl;rw[Qd]at hi;cases hi;exact hk g1.symm
theorem Xx.conv{A':Nat->Prop}{w':World}{sk:Sk}{g g':List Value->Option (List IV)}{es:Array MapEntry}(h:Xx A w sk g es)(tr:∀x v,YB A w x v->YB A' w' x v)(hg:∀k,g' k=g k):Xx A' w' sk g' es:=by
 obtain⟨h1,h2,h3,h4⟩:=h;refine⟨h1,fun e he=>by rw[hg];exact h2 e he,h3,fun k q hq=>?_⟩;rw[hg]at hq;obtain⟨e',Xr,g1,g2,g3⟩:=h4 k q hq;exact⟨e',Xr,g1,g2,fun i x hx=>tr _ _ (g3 i x hx)⟩
end
section
variable{P:Program}{E:En}{n:Nat}{ψ:Pl}{s:St}{a:Act}{w:World}
variable{dst:Option Nat}{ty:TypeId}{pos:String}{af:Array Edge}{g:Option (Nat×Bool)}{r:Wu}{d:Nat}{K:St->AV->Prop}
theorem b2t(h:Z7 E n ψ s a w){id:Nat}{sk:Sk}{gm Jc:List Value->Option (List IV)}(ho:look s.hp id=some (.map sk gm)){b clock YX:Nat}{es VK:Array MapEntry}
 (hb:ψ id=some (b,(0,0))) (hh:w.heap[b]? =some (.map es clock)) (Vk:WG VK YX)
 (hm:∀{A':Nat->Prop} {w':World},(∀x v,YB (Im E ψ s.hp) w x v->YB A' w' x v)->Xx A' w' sk Jc VK):
 Z7 E n ψ (s.add id (.map sk Jc)) a {w with heap:=w.heap.setIfInBounds b (.map VK YX)}:=by
 have ZV:b<w.heap.size:=(c0r.1 hh).1;refine h.MH (o':= .map sk Jc) (k:=(0,0)) ho (Ob.le_none rfl) rfl (by simp[Ob.multi]) hb (fun i hi=>?_) (by simp) ⟨rfl,rfl,rfl,a8F _⟩ (fun _ tr=>⟨b,VK,YX,hb,?_,Vk,hm tr⟩)
 ·show(w.heap.setIfInBounds b _)[i]? =_
  rw[a9R (Ne.symm hi)]
 ·show(w.heap.setIfInBounds b _)[b]? =_
  simp[ZV]
theorem b3t{A:Nat->Prop}{H:Hp}{x:AV}{v:Value}(h:ZK A ψ H w x v){cs:List AV}(hc:x.cellsOf=some cs):SU v=Hn x:=by
 cases h with
 |agg=>rfl
 |iv x v h=>cases h with
  |v x h1=>cases v<;>simp_all[Value.oneCell',SU,Hn]
  | _=>rfl
 |Zp=>cases hc
 |un=>cases hc
 |junk=>cases hc
 | _=>rfl
theorem b4t(h:Z7 E n ψ s a w){x:AV}{v:Value}(hx:ZK (Im E ψ s.hp) ψ s.hp w x v):ZK (Im E ψ s.hp) ψ s.hp w (s.rL x) v:=by
 unfold St.rL;split
 ·rename_i u;split
  ·rename_i id hf;obtain⟨g,Z,vs,cs,i,h1,h2,h3⟩:=c9T hf;have hv:v=u:=VN hx;subst hv;have:=(h.YH g _ h1).2.2.2 i _ h3;rw[b4P,h2]at this;exact this
  ·exact hx
 ·exact hx
theorem b5t{t k' e':TypeId}{m k x:Operand}{sk:Sk}(hu:P.underlying t=some (.map k' e'))(UM:Nt P k' e'=some sk)(h:Z7 E n ψ s a w)(hk:match (s.Y9 [s.ev x]).rL ((s.Y9 [s.ev x]).ev m),SY ((s.Y9 [s.ev x]).ev k),((s.Y9 [s.ev x]).ev x).cellsOf.bind fun cs=>cs.mapM AV.iv? with
 | .mpr id,some (Tm,kk),some c=>match look (s.Y9 [s.ev x]).hp id with
  |some (.map Xn g)=>Xn=sk/\Tm=(sk.1,sk.2.1)/\Hn ((s.Y9 [s.ev x]).ev x)=sk.2.2/\K ((s.Y9 [s.ev x]).add id (.map sk (ZG g kk (some c)))) .un
  | _=>False
 | _,_,_=>False)
 {o:Op} (NR:o= .mapUpdate t m k x\/o= .insert t m k x):X6 P E n ⟨dst,o,ty,pos,af,g⟩ a w K:=by
 obtain⟨p1,p2,p3,p4⟩:=d8f UM;have hf:=h.Y9 [s.ev x];generalize s.Y9 [s.ev x]=s1 at hk hf;have hm:=b4t hf (hf.ev m);have Hd:=hf.ev k;have hx:=hf.ev x;split at hk
 ·rename_i id Tm kk c Hb RN hcs;split at hk
  ·rename_i Xn gm ho;obtain⟨rfl,rfl,hag,hk⟩:=hk;obtain⟨Xm,UD⟩:=d5f Hd RN;rw[p3]at Xm;rw[Hb]at hm;obtain⟨b,es,clock,hb,hh,Vk,hr⟩:=hf.YH id _ ho
   have Jb:a.eval m= .map (some b):=by
    generalize a.eval m=vm at hm
    cases hm with
    |mpr _ b' q o' XQ XB=>rw[hb]at XB;cases XB;rfl
   cases Ri:(s1.ev x).cellsOf with
   |none=>rw[Ri]at hcs;cases hcs
   |some cs=>
    rw[Ri]at hcs;simp only[a5J]at hcs;obtain⟨g1,g2⟩:=qH hx Ri;obtain⟨v1,v2⟩:=a9D hf (vs:=(a.eval x).cells.toList) (by simpa using g1) (fun i y hy=>by rw[SK];exact g2 i y hy) hcs
    have hl:(a.eval x).cells.size=c.length:=by rw[v1];exact g1
    have hv:SU (a.eval x)=Xn.2.2:=by rw[b3t hx Ri];exact hag
    have v2':∀i y,c[i]? =some y->YB (Im E ψ s1.hp) w y ((a.eval x).cells.getD i undef):=fun i y hy=>by rw[<-SK];exact v2 i y hy
    have Zt:∀e∈es.toList,Xl e.key=some (XZ P k',Xn.2.1):=fun e he=>by rw[<-p3];exact(hr.1 e he).1
    have run:∀w',(Instr.mapUpdate t (.map (some b)) (a.eval k) (a.eval x)).run P w= .ok () w'->(execOp a.eval ⟨dst,o,ty,pos,af,g⟩).run P w= .ok .skip w':=by
     intro w' XC
     rcases NR with rfl|rfl<;>simp only[execOp,Jb,Sem.run_bind,XC,Result.andThen_ok,Sem.run_pure]
    rcases rK (w:=w) p1 p2 Xm es.toList Zt with⟨h1,h2⟩|⟨j,e,h1,h2,h3⟩
    ·have Y6:∀e∈es.toList,X9 e.key≠X9 (a.eval k):=fun e he Uw=>h2 e he (e7n (Zt e he) Xm Uw)
     have XM:=b2t (YX:=clock+1) hf ho hb hh (Vk.push _ rfl) (Jc:=ZG gm kk (some c)) (VK:=es.push {key:=a.eval k,val:=a.eval x,born:=clock}) (fun tr=>by
      rw[<-UD]
      exact hr.push tr (e:={key:=a.eval k,val:=a.eval x,born:=clock}) Y6 ⟨by rw[p3];exact Xm,hv⟩ hl (fun i y hy=>tr _ _ (v2' i y hy)))
     refine sw (run _ ?_) hk XM;unfold Instr.mapUpdate;simp only[Sem.run_bind,Vm.run_underlying w hu,Result.andThen_ok,Ja hh,Ha p1 p2 Xm,h1,D7 _ hh]
    ·have he:e∈es.toList:=a8y h2
     have Qd:es[j]? =some e:=by rw[<-a9C];exact h2
     have XM:=b2t (YX:=clock) hf ho hb hh (Vk.modify _ _ fun _=>rfl) (Jc:=ZG gm kk (some c)) (VK:=es.modify j fun e=>{e with val:=a.eval x}) (fun tr=>by
      rw[<-UD, <-h3]
      exact hr.modify tr Qd hv hl (fun i y hy=>tr _ _ (v2' i y hy)))
     have Qe:(es.modify j fun e=>{e with key:=a.eval k,val:=a.eval x})=es.modify j fun e=>{e with val:=a.eval x}:=by
      apply b3n;apply b9j;intro i;rw[a9C,a9C,a1Q,a1Q];split
      ·rename_i WB;subst WB;rw[Qd];simp[h3]
      ·rfl
     refine sw (run _ ?_) hk XM;unfold Instr.mapUpdate;simp only[Sem.run_bind,Vm.run_underlying w hu,Result.andThen_ok,Ja hh,Ha p1 p2 Xm,h1]
     have YL:(Instr.keyThatStays (((es[j]?).map (·.key)).getD (a.eval k)) (a.eval k)).run P w= .ok (a.eval k) w:=by
      unfold Instr.keyThatStays;rw[Qd];simp only[a4G,a2L,h3,b3s Xm,if_true,Sem.run_pure]
     rw[YL];simp only[Result.andThen_ok,Qe,D7 _ hh]
  ·exact hk.elim
 ·exact hk.elim
theorem b6t{t k' e':TypeId}{m k:Operand}{ts:Array TypeId}{sk:Sk}(h0:ts[0]? =some t)(hu:P.underlying t=some (.map k' e'))(UM:Nt P k' e'=some sk)(h:Z7 E n ψ s a w)
 (hk:ZP P d s K (.Hq sk m k)):X6 P E n ⟨dst, .call ⟨.builtin .delete, #[m,k],ts⟩,ty,pos,af,g⟩ a w K:=by
 simp only[ZP]at hk;obtain⟨p1,p2,p3,p4⟩:=d8f UM;have hm:=h.ev m;have Hd:=h.ev k;split at hk
 ·rename_i id Tm kk Hb RN;split at hk
  ·rename_i Xn gm ho;obtain⟨rfl,rfl,hk⟩:=hk;obtain⟨Xm,UD⟩:=d5f Hd RN;rw[p3]at Xm;rw[Hb]at hm;obtain⟨b,es,clock,hb,hh,Vk,hr⟩:=h.YH id _ ho
   have Jb:a.eval m= .map (some b):=by
    generalize a.eval m=vm at hm
    cases hm with
    |mpr _ b' q o' XQ XB=>rw[hb]at XB;cases XB;rfl
   have Zt:∀e∈es.toList,Xl e.key=some (XZ P k',Xn.2.1):=fun e he=>by rw[<-p3];exact(hr.1 e he).1
   have run:∀v w',(Builtin.delete_ ts ty #[.map (some b),a.eval k]).run P w= .ok v w'->(execOp a.eval ⟨dst, .call ⟨.builtin .delete, #[m,k],ts⟩,ty,pos,af,g⟩).run P w= .ok (.value v) w':=by
    intro v w' XC;simp only[execOp,resolve,Sem.run_bind,Sem.run_pure,Result.andThen_ok,invoke,builtin];simp[Jb,XC]
   have f5i:∀{A:Nat->Prop} {ψ:Pl} {H:Hp} {w:World},ZK A ψ H w (.Zp []) (.tuple #[]):= .Zp _ _ rfl (by simp)
   rcases rK (w:=w) p1 p2 Xm es.toList Zt with⟨h1,h2⟩|⟨j,e,h1,h2,h3⟩
   ·have f6i:gm kk=none:=by
     cases hc:gm kk with
     |none=>rfl
     |some c=>
      obtain⟨e,he,g1,_⟩:=hr.2.2.2 kk c hc;exact absurd (e7n (Zt e he) Xm (by rw[g1,UD])) (h2 e he)
    have XM:=b2t (YX:=clock) h ho hb hh Vk (Jc:=ZG gm kk none) (VK:=es) (fun tr=>hr.conv tr fun q=>by
     by_cases hq:q=kk
     ·subst hq;rw[pK,f6i]
     ·rw[rM _ _ hq])
    refine SH (run (.tuple #[]) _ ?_) hk XM f5i;unfold Builtin.delete_;simp[h0,Vm.run_underlying w hu,Ja hh,Ha p1 p2 Xm,h1,D7 _ hh]
   ·have Qd:es[j]? =some e:=by rw[<-a9C];exact h2
    have XM:=b2t (YX:=clock) h ho hb hh (Vk.erase j) (Jc:=ZG gm kk none) (VK:=es.eraseIdxIfInBounds j) (fun tr=>by
     rw[<-UD, <-h3]
     exact hr.erase tr Qd)
    refine SH (run (.tuple #[]) _ ?_) hk XM f5i;unfold Builtin.delete_;simp[h0,Vm.run_underlying w hu,Ja hh,Ha p1 p2 Xm,h1,D7 _ hh]
  ·exact hk.elim
 ·exact hk.elim
theorem b7t{t k' e':TypeId}{x:Operand}{ts:Array TypeId}(h0:ts[0]? =some t)(hu:P.underlying t=some (.map k' e'))(h:Z7 E n ψ s a w)(hk:ZP P d s K (.Ho x)):
 X6 P E n ⟨dst, .call ⟨.builtin .len, #[x],ts⟩,ty,pos,af,g⟩ a w K:=by
 simp only[ZP]at hk;have hx:=h.ev x;split at hk
 ·rename_i sk gm I9
  rcases d7f h hx I9 with⟨hv,hn⟩|⟨b,es,clock,hv,hh,hr⟩
  ·refine e1g h (v:= .int .i64 0) (c0v ?_) (hk 0 (by simp[hn])) (UP rfl);rw[hv];simp[Builtin.len_,h0,Vm.run_underlying w hu,goInt]
  ·refine e1g h (v:= .int .i64 es.size) (c0v ?_) (hk es.size ?_) (UP rfl)
   ·rw[hv];simp[Builtin.len_,h0,Vm.run_underlying w hu,goInt,Ja hh]
   ·constructor
    ·intro h0 k
     cases hc:gm k with
     |none=>rfl
     |some c=>
      obtain⟨e,he,_⟩:=hr.2.2.2 k c hc;have:es= #[]:=b8T h0;rw[this]at he;cases he
    ·intro hn
     rcases b5j es.size with h0|h0
     ·exact h0
     ·have he:es[0]∈es.toList:=by simp
      obtain⟨c,hc⟩:=hr.2.1 _ he;rw[hn]at hc;cases hc
 ·exact hk.elim
end
theorem e2q(z:Array Value)(m i j:Nat)(hi:i<m)(hj:j<z.size):(madeCells z (m*z.size)).getD (i*z.size+j) undef=z.getD j undef:=by
 have ZV:i*z.size+j<m*z.size:=by
  have h1:(i+1)*z.size<=m*z.size:=a5E _ (by omega);rw[a8M]at h1;omega
 have Qe:(i*z.size+j)%z.size=j:=by rw[c4K,c9S,d1w hj]
 unfold madeCells;simp[a4E,ZV,Qe,hj]
section
variable{P:Program}{E:En}{n:Nat}{ψ:Pl}{s:St}{a:Act}{w:World}
variable{dst:Option Nat}{ty:TypeId}{pos:String}{af:Array Edge}{g:Option (Nat×Bool)}{r:Wu}{d:Nat}{K:St->AV->Prop}
theorem ivz:∀{z:List AV} {zi:List IV} {vs:List Value} {A:Nat->Prop} {H:Hp} {w:World},z.mapM AV.iv?=some zi->vs.length=z.length->(∀i x,z[i]? =some x->ZK A ψ H w x (vs.getD i undef))->
 zi.length=z.length/\∀i x,zi[i]? =some x->YB A w x (vs.getD i undef):=by
 intro z
 induction z with
 |nil=>intro zi vs A H w h hl _;simp at h;subst h;exact⟨rfl,by simp⟩
 |cons x z ih=>
  intro zi vs A H w h hl hc
  cases vs with
  |nil=>simp at hl
  |cons v vs=>
   rw[a3N]at h
   cases hx:x.iv? with
   |none=>simp[hx]at h
   |some y=>
    cases hq:z.mapM AV.iv? with
    |none=>simp[hx,hq]at h
    |some q=>
     simp[hx,hq]at h;subst h;obtain⟨g1,g2⟩:=ih (vs:=vs) hq (by simpa using hl) (fun i c hi=>by simpa using hc (i+1) c (by simpa using hi));refine⟨by simp[g1],fun i c hi=>?_⟩
     cases i with
     |succ i=>simp only[a2I]at hi;simpa using g2 i c hi
     |zero=>
      simp at hi;subst hi;have h0:=hc 0 x rfl;simp only[c0F]at h0⊢;unfold AV.iv? at hx;split at hx
      ·cases hx;cases h0 with|iv _ _ h=>exact h
      ·cases hx;rw[Eu h0];exact .Wj _
      ·cases hx
theorem e3q{t e:TypeId}{l c:Operand}{i:TypeInfo}{z:List AV}(hu:P.underlying t=some (.slice e))(hi:P.info? e=some i)(hz:Q6 P e=some z)(Hz:z.length=i.size)(hp:0<i.size)
 (hd:d<1000) (h:Z7 E n ψ s a w) (hk:ZP P d s K (.mks i.size i.bytes z l c)) (Ft:E6 z=none):X6 P E n ⟨dst, .makeSlice t l c,ty,pos,af,g⟩ a w K:=by
 simp only[ZP,Ft]at hk;have hl:=h.ev l;have hc:=h.ev c;split at hk
 ·rename_i kl m kc q zi h1 h2 hzi;obtain⟨h0,rfl,h62,hb,hk⟩:=hk;rw[h1]at hl;rw[h2]at hc;have el:=VN hl;have ec:=VN hc;obtain⟨i',zv,z1,z2,rfl⟩:=Fl hz;rw[hi]at z1;cases z1
  have Yd:zv.cells.size=i.size:=by rw[IC]at Hz;simpa using Hz
  have NL:=h.drop (id:=d) hd
  obtain⟨g1,g2⟩:=ivz (A:=Im E ψ (s.drop d).hp) (ψ:=ψ) (H:=(s.drop d).hp) (w:=w) (vs:=zv.cells.toList) hzi (by rw[IC]) (fun i x hx=>by
   obtain⟨sz,e⟩:=qu _ _ _ _ hx
   rw[e];exact Ew _ _)
  have JP:zi.length=i.size:=by rw[g1,Hz]
  have XC:=run_make (P:=P) w t e i zv hu hi z2 kl kc q q h0 (d7R _) (by omega) (by omega)
  have hms:(madeCells zv.cells (q.toNat*i.size)).size=q.toNat*i.size:=by rw[size_madeCells]
  refine e3h (sz:=i.size) (xs:=a6R q.toNat zi) (c:=madeCells zv.cells (q.toNat*i.size)) (t:=e) (cap:=q.toNat) (w1:=w) hd NL (JY s d) (fun x hx=>?_) (by rw[hms,c6X];exact a8F _) (by simp) (by rw[hms];exact a8F _) (by omega) (fun j k x hx=>?_) (Ext.refl w) ?_ (by simpa using hk)
  ·rw[c9x hx];exact JP
  ·obtain⟨row,Rj,Lp⟩:=JO hx
   have hj:j<q.toNat:=by have:=(a7y.1 Rj).1;simpa using this
   have Zf:row=zi:=c9x (a8y Rj);subst Zf
   have XL:k<i.size:=by rw[<-JP];exact(a7y.1 Lp).1
   rw[<-Yd,e2q _ _ _ _ hj (by omega), <-SK];exact g2 k x Lp
  ·simp only[execOp,el,ec,Sem.run_bind,XC,Result.andThen_ok,Sem.run_pure,c6X]
 ·exact hk.elim
theorem e4q{sz ZB:Nat}{v:Value}(h:Iz ZB v= .nil sz):v= .slice none 0 0:=by
 unfold Iz at h;split at h
 ·rfl
 ·cases h
 ·cases h
 ·cases h
theorem e5q{o:Oper}{sz m:Nat}{c:Array Value}{t:TypeId}(hd:d<1000)(h:Z7 E n ψ s a w)(Y6:look s.hp d=none)
 (hlen:c.size=m) (hcm:m<2^63) (hc:∀i,i<m->c.getD i undef= .slice none 0 0)
 (hr:(execOp a.eval o).run P w= .ok (.value (.slice (some ⟨w.heap.size,0,none⟩) m m)) (w.alloc (.cells c t)))
 (hk:K (s.add d (.ZI sz (a6R m []) none)) (.sl d 1 0 m)):X6 P E n o a w K:=by
 have hx2:Ext w (w.alloc (.cells c t)):=Ext.alloc _ _
 have h2:=h.new (o:= .ZI sz (a6R m []) none) (p:=some (w.heap.size,(0,c.size))) hd Y6 hx2 (fun b k e=>by cases e;exact a8F _)
  ⟨by
   simp,w.heap.size,(0,c.size),c,t,fun _=>none,by simp[XF],qq _ _,by simp,by simp[hlen],fun i x Vw _=>(by
   rw[c7U]at Vw;split at Vw
   ·rename_i EX;cases Vw;exact⟨by simp, .inl ⟨rfl,rfl,by rw[b4s];exact hc i EX⟩⟩
   ·cases Vw),by simp,by simp⟩
 refine SH hr hk h2 (.sl d 1 0 m w.heap.size (0,c.size) m _ (.ZI sz (a6R m []) none) m (by simp[WX]) (by simp[Ob.dim]) (by omega) (by simp[XF]) (fun _=>by simp) (a8F _) (by simp[hlen]) hcm)
theorem e6q{t e:TypeId}{l c:Operand}{i:TypeInfo}{z:List AV}(hu:P.underlying t=some (.slice e))(hi:P.info? e=some i)(hz:Q6 P e=some z)(Hz:z.length=i.size)(hp:0<i.size)
 (hd:d<1000) (h:Z7 E n ψ s a w) (hk:ZP P d s K (.mks i.size i.bytes z l c)):X6 P E n ⟨dst, .makeSlice t l c,ty,pos,af,g⟩ a w K:=by
 cases Ft:E6 z with
 |some ZB=>
  simp only[ZP,Ft]at hk;have hz0:=c9L Ft;have hl:=h.ev l;have hc:=h.ev c;split at hk
  ·rename_i kl m kc q h1 h2;obtain⟨h0,rfl,h62,hb,EA,hk⟩:=hk;rw[h1]at hl;rw[h2]at hc;have el:=VN hl;have ec:=VN hc;obtain⟨i',zv,z1,z2,QP⟩:=Fl hz;rw[hi]at z1;cases z1;rw[hz0]at QP
   have Yd:zv.cells.size=1:=by
    have:=congrArg List.length QP;rw[IC]at this;simpa using this.symm
   have NL:=h.drop (id:=d) hd
   have hzv:zv.cells.toList=[.slice none 0 0]:=by
    have SJ:zv.cells.toList.length=1:=by simpa using Yd
    match hv:zv.cells.toList,SJ with
    | [v],_=>
     rw[hv]at QP
     cases hcs:sj P 20 e with
     |nil=>rw[hcs]at QP;simp only[O9,a4S,and_true]at QP;rw[e4q QP.symm]
     |cons x y=>rw[hcs]at QP;simp only[O9,a4S,and_true]at QP;rw[e4q QP.symm]
   have XC:=run_make (P:=P) w t e i zv hu hi z2 kl kc q q h0 (d7R _) (by omega) (by omega);rw[EA]at XC
   have hms:(madeCells zv.cells (q.toNat*1)).size=q.toNat:=by rw[size_madeCells];omega
   refine e5q (sz:=ZB) (m:=q.toNat) (c:=madeCells zv.cells (q.toNat*1)) (t:=e) hd NL (JY s d) hms (by omega) (fun j hj=>?_) ?_ hk
   ·have:=e2q zv.cells q.toNat j 0 hj (by omega);rw[Yd,d3n,d3n,b1P]at this;rw[d3n,this, <-SK,hzv];rfl
   ·simp only[execOp,el,ec,Sem.run_bind,XC,Result.andThen_ok,Sem.run_pure]
  ·exact hk.elim
 |none=>exact e3q hu hi hz Hz hp hd h hk Ft
end
section
variable{P:Program}{E:En}{n:Nat}{ψ:Pl}{s:St}{a:Act}{w:World}
variable{dst:Option Nat}{ty:TypeId}{pos:String}{af:Array Edge}{g:Option (Nat×Bool)}{r:Wu}{d:Nat}{K:St->AV->Prop}
theorem c2t:∀(z:List AV) (l:List IV),Zm AV.iv? z=some l->z.mapM AV.iv?=some l
 | [],l,h=>by simpa[Zm]using h
 |x::r,l,h=>by
  simp only[Zm]at h;split at h
  ·rename_i y hy
   cases hr:Zm AV.iv? r with
   |none=>rw[hr]at h;cases h
   |some l'=>
    rw[hr]at h;simp only[a4G,a5y]at h;subst h;rw[a3N,hy,c2t r l' hr];rfl
  ·cases h
theorem c3t{A:Nat->Prop}{H:Hp}{c:List IV}{v:Value}{ag:Bool}(hg:SU v=ag)(hl:v.cells.size=c.length)(hc:∀i x,c[i]? =some x->YB A w x (v.cells.getD i undef)):
 ZK A ψ H w (Tq ag (c.map .iv)) v:=
 d0g hg (by simpa using hl) fun i x hx=>by
  rw[a0C]at hx
  cases hi:c[i]? with
  |none=>rw[hi]at hx;cases hx
  |some y=>rw[hi]at hx;cases hx;exact .iv _ _ (hc i y hi)
theorem c4t{t k' e':TypeId}{m k:Operand}{sk:Sk}{z:List AV}(hu:P.underlying t=some (.map k' e'))(UM:Nt P k' e'=some sk)(hz:Q6 P e'=some z)
 (Q0:((P.info? e').bind (·.zero)).map SU=some (XZ P e')) (h:Z7 E n ψ s a w) (hk:ZP P d s K (.JN sk z m k)):
 X6 P E n ⟨dst, .mapEntry t m k,ty,pos,af,g⟩ a w K:=by
 simp only[ZP]at hk;obtain⟨p1,p2,p3,p4⟩:=d8f UM;have hm:=h.ev m;have Hd:=h.ev k;split at hk
 ·rename_i id Tm kk zi Hb RN hzi;split at hk
  ·rename_i Xn gm ho;obtain⟨rfl,rfl,hk⟩:=hk;obtain⟨Xm,UD⟩:=d5f Hd RN;rw[p3]at Xm;rw[Hb]at hm;obtain⟨b,es,clock,hb,hh,Vk,hr⟩:=h.YH id _ ho
   have Jb:a.eval m= .map (some b):=by
    generalize a.eval m=vm at hm
    cases hm with
    |mpr _ b' q o' XQ XB=>rw[hb]at XB;cases XB;rfl
   have Zt:∀e∈es.toList,Xl e.key=some (XZ P k',Xn.2.1):=fun e he=>by rw[<-p3];exact(hr.1 e he).1
   have run:∀v w',(Instr.mapEntry t (.map (some b)) (a.eval k)).run P w= .ok v w'->(execOp a.eval ⟨dst, .mapEntry t m k,ty,pos,af,g⟩).run P w= .ok (.value v) w':=by
    intro v w' XC;simp only[execOp,Jb,Sem.run_bind,XC,Result.andThen_ok,Sem.run_pure]
   have f6k:∀{A:Nat->Prop} {ψ:Pl} {H:Hp} {w:World} {x:AV} {v:Value} {q:Nat},ZK A ψ H w x v->ZK A ψ H w (.Zp [x, .iv (.v (.int .i64 q))]) (.tuple #[v,goInt q]):=by
    intro A ψ H w x v q hx
    refine .Zp _ _ rfl fun i c hc=>?_
    match i,hc with
    | 0,hc=>cases hc;exact hx
    | 1,hc=>cases hc;exact UP rfl
   have ZV:b<w.heap.size:=VJ hh
   have MH:∀(Jc:List Value->Option (List IV)) (VK:Array MapEntry) (YX:Nat) (q:Int),WG VK YX->
    (∀{A':Nat->Prop} {w':World},(∀x v,YB (Im E ψ s.hp) w x v->YB A' w' x v)->Xx A' w' Xn Jc VK)->(∃e∈VK.toList,(e.born:Int)=q/\X9 e.key=kk)->
    Z7 E n ψ (s.add id (.WT Xn Jc q kk)) a {w with heap:=w.heap.setIfInBounds b (.map VK YX)}:=by
    intro Jc VK YX q h1 h2 h3;refine h.MH (o':= .WT Xn Jc q kk) (k:=(0,0)) ho (Ob.le_none rfl) rfl (by simp[Ob.multi]) hb (fun i hi=>?_) (by simp) ⟨rfl,rfl,rfl,a8F _⟩ (fun _ tr=>⟨b,VK,YX,hb,?_,h1,h2 tr,h3⟩)
    ·show(w.heap.setIfInBounds b _)[i]? =_
     rw[a9R (Ne.symm hi)]
    ·show(w.heap.setIfInBounds b _)[b]? =_
     simp[ZV]
   rcases rK (w:=w) p1 p2 Xm es.toList Zt with⟨h1,h2⟩|⟨j,e,h1,h2,h3⟩
   ·have Y6:∀e∈es.toList,X9 e.key≠X9 (a.eval k):=fun e he Uw=>h2 e he (e7n (Zt e he) Xm Uw)
    have hgn:gm kk=none:=by
     cases hc:gm kk with
     |none=>rfl
     |some c=>
      obtain⟨e,he,g1,_⟩:=hr.2.2.2 kk c hc;exact absurd (g1.trans UD.symm) (Y6 e he)
    obtain⟨i,zv,z1,z2,rfl⟩:=Fl hz;rw[z1]at Q0;simp only[a5J,z2,a4G,a5y]at Q0
    have hzc:∀{A:Nat->Prop} {w:World},zi.length=zv.cells.toList.length/\∀i x,zi[i]? =some x->YB A w x (zv.cells.toList.getD i undef):=by
     intro A w
     have:=ivz (A:=A) (H:=[]) (w:=w) (vs:=zv.cells.toList) (c2t _ _ hzi) (by rw[IC]) (fun i x hx=>by
      obtain⟨sz,e⟩:=qu _ _ _ _ hx;rw[e]
      exact Ew (ψ:=ψ) _ _)
     rw[IC]at this;exact this
    have hl:zv.cells.size=zi.length:=by rw[(hzc (A:=fun _=>True) (w:=w)).1];simp
    have f7k:∀{A:Nat->Prop} {w:World},∀i x,zi[i]? =some x->YB A w x (zv.cells.getD i undef):=fun {A w} i x hx=>by rw[<-SK];exact(hzc (A:=A) (w:=w)).2 i x hx
    rw[hgn,Option.getD_none]at hk
    have XM:=MH (ZG gm kk (some zi)) (es.push {key:=a.eval k,val:=zv,born:=clock}) (clock+1) clock (Vk.push _ rfl)
     (fun tr=>by
      rw[<-UD]
      exact hr.push tr (e:={key:=a.eval k,val:=zv,born:=clock}) Y6 ⟨by rw[p3];exact Xm,by rw[p4];exact Q0⟩ hl (fun i y hy=>f7k i y hy))
     ⟨{key:=a.eval k,val:=zv,born:=clock},by simp,rfl,UD⟩
    refine SH (run (.tuple #[zv,goInt clock]) _ ?_) (hk clock) XM (f6k (c3t (by rw[p4];exact Q0) hl (fun i y hy=>f7k i y hy)));unfold Instr.mapEntry;simp only[Sem.run_bind,Vm.run_underlying w hu,Result.andThen_ok,Ja hh,Ha p1 p2 Xm,h1,IB z1 z2,D7 _ hh,Sem.run_pure]
   ·have he:e∈es.toList:=a8y h2
    have Qd:es[j]? =some e:=by rw[<-a9C];exact h2
    obtain⟨c,oh⟩:=hr.2.1 e he;rw[h3,UD]at oh;obtain⟨e2,GF,g1,g2,g3⟩:=hr.2.2.2 kk c oh;have hee:e2=e:=GD hr.2.2.1 e2 GF e he (by rw[g1,h3,UD]);subst hee;rw[oh,a2L]at hk
    have Qe:(es.modify j fun e=>{e with key:=a.eval k})=es:=by
     apply b3n;apply b9j;intro i;rw[a9C,a9C,a1Q];split
     ·rename_i WB;subst WB;rw[Qd];simp[<-h3]
     ·rfl
    have hgs:ZG gm kk (some c)=gm:=by
     funext q
     by_cases hq:q=kk
     ·subst hq;rw[pK,oh]
     ·rw[rM _ _ hq]
    rw[hgs]at hk;have XM:=MH gm es clock e2.born Vk (fun tr=>hr.conv tr fun _=>rfl) ⟨e2,GF,rfl,g1⟩;refine SH (run (.tuple #[e2.val,goInt e2.born]) _ ?_) (hk e2.born) XM (f6k ?_)
    ·unfold Instr.mapEntry
     have YL:(Instr.keyThatStays e2.key (a.eval k)).run P w= .ok (a.eval k) w:=by
      unfold Instr.keyThatStays;simp only[h3,b3s Xm,if_true,Sem.run_pure]
     simp only[Sem.run_bind,Vm.run_underlying w hu,Result.andThen_ok,Ja hh,Ha p1 p2 Xm,h1,Qd,a4G,a2L,YL,Qe,D7 _ hh,Sem.run_pure]
    ·have:=XM.YH id _ (by rw[WX,if_pos rfl]);obtain⟨b',VK,YX,q1,q2,_,q3,_⟩:=this;rw[hb]at q1;cases q1
     have:(w.heap.setIfInBounds b (.map es clock))[b]? =some (.map es clock):=by simp[ZV]
     rw[this]at q2;cases q2;obtain⟨e3,r1,r2,r3,r4⟩:=q3.2.2.2 kk c oh;have:e3=e2:=GD hr.2.2.1 e3 r1 e2 GF (by rw[r2,g1]);subst this;exact c3t (by exact(hr.1 e3 GF).2) r3 r4
  ·exact hk.elim
 ·exact hk.elim
theorem c5t{t:TypeId}{m st x:Operand}(h:Z7 E n ψ s a w)(hk:ZP P d s K (.est m st x)):X6 P E n ⟨dst, .entryStore t m st x,ty,pos,af,g⟩ a w K:=by
 simp only[ZP]at hk;have hf:=h.Y9 [s.ev x];generalize s.Y9 [s.ev x]=s1 at hk hf;have hm:=hf.ev m;have hsv:=hf.ev st;have hx:=hf.ev x;split at hk
 ·rename_i id ki n' c Hb YL hcs;split at hk
  ·rename_i sk gm q kk ho;obtain⟨rfl,hag,hk⟩:=hk;rw[Hb]at hm;rw[YL]at hsv;have hsv:=VN hsv;obtain⟨b,es,clock,hb,hh,Vk,hr,e,he,hen,N1⟩:=hf.YH id _ ho
   have Jb:a.eval m= .map (some b):=by
    generalize a.eval m=vm at hm
    cases hm with
    |mpr _ b' q o' XQ XB=>rw[hb]at XB;cases XB;rfl
   cases Ri:(s1.ev x).cellsOf with
   |none=>rw[Ri]at hcs;cases hcs
   |some cs=>
    rw[Ri]at hcs;simp only[a5J]at hcs;obtain⟨g1,g2⟩:=qH hx Ri;obtain⟨v1,v2⟩:=a9D hf (vs:=(a.eval x).cells.toList) (by simpa using g1) (fun i y hy=>by rw[SK];exact g2 i y hy) hcs
    have hl:(a.eval x).cells.size=c.length:=by rw[v1];exact g1
    have hv:SU (a.eval x)=sk.2.2:=by rw[b3t hx Ri];exact hag
    have v2':∀i y,c[i]? =some y->YB (Im E ψ s1.hp) w y ((a.eval x).cells.getD i undef):=fun i y hy=>by rw[<-SK];exact v2 i y hy
    obtain⟨j,hj⟩:=a9B he
    have Qd:es[j]? =some e:=by rw[<-a9C];exact hj
    have OQ:es.findIdx? (fun e=>(e.born:Int)==n')=some j:=by
     rw[Array.findIdx?_eq_some_iff_getElem];obtain⟨RO,ru⟩:=a7y.1 hj;refine⟨by simpa using RO,by simp only[Array.getElem_toList]at ru;rw[ru];simpa using hen,fun i hi=>?_⟩
     have Zb:i<es.toList.length:=by omega
     intro heq
     have h1:(es.toList.map (·.born))[i]? =some e.born:=by
      rw[a0C,a3I Zb];simp only[a4G,a5y]
      have:(es.toList[i].born:Int)=n':=by simpa using heq
      omega
     have h2:(es.toList.map (·.born))[j]? =some e.born:=by rw[a0C,hj];rfl
     obtain⟨a1,a2⟩:=a7y.1 h1;obtain⟨b1,b2⟩:=a7y.1 h2;exact c8x.1 Vk.2 i j a1 b1 hi (a2.trans b2.symm)
    have ZV:b<w.heap.size:=VJ hh
    have XM:Z7 E n ψ (s1.add id (.map sk (ZG gm kk (some c)))) a {w with heap:=w.heap.setIfInBounds b (.map (es.modify j fun e=>{e with val:=a.eval x}) clock)}:=by
     refine hf.MH (o':= .map sk (ZG gm kk (some c))) (k:=(0,0)) ho (Ob.le_none rfl) rfl (by simp[Ob.multi]) hb (fun i hi=>?_) (by simp) ⟨rfl,rfl,rfl,a8F _⟩
      (fun _ tr=>⟨b,es.modify j fun e=>{e with val:=a.eval x},clock,hb,?_,Vk.modify j (fun e=>{e with val:=a.eval x}) (fun _=>rfl),by have hmm:=hr.modify tr Qd hv hl (fun i y hy=>tr _ _ (v2' i y hy));rw[N1]at hmm;exact hmm⟩)
     ·show(w.heap.setIfInBounds b _)[i]? =_
      rw[a9R (Ne.symm hi)]
     ·show(w.heap.setIfInBounds b _)[b]? =_
      simp[ZV]
    refine sw ?_ hk XM;simp only[execOp,Jb,hsv]
    have:(Instr.entryStore t (.map (some b)) (.int ki n') (a.eval x)).run P w= .ok () {w with heap:=w.heap.setIfInBounds b (.map (es.modify j fun e=>{e with val:=a.eval x}) clock)}:=by
     unfold Instr.entryStore;simp only[Sem.run_bind,Ja hh,Result.andThen_ok];have:(asInt (.int ki n')).run P w= .ok n' w:=rfl;rw[this];simp only[Result.andThen_ok,OQ,D7 _ hh]
    rw[Sem.run_bind,this];rfl
  ·exact hk.elim
 ·exact hk.elim
end
end Go.Vm
end

section
namespace Go.Vm
open Go.ChangeMaps (setBlock)
section
variable{P:Program}{E:En}{n:Nat}{ψ:Pl}{s:St}{a:Act}{w:World}
variable{dst:Option Nat}{ty:TypeId}{pos:String}{af:Array Edge}{g:Option (Nat×Bool)}{r:Wu}{d:Nat}{K:St->AV->Prop}
theorem c7b{A:Nat->Prop}{sk:Sk}{gm:List Value->Option (List IV)}{v:Value}(h:YB A w (.mp sk gm) v):
 (v= .map none/\∀k,gm k=none)\/∃b es clock,v= .map (some b)/\A b/\w.heap[b]? =some (.map es clock)/\WG es clock/\Xx A w sk gm es:=by
 cases h with
 |mp _ _ b clock es vs hA hh UM Yq Y6 YL hg ou=>
  refine .inr ⟨b,es,clock,rfl,hA,hh,YL,UM,Yq,Y6,fun k c hc=>?_⟩;obtain⟨e,he,g1,g2,g3⟩:=hg k c hc;refine⟨e,he,g1,g2,fun i y hy=>?_⟩;have:=g3 i y hy;rw[show e.val.cells.getD i undef=vs k i from by simp[a4E,this]];exact ou k c hc i y hy
 |Nd _ _ hn=>exact .inl ⟨rfl,hn⟩
theorem c8b{v:Value}{ag:Bool}{ks:List Kd}(h:Xl v=some (ag,ks)):(X9 v).mapM Za=some ks:=by
 rcases Hh h with⟨cs,rfl,_,h1,h2⟩|⟨k,_,rfl,h1,h2⟩
 ·rw[h2];exact h1
 ·rw[h2];simp[h1]
theorem c9b{v:Value}{k:Kd}(h:Za v=some k):v.oneCell'=true:=(e5n h).2.1
theorem c0c:∀{l:List Value} {ks:List Kd},l.mapM Za=some ks->∀x∈l,∃k,Za x=some k
 | [],_,_,x,hx=>by cases hx
 |y::r,ks,h,x,hx=>by
  rw[a3N]at h
  cases h1:Za y with
  |none=>rw[h1]at h;cases h
  |some k1=>
   rw[h1]at h
   cases h2:r.mapM Za with
   |none=>rw[h2]at h;cases h
   |some k2=>
    rcases a2E.1 hx with rfl|hx
    ·exact⟨k1,h1⟩
    ·exact c0c h2 x hx
theorem c1c{A:Nat->Prop}{H:Hp}{v:Value}{ag:Bool}{ks:List Kd}(h:Xl v=some (ag,ks)):ZK A ψ H w (Tq ag ((X9 v).map fun v=> .iv (.v v))) v:=by
 have hk:=c8b h
 refine d0g ?_ (by simp[X9]) fun i x hx=>?_
 ·rcases Hh h with⟨cs,rfl,rfl,_,_⟩|⟨k,rfl,_,h1,_⟩
  ·rfl
  ·cases v<;>first|rfl|simp[Za]at h1
 ·rw[a0C]at hx
  cases hi:(X9 v)[i]? with
  |none=>rw[hi]at hx;cases hx
  |some y=>
   rw[hi]at hx;cases hx;obtain⟨k,R7⟩:=c0c hk y (a8y hi)
   have e:v.cells.getD i undef=y:=by
    rw[<-SK];have:v.cells.toList[i]? =some y:=hi;simp[a7V,this]
   rw[e];exact UP (c9b R7)
theorem c2c{t k' e':TypeId}{x:Operand}{sk:Sk}(hu:P.underlying t=some (.map k' e'))(hd:d<1000)(h:Z7 E n ψ s a w)(hk:ZP P d s K (.QY sk x)):
 X6 P E n ⟨dst, .range t x,ty,pos,af,g⟩ a w K:=by
 simp only[ZP]at hk;have hf:=(h.Y9 [s.ev x]).drop (id:=d) hd;have Y6:=JY (s.Y9 [s.ev x]) d;generalize (s.Y9 [s.ev x]).drop d=s1 at hk hf Y6;have hx:=hf.ev x;split at hk
 ·rename_i E5 gm NP;obtain⟨rfl,hk⟩:=hk;rw[NP]at hx
  have hr:YB (Im E ψ s1.hp) w (.mp E5 gm) (a.eval x):=by cases hx with|iv _ _ h=>exact h
  rcases c7b hr with⟨hv,hn⟩|⟨b,es,clock,hv,hA,hh,Vk,hm⟩
  ·have h2:=hf.new (o:= .iter E5 gm [] none) (p:=some (w.heap.size,(0,0))) hd Y6 (Ext.alloc w (.mapIter none 0 #[] 0)) (fun b k e=>by cases e;exact a8F _)
    ⟨w.heap.size,none,0, #[],0,by simp[XF],qq _ _, .inl ⟨rfl,rfl,rfl,hn⟩⟩
   refine SH (v:= .pointer (some ⟨w.heap.size,0,none⟩)) (w':=w.alloc (.mapIter none 0 #[] 0)) ?_ (hk [] (by simp) (by simp[hn]) (by simp)) h2 (.ptr d 0 w.heap.size (0,0) _ (by simp[WX];rfl) (by simp[XF]));simp only[execOp,hv,Sem.run_bind,run_range_nilMap w t k' e' hu,Result.andThen_ok,Sem.run_pure]
  ·have hmk:∀q,q∈es.toList.map (fun e=>X9 e.key)↔gm q≠none:=by
    intro q;constructor
    ·intro hq;obtain⟨e,he,rfl⟩:=a3E.1 hq;obtain⟨c,hc⟩:=hm.2.1 e he;rw[hc];simp
    ·intro hq
     cases hc:gm q with
     |none=>exact absurd hc hq
     |some c=>
      obtain⟨e,he,g1,_⟩:=hm.2.2.2 q c hc;exact a3E.2 ⟨e,he,g1⟩
   have DY:b<w.heap.size:=VJ hh
   have h2:=hf.new (o:= .iter E5 gm (es.toList.map fun e=>X9 e.key) none) (p:=some (w.heap.size,(0,0))) hd Y6 (Ext.alloc w (.mapIter (some b) clock #[] clock)) (fun b k e=>by cases e;exact a8F _)
    ⟨w.heap.size,some b,clock, #[],clock,by simp[XF],qq _ _, .inr ⟨b,es,rfl,⟨DY,hA⟩,by rw[(Ext.alloc w _).block b DY];exact hh,rfl,Vk,
     hm.mono (fun b hb hi=>⟨hb,hi⟩) (fun b hb _=>(Ext.alloc w _).block b hb),hm.2.2.1,fun e he=>⟨fun _=>by simp,fun _=>a3E.2 ⟨e,he,rfl⟩⟩,fun q hq=>by
      obtain⟨e,he,rfl⟩:=a3E.1 hq
      exact⟨e,he,rfl⟩, .inl rfl⟩⟩
   refine SH (v:= .pointer (some ⟨w.heap.size,0,none⟩)) (w':=w.alloc (.mapIter (some b) clock #[] clock)) ?_
    (hk (es.toList.map fun e=>X9 e.key) hm.2.2.1 hmk (fun q hq=>by
     obtain⟨e,he,rfl⟩:=a3E.1 hq
     exact c8b (hm.1 e he).1)) h2 (.ptr d 0 w.heap.size (0,0) _ (by simp[WX];rfl) (by simp[XF]))
   simp only[execOp,hv,Sem.run_bind,run_range_map w t k' e' b es clock hu hh,Result.andThen_ok,Sem.run_pure]
 ·exact hk.elim
theorem c3c{k q:List Value}{l:List (List Value)}:q∈O6 k l↔q∈l/\q≠k:=by
 classical
 simp[O6]
theorem c4c{k:List Value}{l:List (List Value)}(h:l.Nodup):(O6 k l).Nodup:=h.sublist (List.filter_sublist)
theorem c5c{A:Nat->Prop}{H:Hp}{x y:AV}{u v:Value}(hx:ZK A ψ H w x u)(hy:ZK A ψ H w y v):ZK A ψ H w (.Zp [x,y]) (.tuple #[u,v]):=by
 refine .Zp _ _ rfl fun i c hc=>?_
 match i,hc with
 | 0,hc=>cases hc;exact hx
 | 1,hc=>cases hc;exact hy
theorem c6c{A:Nat->Prop}{H:Hp}{x y z:AV}{u v t:Value}(hx:ZK A ψ H w x u)(hy:ZK A ψ H w y v)(hz:ZK A ψ H w z t):ZK A ψ H w (.Zp [x,y,z]) (.tuple #[u,v,t]):=by
 refine .Zp _ _ rfl fun i c hc=>?_
 match i,hc with
 | 0,hc=>cases hc;exact hx
 | 1,hc=>cases hc;exact hy
 | 2,hc=>cases hc;exact hz
theorem c7c{x:Operand}(h:Z7 E n ψ s a w)(hk:ZP P d s K (.nxt x)):X6 P E n ⟨dst, .next x false,ty,pos,af,g⟩ a w K:=by
 simp only[ZP]at hk;have hx:=h.ev x;split at hk
 ·rename_i id NP;rw[NP]at hx;obtain⟨b0,k0,o0,hlo,T4,hv⟩:=ED hx;split at hk
  ·rename_i sk gm left last ho;obtain⟨RH,Xm⟩:=hk;obtain⟨b,m,since,stamps,YG,hb,hh,Ya⟩:=h.YH id _ ho
   have e0:b0=b:=by rw[hb]at T4;cases T4;rfl
   rw[e0]at hv
   have run:∀v w',(Instr.next (.pointer (some ⟨b,0,none⟩)) false ty).run P w= .ok v w'->(execOp a.eval ⟨dst, .next x false,ty,pos,af,g⟩).run P w= .ok (.value v) w':=by
    intro v w' XC;simp only[execOp,hv,Sem.run_bind,XC,Result.andThen_ok,Sem.run_pure]
   have one:∀{A:Nat->Prop} {ψ:Pl} {H:Hp} {w:World},ZK A ψ H w (.Zp [.iv (.v (.bool false))]) (.tuple #[.bool false]):=by
    intro A ψ H w
    refine .Zp _ _ rfl fun i c hc=>?_
    match i,hc with
    | 0,hc=>cases hc;exact UP rfl
   rcases Ya with⟨rfl,rfl,rfl,hn⟩|⟨bm,es,rfl,hA,hm,rfl,Vk,hr,WA,SJ,MG,rF⟩
   ·refine SH (run _ w ?_) (RH rfl) h one;simp only[Instr.next,getObj,Sem.run_bind,Sem.run,hh,Result.andThen];rfl
   ·rcases run_next_at (P:=P) w ty b bm YG YG stamps es YG hh hm Vk.1 (a8F _)with⟨h0,XC⟩|⟨e,he,w1,UY,XC⟩
    ·have f9j:left=[]:=by
      cases UO:left with
      |nil=>rfl
      |cons q r=>
       exfalso
       obtain⟨e,he,hq⟩:=MG q (by rw[UO];simp);have:=(SJ e he).1 (by rw[hq,UO];simp)
       have UW:e∈leftOf es stamps:=by
        unfold leftOf;simp only[d7p,b9O,c3V,decide_eq_false_iff_not];exact⟨by simpa using he,by simpa using this⟩
       have:=Array.size_pos_of_mem UW;omega
     subst f9j;exact SH (run _ w XC) (RH rfl) h one
    ·have Xr:e∈es.toList/\e.born∉stamps.toList:=by
      have:e∈leftOf es stamps:=by simpa using he
      unfold leftOf at this;simp only[d7p,b9O,c3V,decide_eq_false_iff_not]at this;exact⟨by simpa using this.1,by simpa using this.2⟩
     obtain⟨NK,GF⟩:=Xr;have Yq:X9 e.key∈left:=(SJ e NK).2 GF;obtain⟨c,hc⟩:=hr.2.1 e NK;obtain⟨e2,q1,q2,q3,q4⟩:=hr.2.2.2 _ c hc;have:e2=e:=GD hr.2.2.1 e2 q1 e NK q2;subst this;have Uw:=Xm (X9 e2.key) c Yq hc (c8b (hr.1 e2 NK).1);have f0k:b<w.heap.size:=VJ hh
     have PW:w1.heap=w.heap/\w1.os=w.os/\w1.tape=w.tape/\w1.output=w.output/\w.drawn<=w1.drawn:=by rcases UY with rfl|rfl<;>first|exact⟨rfl,rfl,rfl,rfl,a8F _⟩|exact⟨rfl,rfl,rfl,rfl,Nat.le_succ _⟩
     have ZS:bm≠b:=by rintro rfl;rw[hh]at hm;cases hm
     have XM:Z7 E n ψ (s.add id (.iter sk gm (O6 (X9 e2.key) left) (some (X9 e2.key)))) a (setBlock w1 b (.mapIter (some bm) YG (stamps.push e2.born) YG)):=by
      refine h.MH (o':= .iter sk gm (O6 (X9 e2.key) left) (some (X9 e2.key))) (k:=(0,0)) ho (Ob.le_none rfl) rfl (by simp[Ob.multi]) hb (fun i hi=>?_) (by simp[setBlock,PW.1]) ⟨PW.2.1,PW.2.2.1,PW.2.2.2⟩
       (fun _ tr=>⟨b,some bm,YG,stamps.push e2.born,YG,hb,?_, .inr ⟨bm,es,rfl,?_,?_,rfl,Vk,hr.conv tr fun _=>rfl,c4c WA,fun e he=>?_,fun q hq=>MG q (c3c.1 hq).1, .inr ⟨e2,NK,stamps,rfl,rfl⟩⟩⟩)
      ·show(w1.heap.setIfInBounds b _)[i]? =_
       rw[a9R (Ne.symm hi),PW.1]
      ·show(w1.heap.setIfInBounds b _)[b]? =_
       rw[PW.1];simp[f0k]
      ·refine⟨hA.1,?_⟩;rintro⟨j,ob,hj,hq⟩;rw[WX]at hj
       by_cases e:id=j
       ·subst e;exact hA.2 ⟨id,_,ho,hq⟩
       ·rw[if_neg e]at hj;exact hA.2 ⟨j,ob,hj,hq⟩
      ·show(w1.heap.setIfInBounds b _)[bm]? =_
       rw[a9R (Ne.symm ZS),PW.1];exact hm
      ·rw[c3c,SJ e he,a5U,a1E,a2z];constructor
       ·rintro⟨h1,h2⟩ (h3|h3)
        ·exact h1 h3
        ·have:(es.toList.map (·.born)).Nodup:=Vk.2;exact h2 (congrArg (fun e=>X9 e.key) (GD this e he e2 NK h3))
       ·intro h1;refine⟨fun h2=>h1 (.inl h2),fun h2=>h1 (.inr ?_)⟩;rw[GD hr.2.2.1 e he e2 NK h2]
     have f1k:∀i y,c[i]? =some y->YB (Im E ψ (s.add id (.iter sk gm (O6 (X9 e2.key) left) (some (X9 e2.key)))).hp) (setBlock w1 b (.mapIter (some bm) YG (stamps.push e2.born) YG)) y (e2.val.cells.getD i undef):=by
      obtain⟨b',m',si',st',lc',r1,r2,r3⟩:=XM.YH id _ (by rw[WX,if_pos rfl])
      rcases r3 with⟨_,_,r3,_⟩|⟨bm',VK,r4,_,r5,_,_,r6,_⟩
      ·cases r3
      ·rw[hb]at r1;cases r1
       have e1:(setBlock w1 b (.mapIter (some bm) YG (stamps.push e2.born) YG)).heap[b]? =some (.mapIter (some bm) YG (stamps.push e2.born) YG):=by
        show(w1.heap.setIfInBounds b _)[b]? =_
        rw[PW.1];simp[f0k]
       rw[e1]at r2;cases r2;cases r4
       have e3:(setBlock w1 b (.mapIter (some bm) YG (stamps.push e2.born) YG)).heap[bm]? =some (.map es YG):=by
        show(w1.heap.setIfInBounds b _)[bm]? =_
        rw[a9R (Ne.symm ZS),PW.1];exact hm
       rw[e3]at r5;cases r5;obtain⟨e4,t1,t2,t3,t4⟩:=r6.2.2.2 _ c hc;have:e4=e2:=GD hr.2.2.1 e4 t1 e2 NK t2;subst this;exact t4
     exact SH (run _ _ XC) Uw XM (c6c (UP rfl) (c1c (hr.1 e2 NK).1) (c3t (hr.1 e2 NK).2 q3 f1k))
  ·exact hk.elim
 ·exact hk.elim
theorem c8c{x:Operand}(h:Z7 E n ψ s a w)(hk:ZP P d s K (.S7 x)):X6 P E n ⟨dst, .entry x,ty,pos,af,g⟩ a w K:=by
 simp only[ZP]at hk;have hx:=h.ev x;split at hk
 ·rename_i id NP;rw[NP]at hx;obtain⟨b0,k0,o0,hlo,T4,hv⟩:=ED hx;split at hk
  ·rename_i sk gm left k ho;obtain⟨b,m,since,stamps,YG,hb,hh,Ya⟩:=h.YH id _ ho
   have e0:b0=b:=by rw[hb]at T4;cases T4;rfl
   rw[e0]at hv
   rcases Ya with⟨_,_,hl,_⟩|⟨bm,es,rfl,hA,hm,rfl,Vk,hr,WA,SJ,MG,rF⟩
   ·cases hl
   ·rcases rF with rF|⟨e,he,seen,rfl,LG⟩
    ·cases rF
    ·simp only[a5y]at LG;subst LG;obtain⟨c,hc⟩:=hr.2.1 e he;obtain⟨e2,q1,q2,q3,q4⟩:=hr.2.2.2 _ c hc;have:e2=e:=GD hr.2.2.1 e2 q1 e he q2;subst this;refine e1g h ?_ (hk c hc) (c5c (c1c (hr.1 e2 he).1) (c3t (hr.1 e2 he).2 q3 q4))
     simp only[execOp,hv,Sem.run_bind,run_entry_at (P:=P) w b bm YG seen es YG e2 hh hm he Vk.2,Result.andThen_ok,Sem.run_pure]
  ·exact hk.elim
 ·exact hk.elim
end
section
variable{P:Program}{E:En}{n:Nat}{ψ:Pl}{s:St}{a:Act}{w:World}
variable{dst:Option Nat}{ty:TypeId}{pos:String}{af:Array Edge}{g:Option (Nat×Bool)}{r:Wu}{d:Nat}{K:St->AV->Prop}
theorem Uv.T0{H:Hp}(h:Uv ψ H w){id b:Nat}{o:Ob}(ho:look H id=some o)(hb:ψ.sub id b)(k:Nat×Nat):ψ id≠some (b,k):=(h id o b ho hb).2.2 k
theorem d0l{β:Type}(g:List Value->Option β)(k:List Value)(c:Option β):ZG g k c k=c:=by simp[ZG]
theorem d1l{β:Type}(g:List Value->Option β){k q:List Value}(c:Option β)(h:q≠k):ZG g k c q=g q:=by simp[ZG,h]
theorem Z7.tV(h:Z7 E n ψ s a w){id d:Nat}(hd:d<1000)(Y6:look s.hp d=none){sk:Sk}{sz:Nat}{g:List Value->Option (List (List IV))}
 (ho:look s.hp id=some (.YJ sk sz g none)) {kk:List Value} {xs:List (List IV)} (hg:g kk=some xs) {b0 FQ:Nat} {es0:Array MapEntry} (T4:ψ id=some (b0,(0,0))) (hh0:w.heap[b0]? =some (.map es0 FQ))
 {e0:MapEntry} (I4:e0∈es0.toList) (RH:X9 e0.key=kk):
 ∃Zn,Z7 E n Zn ((s.add id (.YJ sk sz (ZG g kk none) (some kk))).add d (.YU id sz xs)) a w∧
  ZK (Im E Zn ((s.add id (.YJ sk sz (ZG g kk none) (some kk))).add d (.YU id sz xs)).hp) Zn ((s.add id (.YJ sk sz (ZG g kk none) (some kk))).add d (.YU id sz xs)).hp w (.sl d sz 0 xs.length) e0.val:=by
 obtain⟨b,es,clock,pl,h1,h2,h3,h4,h5,h6,h7,h8,h9,U0,TD⟩:=h.YH id _ ho;rw[h1]at T4;cases T4;rw[h2]at hh0;cases hh0;obtain⟨e9,he9,hk9,Y7⟩:=h9 kk xs hg;have:e9=e0:=GD h6 e9 he9 e0 I4 (by rw[hk9,RH]);subst this
 have ZS:id≠d:=by rintro rfl;rw[ho]at Y6;cases Y6
 generalize hp:pl kk=p at Y7
 have G7:∀b q,p=some (b,q)->ψ.sub id b:=fun b q e=>U0 kk xs b q hg (hp.trans e)
 let Zn:Pl:=⟨fun j=>if j=d then p else ψ j,fun j b=>if j=id then ψ.sub id b/\∀q,p≠some (b,q)else j≠d/\ψ.sub j b⟩
 generalize TM:(s.add id (.YJ sk sz (ZG g kk none) (some kk))).add d (.YU id sz xs)=s2
 have Xw:∀j,look s2.hp j=if d=j then some (.YU id sz xs)else if id=j then some (.YJ sk sz (ZG g kk none) (some kk))else look s.hp j:=by
  intro j;rw[<-TM,WX,WX]
 have o1:∀{b},Z2 Zn d b->∃q,p=some (b,q):=by
  intro b hb
  rcases hb with⟨q,hb⟩|hb
  ·exact⟨q,by simpa[Zn]using hb⟩
  ·simp[Zn,Ne.symm ZS]at hb
 have o2:∀{b},Z2 Zn id b↔(∃k,ψ id=some (b,k))\/(ψ.sub id b/\∀q,p≠some (b,q)):=by
  intro b;simp[Z2,Zn,ZS]
 have o3:∀{j b},j≠d->j≠id->(Z2 Zn j b↔Z2 ψ j b):=by
  intro j b hj1 Qv;simp[Z2,Zn,hj1,Qv]
 have G1:∀{b},Z2 Zn id b->Z2 ψ id b:=by
  intro b hb
  rcases o2.1 hb with h|h
  ·exact .inl h
  ·exact .inr h.1
 have od:∀{b},Z2 Zn d b->Z2 ψ id b:=by
  intro b hb;obtain⟨q,hq⟩:=o1 hb;exact .inr (G7 b q hq)
 have back:∀{j o b},look s2.hp j=some o->Z2 Zn j b->∃j' o',look s.hp j'=some o'/\Z2 ψ j' b/\(j'=if j=d then id else j):=by
  intro j o b hj hb;rw[Xw]at hj
  by_cases e1:d=j
  ·subst e1;exact⟨id,_,ho,od hb,by simp⟩
  ·rw[if_neg e1]at hj
   by_cases e2:id=j
   ·subst e2;exact⟨id,_,ho,G1 hb,by simp[ZS]⟩
   ·rw[if_neg e2]at hj;exact⟨j,o,hj,(o3 (Ne.symm e1) (Ne.symm e2)).1 hb,by simp[Ne.symm e1]⟩
 have held:∀b,ZD Zn s2.hp b->ZD ψ s.hp b:=by
  rintro b ⟨j,o,hj,hb⟩;obtain⟨j',o',q1,q2,_⟩:=back hj hb;exact⟨j',o',q1,q2⟩
 have hI:∀b,b<w.heap.size->Im E ψ s.hp b->Im E Zn s2.hp b:=fun b _ hi=>⟨hi.1,fun hh=>hi.2 (held b hh)⟩
 have WC:Vt ψ Zn s.hp s2.hp:=by
  intro j o hj
  have SQ:j≠d:=by rintro rfl;rw[Y6]at hj;cases hj
  refine⟨?_,by simp[Zn,SQ]⟩
  by_cases e2:id=j
  ·subst e2;rw[ho]at hj;cases hj;exact⟨_,by rw[Xw,if_neg (Ne.symm SQ),if_pos rfl],Ob.le_none rfl⟩
  ·exact⟨o,by rw[Xw,if_neg (Ne.symm SQ),if_neg e2];exact hj,o.le_refl⟩
 have P7:Zn d=p:=by simp[Zn]
 have G0:look s2.hp d=some (.YU id sz xs):=by rw[Xw,if_pos rfl]
 refine⟨Zn,{size:=h.size,defers:=h.defers.mono hI (fun _ _ _=>rfl),frame:=fun t=>?_,YH:=?_,inj:=?_,own:=?_,Y0:=?_,par:=?_,old:=h.old,grow:=h.grow,same:=h.same},?_⟩
 ·have:s2.get t=s.get t:=by rw[<-TM];rfl
  rw[this];exact(h.frame t).mono hI (fun _ _ _=>rfl) WC
 ·intro j o hj;rw[Xw]at hj
  by_cases e1:d=j
  ·subst e1;rw[if_pos rfl]at hj;cases hj;obtain⟨QO,⟨q1,q2,q3⟩|⟨b',k',cap,ad,q1,q2,q3,q4,q5,q6,c,e,r1,r2,r3,r4⟩⟩:=Y7
   ·exact⟨QO, .inl ⟨by rw[P7];exact q1,q2⟩⟩
   ·exact⟨QO, .inr ⟨b',k',c,e,by rw[P7];exact q1,r1,r2,r3,fun i j x hx=>(r4 i j x hx).mono hI (fun _ _ _=>rfl)⟩⟩
  ·rw[if_neg e1]at hj
   by_cases e2:id=j
   ·subst e2;rw[if_pos rfl]at hj;cases hj;refine⟨b0,es0,FQ,pl,by simp[Zn,ZS];exact h1,h2,h3,h4,h5,h6,fun e he=>?_,fun k hk=>?_,fun k ys hk=>?_,fun k ys b' q hk hq=>?_,fun k ys k' ys' b' q q' hk R7 hq V0=>?_⟩
    ·by_cases N1:X9 e.key=kk
     ·exact .inl (by rw[N1])
     ·rcases h7 e he with h|⟨ys,h⟩
      ·cases h
      ·exact .inr ⟨ys,by rw[d1l _ _ N1];exact h⟩
    ·simp only[a5y]at hk;subst hk;exact⟨d0l _ _ _,e9,he9,hk9⟩
    ·have Uw:k≠kk:=by rintro rfl;rw[d0l]at hk;cases hk
     rw[d1l _ _ Uw]at hk;obtain⟨e,q1,q2,q3⟩:=h9 k ys hk;exact⟨e,q1,q2,q3.mono hI (fun _ _ _=>rfl) (fun _ _ _=>rfl)⟩
    ·have Uw:k≠kk:=by rintro rfl;rw[d0l]at hk;cases hk
     rw[d1l _ _ Uw]at hk;simp only[Zn,if_true];exact⟨U0 k ys b' q hk hq,fun q' e=>Uw (TD k ys kk xs b' q q' hk hg hq (hp.trans e))⟩
    ·have Uw:k≠kk:=by rintro rfl;rw[d0l]at hk;cases hk
     have NU:k'≠kk:=by rintro rfl;rw[d0l]at R7;cases R7
     rw[d1l _ _ Uw]at hk;rw[d1l _ _ NU]at R7;exact TD k ys k' ys' b' q q' hk R7 hq V0
   ·rw[if_neg e2]at hj;exact(h.YH j o hj).mono hI (fun _ _ _=>rfl) WC ⟨by simp[Zn,Ne.symm e1],fun b hb=>by simp only[Zn,if_neg (Ne.symm e2)];exact⟨Ne.symm e1,hb⟩⟩ (fun _ _=>rfl)
 ·intro i i' oi oi' b hi VZ hb XB;obtain⟨j,oj,q1,q2,q3⟩:=back hi hb;obtain⟨j',oj',SB,Ou,Nz⟩:=back VZ XB;have IK:=h.inj j j' oj oj' b q1 SB q2 Ou
  have N7:∀{b},Z2 Zn d b->Z2 Zn id b->False:=by
   intro b h1 h2;obtain⟨q,hq⟩:=o1 h1
   rcases o2.1 h2 with⟨k,h2⟩|⟨_,h2⟩
   ·exact h.Y0.T0 ho (G7 b q hq) k h2
   ·exact h2 q hq
  by_cases e1:i=d
  ·by_cases e2:i'=d
   ·rw[e1,e2]
   ·rw[if_pos e1]at q3;rw[if_neg e2]at Nz
    have:i'=id:=by rw[<-Nz, <-IK,q3]
    subst e1;subst this;exact(N7 hb XB).elim
  ·by_cases e2:i'=d
   ·rw[if_neg e1]at q3;rw[if_pos e2]at Nz
    have:i=id:=by rw[<-q3,IK,Nz]
    subst e2;subst this;exact(N7 XB hb).elim
   ·rw[if_neg e1]at q3;rw[if_neg e2]at Nz;rw[<-q3, <-Nz,IK]
 ·intro i oi b hi hb;rw[Xw]at hi
  by_cases e1:d=i
  ·subst e1;rw[if_pos rfl]at hi;cases hi;have:=h.own id _ b ho (od hb);exact this
  ·rw[if_neg e1]at hi
   by_cases e2:id=i
   ·subst e2;rw[if_pos rfl]at hi;cases hi;have:=h.own id _ b ho (G1 hb);exact this
   ·rw[if_neg e2]at hi;exact h.own i oi b hi ((o3 (Ne.symm e1) (Ne.symm e2)).1 hb)
 ·intro i oi b hi hb;rw[Xw]at hi
  by_cases e1:d=i
  ·subst e1;simp[Zn,Ne.symm ZS]at hb
  ·rw[if_neg e1]at hi
   by_cases e2:id=i
   ·subst e2;rw[if_pos rfl]at hi;cases hi
    have hb:ψ.sub id b:=by simp only[Zn,if_true]at hb;exact hb.1
    obtain⟨_,r2,r3⟩:=h.Y0 id _ b ho hb;exact⟨rfl,r2,fun k=>by simp only[Zn,if_neg ZS];exact r3 k⟩
   ·rw[if_neg e2]at hi
    have hb:ψ.sub i b:=by simp only[Zn,if_neg (Ne.symm e2)]at hb;exact hb.2
    obtain⟨r1,r2,r3⟩:=h.Y0 i oi b hi hb;exact⟨r1,r2,fun k=>by simp only[Zn,if_neg (Ne.symm e1)];exact r3 k⟩
 ·intro i hi
  have:i≠d:=by have:=E.big i hi;omega
  simp only[Zn,if_neg this];exact h.par i hi
 ·obtain⟨QO,⟨q1,q2,q3⟩|⟨b',k',cap,ad,q1,q2,q3,q4,q5,q6,_⟩⟩:=Y7
  ·subst q2;rw[q3];exact .U4 d sz _ 0 G0 rfl (by rw[P7];exact q1)
  ·rw[q2];exact .sl d sz 0 xs.length b' k' cap ad _ xs.length G0 rfl (by omega) (by rw[P7];exact q1) (fun hc=>by rw[q3 hc];simp) q4 (by simpa using q5) q6
theorem d2l{A:Nat->Prop}{H:Hp}{id sz:Nat}{xs:List (List IV)}{o:Ob}{v:Value}(he:o.T5=some (sz,xs))(hl:look H id=some o)(ho:Xa A ψ H w id o)
 (hv:ZK A ψ H w (.sl id sz 0 xs.length) v):Ti A w sz xs (ψ id) v:=by
 obtain⟨h0,Ya⟩:=c1U he ho;refine⟨h0,?_⟩;obtain⟨o',m,q1,q2,q3,hc⟩:=Jg hv
 rcases hc with⟨p1,p2,p3,p4⟩|⟨b,k,cap,ad,p1,p2,p3,p4,p5⟩
 ·exact .inl ⟨p1,a8R p3,p4⟩
 ·rcases Ya with⟨r1,_⟩|⟨b',k',c,e,r1,r2,r3,r4,r5⟩
  ·rw[r1]at p1;cases p1
  ·rw[r1]at p1;cases p1;refine .inr ⟨b,k,cap,ad,r1,p5,fun hc=>by rw[p2 hc];simp,p3,by simpa using p4,?_,c,e,r2,r3,r4,r5⟩;rw[p5]at hv;exact b0U hv
theorem d3l(d k:Nat):look (s.kill d).hp k=if k=d then none else(look s.hp k).map (Ob.ZQ (AV.kc (· ==d))):=by
 show look ((s.ZQ (AV.kc (· ==d))).hp.filter (·.1 != d)) k=_
 rw[Iy,Ir]
theorem Z7.ra(h:Z7 E n ψ s a w){id d:Nat}(hd:d<1000)(ZS:d≠id){sk:Sk}{sz:Nat}{g:List Value->Option (List (List IV))}{hole:Option (List Value)}
 (ho:look s.hp id=some (.YJ sk sz g hole)) {kk:List Value} {xs:List (List IV)} {o:Ob} (TG:look s.hp d=some o) (Xt:o.T5=some (sz,xs)) (SR:o.org?=none\/o.org?=some id)
 (Ya:hole=some kk\/(hole=none/\g kk=none)) {v:Value} (hv:ZK (Im E ψ s.hp) ψ s.hp w (.sl d sz 0 xs.length) v) {b clock YX:Nat} {es VK:Array MapEntry} (hb:ψ id=some (b,(0,0))) (hh:w.heap[b]? =some (.map es clock))
 (Vk:WG VK YX) (WA:(VK.toList.map fun e=>X9 e.key).Nodup) (f4W:∀e∈VK.toList,Fits sk e) (Hg:∃e∈VK.toList,X9 e.key=kk/\e.val=v)
 (hold:∀e∈VK.toList,X9 e.key≠kk->e∈es.toList) (Zt:∀e∈es.toList,X9 e.key≠kk->e∈VK.toList):
 ∃Zn,Z7 E n Zn ((s.kill d).add id (.YJ sk sz (ZG g kk (some xs)) none)) a (setBlock w b (.map VK YX)):=by
 obtain⟨b1,es1,f5W,pl,h1,h2,h3,h4,h5,h6,h7,h8,h9,U0,TD⟩:=h.YH id _ ho;rw[h1]at hb;cases hb;rw[h2]at hh;cases hh;have Y7:=d2l Xt TG (h.YH d o TG) hv;have hmul:o.multi=false:=c6U Xt
 let Zn:Pl:=⟨fun j=>ψ j,fun j b=>(j=id/\∃k,ψ d=some (b,k))\/ψ.sub j b⟩
 generalize TM:(s.kill d).add id (.YJ sk sz (ZG g kk (some xs)) none)=s2
 have Xw:∀j,look s2.hp j=if id=j then some (.YJ sk sz (ZG g kk (some xs)) none)else if j=d then none else(look s.hp j).map (Ob.ZQ (AV.kc (· ==d))):=by
  intro j;rw[<-TM,WX,d3l]
 have G1:∀{b},Z2 Zn id b↔Z2 ψ id b\/∃k,ψ d=some (b,k):=by
  intro b;simp only[Z2,Zn,true_and];constructor
  ·rintro(h|h|h)
   ·exact .inl (.inl h)
   ·exact .inr h
   ·exact .inl (.inr h)
  ·rintro((h|h)|h)
   ·exact .inl h
   ·exact .inr (.inr h)
   ·exact .inr (.inl h)
 have o3:∀{j b},j≠id->(Z2 Zn j b↔Z2 ψ j b):=by
  intro j b hj;simp[Z2,Zn,hj]
 have back:∀{j o2 b},look s2.hp j=some o2->Z2 Zn j b->j≠d/\((∃o',look s.hp j=some o'/\Z2 ψ j b)\/(j=id/\Z2 ψ d b)):=by
  intro j o2 b hj hb;rw[Xw]at hj
  by_cases e1:id=j
  ·subst e1;refine⟨Ne.symm ZS,?_⟩
   rcases G1.1 hb with hb|⟨k,hb⟩
   ·exact .inl ⟨_,ho,hb⟩
   ·exact .inr ⟨rfl, .inl ⟨k,hb⟩⟩
  ·rw[if_neg e1]at hj;split at hj
   ·cases hj
   ·rename_i SQ
    cases hl:look s.hp j with
    |none=>rw[hl]at hj;cases hj
    |some o'=>exact⟨SQ, .inl ⟨o',rfl,(o3 (Ne.symm e1)).1 hb⟩⟩
 have held:∀b,ZD Zn s2.hp b->ZD ψ s.hp b:=by
  rintro b ⟨j,o2,hj,hb⟩;obtain⟨_,⟨o',q1,q2⟩|⟨_,q2⟩⟩:=back hj hb
  ·exact⟨j,o',q1,q2⟩
  ·exact⟨d,o,TG,q2⟩
 have hB:ZD ψ s.hp b:=⟨id,_,ho, .inl ⟨_,h1⟩⟩
 have GY:∀i,i≠b->(setBlock w b (.map VK YX)).heap[i]? =w.heap[i]? :=fun i hi=>by
  show(w.heap.setIfInBounds b _)[i]? =_
  rw[a9R (Ne.symm hi)]
 have hwB:(setBlock w b (.map VK YX)).heap[b]? =some (.map VK YX):=by
  show(w.heap.setIfInBounds b _)[b]? =_
  simp[VJ h2]
 have Yd:(setBlock w b (.map VK YX)).heap.size=w.heap.size:=by simp[setBlock]
 have hI:∀i,i<w.heap.size->Im E ψ s.hp i->Im E Zn s2.hp i:=fun i _ hi=>⟨hi.1,fun hh=>hi.2 (held i hh)⟩
 have S4:∀i,i<w.heap.size->Im E ψ s.hp i->(setBlock w b (.map VK YX)).heap[i]? =w.heap[i]? :=fun i _ hi=>GY i (fun e=>hi.2 (e▸hB))
 have hk:c0I (· ==d) ψ Zn s.hp s2.hp:=by
  intro j oj hj OP
  have SQ:j≠d:=by simpa using hj
  refine⟨?_,rfl⟩
  by_cases e1:id=j
  ·subst e1;rw[ho]at OP;cases OP;exact⟨_,by rw[Xw,if_pos rfl],Ob.le_none rfl⟩
  ·exact⟨_,by rw[Xw,if_neg e1,if_neg SQ,OP];rfl,Ob.SA _ oj⟩
 have hf:=c1I (p:=(· ==d)) hI S4 hk
 have rC:∀k ys b' q q',g k=some ys->pl k=some (b',q)->ψ d=some (b',q')->False:=by
  intro k ys b' q q' hk hq V0;exact ZS (h.inj d id o _ b' TG ho (.inl ⟨q',V0⟩) (.inr (U0 k ys b' q hk hq)))
 classical
 refine⟨Zn,{size:=h.size,defers:=h.defers.mono hI S4,frame:=fun t=>?_,YH:=?_,inj:=?_,own:=?_,Y0:=?_,par:=h.par,old:=?_,grow:=?_,same:=h.same}⟩
 ·have e:s2.get t=(s.get t).ZQ (AV.kc (· ==d)):=by rw[<-TM];exact St.T2 _ rfl t
  rw[e];exact(h.frame t).ZQ hf (fun _=>rfl) (fun _=>rfl)
 ·intro j oj hj;rw[Xw]at hj
  by_cases e1:id=j
  ·subst e1;rw[if_pos rfl]at hj;cases hj
   have Ns:∀k ys,k≠kk->ZG g kk (some xs) k=some ys->g k=some ys:=fun k ys hk hq=>by rw[d1l _ _ hk]at hq;exact hq
   obtain⟨pl2,tU,N4⟩:∃pl2:List Value->Option (Nat×(Nat×Nat)),pl2 kk=ψ d/\∀k,k≠kk->pl2 k=pl k:=⟨fun k=>if k=kk then ψ d else pl k,by simp,fun k hk=>by simp[hk]⟩;refine⟨b,VK,YX,pl2,h1,hwB,Vk,f4W,h5,WA,fun e he=>?_,(fun k hk=>by cases hk),fun k ys hk=>?_,fun k ys b' q hk hq=>?_,fun k ys k' ys' b' q q' hk R7 hq V0=>?_⟩
   ·right
    by_cases N1:X9 e.key=kk
    ·exact⟨xs,by rw[N1,d0l]⟩
    ·rcases h7 e (hold e he N1)with h|⟨ys,h⟩
     ·rcases Ya with hc|⟨hc,_⟩
      ·rw[hc]at h;cases h;exact absurd rfl N1
      ·rw[hc]at h;cases h
     ·exact⟨ys,by rw[d1l _ _ N1];exact h⟩
   ·by_cases Uw:k=kk
    ·subst Uw;rw[d0l]at hk;cases hk;obtain⟨e,q1,q2,q3⟩:=Hg;refine⟨e,q1,q2,?_⟩;rw[tU,q3]
     exact Y7.mono hI S4 fun b' q hq=>GY b' (by
      rintro rfl
      exact ZS (h.inj d id o _ b' TG ho (.inl ⟨q,hq⟩) (.inl ⟨_,h1⟩)))
    ·obtain⟨e,q1,q2,q3⟩:=h9 k ys (Ns k ys Uw hk);refine⟨e,Zt e q1 (by rw[q2];exact Uw),q2,?_⟩;rw[N4 _ Uw]
     exact q3.mono hI S4 fun b' q hq=>GY b' (by
      rintro rfl
      exact h.Y0.T0 ho (U0 k ys b' q (Ns k ys Uw hk) hq) _ h1)
   ·by_cases Uw:k=kk
    ·rw[Uw,tU]at hq;exact .inl ⟨rfl,q,hq⟩
    ·rw[N4 _ Uw]at hq;exact .inr (U0 k ys b' q (Ns k ys Uw hk) hq)
   ·by_cases Uw:k=kk<;>by_cases NU:k'=kk
    ·rw[Uw,NU]
    ·rw[Uw,tU]at hq;rw[N4 _ NU]at V0;exact(rC k' ys' b' q' q (Ns k' ys' NU R7) V0 hq).elim
    ·rw[N4 _ Uw]at hq;rw[NU,tU]at V0;exact(rC k ys b' q q' (Ns k ys Uw hk) hq V0).elim
    ·rw[N4 _ Uw]at hq;rw[N4 _ NU]at V0;exact TD k ys k' ys' b' q q' (Ns k ys Uw hk) (Ns k' ys' NU R7) hq V0
  ·rw[if_neg e1]at hj;split at hj
   ·cases hj
   ·rename_i SQ
    cases hl:look s.hp j with
    |none=>rw[hl]at hj;cases hj
    |some o1=>
     rw[hl]at hj;simp only[a4G,a5y]at hj;subst hj
     have hblk:∀i,Z2 ψ j i->(setBlock w b (.map VK YX)).heap[i]? =w.heap[i]? :=fun i hi=>GY i (by
      rintro rfl
      exact e1 (h.inj id j _ o1 i ho hl (.inl ⟨_,h1⟩) hi))
     cases o1 with
     |box cs=>
      obtain⟨b2,c,e,g1,g2,g3,g4⟩:=h.YH j _ hl;refine⟨b2,c,e,g1,by rw[hblk b2 (.inl ⟨_,g1⟩)];exact g2,by simpa using g3,fun i x hx=>?_⟩;rw[a0C]at hx
      cases Wx:cs[i]? with
      |none=>rw[Wx]at hx;cases hx
      |some c0=>
       rw[Wx]at hx;cases hx;have h6:=g4 i c0 Wx
       cases c0 with
       |agg l=>exact .junk _
       |Zp l=>exact .junk _
       | _=>exact hf _ _ h6 (by simp) (by simp)
     |gh Z vs cs=>
      obtain⟨g1,g2,g3,g4⟩:=h.YH j _ hl;refine⟨g1,g2.mono hI (fun b hb=> .inr hb) S4 (fun b hb=>hblk b (.inr hb)),by simpa using g3,fun i x hx=>?_⟩;rw[a0C]at hx
      cases Wx:cs[i]? with
      |none=>rw[Wx]at hx;cases hx
      |some c0=>rw[Wx]at hx;cases hx;exact(g4 i c0 Wx).ZQ hf (fun _=>rfl) (fun _=>rfl)
     | _=>exact(h.YH j _ hl).move (by constructor<;>(intros;intro e;cases e)) hI S4 ⟨rfl,fun b hb=> .inr hb⟩ hblk
 ·intro i i' oi oi' x hi VZ hx Vw;obtain⟨n1,q⟩:=back hi hx;obtain⟨n2,q'⟩:=back VZ Vw
  rcases q with⟨u,q1,q2⟩|⟨q1,q2⟩<;>rcases q' with⟨u',SB,Ou⟩|⟨SB,Ou⟩
  ·exact h.inj i i' u u' x q1 SB q2 Ou
  ·exact absurd (h.inj i d u o x q1 TG q2 Ou) n1
  ·exact absurd (h.inj i' d u' o x SB TG Ou q2) n2
  ·rw[q1,SB]
 ·intro i oi x hi hx;rw[Xw]at hi
  by_cases e1:id=i
  ·subst e1;rw[if_pos rfl]at hi;cases hi
   rcases G1.1 hx with hx|⟨k,hx⟩
   ·have:=h.own id _ x ho hx;exact this
   ·rcases h.own d o x TG (.inl ⟨k,hx⟩)with⟨q1,q2⟩|q1
    ·left
     have e:o.org d=id:=by
      cases o with
      |YU org z ys=>
       rcases SR with h|h
       ·cases h
       ·simp only[Ob.org?,a5y]at h;exact h
      |list z ys=>
       have:=E.big d q1;omega
      | _=>cases Xt
     rw[e]at q1 q2;exact⟨q1,q2⟩
    ·exact .inr q1
  ·rw[if_neg e1]at hi;split at hi
   ·cases hi
   ·cases hl:look s.hp i with
    |none=>rw[hl]at hi;cases hi
    |some o1=>
     rw[hl]at hi;simp only[a4G,a5y]at hi;subst hi;rw[Ob.T1];exact h.own i o1 x hl ((o3 (Ne.symm e1)).1 hx)
 ·intro i oi x hi hx;rw[Xw]at hi;rw[Yd]
  by_cases e1:id=i
  ·subst e1;rw[if_pos rfl]at hi;cases hi
   rcases hx with⟨_,k,hx⟩|hx
   ·refine⟨rfl,(h.YH d o TG).lt hx,fun k' e=>?_⟩;exact ZS (h.inj d id o _ x TG ho (.inl ⟨k,hx⟩) (.inl ⟨k',e⟩))
   ·obtain⟨_,q2,q3⟩:=h.Y0 id _ x ho hx;exact⟨rfl,q2,q3⟩
  ·rw[if_neg e1]at hi;split at hi
   ·cases hi
   ·cases hl:look s.hp i with
    |none=>rw[hl]at hi;cases hi
    |some o1=>
     rw[hl]at hi;simp only[a4G,a5y]at hi;subst hi;rw[Ob.VU]
     have hx:ψ.sub i x:=by
      rcases hx with⟨h,_⟩|h
      ·exact absurd h.symm e1
      ·exact h
     exact h.Y0 i o1 x hl hx
 ·intro i hi hm;rw[GY i ?_]
  ·exact h.old i hi hm
  ·rintro rfl
   rcases h.own id _ i ho (.inl ⟨_,h1⟩)with⟨q1,q2⟩|q1
   ·exact hm (.inl ⟨_,q1,q2⟩)
   ·exact E.no hi hm q1
 ·rw[Yd];exact h.grow
end
section
variable{P:Program}{E:En}{n:Nat}{ψ:Pl}{s:St}{a:Act}{w:World}
variable{dst:Option Nat}{ty:TypeId}{pos:String}{af:Array Edge}{g:Option (Nat×Bool)}{r:Wu}{d:Nat}{K:St->AV->Prop}
theorem e7o{x:AV}{id:Nat}{sk:Sk}{sz:Nat}{gm:List Value->Option (List (List IV))}{hole:Option (List Value)}(hx:s.QU x=some (id,sk,sz,gm,hole)):
 x= .mpr id/\look s.hp id=some (.YJ sk sz gm hole):=by
 unfold St.QU at hx;split at hx
 ·split at hx
  ·rename_i h;simp only[a5y,a6J]at hx;obtain⟨rfl,rfl,rfl,rfl,rfl⟩:=hx;exact⟨rfl,h⟩
  ·cases hx
 ·cases hx
theorem e8o{t k' e':TypeId}{m k:Operand}{sk:Sk}(hu:P.underlying t=some (.map k' e'))(p1:Sd P 20 k'=some sk.2.1)(p2:X7 P k'=some sk.2.1.length)
 (Xm:Xl (a.eval k)=some (XZ P k',sk.2.1)) {b clock:Nat} {es:Array MapEntry} (hm:a.eval m= .map (some b)) (hh:w.heap[b]? =some (.map es clock)) {r:Option (Nat×Value)} {v:Value}
 (h1:(Instr.findKey k' (a.eval k) es.toList).run P w= .ok r w) (h2:match r with|some (_,v')=>v'=v|none=>(zeroValue e').run P w= .ok v w):
 (execOp a.eval ⟨dst, .lookup t m k false,ty,pos,af,g⟩).run P w= .ok (.value v) w:=by
 simp only[execOp,Sem.run_bind]
 have:(Instr.lookup t (a.eval m) (a.eval k) false).run P w= .ok v w:=by
  unfold Instr.lookup;rw[Sem.run_bind,Vm.run_underlying w hu,Result.andThen_ok,hm];simp only[Sem.run_bind,Sem.run_pure,Ja hh,Ha p1 p2 Xm es.isEmpty,Result.andThen_ok,h1]
  cases r with
  |none=>simp only[Sem.run_bind,h2,Result.andThen_ok,Sem.run_pure];rfl
  |some p=>obtain⟨i,v'⟩:=p;simp only at h2;subst h2;simp only[Sem.run_pure,Result.andThen_ok];rfl
 rw[this];rfl
theorem e9o{sz ZB:Nat}{v:Value}(h:Iz ZB v= .nil sz):v= .slice none 0 0:=by
 unfold Iz at h;split at h
 ·rfl
 ·cases h
 ·cases h
 ·cases h
theorem e0p{t k' e':TypeId}{m k:Operand}{ok:Bool}{sk:Sk}{z:List AV}(hu:P.underlying t=some (.map k' e'))(UM:Nt P k' e'=some sk)(hz:Q6 P e'=some z)
 (Q0:((P.info? e').bind (·.zero)).map SU=some (XZ P e')) (hd:d<1000) (h:Z7 E n ψ s a w) (hk:ZP P d s K (.UT sk z m k ok)):
 ∃v,(∀u,Ext w u->(execOp a.eval ⟨dst, .lookup t m k ok,ty,pos,af,g⟩).run P u= .ok (.value v) u)/\∃ZF s' av,Z7 E n ZF s' a w/\K s' av/\ZK (Im E ZF s'.hp) ZF s'.hp w av v:=by
 simp only[ZP]at hk
 cases I9:(s.drop d).QU ((s.drop d).ev m)with
 |none=>
  rw[I9]at hk;obtain⟨v,av,h1,h2,h3⟩:=d1g (dst:=dst) (ty:=ty) (pos:=pos) (af:=af) (g:=g) hu UM hz Q0 h hk;exact⟨v,h1,ψ,s,av,h,h2,h3⟩
 |some q=>
  obtain⟨id,Xn,sz,gm,hole⟩:=q;rw[I9]at hk;obtain⟨p1,p2,p3,p4⟩:=d8f UM;have hf:=h.drop (id:=d) hd;have Y6:=JY s d;generalize s.drop d=s1 at hk hf Y6 I9;obtain⟨Hb,ho⟩:=e7o I9;have hm:=hf.ev m;have Hd:=hf.ev k
  dsimp only at hk
  split at hk
  ·rename_i Tm kk ZB RN;obtain⟨rfl,rfl,rfl,rfl,rfl,hk⟩:=hk;obtain⟨Xm,UD⟩:=d5f Hd RN;rw[p3]at Xm;rw[Hb]at hm;obtain⟨b,es,clock,pl,h1,h2,h3,h4,h5,h6,h7,h8,h9,U0,TD⟩:=hf.YH id _ ho
   have Jb:a.eval m= .map (some b):=by
    generalize a.eval m=vm at hm
    cases hm with
    |mpr _ b' q o' XQ XB=>rw[h1]at XB;cases XB;rfl
   have Zt:∀e∈es.toList,Xl e.key=some (XZ P k',Xn.2.1):=fun e he=>by rw[<-p3];exact(h4 e he).1
   by_cases hex:∃e∈es.toList,e.key=a.eval k
   ·obtain⟨e,he,q3⟩:=hex
    have XC:∀u,Ext w u->(execOp a.eval ⟨dst, .lookup t m k false,ty,pos,af,g⟩).run P u= .ok (.value e.val) u:=by
     intro u hx
     rcases rK (w:=u) p1 p2 Xm es.toList Zt with⟨q1,q2⟩|⟨j,e',q1,q2,q4⟩
     ·exact absurd q3 (q2 e he)
     ·have:e'=e:=GD h6 e' (a8y q2) e he (by rw[q3,q4]);subst this;exact e8o hu p1 p2 Xm Jb (hx.heap h2) q1 rfl
    rcases h7 e he with hc|⟨xs,hc⟩
    ·cases hc
    ·rw[q3,UD]at hc;rw[hc]at hk;obtain⟨Zn,r1,r2⟩:=hf.tV hd Y6 ho hc h1 h2 he (by rw[q3];exact UD);exact⟨_,XC,Zn,_,_,r1,hk,r2⟩
   ·have hgn:gm kk=none:=by
     cases hc:gm kk with
     |none=>rfl
     |some c=>
      obtain⟨e,he,g1,_⟩:=h9 kk c hc;exact absurd ⟨e,he,e7n (Zt e he) Xm (by rw[g1,UD])⟩ hex
    rw[hgn]at hk;obtain⟨i,zv,z1,z2,QP⟩:=Fl hz;rw[z1]at Q0;simp only[a5J,z2,a4G,a5y]at Q0
    have hzv:zv= .slice none 0 0:=by
     have S2:=d3D (Q0.trans (p4.symm.trans h5));rw[S2]at QP;have QP:[AV.nil ZB]=O9 [zv] (sj P 20 e'):=QP
     cases hcs:sj P 20 e' with
     |nil=>rw[hcs]at QP;simp only[O9,a4S,and_true]at QP;exact e9o QP.symm
     |cons x y=>rw[hcs]at QP;simp only[O9,a4S,and_true]at QP;exact e9o QP.symm
    subst hzv;refine⟨_,fun u hx=>?_,ψ,s1,_,hf,hk, .nil _⟩
    rcases rK (w:=u) p1 p2 Xm es.toList Zt with⟨q1,q2⟩|⟨j,e',q1,q2,q4⟩
    ·exact e8o hu p1 p2 Xm Jb (hx.heap h2) q1 (IB z1 z2 u)
    ·exact absurd ⟨e',a8y q2,q4⟩ hex
  ·exact hk.elim
theorem e1p{t k' e':TypeId}{m k:Operand}{ok:Bool}{sk:Sk}{z:List AV}(hu:P.underlying t=some (.map k' e'))(UM:Nt P k' e'=some sk)(hz:Q6 P e'=some z)
 (Q0:((P.info? e').bind (·.zero)).map SU=some (XZ P e')) (hd:d<1000) (h:Z7 E n ψ s a w) (hk:ZP P d s K (.UT sk z m k ok)):
 X6 P E n ⟨dst, .lookup t m k ok,ty,pos,af,g⟩ a w K:=by
 obtain⟨v,h1,ZF,s',av,h2,h3,h4⟩:=e0p (dst:=dst) (ty:=ty) (pos:=pos) (af:=af) (g:=g) hu UM hz Q0 hd h hk;exact SH (h1 w (Ext.refl w)) h3 h2 h4
theorem e2p{t k' e':TypeId}{m k x:Operand}{sk:Sk}(hu:P.underlying t=some (.map k' e'))(UM:Nt P k' e'=some sk)(h:Z7 E n ψ s a w)(hk:ZP P d s K (.YI sk m k x))
 {o:Op} (NR:o= .mapUpdate t m k x\/o= .insert t m k x):X6 P E n ⟨dst,o,ty,pos,af,g⟩ a w K:=by
 simp only[ZP]at hk
 cases I9:s.QU (s.ev m)with
 |none=>rw[I9]at hk;exact b5t hu UM h hk NR
 |some q=>
  obtain⟨id,Xn,sz,gm,hole⟩:=q;rw[I9]at hk;obtain⟨p1,p2,p3,p4⟩:=d8f UM;obtain⟨Hb,ho⟩:=e7o I9;have hm:=h.ev m;have Hd:=h.ev k;have hx:=h.ev x
  dsimp only at hk
  split at hk
  ·rename_i Tm kk d' ZB len RN NP;split at hk
   ·rename_i o' TG;split at hk
    ·rename_i z0 xs Xt;obtain⟨rfl,rfl,rfl,NL,ZS,rfl,SR,Ya,hk⟩:=hk;obtain⟨Xm,UD⟩:=d5f Hd RN;rw[p3]at Xm;rw[Hb]at hm;rw[NP]at hx;obtain⟨b,es,clock,pl,h1,h2,h3,h4,h5,h6,h7,h8,h9,U0,TD⟩:=h.YH id _ ho
     have Lm:o'.T5=some (ZB,xs):=by
      obtain⟨o2,m2,q1,q2,_⟩:=Jg hx;rw[TG]at q1;cases q1;have:=c3U Xt;rw[q2]at this;simp only[a5y,a6J]at this;rw[Xt,this.1]
     have Jb:a.eval m= .map (some b):=by
      generalize a.eval m=vm at hm
      cases hm with
      |mpr _ b' q o' XQ XB=>rw[h1]at XB;cases XB;rfl
     have Zt:∀e∈es.toList,Xl e.key=some (XZ P k',Xn.2.1):=fun e he=>by rw[<-p3];exact(h4 e he).1
     have run:∀w',(Instr.mapUpdate t (.map (some b)) (a.eval k) (a.eval x)).run P w= .ok () w'->(execOp a.eval ⟨dst,o,ty,pos,af,g⟩).run P w= .ok .skip w':=by
      intro w' XC
      rcases NR with rfl|rfl<;>simp only[execOp,Jb,Sem.run_bind,XC,Result.andThen_ok,Sem.run_pure]
     have f7t:SU (a.eval x)=Xn.2.2:=by
      rw[h5]
      have:∀L v,ZK (Im E ψ s.hp) ψ s.hp w (.sl d' ZB 0 L) v->SU v=false:=by intro L v h;cases h<;>rfl
      exact this _ _ hx
     rcases rK (w:=w) p1 p2 Xm es.toList Zt with⟨q1,q2⟩|⟨j,e,q1,q2,q3⟩
     ·have Y6:∀e∈es.toList,X9 e.key≠kk:=fun e he Uw=>q2 e he (e7n (Zt e he) Xm (by rw[Uw,UD]))
      obtain⟨Zn,XM⟩:=h.ra (YX:=clock+1) (VK:=es.push {key:=a.eval k,val:=a.eval x,born:=clock}) NL ZS ho TG Lm SR Ya hx h1 h2 (h3.push _ rfl)
       (by
        rw[a5U,a6M,b5m];refine⟨h6,by simp,?_⟩;intro u hu v hv huv;rw[c2F,a2z]at hv;obtain⟨e',Xr,e2⟩:=a3E.1 hu
        exact Y6 e' Xr (by rw[e2,huv,hv];exact UD))
       (fun e he=>by
        rw[a5U,a1E,a2z]at he
        rcases he with he|rfl
        ·exact h4 e he
        ·exact⟨by rw[p3];exact Xm,f7t⟩)
       ⟨{key:=a.eval k,val:=a.eval x,born:=clock},by simp,UD,rfl⟩
       (fun e he N1=>by
        rw[a5U,a1E,a2z]at he
        rcases he with he|rfl
        ·exact he
        ·exact absurd UD N1)
       (fun e he _=>by rw[a5U];exact a6O _ he)
      refine sw (run _ ?_) hk XM;unfold Instr.mapUpdate;simp only[Sem.run_bind,Vm.run_underlying w hu,Result.andThen_ok,Ja h2,Ha p1 p2 Xm,q1,D7 _ h2];rfl
     ·have he:e∈es.toList:=a8y q2
      have Qd:es[j]? =some e:=by rw[<-a9C];exact q2
      have N1:X9 e.key=kk:=by rw[q3];exact UD
      have RP:∀i,(es.modify j fun e=>{e with val:=a.eval x})[i]? =if j=i then(es[i]?).map (fun e=>{e with val:=a.eval x})else es[i]? :=by
       intro i;rw[a1Q]
      have UW:∀e'∈(es.modify j fun e=>{e with val:=a.eval x}).toList,e'={e with val:=a.eval x}\/e'∈es.toList:=by
       intro e' Xr;obtain⟨i,hi⟩:=a9B Xr;rw[a9C,RP]at hi;split at hi
       ·rename_i WB;subst WB;rw[Qd]at hi;simp only[a4G,a5y]at hi;exact .inl hi.symm
       ·right;rw[<-a9C]at hi;exact a8y hi
      have Hf:(es.modify j fun e=>{e with val:=a.eval x}).toList.map (fun e=>X9 e.key)=es.toList.map (fun e=>X9 e.key):=by
       apply b9j;intro i;rw[a0C,a0C,a9C,RP,a9C];split
       ·cases es[i]? <;>rfl
       ·rfl
      obtain⟨Zn,XM⟩:=h.ra (YX:=clock) (VK:=es.modify j fun e=>{e with val:=a.eval x}) NL ZS ho TG Lm SR Ya hx h1 h2 (h3.modify j (fun e=>{e with val:=a.eval x}) (fun _=>rfl))
       (by rw[Hf];exact h6)
       (fun e' Xr=>by
        rcases UW e' Xr with rfl|Xr
        ·exact⟨(h4 e he).1,f7t⟩
        ·exact h4 e' Xr)
       ⟨{e with val:=a.eval x},by
        refine a8y (i:=j) ?_
        rw[a9C,RP,if_pos rfl,Qd];rfl,N1,rfl⟩
       (fun e' Xr f6f=>by
        rcases UW e' Xr with rfl|Xr
        ·exact absurd N1 f6f
        ·exact Xr)
       (fun e' Xr f6f=>by
        obtain⟨i,hi⟩:=a9B Xr;refine a8y (i:=i) ?_;rw[a9C]at hi⊢;rw[RP,if_neg ?_]
        ·exact hi
        ·rintro rfl;rw[Qd]at hi;cases hi
         exact f6f N1)
      have Qe:(es.modify j fun e=>{e with key:=a.eval k,val:=a.eval x})=es.modify j fun e=>{e with val:=a.eval x}:=by
       apply b3n;apply b9j;intro i;rw[a9C,a9C,a1Q,a1Q];split
       ·rename_i WB;subst WB;rw[Qd];simp[q3]
       ·rfl
      have YL:(Instr.keyThatStays e.key (a.eval k)).run P w= .ok (a.eval k) w:=by
       unfold Instr.keyThatStays;simp only[q3,b3s Xm,if_true,Sem.run_pure]
      refine sw (run _ ?_) hk XM;unfold Instr.mapUpdate;simp only[Sem.run_bind,Vm.run_underlying w hu,Result.andThen_ok,Ja h2,Ha p1 p2 Xm,q1,Qd,a4G,a2L,YL,Qe,D7 _ h2];rfl
    ·exact hk.elim
   ·exact hk.elim
  ·exact hk.elim
theorem e3p(s:St){id:Nat}{sk:Sk}(sz:Nat)(UM:sk.2.2=false)(ho:look s.hp id=some (.map sk fun _=>none)):Le s (s.add id (.YJ sk sz (fun _=>none) none)):=by
 rintro E n a w ⟨ψ,h⟩;obtain⟨b,es,clock,h1,h2,h3,m1,m2,m3,m4⟩:=h.YH id _ ho
 have Fc:es.toList=[]:=by
  cases hc:es.toList with
  |nil=>rfl
  |cons e r=>obtain⟨c,D0⟩:=m2 e (by rw[hc];simp);cases D0
 refine⟨ψ,h.MH (o':= .YJ sk sz (fun _=>none) none) (k:=(0,0)) ho (Ob.le_none rfl) rfl (by simp[Ob.multi]) h1 (fun _ _=>rfl) rfl ⟨rfl,rfl,rfl,a8F _⟩
  (fun _ _=>⟨b,es,clock,fun _=>none,h1,h2,h3,m1,UM,m3,?_,by simp,by simp,by simp,by simp⟩)⟩
 intro e he;rw[Fc]at he;cases he
end
section
variable{P:Program}{E:En}{n:Nat}{ψ:Pl}{s:St}{a:Act}{w:World}
variable{dst:Option Nat}{ty:TypeId}{pos:String}{af:Array Edge}{g:Option (Nat×Bool)}{r:Wu}{d:Nat}{K:St->AV->Prop}
theorem Z7.G2(h:Z7 E n ψ s a w){id d:Nat}(hd:d<1000)(Y6:look s.hp d=none){sz:Nat}{xs:List (List (List IV))}
 (ho:look s.hp id=some (.ZI sz xs none)) {i0:Nat} {ys:List (List IV)} (hg:xs[i0]? =some ys) {b:Nat} {k:Nat×Nat} (hb:ψ id=some (b,k)):
 ∃c e,w.heap[b]? =some (.cells c e (0,0))/\k.1+i0<c.size/\∃Zn,Z7 E n Zn ((s.add id (.ZI sz xs (some i0))).add d (.YU id sz ys)) a w∧
  ZK (Im E Zn ((s.add id (.ZI sz xs (some i0))).add d (.YU id sz ys)).hp) Zn ((s.add id (.ZI sz xs (some i0))).add d (.YU id sz ys)).hp w (.sl d sz 0 ys.length) (c.getD (k.1+i0) undef):=by
 obtain⟨h0,b0,k0,c0,e0,pl,h1,h2,h3,h4,h9,U0,TD⟩:=h.YH id _ ho;rw[h1]at hb;cases hb;have Y7:=h9 i0 ys hg (by simp);have Zb:=(a7y.1 hg).1;refine⟨c0,e0,h2,by omega,?_⟩
 have ZS:id≠d:=by rintro rfl;rw[ho]at Y6;cases Y6
 generalize hp:pl i0=p at Y7
 have G7:∀b q,p=some (b,q)->ψ.sub id b:=fun b q e=>U0 i0 ys b q hg (by simp) (hp.trans e)
 let Zn:Pl:=⟨fun j=>if j=d then p else ψ j,fun j b=>if j=id then ψ.sub id b/\∀q,p≠some (b,q)else j≠d/\ψ.sub j b⟩
 generalize TM:(s.add id (.ZI sz xs (some i0))).add d (.YU id sz ys)=s2
 have Xw:∀j,look s2.hp j=if d=j then some (.YU id sz ys)else if id=j then some (.ZI sz xs (some i0))else look s.hp j:=by
  intro j;rw[<-TM,WX,WX]
 have o1:∀{b},Z2 Zn d b->∃q,p=some (b,q):=by
  intro b hb
  rcases hb with⟨q,hb⟩|hb
  ·exact⟨q,by simpa[Zn]using hb⟩
  ·simp[Zn,Ne.symm ZS]at hb
 have o2:∀{b},Z2 Zn id b↔(∃k,ψ id=some (b,k))\/(ψ.sub id b/\∀q,p≠some (b,q)):=by
  intro b;simp[Z2,Zn,ZS]
 have o3:∀{j b},j≠d->j≠id->(Z2 Zn j b↔Z2 ψ j b):=by
  intro j b hj1 Qv;simp[Z2,Zn,hj1,Qv]
 have G1:∀{b},Z2 Zn id b->Z2 ψ id b:=by
  intro b hb
  rcases o2.1 hb with h|h
  ·exact .inl h
  ·exact .inr h.1
 have od:∀{b},Z2 Zn d b->Z2 ψ id b:=by
  intro b hb;obtain⟨q,hq⟩:=o1 hb;exact .inr (G7 b q hq)
 have back:∀{j o b},look s2.hp j=some o->Z2 Zn j b->∃j' o',look s.hp j'=some o'/\Z2 ψ j' b/\(j'=if j=d then id else j):=by
  intro j o b hj hb;rw[Xw]at hj
  by_cases e1:d=j
  ·subst e1;exact⟨id,_,ho,od hb,by simp⟩
  ·rw[if_neg e1]at hj
   by_cases e2:id=j
   ·subst e2;exact⟨id,_,ho,G1 hb,by simp[ZS]⟩
   ·rw[if_neg e2]at hj;exact⟨j,o,hj,(o3 (Ne.symm e1) (Ne.symm e2)).1 hb,by simp[Ne.symm e1]⟩
 have held:∀b,ZD Zn s2.hp b->ZD ψ s.hp b:=by
  rintro b ⟨j,o,hj,hb⟩;obtain⟨j',o',q1,q2,_⟩:=back hj hb;exact⟨j',o',q1,q2⟩
 have hI:∀b,b<w.heap.size->Im E ψ s.hp b->Im E Zn s2.hp b:=fun b _ hi=>⟨hi.1,fun hh=>hi.2 (held b hh)⟩
 have WC:Vt ψ Zn s.hp s2.hp:=by
  intro j o hj
  have SQ:j≠d:=by rintro rfl;rw[Y6]at hj;cases hj
  refine⟨?_,by simp[Zn,SQ]⟩
  by_cases e2:id=j
  ·subst e2;rw[ho]at hj;cases hj;exact⟨_,by rw[Xw,if_neg (Ne.symm SQ),if_pos rfl],Ob.Se rfl rfl (a8F _)⟩
  ·exact⟨o,by rw[Xw,if_neg (Ne.symm SQ),if_neg e2];exact hj,o.le_refl⟩
 have P7:Zn d=p:=by simp[Zn]
 have G0:look s2.hp d=some (.YU id sz ys):=by rw[Xw,if_pos rfl]
 refine⟨Zn,{size:=h.size,defers:=h.defers.mono hI (fun _ _ _=>rfl),frame:=fun t=>?_,YH:=?_,inj:=?_,own:=?_,Y0:=?_,par:=?_,old:=h.old,grow:=h.grow,same:=h.same},?_⟩
 ·have:s2.get t=s.get t:=by rw[<-TM];rfl
  rw[this];exact(h.frame t).mono hI (fun _ _ _=>rfl) WC
 ·intro j o hj;rw[Xw]at hj
  by_cases e1:d=j
  ·subst e1;rw[if_pos rfl]at hj;cases hj;obtain⟨QO,⟨q1,q2,q3⟩|⟨b',k',cap,ad,q1,q2,q3,q4,q5,q6,c,e,r1,r2,r3,r4⟩⟩:=Y7
   ·exact⟨QO, .inl ⟨by rw[P7];exact q1,q2⟩⟩
   ·exact⟨QO, .inr ⟨b',k',c,e,by rw[P7];exact q1,r1,r2,r3,fun i j x hx=>(r4 i j x hx).mono hI (fun _ _ _=>rfl)⟩⟩
  ·rw[if_neg e1]at hj
   by_cases e2:id=j
   ·subst e2;rw[if_pos rfl]at hj;cases hj;refine⟨fun j hj=>by cases hj;exact(a7y.1 hg).1,b,k,c0,e0,pl,by simp[Zn,ZS];exact h1,h2,h3,h4,fun i x hx hh=>?_,fun i x b' q hx hh hq=>?_,fun i x i' x' b' q q' hx hh Vw hh' hq V0=>?_⟩
    ·exact(h9 i x hx (by simp)).mono hI (fun _ _ _=>rfl) (fun _ _ _=>rfl)
    ·have f4O:i≠i0:=by rintro rfl;exact hh rfl
     simp only[Zn,if_true];exact⟨U0 i x b' q hx (by simp) hq,fun q' e=>f4O (TD i x i0 ys b' q q' hx (by simp) hg (by simp) hq (hp.trans e))⟩
    ·exact TD i x i' x' b' q q' hx (by simp) Vw (by simp) hq V0
   ·rw[if_neg e2]at hj;exact(h.YH j o hj).mono hI (fun _ _ _=>rfl) WC ⟨by simp[Zn,Ne.symm e1],fun b hb=>by simp only[Zn,if_neg (Ne.symm e2)];exact⟨Ne.symm e1,hb⟩⟩ (fun _ _=>rfl)
 ·intro i i' oi oi' b hi VZ hb XB;obtain⟨j,oj,q1,q2,q3⟩:=back hi hb;obtain⟨j',oj',SB,Ou,Nz⟩:=back VZ XB;have IK:=h.inj j j' oj oj' b q1 SB q2 Ou
  have N7:∀{b},Z2 Zn d b->Z2 Zn id b->False:=by
   intro b h1 h2;obtain⟨q,hq⟩:=o1 h1
   rcases o2.1 h2 with⟨k,h2⟩|⟨_,h2⟩
   ·exact h.Y0.T0 ho (G7 b q hq) k h2
   ·exact h2 q hq
  by_cases e1:i=d
  ·by_cases e2:i'=d
   ·rw[e1,e2]
   ·rw[if_pos e1]at q3;rw[if_neg e2]at Nz
    have:i'=id:=by rw[<-Nz, <-IK,q3]
    subst e1;subst this;exact(N7 hb XB).elim
  ·by_cases e2:i'=d
   ·rw[if_neg e1]at q3;rw[if_pos e2]at Nz
    have:i=id:=by rw[<-q3,IK,Nz]
    subst e2;subst this;exact(N7 XB hb).elim
   ·rw[if_neg e1]at q3;rw[if_neg e2]at Nz;rw[<-q3, <-Nz,IK]
 ·intro i oi b hi hb;rw[Xw]at hi
  by_cases e1:d=i
  ·subst e1;rw[if_pos rfl]at hi;cases hi;have:=h.own id _ b ho (od hb);exact this
  ·rw[if_neg e1]at hi
   by_cases e2:id=i
   ·subst e2;rw[if_pos rfl]at hi;cases hi;have:=h.own id _ b ho (G1 hb);exact this
   ·rw[if_neg e2]at hi;exact h.own i oi b hi ((o3 (Ne.symm e1) (Ne.symm e2)).1 hb)
 ·intro i oi b hi hb;rw[Xw]at hi
  by_cases e1:d=i
  ·subst e1;simp[Zn,Ne.symm ZS]at hb
  ·rw[if_neg e1]at hi
   by_cases e2:id=i
   ·subst e2;rw[if_pos rfl]at hi;cases hi
    have hb:ψ.sub id b:=by simp only[Zn,if_true]at hb;exact hb.1
    obtain⟨_,r2,r3⟩:=h.Y0 id _ b ho hb;exact⟨rfl,r2,fun k=>by simp only[Zn,if_neg ZS];exact r3 k⟩
   ·rw[if_neg e2]at hi
    have hb:ψ.sub i b:=by simp only[Zn,if_neg (Ne.symm e2)]at hb;exact hb.2
    obtain⟨r1,r2,r3⟩:=h.Y0 i oi b hi hb;exact⟨r1,r2,fun k=>by simp only[Zn,if_neg (Ne.symm e1)];exact r3 k⟩
 ·intro i hi
  have:i≠d:=by have:=E.big i hi;omega
  simp only[Zn,if_neg this];exact h.par i hi
 ·obtain⟨QO,⟨q1,q2,q3⟩|⟨b',k',cap,ad,q1,q2,q3,q4,q5,q6,_⟩⟩:=Y7
  ·subst q2;rw[q3];exact .U4 d sz _ 0 G0 rfl (by rw[P7];exact q1)
  ·rw[q2];exact .sl d sz 0 ys.length b' k' cap ad _ ys.length G0 rfl (by omega) (by rw[P7];exact q1) (fun hc=>by rw[q3 hc];simp) q4 (by simpa using q5) q6
theorem Z7.oX(h:Z7 E n ψ s a w){id d:Nat}(hd:d<1000)(ZS:d≠id){sz:Nat}{xs:List (List (List IV))}{i0:Nat}
 (ho:look s.hp id=some (.ZI sz xs (some i0))) {ys:List (List IV)} {o:Ob} (TG:look s.hp d=some o) (Xt:o.T5=some (sz,ys)) (SR:o.org?=none\/o.org?=some id)
 {v:Value} (hv:ZK (Im E ψ s.hp) ψ s.hp w (.sl d sz 0 ys.length) v) {b:Nat} {k:Nat×Nat} {c c':Array Value} {e:TypeId} (hb:ψ id=some (b,k)) (hh:w.heap[b]? =some (.cells c e (0,0)))
 {w':World} (GY:∀i,i≠b->w'.heap[i]? =w.heap[i]?) (Yd:w'.heap.size=w.heap.size) (RI:w'.os=w.os/\w'.tape=w.tape/\w'.output=w.output/\w.drawn<=w'.drawn)
 (hwB:w'.heap[b]? =some (.cells c' e (0,0))) (hcs:c'.size=c.size) (UZ:c'.getD (k.1+i0) undef=v) (VB:∀i,i≠i0->c'.getD (k.1+i) undef=c.getD (k.1+i) undef):
 ∃Zn,Z7 E n Zn ((s.kill d).add id (.ZI sz (xs.set i0 ys) none)) a w':=by
 obtain⟨h0,b1,k1,c1,e1',pl,h1,h2,h3,h4,h9,U0,TD⟩:=h.YH id _ ho;rw[h1]at hb;cases hb;rw[h2]at hh;cases hh;have Zb:=h0 i0 rfl;have Y7:=d2l Xt TG (h.YH d o TG) hv;have hmul:o.multi=false:=c6U Xt
 let Zn:Pl:=⟨fun j=>ψ j,fun j b=>(j=id/\∃k,ψ d=some (b,k))\/ψ.sub j b⟩
 generalize TM:(s.kill d).add id (.ZI sz (xs.set i0 ys) none)=s2
 have Xw:∀j,look s2.hp j=if id=j then some (.ZI sz (xs.set i0 ys) none)else if j=d then none else(look s.hp j).map (Ob.ZQ (AV.kc (· ==d))):=by
  intro j;rw[<-TM,WX,d3l]
 have G1:∀{b},Z2 Zn id b↔Z2 ψ id b\/∃k,ψ d=some (b,k):=by
  intro b;simp only[Z2,Zn,true_and];constructor
  ·rintro(h|h|h)
   ·exact .inl (.inl h)
   ·exact .inr h
   ·exact .inl (.inr h)
  ·rintro((h|h)|h)
   ·exact .inl h
   ·exact .inr (.inr h)
   ·exact .inr (.inl h)
 have o3:∀{j b},j≠id->(Z2 Zn j b↔Z2 ψ j b):=by
  intro j b hj;simp[Z2,Zn,hj]
 have back:∀{j o2 b},look s2.hp j=some o2->Z2 Zn j b->j≠d/\((∃o',look s.hp j=some o'/\Z2 ψ j b)\/(j=id/\Z2 ψ d b)):=by
  intro j o2 b hj hb;rw[Xw]at hj
  by_cases e1:id=j
  ·subst e1;refine⟨Ne.symm ZS,?_⟩
   rcases G1.1 hb with hb|⟨k,hb⟩
   ·exact .inl ⟨_,ho,hb⟩
   ·exact .inr ⟨rfl, .inl ⟨k,hb⟩⟩
  ·rw[if_neg e1]at hj;split at hj
   ·cases hj
   ·rename_i SQ
    cases hl:look s.hp j with
    |none=>rw[hl]at hj;cases hj
    |some o'=>exact⟨SQ, .inl ⟨o',rfl,(o3 (Ne.symm e1)).1 hb⟩⟩
 have held:∀b,ZD Zn s2.hp b->ZD ψ s.hp b:=by
  rintro b ⟨j,o2,hj,hb⟩;obtain⟨_,⟨o',q1,q2⟩|⟨_,q2⟩⟩:=back hj hb
  ·exact⟨j,o',q1,q2⟩
  ·exact⟨d,o,TG,q2⟩
 have hB:ZD ψ s.hp b:=⟨id,_,ho, .inl ⟨_,h1⟩⟩
 have hI:∀i,i<w.heap.size->Im E ψ s.hp i->Im E Zn s2.hp i:=fun i _ hi=>⟨hi.1,fun hh=>hi.2 (held i hh)⟩
 have S4:∀i,i<w.heap.size->Im E ψ s.hp i->w'.heap[i]? =w.heap[i]? :=fun i _ hi=>GY i (fun e=>hi.2 (e▸hB))
 have hk:c0I (· ==d) ψ Zn s.hp s2.hp:=by
  intro j oj hj OP
  have SQ:j≠d:=by simpa using hj
  refine⟨?_,rfl⟩
  by_cases e1:id=j
  ·subst e1;rw[ho]at OP;cases OP;exact⟨_,by rw[Xw,if_pos rfl],Ob.Se rfl rfl (by simp)⟩
  ·exact⟨_,by rw[Xw,if_neg e1,if_neg SQ,OP];rfl,Ob.SA _ oj⟩
 have hf:=c1I (p:=(· ==d)) hI S4 hk
 have rC:∀i x b' q q',xs[i]? =some x->i≠i0->pl i=some (b',q)->ψ d=some (b',q')->False:=by
  intro i x b' q q' hx hi hq V0;exact ZS (h.inj d id o _ b' TG ho (.inl ⟨q',V0⟩) (.inr (U0 i x b' q hx (by simp[Ne.symm hi]) hq)))
 classical
 refine⟨Zn,{size:=h.size,defers:=h.defers.mono hI S4,frame:=fun t=>?_,YH:=?_,inj:=?_,own:=?_,Y0:=?_,par:=h.par,old:=?_,grow:=?_,same:=⟨RI.1.trans h.same.1,RI.2.1.trans h.same.2.1,RI.2.2.1.trans h.same.2.2.1,a9L h.same.2.2.2 RI.2.2.2⟩}⟩
 ·have e:s2.get t=(s.get t).ZQ (AV.kc (· ==d)):=by rw[<-TM];exact St.T2 _ rfl t
  rw[e];exact(h.frame t).ZQ hf (fun _=>rfl) (fun _=>rfl)
 ·intro j oj hj;rw[Xw]at hj
  by_cases e1:id=j
  ·subst e1;rw[if_pos rfl]at hj;cases hj
   have Ns:∀i x,i≠i0->(xs.set i0 ys)[i]? =some x->xs[i]? =some x:=fun i x hi hx=>by rw[b6T]at hx;rw[if_neg (Ne.symm hi)]at hx;exact hx
   have hg0:∀x,(xs.set i0 ys)[i0]? =some x->x=ys:=fun x hx=>by rw[b6T,if_pos rfl,if_pos Zb]at hx;exact(c0i hx).symm
   have GX:∀i,i≠i0->(some i0:Option Nat)≠some i:=fun i hi e=>hi (c0i e).symm
   refine⟨(fun j hj=>by cases hj),b,k,c',e,(fun i=>if i=i0 then ψ d else pl i),h1,hwB,by rw[hcs];exact h3,by rw[List.length_set];exact h4,fun i x hx _=>?_,fun i x b' q hx _ hq=>?_,fun i x i' x' b' q q' hx _ Vw _ hq V0=>?_⟩
   ·by_cases hi:i=i0
    ·subst hi;rw[hg0 x hx];simp only[if_true];rw[UZ]
     exact Y7.mono hI S4 fun b' q hq=>GY b' (by
      rintro rfl
      exact ZS (h.inj d id o _ b' TG ho (.inl ⟨q,hq⟩) (.inl ⟨_,h1⟩)))
    ·simp only[if_neg hi];rw[VB i hi]
     exact(h9 i x (Ns i x hi hx) (GX i hi)).mono hI S4 fun b' q hq=>GY b' (by
      rintro rfl
      exact h.Y0.T0 ho (U0 i x b' q (Ns i x hi hx) (GX i hi) hq) _ h1)
   ·by_cases hi:i=i0
    ·simp only[if_pos hi]at hq;exact .inl ⟨rfl,q,hq⟩
    ·simp only[if_neg hi]at hq;exact .inr (U0 i x b' q (Ns i x hi hx) (GX i hi) hq)
   ·by_cases hi:i=i0<;>by_cases VZ:i'=i0
    ·rw[hi,VZ]
    ·simp only[if_pos hi]at hq;simp only[if_neg VZ]at V0;exact(rC i' x' b' q' q (Ns i' x' VZ Vw) VZ V0 hq).elim
    ·simp only[if_neg hi]at hq;simp only[if_pos VZ]at V0;exact(rC i x b' q q' (Ns i x hi hx) hi hq V0).elim
    ·simp only[if_neg hi]at hq;simp only[if_neg VZ]at V0;exact TD i x i' x' b' q q' (Ns i x hi hx) (GX i hi) (Ns i' x' VZ Vw) (GX i' VZ) hq V0
  ·rw[if_neg e1]at hj;split at hj
   ·cases hj
   ·rename_i SQ
    cases hl:look s.hp j with
    |none=>rw[hl]at hj;cases hj
    |some o1=>
     rw[hl]at hj;simp only[a4G,a5y]at hj;subst hj
     have hblk:∀i,Z2 ψ j i->w'.heap[i]? =w.heap[i]? :=fun i hi=>GY i (by
      rintro rfl
      exact e1 (h.inj id j _ o1 i ho hl (.inl ⟨_,h1⟩) hi))
     cases o1 with
     |box cs=>
      obtain⟨b2,c,e,g1,g2,g3,g4⟩:=h.YH j _ hl;refine⟨b2,c,e,g1,by rw[hblk b2 (.inl ⟨_,g1⟩)];exact g2,by simpa using g3,fun i x hx=>?_⟩;rw[a0C]at hx
      cases Wx:cs[i]? with
      |none=>rw[Wx]at hx;cases hx
      |some c0=>
       rw[Wx]at hx;cases hx;have h6:=g4 i c0 Wx
       cases c0 with
       |agg l=>exact .junk _
       |Zp l=>exact .junk _
       | _=>exact hf _ _ h6 (by simp) (by simp)
     |gh Z vs cs=>
      obtain⟨g1,g2,g3,g4⟩:=h.YH j _ hl;refine⟨g1,g2.mono hI (fun b hb=> .inr hb) S4 (fun b hb=>hblk b (.inr hb)),by simpa using g3,fun i x hx=>?_⟩;rw[a0C]at hx
      cases Wx:cs[i]? with
      |none=>rw[Wx]at hx;cases hx
      |some c0=>rw[Wx]at hx;cases hx;exact(g4 i c0 Wx).ZQ hf (fun _=>rfl) (fun _=>rfl)
     | _=>exact(h.YH j _ hl).move (by constructor<;>(intros;intro e;cases e)) hI S4 ⟨rfl,fun b hb=> .inr hb⟩ hblk
 ·intro i i' oi oi' x hi VZ hx Vw;obtain⟨n1,q⟩:=back hi hx;obtain⟨n2,q'⟩:=back VZ Vw
  rcases q with⟨u,q1,q2⟩|⟨q1,q2⟩<;>rcases q' with⟨u',SB,Ou⟩|⟨SB,Ou⟩
  ·exact h.inj i i' u u' x q1 SB q2 Ou
  ·exact absurd (h.inj i d u o x q1 TG q2 Ou) n1
  ·exact absurd (h.inj i' d u' o x SB TG Ou q2) n2
  ·rw[q1,SB]
 ·intro i oi x hi hx;rw[Xw]at hi
  by_cases e1:id=i
  ·subst e1;rw[if_pos rfl]at hi;cases hi
   rcases G1.1 hx with hx|⟨k,hx⟩
   ·have:=h.own id _ x ho hx;exact this
   ·rcases h.own d o x TG (.inl ⟨k,hx⟩)with⟨q1,q2⟩|q1
    ·left
     have e:o.org d=id:=by
      cases o with
      |YU org z ys=>
       rcases SR with h|h
       ·cases h
       ·simp only[Ob.org?,a5y]at h;exact h
      |list z ys=>
       have:=E.big d q1;omega
      | _=>cases Xt
     rw[e]at q1 q2;exact⟨q1,q2⟩
    ·exact .inr q1
  ·rw[if_neg e1]at hi;split at hi
   ·cases hi
   ·cases hl:look s.hp i with
    |none=>rw[hl]at hi;cases hi
    |some o1=>
     rw[hl]at hi;simp only[a4G,a5y]at hi;subst hi;rw[Ob.T1];exact h.own i o1 x hl ((o3 (Ne.symm e1)).1 hx)
 ·intro i oi x hi hx;rw[Xw]at hi;rw[Yd]
  by_cases e1:id=i
  ·subst e1;rw[if_pos rfl]at hi;cases hi
   rcases hx with⟨_,k,hx⟩|hx
   ·refine⟨rfl,(h.YH d o TG).lt hx,fun k' e=>?_⟩;exact ZS (h.inj d id o _ x TG ho (.inl ⟨k,hx⟩) (.inl ⟨k',e⟩))
   ·obtain⟨_,q2,q3⟩:=h.Y0 id _ x ho hx;exact⟨rfl,q2,q3⟩
  ·rw[if_neg e1]at hi;split at hi
   ·cases hi
   ·cases hl:look s.hp i with
    |none=>rw[hl]at hi;cases hi
    |some o1=>
     rw[hl]at hi;simp only[a4G,a5y]at hi;subst hi;rw[Ob.VU]
     have hx:ψ.sub i x:=by
      rcases hx with⟨h,_⟩|h
      ·exact absurd h.symm e1
      ·exact h
     exact h.Y0 i o1 x hl hx
 ·intro i hi hm;rw[GY i ?_]
  ·exact h.old i hi hm
  ·rintro rfl
   rcases h.own id _ i ho (.inl ⟨_,h1⟩)with⟨q1,q2⟩|q1
   ·exact hm (.inl ⟨_,q1,q2⟩)
   ·exact E.no hi hm q1
 ·rw[Yd];exact h.grow
theorem ldL{t:TypeId}{x:Operand}(hc:comp P ⟨dst, .load t x,ty,pos,af,g⟩=some r)(hd:d<1000)(h:Z7 E n ψ s a w)(hk:ZP P d s K r)
 {id sz i off z:Nat} {xs:List (List (List IV))} {hole:Option Nat} (hx:s.ev x= .ep id sz i off) (ho:look s.hp id=some (.ZI z xs hole)):
 ∃v,(∀u,Ext w u->(Instr.loadAt t (a.eval x)).run P u= .ok v u)/\∃ZF s' av,Z7 E n ZF s' a w/\K s' av/\ZK (Im E ZF s'.hp) ZF s'.hp w av v:=by
 simp only[comp]at hc
 cases hu:P.underlying t with
 |none=>rw[hu]at hc;cases hc
 |some dd=>
  simp only[hu,a1V,a5J]at hc
  by_cases hg:XZ P t=true
  ·rw[if_pos hg]at hc
   cases hi:X7 P t with
   |none=>rw[hi]at hc;cases hc
   |some k=>
    rw[hi]at hc;simp only[a4G,a5y]at hc;subst hc;simp only[ZP,hx,ho]at hk
  ·have hg:XZ P t=false:=by simpa using hg
   simp only[hg,a5M,if_false]at hc
   have hc:Wu.ld x none=r:=by simpa using hc
   subst hc;simp only[ZP,hx,ho]at hk;obtain⟨rfl,rfl,VF,he,hl,hk⟩:=hk;split at hk
   ·rename_i ys hys;have hf:=h.drop (id:=d) hd;have Y6:=JY s d;generalize s.drop d=s1 at hk hf Y6 he hl;have O5:=hf.ev x;rw[he]at O5;obtain⟨b,k,o,m,q1,q2,q3,q4,q5⟩:=b2T O5;obtain⟨c,e,p1,p2,Zn,p3,p4⟩:=hf.G2 hd Y6 hl hys q4;refine⟨_,fun u Ln=>?_,Zn,_,_,p3,hk,p4⟩;rw[q5]
    have e3:k.1+(i*1+0)=k.1+i:=by omega
    rw[e3];exact e8g u hu hg (Ln.cell (IA p1 p2))
   ·exact hk.elim
theorem b8L{t:TypeId}{x:Operand}(hc:comp P ⟨dst, .load t x,ty,pos,af,g⟩=some r)(hd:d<1000)(h:Z7 E n ψ s a w)(hk:ZP P d s K r):
 ∃v,(∀u,Ext w u->(Instr.loadAt t (a.eval x)).run P u= .ok v u)/\∃ZF s' av,Z7 E n ZF s' a w/\K s' av/\ZK (Im E ZF s'.hp) ZF s'.hp w av v:=by
 by_cases hex:∃id sz i off z xs hole,s.ev x= .ep id sz i off/\look s.hp id=some (.ZI z xs hole)
 ·obtain⟨id,sz,i,off,z,xs,hole,hx,ho⟩:=hex;exact ldL hc hd h hk hx ho
 ·obtain⟨v,av,h1,h2,h3⟩:=e1h hc h hk fun id sz i off z xs hole hx ho=>hex ⟨id,sz,i,off,z,xs,hole,hx,ho⟩
  exact⟨v,h1,ψ,s,av,h,h2,h3⟩
theorem b9L{t:TypeId}{x:Operand}(hc:comp P ⟨dst, .load t x,ty,pos,af,g⟩=some r)(hd:d<1000)(h:Z7 E n ψ s a w)(hk:ZP P d s K r):X6 P E n ⟨dst, .load t x,ty,pos,af,g⟩ a w K:=by
 obtain⟨v,h1,ZF,s',av,h2,h3,h4⟩:=b8L hc hd h hk;refine SH (v:=v) ?_ h3 h2 h4;simp only[execOp,Sem.run_bind,h1 w (Ext.refl w),Result.andThen_ok,Sem.run_pure]
theorem b0M{t:TypeId}{x:Operand}(hc:comp P ⟨dst, .load t x,ty,pos,af,g⟩=some r)(hd:d<1000)(h:Z7 E n ψ s a w)(hk:ZP P d s K r):
 ∃v,∀u,Ext w u->(execOp a.eval ⟨dst, .load t x,ty,pos,af,g⟩).run P u= .ok (.value v) u:=by
 obtain⟨v,h1,_⟩:=b8L hc hd h hk;refine⟨v,fun u hu=>?_⟩;simp only[execOp,Sem.run_bind,h1 u hu,Result.andThen_ok,Sem.run_pure]
theorem b1M{t:TypeId}{x y:Operand}{q:Nat}(hq:X7 P t=some q)(h:Z7 E n ψ s a w)(hk:ZP P d s K (.st x y q)):
 X6 P E n ⟨dst, .store t x y,ty,pos,af,g⟩ a w K:=by
 by_cases hex:∃id sz i off z xs hole,s.ev x= .ep id sz i off/\look (s.Y9 [s.ev y]).hp id=some (.ZI z xs hole)
 ·obtain⟨id,sz,i,off,z,xs,hole,hx,ho⟩:=hex;simp only[ZP,hx,ho]at hk;split at hk
  ·rename_i d' ZB len hye;split at hk
   ·rename_i o TG;split at hk
    ·rename_i z0 ys Xt;obtain⟨hl,⟨rfl,rfl⟩,rfl,NL,ZS,rfl,SR,rfl,hk⟩:=hk;have O5:=h.ev x;rw[hx]at O5;obtain⟨b,k,o1,m,q1,q2,q3,q4,q5⟩:=b2T O5;rw[hl]at q1;cases q1;simp only[Ob.dim,a5y,a6J]at q2;obtain⟨rfl,rfl⟩:=q2;have hy1:=h.ev y;rw[hye]at hy1
     have Lm:o.T5=some (ZB,ys):=by
      obtain⟨o2,m2,r1,r2,_⟩:=Jg hy1;rw[TG]at r1;cases r1;have:=c3U Xt;rw[r2]at this;simp only[a5y,a6J]at this;rw[Xt,this.1]
     obtain⟨h0,b1,k1,c,e,pl,h1,h2,h3,h4,h9,U0,TD⟩:=h.YH id _ hl;rw[h1]at q4;cases q4
     have Ut:(a.eval y).cells.toList=[a.eval y]/\(a.eval y).oneCell'=true:=by
      have:∀L v,ZK (Im E ψ s.hp) ψ s.hp w (.sl d' ZB 0 L) v->v.cells.toList=[v]/\v.oneCell'=true:=by
       intro L v hv;cases hv<;>exact⟨rfl,rfl⟩
      exact this _ _ hy1
     have e3:k.1+(i*1+0)=k.1+i:=by omega
     rw[e3]at q5;obtain⟨w',r1,r2,r3,r4,r5⟩:=a7D (P:=P) b (k.1+i) (a.eval y).cells.toList 0 w c e h2 (by rw[Ut.1];intro v hv;simp only[a2z]at hv;subst hv;exact Ut.2) (by rw[Ut.1];simp;omega)
     have XC:=a9w (dst:=dst) (ty:=ty) (pos:=pos) (af:=af) (g:=g) hq q5 (by rw[<-Array.length_toList,Ut.1];rfl) r1
     obtain⟨Zn,XM⟩:=h.oX (c':=U5 c (k.1+i) (a.eval y).cells.toList) NL ZS hl TG Lm SR hy1 h1 h2 r2 r3 r4 r5 (IN _ _ _) (by rw[Fq _ _ _ _ (by omega),if_pos ⟨a8F _,by rw[Ut.1];simp⟩,Ut.1];simp)
      (fun j hj=>by
       by_cases hjs:k.1+j<c.size
       ·rw[Fq _ _ _ _ hjs,if_neg (by rw[Ut.1];simp;omega)]
       ·rw[a4E,a4E,b9l (by rw[IN];omega),b9l (by omega)])
     exact sw XC hk XM
    ·exact hk.elim
   ·exact hk.elim
  ·exact hk.elim
 ·exact a0x hq h hk fun id sz i off z xs hole hx ho=>hex ⟨id,sz,i,off,z,xs,hole,hx,ho⟩
end
end Go.Vm
end

section
namespace Go.Vm
section
variable{P:Program}{E:En}{n:Nat}{ψ:Pl}{s:St}{a:Act}{w:World}
variable{dst:Option Nat}{ty:TypeId}{pos:String}{af:Array Edge}{g:Option (Nat×Bool)}
variable{d:Nat}{K:St->AV->Prop}
theorem c6t{x y:Operand}{ts:Array TypeId}{v:Value}{w':World}(hv:(Builtin.copy_ ts ty #[a.eval x,a.eval y]).run P w= .ok v w'):
 (execOp a.eval ⟨dst, .call ⟨.builtin .copy, #[x,y],ts⟩,ty,pos,af,g⟩).run P w= .ok (.value v) w':=by
 simp only[execOp,resolve,Sem.run_bind,Sem.run_pure,Result.andThen_ok,invoke,builtin];simp[hv]
theorem c7t{ts:Array TypeId}{t e:TypeId}{sz m cap ny capy:Nat}{ad:Addr}{ady:Option Addr}{vs:List Value}{w':World}(h0:ts[0]? =some t)(hu:P.underlying t=some (.slice e))(Yd:X7 P e=some sz)(hm:ny=m)
 (h1:(Builtin.firstCells sz ny (.slice ady ny capy)).run P w= .ok vs.toArray w) (h2:(storeCells ad vs).run P w= .ok () w'):
 (Builtin.copy_ ts ty #[.slice (some ad) m cap, .slice ady ny capy]).run P w= .ok (.int .i64 m) w':=by
 subst hm;simp only[Builtin.copy_,h0,c8E,a9E,a2I,Sem.run_bind,run_underlying w hu,run_sizeOf w Yd,Result.andThen_ok,Builtin.lenOf,Sem.run_pure,Nat.min_self,h1,h2];rfl
theorem c8t{x y:Operand}{t e:TypeId}{ts:Array TypeId}{sz:Nat}(h0:ts[0]? =some t)(hu:P.underlying t=some (.slice e))(Yd:X7 P e=some sz)(h:Z7 E n ψ s a w)(hk:ZP P d s K (.cpy sz x y)):
 X6 P E n ⟨dst, .call ⟨.builtin .copy, #[x,y],ts⟩,ty,pos,af,g⟩ a w K:=by
 have hx:=h.ev x;have hy:=h.ev y;simp only[ZP]at hk;generalize hax:s.ev x=ax at hx hk;split at hk
 ·rename_i id sq lo m YK ys he;split at hk
  ·rename_i JQ xs ho;obtain⟨⟨JX,rfl⟩,⟨hz1,hz2,hz3⟩,rfl,Em,hk⟩:=hk;subst hz1 hz2 hz3;obtain⟨o',xm,q1,SB,q2,Ya⟩:=Jg hx;rw[ho]at q1;cases q1;have Yy:=List.length_pos_iff.2 JX
   rcases Ya with⟨p1,_,p3,_⟩|⟨b,k,cap,ad,p1,p2,p3,p4,Ro⟩
   ·omega
   ·obtain⟨QO,Uh⟩:=h.YH id _ ho
    rcases Uh with⟨Ra,_⟩|⟨b',k',c,e',g1,g2,g3,g3',g4⟩
    ·rw[Ra]at p1;cases p1
    rw[g1]at p1;cases p1;obtain⟨vs,y1,y2,y3,y4,y5,ady,cy,Lf⟩:=b0B h hy he (.inl rfl);obtain⟨w',r1,r2,r3,r4,r5⟩:=a7D (P:=P) b k.1 vs 0 w c e' g2 y5 (by rw[y1,Em];omega);have p2:=p2 (by omega);rw[Nat.zero_mul,b1P]at p2;subst p2
    have hr:=c7t (P:=P) (ty:=ty) (w:=w) (cap:=cap) (capy:=cy) (ady:=ady) h0 hu Yd Em (by rw[<-Lf];exact y2 w rfl) r1
    have h2:=h.MH (o':= .list YK ys) ho (Ob.Se rfl rfl (by omega)) rfl (fun h=>h) g1 r2 r3 r4 fun _ hm=>by
     refine⟨y3, .inr ⟨b,k,_,e',g1,r5,?_,by rw[Em];exact g3',fun i j x hx=>?_⟩⟩
     ·rw[show(vs.zipIdx 0).foldl (fun cs (x,j)=>cs.setIfInBounds (k.1+j) x) c=U5 c k.1 vs from rfl,IN];exact g3
     ·have hb:=qF y3 hx;rw[show(vs.zipIdx 0).foldl (fun cs (x,j)=>cs.setIfInBounds (k.1+j) x) c=U5 c k.1 vs from rfl,Fq _ _ _ _ (by rw[Em]at hb;omega),if_pos (by omega)];have:=hm _ _ (y4 i j x hx);rw[show k.1+(i*YK+j)-k.1=i*YK+j from by omega];exact this
    exact SH (c6t (by rw[Ro,Lf];exact hr)) hk h2 (UP rfl)
  ·exact hk.elim
 ·exact hk.elim
end
theorem a8Q(z:Array Value)(m:Nat):(Builtin.zeroCells z m).toList.length=m*z.size:=by simp[Builtin.zeroCells]
theorem a9Q(z:Array Value)(m i j:Nat)(hi:i<m)(hj:j<z.size):(Builtin.zeroCells z m).toList.getD (i*z.size+j) undef=z.getD j undef:=by
 have ZV:i*z.size+j<m*z.size:=by
  have h1:(i+1)*z.size<=m*z.size:=a5E _ (by omega);rw[a8M]at h1;omega
 have Qe:(i*z.size+j)%z.size=j:=by rw[c4K,c9S,d1w hj]
 rw[SK];unfold Builtin.zeroCells;simp[a4E,ZV,Qe,hj]
theorem a0R{z:Array Value}{m:Nat}{v:Value}(h:v∈(Builtin.zeroCells z m).toList):v∈z.toList:=by
 unfold Builtin.zeroCells at h;rw[Array.toList_map,a3E]at h;obtain⟨i,hi,rfl⟩:=h
 have ZV:i<m*z.size:=by simpa using hi
 have hz:0<z.size:=by
  rcases b5j z.size with e|e
  ·rw[e]at ZV;omega
  ·exact e
 rw[getElem!_pos z _ (Nat.mod_lt _ hz)];simp
section
variable{P:Program}{E:En}{n:Nat}{ψ:Pl}{s:St}{a:Act}{w:World}
variable{dst:Option Nat}{ty:TypeId}{pos:String}{af:Array Edge}{g:Option (Nat×Bool)}
variable{d:Nat}{K:St->AV->Prop}
theorem a1R{x:Operand}{ts:Array TypeId}{v:Value}{w':World}(hv:(Builtin.clear_ ts ty #[a.eval x]).run P w= .ok v w'):
 (execOp a.eval ⟨dst, .call ⟨.builtin .clear, #[x],ts⟩,ty,pos,af,g⟩).run P w= .ok (.value v) w':=by
 simp only[execOp,resolve,Sem.run_bind,Sem.run_pure,Result.andThen_ok,invoke,builtin];simp[hv]
theorem a2R{ts:Array TypeId}{t e:TypeId}{i:TypeInfo}{zv:Value}{m cap:Nat}{ad:Addr}{w':World}(h0:ts[0]? =some t)(hu:P.underlying t=some (.slice e))(hi:P.info? e=some i)(hz:i.zero=some zv)(hm:0<m)
 (h2:(storeCells ad (Builtin.zeroCells zv.cells m).toList).run P w= .ok () w'):
 (Builtin.clear_ ts ty #[.slice (some ad) m cap]).run P w= .ok (.tuple #[]) w':=by
 obtain⟨q,rfl⟩:∃q,m=q+1:=⟨m-1,by omega⟩;simp only[Builtin.clear_,h0,c8E,a9E,Sem.run_bind,run_underlying w hu,Result.andThen_ok,IB hi hz,h2,Sem.run_pure]
theorem a3R{xs:List (List IV)}{zi:List IV}{lo m:Nat}(h:lo+m<=xs.length):(xs.take lo++a6R m zi++xs.drop (lo+m)).length=xs.length:=by simp;omega
theorem a4R{xs:List (List IV)}{zi:List IV}{lo m:Nat}(h:lo+m<=xs.length)(i:Nat):
 (xs.take lo++a6R m zi++xs.drop (lo+m))[i]? =if lo<=i/\i<lo+m then some zi else xs[i]? :=by
 by_cases h1:i<lo
 ·rw[c1y,a1N (by simp;omega),if_neg (by omega),List.getElem?_take,if_pos h1]
 ·by_cases h2:i<lo+m
  ·rw[a1N (by simp;omega),a5V (by simp;omega),if_pos (by omega),c7U,if_pos (by simp;omega)]
  ·rw[a5V (by simp;omega),if_neg (by omega),List.getElem?_drop]
   congr 1;simp;omega
theorem a5R{x:Operand}{t e:TypeId}{ts:Array TypeId}{i:TypeInfo}{z:List AV}(h0:ts[0]? =some t)(hu:P.underlying t=some (.slice e))(hi:P.info? e=some i)(hz:Q6 P e=some z)(Hz:z.length=i.size)
 (h:Z7 E n ψ s a w) (hk:ZP P d s K (.clr i.size z x)):X6 P E n ⟨dst, .call ⟨.builtin .clear, #[x],ts⟩,ty,pos,af,g⟩ a w K:=by
 have hx:=h.ev x;simp only[ZP]at hk;generalize hax:s.ev x=ax at hx hk;split at hk
 ·rename_i id sq lo m zi hzi;split at hk
  ·rename_i JQ xs ho;obtain⟨⟨hz1,hz2⟩,⟨hm,hle⟩,hk⟩:=hk;subst hz1 hz2;obtain⟨i',zv,z1,z2,rfl⟩:=Fl hz;rw[hi]at z1;cases z1
   have Yd:zv.cells.size=i.size:=by rw[IC]at Hz;simpa using Hz
   obtain⟨g1,g2⟩:=ivz (A:=Im E ψ s.hp) (ψ:=ψ) (H:=s.hp) (w:=w) (vs:=zv.cells.toList) hzi (by rw[IC]) (fun i x hx=>by
    obtain⟨sz,e⟩:=qu _ _ _ _ hx
    rw[e];exact Ew _ _)
   have JP:zi.length=i.size:=by rw[g1,Hz]
   have S2:∀v∈zv.cells.toList,v.oneCell'=true:=by
    intro v hv;obtain⟨j,hj,rfl⟩:=List.getElem_of_mem hv
    have hj':j<zi.length:=by rw[JP, <-Yd];simpa using hj
    have:=(g2 j _ (a3I hj')).one;rw[b4P,a3I hj]at this;exact this
   obtain⟨o',xm,q1,SB,q2,Ya⟩:=Jg hx;rw[ho]at q1;cases q1
   rcases Ya with⟨p1,_,p3,_⟩|⟨b,k,cap,ad,p1,p2,p3,p4,Ro⟩
   ·omega
   ·obtain⟨QO,Uh⟩:=h.YH id _ ho
    rcases Uh with⟨Ra,_⟩|⟨b',k',c,e',q1,Ou,q3,Nz,q4⟩
    ·rw[Ra]at p1;cases p1
    rw[q1]at p1;cases p1;have LD:=a8Q zv.cells m;rw[Yd]at LD
    have hmul:lo*i.size+m*i.size<=k.2:=by
     rw[<-a8M];exact a9L (a5E _ (by omega)) p4
    obtain⟨w',r1,r2,r3,r4,r5⟩:=a7D (P:=P) b (k.1+lo*i.size) (Builtin.zeroCells zv.cells m).toList 0 w c e' Ou (fun v hv=>S2 v (a0R hv)) (by rw[LD];omega);have p2:=p2 (by omega);subst p2;have hr:=a2R (P:=P) (ty:=ty) (w:=w) (cap:=cap) h0 hu hi z2 hm r1;have hll:=a3R (zi:=zi) hle
    have h2:=h.MH (o':= .list i.size (xs.take lo++a6R m zi++xs.drop (lo+m))) ho (Ob.Se rfl rfl (by rw[hll];exact a8F _)) rfl (fun h=>h) q1 r2 r3 r4 fun _ rU=>by
     refine⟨fun x hx=>?_, .inr ⟨b,k,_,e',q1,r5,?_,by rw[hll];exact Nz,fun i' j x hx=>?_⟩⟩
     ·rw[a1E,a1E]at hx
      rcases hx with(hx|hx)|hx
      ·exact QO x (List.mem_of_mem_take hx)
      ·rw[c9x hx];exact JP
      ·exact QO x (List.mem_of_mem_drop hx)
     ·rw[show((Builtin.zeroCells zv.cells m).toList.zipIdx 0).foldl (fun cs (x,j)=>cs.setIfInBounds (k.1+lo*i.size+j) x) c=U5 c (k.1+lo*i.size) (Builtin.zeroCells zv.cells m).toList from rfl,IN];exact q3
     ·rw[show((Builtin.zeroCells zv.cells m).toList.zipIdx 0).foldl (fun cs (x,j)=>cs.setIfInBounds (k.1+lo*i.size+j) x) c=U5 c (k.1+lo*i.size) (Builtin.zeroCells zv.cells m).toList from rfl];obtain⟨row,y1,y2⟩:=JO hx;rw[a4R hle]at y1
      by_cases Yq:lo<=i'/\i'<lo+m
      ·rw[if_pos Yq]at y1;cases y1
       have hj:j<i.size:=by rw[<-JP];exact(a7y.1 y2).1
       obtain⟨i2,rfl⟩:∃i2,i'=lo+i2:=⟨i'-lo,by omega⟩
       have pY:i2<m:=by omega
       have rT:i2*i.size+j<m*i.size:=by
        have h1:(i2+1)*i.size<=m*i.size:=a5E _ (by omega);rw[a8M]at h1;omega
       have he:k.1+((lo+i2)*i.size+j)=k.1+lo*i.size+(i2*i.size+j):=by rw[a8M];omega
       rw[he,Fq _ _ _ _ (by omega),if_pos (by rw[LD];omega),show k.1+lo*i.size+(i2*i.size+j)-(k.1+lo*i.size)=i2*zv.cells.size+j from by rw[Yd];omega,a9Q _ _ _ _ pY (by omega), <-SK]
       exact rU _ _ (g2 j x y2)
      ·rw[if_neg Yq]at y1;have VE:=qE y1 y2;have hb:=qF QO VE
       have f5M:¬(k.1+lo*i.size<=k.1+(i'*i.size+j)/\k.1+(i'*i.size+j)<k.1+lo*i.size+(Builtin.zeroCells zv.cells m).toList.length):=by
        rw[LD];rintro⟨u1,u2⟩;apply Yq;constructor
        ·apply d2z;intro ZV;have h1:(i'+1)*i.size<=lo*i.size:=a5E _ (by omega);rw[a8M]at h1;omega
        ·apply Nat.lt_of_not_le;intro X3;have h1:(lo+m)*i.size<=i'*i.size:=a5E _ X3;rw[a8M]at h1;omega
       rw[Fq _ _ _ _ (by omega),if_neg f5M];exact rU _ _ (q4 i' j x VE)
    exact SH (a1R (by rw[Ro];exact hr)) hk h2 (.Zp [] #[] rfl (fun i c hc=>by simp at hc))
  ·exact hk.elim
 ·exact hk.elim
end
section
variable{P:Program}{E:En}{n:Nat}{ψ:Pl}{s:St}{a:Act}{w:World}
variable{d:Nat}{K:St->AV->Prop}{r:Wu}
theorem bind_some{α β:Type}{x:Option α}{f:α->Option β}{y:β}(h:(x >>= f)=some y):∃z,x=some z/\f z=some y:=by
 cases x with
 |none=>cases h
 |some z=>exact⟨z,rfl,h⟩
theorem Vy{α β:Type}{x:Option α}{f:α->β}{y:β}(h:x.map f=some y):∃z,x=some z/\f z=y:=by
 cases x with
 |none=>cases h
 |some z=>exact⟨z,rfl,by simpa using h⟩
theorem Ik{α:Type}{xs:Array α}{x:α}(h:xs.toList=[x]):xs= #[x]:=by apply b3n;simpa using h
theorem oD{α:Type}{xs:Array α}{x y:α}(h:xs.toList=[x,y]):xs= #[x,y]:=by apply b3n;simpa using h
theorem b9S{o:Oper}(hc:comp P o=some r)(hd:d<1000)(h:Z7 E n ψ s a w)(hk:ZP P d s K r):X6 P E n o a w K:=by
 obtain⟨dst,op,ty,pos,af,g⟩:=o;have UZ:=hc;unfold comp at hc;split at hc
 ·rename_i x heq;cases heq;split at hc
  ·simp only[a5y]at hc;subst hc;exact a7E (.inl rfl) hd h hk
  ·simp only[a5y]at hc;subst hc;exact(a6E (.inl rfl) h hk).does
 ·rename_i x heq;cases heq;split at hc
  ·simp only[a5y]at hc;subst hc;exact a7E (.inr rfl) hd h hk
  ·simp only[a5y]at hc;subst hc;exact(a6E (.inr rfl) h hk).does
 ·rename_i heq;cases heq;exact(b1U UZ h hk).does
 ·rename_i heq;cases heq;obtain⟨z,hz,rfl⟩:=Vy hc;exact a1F hz hd h hk
 ·rename_i heq;cases heq;simp only[a5y]at hc;subst hc;exact a2F hd h hk
 ·rename_i t parts heq;cases heq;split at hc
  ·rename_i fs hu;split at hc
   ·rename_i Zt;obtain⟨z,hz,hc⟩:=bind_some hc;obtain⟨l,hl,hc⟩:=bind_some hc;simp only[a8H,a5y]at hc;subst hc;exact(a5D hu hz (fun f hf=>by simpa using(d5n.1 Zt) f hf) hl h hk).does
   ·cases hc
  ·rename_i hu;obtain⟨q,hq,hc⟩:=bind_some hc;obtain⟨z,hz,hc⟩:=bind_some hc;simp only[a8H,a5y]at hc;subst hc;exact(a6D hu hq hz h hk).does
  ·cases hc
 ·rename_i t len parts heq;cases heq;split at hc
  ·rename_i e hu;obtain⟨sz,Yd,hc⟩:=bind_some hc;split at hc
   ·rename_i hp;obtain⟨z,hz,hc⟩:=bind_some hc;simp only[a8H,a5y]at hc;subst hc;exact e4h hu Yd hp.1 hp.2.1 hp.2.2.1 hp.2.2.2 hz hd h hk
   ·cases hc
  ·cases hc
 ·rename_i heq;cases heq;exact b9L UZ hd h hk
 ·rename_i heq;cases heq;obtain⟨q,hq,rfl⟩:=Vy hc;exact b1M hq h hk
 ·rename_i heq;cases heq;exact(b2U UZ h hk).does
 ·rename_i op xt x y yt heq;cases heq;split at hc
  ·simp only[a5y]at hc;subst hc;exact(b5U h hk).does
  ·simp only[a5y]at hc;subst hc;exact(b5U h hk).does
  ·rename_i hu;split at hc
   ·simp only[a5y]at hc;subst hc;exact(b8U hu rfl h hk).does
   ·simp only[a5y]at hc;subst hc;exact(b8U hu rfl h hk).does
   ·cases hc
  ·rename_i hu;split at hc
   ·simp only[a5y]at hc;subst hc;exact(b1V hu rfl h hk).does
   ·simp only[a5y]at hc;subst hc;exact(b1V hu rfl h hk).does
   ·cases hc
  ·rename_i hu;split at hc
   ·simp only[a5y]at hc;subst hc;exact(b4V hu rfl h hk).does
   ·simp only[a5y]at hc;subst hc;exact(b4V hu rfl h hk).does
   ·cases hc
  ·rename_i hu;split at hc
   ·rename_i hg
    cases WZ:Sd P 20 xt with
    |none=>rw[WZ]at hc;cases hc
    |some ks=>
     rw[WZ]at hc;simp only[a5J]at hc;split at hc
     ·cases hc
     ·rename_i hi
      have hi:X7 P xt=some ks.length:=by simpa using hi
      split at hc
      ·simp only[a5y]at hc;subst hc;exact(a7x hu hg WZ rfl h hk hi).does
      ·simp only[a5y]at hc;subst hc;exact(a7x hu hg WZ rfl h hk hi).does
      ·cases hc
   ·cases hc
  ·cases hc
 ·rename_i heq;cases heq;simp only[a5y]at hc;subst hc;exact(b5V h hk).does
 ·rename_i heq;cases heq;split at hc
  ·rename_i h1 h2;simp only[a5y]at hc;subst hc;exact(b6V h1 h2 h hk).does
  ·cases hc
 ·rename_i heq;cases heq;simp only[a5y]at hc;subst hc;exact(a7F h hk).does
 ·-- makeMap
  rename_i heq;cases heq;split at hc
  ·rename_i k e hu;obtain⟨q,hq,rfl⟩:=Vy hc;exact d9f (k:=k) (e:=e) hd h hk
  ·cases hc
 ·-- makeSlice
  rename_i heq;cases heq;split at hc
  ·rename_i hu;obtain⟨i,hi,hc⟩:=bind_some hc;obtain⟨z,hz,hc⟩:=bind_some hc;split at hc
   ·rename_i hp;simp only[a8H,a5y]at hc;subst hc;exact e6q hu hi hz hp.1 hp.2 hd h hk
   ·cases hc
  ·cases hc
 ·rename_i heq;cases heq;split at hc
  ·rename_i hu;obtain⟨sz,Yd,rfl⟩:=Vy hc;exact(c4w hu Yd h hk).does
  ·cases hc
 ·rename_i heq;cases heq;split at hc
  ·rename_i hu;obtain⟨f,hf,hc⟩:=bind_some hc;obtain⟨q,hq,hc⟩:=bind_some hc;split at hc
   ·cases hc
   ·rename_i qa;simp only[a8H,a5y]at hc;subst hc;exact(c3v hu hf hq qa h hk).does
  ·cases hc
 ·rename_i heq;cases heq;split at hc
  ·rename_i hu;obtain⟨f,hf,hc⟩:=bind_some hc;obtain⟨q,hq,hc⟩:=bind_some hc;obtain⟨dd,Ff,hc⟩:=bind_some hc;simp only[a8H,a5y]at hc;subst hc;exact(c7v hu hf hq Ff h hk).does
  ·cases hc
 ·rename_i heq;cases heq;split at hc
  ·rename_i hu;obtain⟨sz,Yd,rfl⟩:=Vy hc;exact(c8v hu Yd h hk).does
  ·cases hc
 ·rename_i heq;cases heq;split at hc
  ·rename_i hu;simp only[a5y]at hc;subst hc;exact(c9v hu h hk).does
  ·rename_i hu;split at hc
   ·rename_i hq;obtain⟨dd,hd⟩:=c7w.1 hq.2.2;simp only[a5y]at hc;subst hc;exact(c0w hu hq.1 hq.2.1 hd h hk).does
   ·cases hc
  ·cases hc
 ·-- lookup
  rename_i heq;cases heq;split at hc
  ·rename_i hu;obtain⟨sk,UM,hc⟩:=bind_some hc;obtain⟨z,hz,hc⟩:=bind_some hc;split at hc
   ·rename_i Q0;simp only[a8H,a5y]at hc;subst hc;exact e1p hu UM hz Q0 hd h hk
   ·cases hc
  ·cases hc
 ·-- mapEntry
  rename_i heq;cases heq;split at hc
  ·rename_i hu;obtain⟨sk,UM,hc⟩:=bind_some hc;obtain⟨z,hz,hc⟩:=bind_some hc;split at hc
   ·rename_i Q0;simp only[a8H,a5y]at hc;subst hc;exact c4t hu UM hz Q0 h hk
   ·cases hc
  ·cases hc
 ·rename_i heq;cases heq;simp only[a5y]at hc;subst hc;exact c5t h hk
 ·rename_i heq;cases heq;split at hc
  ·rename_i hu;obtain⟨q,hq,rfl⟩:=Vy hc;exact c2c hu hd h hk
  ·cases hc
 ·rename_i heq;cases heq;simp only[a5y]at hc;subst hc;exact c7c h hk
 ·rename_i heq;cases heq;simp only[a5y]at hc;subst hc;exact c8c h hk
 ·rename_i heq;cases heq;split at hc
  ·rename_i hu;obtain⟨q,hq,rfl⟩:=Vy hc;exact e2p hu hq h hk (.inl rfl)
  ·cases hc
 ·rename_i heq;cases heq;split at hc
  ·rename_i hu;obtain⟨q,hq,rfl⟩:=Vy hc;exact e2p hu hq h hk (.inr rfl)
  ·cases hc
 ·rename_i heq;cases heq;simp only[a5y]at hc;subst hc;exact(b7V h hk).does
 ·rename_i c heq;cases heq;obtain⟨cl,args,ts⟩:=c;simp only at hc;split at hc
  ·split at hc
   ·rename_i hf;simp only[a5y]at hc;subst hc;exact d8W hf hd h hk
   ·cases hc
  ·simp only[a5y]at hc;subst hc;exact d1X hd h hk
  ·split at hc
   ·rename_i x t h1 h2;have e1:=Ik h1;have e2:=Ik h2;subst e1;subst e2;split at hc
    ·rename_i hu;simp only[a5y]at hc;subst hc;exact(c1v rfl hu h hk).does
    ·rename_i hu;simp only[a5y]at hc;subst hc;exact(c2v rfl hu h hk).does
    ·rename_i hu;simp only[a5y]at hc;subst hc;exact b7t rfl hu h hk
    ·cases hc
   ·cases hc
  ·split at hc
   ·rename_i x y t u h1 h2;have e1:=oD h1;subst e1;exact d9T UZ hd h hk
   ·cases hc
  ·simp only[a5y]at hc;subst hc;exact a5F (mx:=false) h hk
  ·simp only[a5y]at hc;subst hc;exact a5F (mx:=true) h hk
  ·-- delete
   split at hc
   ·rename_i m k t ts' h1 h2;have e1:=oD h1;subst e1;split at hc
    ·rename_i hu;obtain⟨q,hq,rfl⟩:=Vy hc;exact b6t (by rw[<-a9C,h2];rfl) hu hq h hk
    ·cases hc
   ·cases hc
  ·-- copy
   split at hc
   ·rename_i x y t ts' h1 h2;have e1:=oD h1;subst e1;split at hc
    ·rename_i hu;obtain⟨q,hq,rfl⟩:=Vy hc;exact c8t (by rw[<-a9C,h2];rfl) hu hq h hk
    ·cases hc
   ·cases hc
  ·-- clear
   split at hc
   ·rename_i x t ts' h1 h2;have e1:=Ik h1;subst e1;split at hc
    ·rename_i hu;obtain⟨i,hi,hc⟩:=bind_some hc;obtain⟨z,hz,hc⟩:=bind_some hc;split at hc
     ·rename_i Hz;simp only[a5y]at hc;subst hc;exact a5R (by rw[<-a9C,h2];rfl) hu hi hz Hz h hk
     ·cases hc
    ·cases hc
   ·cases hc
  ·cases hc
 ·cases hc
end
inductive VT where
 |done
 |op (o:Yv) (t:VT)
 |alt (a b:VT)
 deriving Inhabited
inductive Z9 where
 |skip
 |E7 (ops:List Yv)
 |any (t:VT)
 |seq (a b:Z9)
 |cond (x:Operand) (t e:Z9)
 |block (id:Nat) (c:Z9)
 |loop (c:Z9)
 |exit (id:Nat)
 |ret
 |goto (l:Nat)
 |scope (c:Z9)
 |WR (c:Z9) (l:Nat) (rest:Z9)
 |QY (g:Operand) (ps:List Nat) (x y:Z9)
 deriving Inhabited
def St.lit(s:St)(t:Nat)(b:Bool):St:=⟨(t, .iv (.v (.bool b)))::s.fr,s.hp⟩
theorem d4Z{s:St}{t:Nat}{b:Bool}(h:s.get t= .iv (.v (.bool b)))(i:Nat):(s.lit t b).get i=s.get i:=by
 simp only[St.get,St.lit,look];split
 ·rename_i e;subst e;simp only[St.get]at h;rw[h];rfl
 ·rfl
theorem Z7.lit{E:En}{n:Nat}{ψ:Pl}{s:St}{a:Act}{w:World}(h:Z7 E n ψ s a w){t:Nat}{b:Bool}(hb:s.get t= .iv (.v (.bool b))):Z7 E n ψ (s.lit t b) a w:=
 {h with frame:=fun i=>by rw[d4Z hb];exact h.frame i}
def V5(P:Program)(o:Yv)(s:St)(K:St->Prop):Prop:=
 match o.g with
 |none=>ZP P (o.d.getD 999) s (fun s' x=>K (s'.put o.d x)) o.r
 |some (t,b)=>match s.get t with
  | .iv (.v (.bool c))=>(c=b->ZP P (o.d.getD 999) (s.lit t b) (fun s' x=>K (s'.put o.d x)) o.r)/\(c= !b->K ((s.lit t !b).put o.d .un))
  | .un=>K (s.put o.d .un)
  | _=>False
def Uy(P:Program):List Yv->St->(St->Prop)->Prop
 | [],s,K=>K s
 |o::r,s,K=>V5 P o s fun s'=>Uy P r s' K
def Uc(P:Program):VT->St->(St->Prop)->Prop
 | .done,s,K=>K s
 | .op o t,s,K=>V5 P o s fun s'=>Uc P t s' K
 | .alt a b,s,K=>Uc P a s K/\Uc P b s K
section
variable{P:Program}{E:En}{n:Nat}{s:St}{a:Act}{w:World}
theorem d6Z{ψ:Pl}(h:Z7 E n ψ s a w){ops:Array Oper}{j t:Nat}(ht:(ops[j]?).bind (·.dst)=some t):
 (∀c,s.get t= .iv (.v (.bool c))->yielded ops a.tmps j=some c)/\(s.get t= .un->yielded ops a.tmps j=none):=by
 have hf:=h.frame t;unfold yielded;rw[ht];simp only[a5J];constructor
 ·intro c hc;rw[hc]at hf;have hv:=VN hf
  by_cases ZV:t<a.tmps.size
  ·rw[getD_some ZV (d:=undef),hv]
  ·rw[a4E,b9l (by omega)]at hv;cases hv
 ·intro hc;rw[hc]at hf
  have hv:a.tmps.getD t undef=undef:=by
   generalize a.tmps.getD t undef=z at hf;cases hf;rfl
  by_cases ZV:t<a.tmps.size
  ·rw[getD_some ZV (d:=undef),hv];rfl
  ·rw[b9l (by omega)]
theorem d7Z{ops:Array Oper}{o:Oper}{vo:Yv}(hc:ME P n ops o=some vo)(hn:n<=999){K:St->Prop}{K':Act->World->Prop}(hs:Un E n s a w)
 (hk:V5 P vo s K) (hK:∀s' a' w',Un E n s' a' w'->K s'->K' a' w'):
 if Region.wanted o (yielded ops a.tmps)then ND P o a w K' else K' (a.put o.dst undef) w:=by
 obtain⟨ψ,h⟩:=hs;unfold ME at hc;obtain⟨g,hg,hc⟩:=bind_some hc;obtain⟨r,hr,hc⟩:=bind_some hc;split at hc
 ·rename_i Iu;simp only[a8H,a5y]at hc;subst hc
  have hd:∀i,o.dst=some i->i<n:=by
   intro i hi;rw[hi]at Iu;simpa[Is]using Iu
  have sg:o.dst.getD 999<1000:=by
   cases ho:o.dst with
   |none=>simp
   |some i=>exact a4N (hd i ho) (a9L hn (by decide))
  have run:∀s1,Z7 E n ψ s1 a w->ZP P (o.dst.getD 999) s1 (fun s' x=>K (s'.put o.dst x)) r->ND P o a w K':=by
   intro s1 h1 YL;refine b9S hr sg h1 YL K' (fun _ _ _=>False) ?_;intro s' av ZF v w' hk hs hv;refine hK (s'.put o.dst av) _ _ ⟨ZF,hs.put hd hv⟩ hk
  have skip:∀s1,Z7 E n ψ s1 a w->K (s1.put o.dst .un)->K' (a.put o.dst undef) w:=fun s1 h1 hk=>hK _ _ _ ⟨ψ,h1.put hd .un⟩ hk
  unfold c0U at hg
  cases Q9:o.guard with
  |none=>
   rw[Q9]at hg;simp only[a5y]at hg;subst hg;simp only[V5]at hk;rw[if_pos (by simp[Region.wanted,Q9])];exact run _ h hk
  |some jb=>
   obtain⟨j,b⟩:=jb;rw[Q9]at hg;obtain⟨t,ht,rfl⟩:=Vy hg;simp only[V5]at hk;have hy:=d6Z h ht;split at hk
   ·rename_i c hc;have Es:=hy.1 c hc
    by_cases QM:c=b
    ·rw[if_pos (by simp[Region.wanted,Q9,Es,QM])];subst QM;exact run _ (h.lit (by assumption)) (hk.1 rfl)
    ·rw[if_neg (by simp[Region.wanted,Q9,Es,QM])]
     have qk:c= !b:=by cases c<;>cases b<;>simp_all
     subst qk;exact skip _ (h.lit (by assumption)) (hk.2 rfl)
   ·rename_i hc;have Es:=hy.2 hc;rw[if_neg (by simp[Region.wanted,Q9,Es])];exact skip _ h hk
   ·exact hk.elim
 ·cases hc
def d8Z(P:Program)(ops:Array Oper)(Q:Exit->Act->World->Prop):List Oper->Act->World->Prop
 | [],a,w=>Q .normal a w
 |o::rest,a,w=>if Region.wanted o (yielded ops a.tmps)then ND P o a w (d8Z P ops Q rest)else d8Z P ops Q rest (a.put o.dst undef) w
theorem d9Z{ops:Array Oper}{Q:Exit->Act->World->Prop}(ro:Option Nat)(m:Nat):∀(l:List Oper),(∀o∈l,∀c,o.op≠ .defer c)->∀(a:Act) (w:World),d8Z P ops Q l a w->wpListIn (qb ro) m P ops Q l a w:=by
 intro l
 induction l with
 |nil=>intro _ a w h;exact h
 |cons o l ih=>
  intro WA a w h
  have ih:=ih fun o ho=>WA o (a2C _ ho)
  simp only[d8Z]at h;simp only[wpListIn];split
  ·rename_i hw;rw[if_pos hw]at h;exact Oper.wpIn_mono ih (e8f (WA o a8C) h ro m Q)
  ·rename_i hw;rw[if_neg hw]at h;exact⟨fun _ _=>by cases ro<;>trivial,ih _ _ h⟩
theorem e0a{ops:Array Oper}(hn:n<=999){N:St->Prop}{Q:Exit->Act->World->Prop}(hQ:∀s a w,Un E n s a w->N s->Q .normal a w):
 ∀(l:List Oper) (vl:List Yv) (s:St) (a:Act) (w:World),l.mapM (ME P n ops)=some vl->Un E n s a w->Uy P vl s N->d8Z P ops Q l a w:=by
 intro l
 induction l with
 |nil=>intro vl s a w hc hs hk;simp at hc;subst hc;exact hQ _ _ _ hs hk
 |cons o l ih=>
  intro vl s a w hc hs hk;rw[a3N]at hc;obtain⟨vo,ho,hc⟩:=bind_some hc;obtain⟨vr,hr,hc⟩:=bind_some hc;simp only[a8H,a5y]at hc;subst hc;simp only[Uy]at hk;have:=d7Z (K':=d8Z P ops Q l) ho hn hs hk (fun s' a' w' Rm R7=>ih vr s' a' w' hr Rm R7);unfold d8Z;exact this
end
section
variable{P:Program}{ops:Array Oper}{Q:Exit->Act->World->Prop}{md:Region.Mode}
def Jl(P:Program)(ops:Array Oper)(i:Nat)(K:Act->World->Prop)(a:Act)(w:World):Prop:=match ops[i]? with
 |none=>K a w
 |some o=>if Region.wanted o (yielded ops a.tmps)then ND P o a w K else K (a.put o.dst undef) w
theorem a4O{i:Nat}{a:Act}{w:World}{K K':Act->World->Prop}(h:∀a w,K a w->K' a w)(hh:Jl P ops i K a w):Jl P ops i K' a w:=by
 unfold Jl at*;split
 ·rename_i hi;rw[hi]at hh;exact h _ _ hh
 ·rename_i o hi;rw[hi]at hh;simp only at hh;split
  ·rename_i hw;rw[if_pos hw]at hh;exact e5f h hh
  ·rename_i hw;rw[if_neg hw]at hh;exact h _ _ hh
theorem a5O(WA:∀o∈ops.toList,∀c,o.op≠ .defer c)(ro:Option Nat)(m:Nat){i:Nat}{a:Act}{w:World}{K:Act->World->Prop}(hh:Jl P ops i K a w):wpOpIn (qb ro) m P ops Q i K a w:=by
 unfold Jl at hh;unfold wpOpIn;split
 ·rename_i hi;rw[hi]at hh;exact hh
 ·rename_i o hi;rw[hi]at hh;simp only at hh
  have ho:o∈ops.toList:=by rw[<-a9C]at hi;exact a8y hi
  split
  ·rename_i hw;rw[if_pos hw]at hh;exact e8f (WA o ho) hh ro m Q
  ·rename_i hw;rw[if_neg hw]at hh;exact⟨fun _ _=>by cases ro<;>trivial,hh⟩
def OT(P:Program)(ops:Array Oper)(I:World->Prop)(o:Oper)(v:Value)(a:Act):Prop:=
 (Region.wanted o (yielded ops a.tmps)=true/\∀w,I w->(execOp a.eval o).run P w= .ok (.value v) w)∨
 (Region.wanted o (yielded ops a.tmps)=false/\v=undef)
def WY(UB:Oper->Bool)(P:Program)(ops:Array Oper)(i:Nat)(K:Act->World->Prop)(a:Act)(w:World):Prop:=
 match ops[i]? with
 |none=>K a w
 |some o=>if UB o then ∃v,OT P ops (· =w) o v a/\K (a.put o.dst v) w else Jl P ops i K a w
theorem a7O{UB:Oper->Bool}{i:Nat}{a:Act}{w:World}{K K':Act->World->Prop}(h:∀a w,K a w->K' a w)
 (hh:WY UB P ops i K a w):WY UB P ops i K' a w:=by
 unfold WY at*;split
 ·rename_i hi;rw[hi]at hh;exact h _ _ hh
 ·rename_i o hi;rw[hi]at hh;simp only at hh⊢
  by_cases YL:UB o=true
  ·rw[if_pos YL]at hh⊢;obtain⟨v,h1,h2⟩:=hh;exact⟨v,h1,h _ _ h2⟩
  ·rw[if_neg YL]at hh⊢;exact a4O h hh
theorem OT.wpOp{I:World->Prop}{i:Nat}{o:Oper}{v:Value}{a:Act}(hi:ops[i]? =some o)(hy:OT P ops I o v a)
 {K:Act->World->Prop} {w:World} (hI:I w) (h:K (a.put o.dst v) w):Jl P ops i K a w:=by
 unfold Jl;simp only[hi]
 rcases hy with⟨hw,hv⟩|⟨hw,rfl⟩
 ·simp only[hw,if_true,ND,hv w hI,Fg];exact h
 ·simp only[hw,a5M,if_false];exact h
theorem a8O{UB:Oper->Bool}{i:Nat}{a:Act}{w:World}{K:Act->World->Prop}(hh:WY UB P ops i K a w):Jl P ops i K a w:=by
 unfold WY at hh;split at hh
 ·rename_i hi;unfold Jl;rw[hi];exact hh
 ·rename_i o hi;split at hh
  ·obtain⟨v,h1,h2⟩:=hh;exact h1.wpOp hi rfl h2
  ·exact hh
theorem OT.of_same{I:World->Prop}{o:Oper}{v:Value}{a a':Act}(hy:OT P ops I o v a)(he:execOp a'.eval o=execOp a.eval o)
 (hw:Region.wanted o (yielded ops a'.tmps)=Region.wanted o (yielded ops a.tmps)):OT P ops I o v a':=by
 unfold OT at*;rw[he,hw];exact hy
theorem a9O{UB:Oper->Bool}{I:World->Prop}{j:Nat}{oi oj:Oper}{v:Value}(hj:ops[j]? =some oj)(hap:oi.apart ops oj=true)
 (hsi:∀cs b,oi.op≠ .select cs b) (hsj:∀cs b,oj.op≠ .select cs b) (WC:(∀w,I w)\/UB oj=true\/∀(a:Act) w n w',I w->(execOp a.eval oj).run P w= .ok n w'->I w'/\∃v,n= .value v)
 {K:Act->World->Prop} {a:Act} {w:World} (hI:I w)
 (hy:OT P ops I oi v a) (h:WY UB P ops j K (a.put oi.dst v) w):
 WY UB P ops j (fun a' w'=>OT P ops I oi v a'/\I w'/\K (a'.put oi.dst v) w') a w:=by
 obtain⟨h1,h2,h3⟩:=Oper.apart_spec hap
 have keep:∀(a:Act),OT P ops I oi v a->∀u,OT P ops I oi v (a.put oj.dst u):=fun a hy u=>
  hy.of_same (execOp_put oi hsi a oj.dst u h3) (wanted_put oi a oj.dst u h3)
 unfold WY at*;simp only[hj]at h⊢
 by_cases YL:UB oj=true
 ·rw[if_pos YL]at h⊢;obtain⟨u,hu,hk⟩:=h;refine⟨u,hu.of_same ?_ ?_,keep a hy u,hI,by rw[<-Act.put_comm a v u h2];exact hk⟩
  ·exact(execOp_put oj hsj a oi.dst v h1).symm
  ·exact(wanted_put oj a oi.dst v h1).symm
 rw[if_neg YL]at h⊢;unfold Jl at*;simp only[hj]at*;rw[wanted_put oj a oi.dst v h1]at h;split
 ·rename_i hw;simp only[hw,if_true]at h;unfold ND at*;rw[execOp_put oj hsj a oi.dst v h1]at h
  rcases WC with hI'|WC|My
  ·generalize (execOp a.eval oj).run P w=r at*
   cases r with
   |ok n w'=>
    cases n<;>simp only[Fg]at h⊢
    case value u=>exact⟨keep a hy u,hI' _,by rw[<-Act.put_comm a v u h2];exact h⟩
    case skip=>exact⟨keep a hy _,hI' _,by rw[<-Act.put_comm a v undef h2];exact h⟩
    case enter f args=>
     refine Calls.mono h fun e JS ⟨u,he,hk⟩=>⟨u,he,keep a hy u,hI' _,by rw[<-Act.put_comm a v u h2];exact hk⟩
    case round l f tmps assign body=>
     exact fun m=>RoundIn.mono (h m) fun e JS ⟨u,he,hk⟩=>⟨u,he,keep a hy u,hI' _,by rw[<-Act.put_comm a v u h2];exact hk⟩
   |halt x w'=>exact h.elim
  ·exact absurd WC YL
  ·have hg:=My a w;generalize (execOp a.eval oj).run P w=r at*
   cases r with
   |ok n w'=>
    obtain⟨g1,u,rfl⟩:=hg n w' hI rfl;simp only[Fg]at h⊢;exact⟨keep a hy u,g1,by rw[<-Act.put_comm a v u h2];exact h⟩
   |halt x w'=>exact h.elim
 ·rename_i hw;simp only[hw]at h;exact⟨keep a hy _,hI,by rw[<-Act.put_comm a v undef h2];exact h⟩
def a0P(UB:Oper->Bool)(P:Program)(md:Region.Mode)(ops:Array Oper)(Q:Exit->Act->World->Prop):Nat->Array Bool->Act->World->Prop
 | 0,ZO,a,w=>Region.ready md ops ZO=[]/\Q .normal a w
 |fuel+1,ZO,a,w=>
  (Region.ready md ops ZO=[]->Q .normal a w)∧
  ∀i∈Region.ready md ops ZO,WY UB P ops i (a0P UB P md ops Q fuel (ZO.setIfInBounds i true)) a w
theorem a1P{UB:Oper->Bool}(WA:∀o∈ops.toList,∀c,o.op≠ .defer c)(ro:Option Nat)(m:Nat):∀(fuel:Nat) (ZO:Array Bool) (a:Act) (w:World),a0P UB P md ops Q fuel ZO a w->wpAnyIn (qb ro) m P md ops Q fuel ZO a w:=by
 intro fuel
 induction fuel with
 |zero=>intro ZO a w h;exact h
 |succ fuel ih=>intro ZO a w h;exact⟨h.1,fun i hi=>wpOpIn_mono (fun a w=>ih _ a w) (a5O WA ro m (a8O (h.2 i hi)))⟩
theorem OT.WY{UB:Oper->Bool}{I:World->Prop}{i:Nat}{o:Oper}{v:Value}{a:Act}(hi:ops[i]? =some o)(hy:OT P ops I o v a)
 {K:Act->World->Prop} {w:World} (hI:I w) (h:K (a.put o.dst v) w):WY UB P ops i K a w:=by
 unfold Vm.WY;simp only[hi];split
 ·refine⟨v,?_,h⟩
  rcases hy with⟨hw,hv⟩|hy
  ·exact .inl ⟨hw,fun w' e=>by subst e;exact hv _ hI⟩
  ·exact .inr hy
 ·exact hy.wpOp hi hI h
theorem a2P{UB:Oper->Bool}{I:World->Prop}{i:Nat}{oi:Oper}{v:Value}{D:List Nat}(hi:ops[i]? =some oi)(JV:∀(j:Nat) (o:Oper) cs b,ops[j]? =some o->o.op≠ .select cs b)
 (hD:∀j∈D,∀oj,ops[j]? =some oj->∃e∈oj.after,Region.binds md e=true/\(e.on=i\/e.on∈D))
 :
 ∀(fuel:Nat) (ZO:Array Bool) (a:Act) (w:World),(∀j∈D,ZO.getD j true=false)->I w->
  (∀j oj,ops[j]? =some oj->j≠i->ZO.getD j true=false->j∉D->oi.apart ops oj=true/\((∀w,I w)\/UB oj=true\/∀(a:Act) w n w',I w->(execOp a.eval oj).run P w= .ok n w'->I w'/\∃v,n= .value v))->
  i∈Region.ready md ops ZO->OT P ops I oi v a->
  a0P UB P md ops Q fuel (ZO.setIfInBounds i true) (a.put oi.dst v) w->a0P UB P md ops Q (fuel+1) ZO a w:=by
 intro fuel
 induction fuel with
 |zero=>
  intro ZO a w _ hI _ hr hy H;refine⟨fun h=>(by rw[h]at hr;cases hr),fun j hj=>?_⟩
  by_cases WB:j=i
  ·subst WB;exact hy.WY hi hI H
  ·have:=ready_mono hj WB;rw[H.1]at this;cases this
 |succ fuel ih=>
  intro ZO a w hDl hI MD hr hy H;refine⟨fun h=>(by rw[h]at hr;cases hr),fun j hj=>?_⟩
  by_cases WB:j=i
  ·subst WB;exact hy.WY hi hI H
  ·have h1:=H.2 j (ready_mono hj WB);obtain⟨f4h,oj,OP,Zt⟩:=mem_ready.1 hj
   have unl:∀k,ZO.getD k true=false->ZO.getD k false=false:=by
    intro k hk
    rcases Nat.lt_or_ge k ZO.size with h'|h'
    ·simp[h']at hk⊢;exact hk
    ·simp[b9l h']at hk
   have hjD:j∉D:=by
    intro hjD;obtain⟨e,he,hb,hon⟩:=hD j hjD oj OP;have h1:=Zt e he hb
    rcases hon with hon|hon
    ·rw[hon,unl i (mem_ready.1 hr).1]at h1;cases h1
    ·rw[unl _ (hDl _ hon)]at h1;cases h1
   obtain⟨hap,hkp⟩:=MD j oj OP WB f4h hjD;have h2:=a9O OP hap (fun cs b=>JV i oi cs b hi) (fun cs b=>JV j oj cs b OP) hkp hI hy h1
   have f5h:∀k,k≠j->(ZO.setIfInBounds j true).getD k true=ZO.getD k true:=fun k hk=>getD_set_ne true (Ne.symm hk)
   refine a7O (fun a' w' h3=>ih (ZO.setIfInBounds j true) a' w' ?_ h3.2.1 (fun k ok hk hki hun Y6=>?_) (ready_mono hr (Ne.symm WB)) h3.1 ?_) h2
   ·intro k hk;rw[f5h k (fun e=>hjD (e▸hk))];exact hDl k hk
   ·refine MD k ok hk hki ?_ Y6
    by_cases hjk:k=j
    ·subst hjk;exact f4h
    ·rw[f5h k hjk]at hun;exact hun
   ·rw[Array.setIfInBounds_comm _ _ WB];exact h3.2.2
end
/-! ### g0g operations reckon only,which read only-/
def Wu.pure:Wu->Bool
 | .Td _| .pick .. | .sb _| .bin .. | .beq .. | .peq .. | .Qg .. | .un .. | .cvt .. | .ext .. | .len _| .lens _| .fa .. | .WJ .. | .ia .. | .is .. | .ix .. | .cut .. | .V6 .. | .build .. | .eqs .. =>true
 | _=>false
def Sem.Adds{α:Type}:Sem α->Prop
 | .pure _=>True
 | .halt _=>True
 | .load _ _ k=>∀v,Adds (k v)
 | .shape _ k=>∀s,Adds (k s)
 | .frozen _ k=>∀b,Adds (k b)
 | .getObj _ k=>∀o,Adds (k o)
 | .program k=>∀p,Adds (k p)
 | .mark _ k=>Adds k
 | .new _ k=>∀n,Adds (k n)
 | .store _ _ _ _=>False
 | .freeze _ _ _=>False
 | .setObj _ _ _=>False
 | .choose _ _=>False
 | .sys _ _=>False
theorem Sem.Adds.R3{α:Type}{x:Sem α}(hx:x.Looks):Sem.Adds x:=by
 induction x with
 |pure a=>trivial
 |halt h=>trivial
 |load m a k ih=>exact fun v=>ih v (hx v)
 |shape r k ih=>exact fun v=>ih v (hx v)
 |frozen a k ih=>exact fun v=>ih v (hx v)
 |getObj r k ih=>exact fun v=>ih v (hx v)
 |program k ih=>exact fun v=>ih v (hx v)
 |mark m k ih=>exact ih hx
 |store m a v k _=>exact hx.elim
 |new o k _=>exact hx.elim
 |freeze a n k _=>exact hx.elim
 |setObj r o k _=>exact hx.elim
 |choose q k _=>exact hx.elim
 |sys c k _=>exact hx.elim
theorem Sem.Adds.bind{α β:Type}{x:Sem α}{f:α->Sem β}(hx:Sem.Adds x)(hf:∀a,Sem.Adds (f a)):Sem.Adds (x >>= f):=by
 show Sem.Adds (x.bind f)
 induction x with
 |pure a=>exact hf a
 |halt h=>exact trivial
 |load m a k ih=>exact fun v=>ih v (hx v)
 |shape r k ih=>exact fun s=>ih s (hx s)
 |frozen a k ih=>exact fun b=>ih b (hx b)
 |getObj r k ih=>exact fun o=>ih o (hx o)
 |program k ih=>exact fun p=>ih p (hx p)
 |mark m k ih=>exact ih hx
 |store m a v k _=>exact hx.elim
 |new o k ih=>exact fun n=>ih n (hx n)
 |freeze a n k _=>exact hx.elim
 |setObj r o k _=>exact hx.elim
 |choose q k _=>exact hx.elim
 |sys c k _=>exact hx.elim
theorem Sem.Adds.ext{α:Type}{x:Sem α}(hx:Sem.Adds x){P:Program}{w w':World}{a:α}(h:x.run P w= .ok a w'):Ext w w':=by
 induction x generalizing w with
 |pure b=>simp only[Sem.run]at h;cases h;exact Ext.refl _
 |halt b=>simp only[Sem.run]at h;cases h
 |load m b k ih=>
  simp only[Sem.run]at h;split at h
  ·exact ih _ (hx _) h
  ·split at h
   ·exact ih _ (hx _) h
   ·cases h
 |shape r k ih=>exact ih _ (hx _) h
 |frozen b k ih=>exact ih _ (hx _) h
 |getObj r k ih=>
  simp only[Sem.run]at h;split at h
  ·cases h
  ·exact ih _ (hx _) h
  ·cases h
 |program k ih=>exact ih _ (hx _) h
 |mark m k ih=>exact ih hx h
 |store m b v k _=>exact hx.elim
 |new o k ih=>
  simp only[Sem.run]at h;exact(Ext.alloc w o).trans (ih _ (hx _) h)
 |freeze b n k _=>exact hx.elim
 |setObj r o k _=>exact hx.elim
 |choose q k _=>exact hx.elim
 |sys c k _=>exact hx.elim
theorem a3P(e:TypeId)(cs:Array Value):Sem.Adds (newRow e cs):=Sem.Adds.bind (fun n=>trivial) (fun _=>trivial)
theorem a4P(t:TypeId):Sem.Adds (zeroValue t):=by
 unfold zeroValue
 refine Sem.Adds.bind (.R3 (typeInfo_looks t)) fun i=>?_
 split<;>trivial
theorem a5P(t:TypeId):Sem.Adds (underlying t):= .R3 (underlying_looks t)
theorem a6P(t:TypeId):Sem.Adds (sizeOf t):= .R3 (sizeOf_looks t)
def a7P(o:Oper):Bool:=match o.op with
 | .alloc _=>true
 | .box .. =>true
 | .buildSlice .. =>true
 | _=>false
theorem a8P{x:Sem Value}(hx:Sem.Adds x){P:Program}{w w':World}{n:Next}(h:(x >>= fun v=>pure (Next.value v)).run P w= .ok n w'):Ext w w'/\∃v,n= .value v:=by
 refine⟨(Sem.Adds.bind (f:=fun v=>(pure (Next.value v):Sem Next)) hx fun v=>(trivial:Sem.Adds (Sem.pure (Next.value v)))).ext h,?_⟩;rw[Sem.run_bind]at h
 cases hx:x.run P w with
 |ok v w1=>rw[hx]at h;simp at h;exact⟨v,h.1.symm⟩
 |halt b w1=>rw[hx]at h;simp[Result.andThen]at h
theorem a9P{P:Program}{o:Oper}(h:a7P o=true)(a:Act)(w:World)(n:Next)(w':World)(hr:(execOp a.eval o).run P w= .ok n w'):Ext w w'/\∃v,n= .value v:=by
 obtain⟨dst,op,ty,pos,af,g⟩:=o
 cases op with
 |alloc t=>
  refine a8P ?_ hr;unfold Instr.alloc
  refine Sem.Adds.bind (a4P t) fun z=>?_
  exact Sem.Adds.bind (a3P _ _) fun _=>trivial
 |box t x=>
  refine a8P ?_ hr;unfold Instr.box
  exact Sem.Adds.bind (a3P _ _) fun _=>trivial
 |buildSlice t len parts=>
  refine a8P ?_ hr;unfold Instr.buildSlice
  repeat' first
   |exact a4P _
   |exact a5P _
   |exact a6P _
   |exact a3P _ _
   |trivial
   |(refine Sem.Adds.bind ?_ fun _=>?_)
   |split
   |dsimp only
 | _=>cases h
section
variable{P:Program}{E:En}{n:Nat}{ψ:Pl}{s:St}{a:Act}{w:World}
variable{d:Nat}{K:St->AV->Prop}{r:Wu}
theorem a0Q{o:Oper}(hc:comp P o=some r)(hp:r.pure=true)(h:Z7 E n ψ s a w)(hk:ZP P d s K r):∃v,∀u,(execOp a.eval o).run P u= .ok (.value v) u:=by
 obtain⟨dst,op,ty,pos,af,g⟩:=o;have UZ:=hc;unfold comp at hc;split at hc
 ·rename_i x heq;cases heq;split at hc
  ·simp only[a5y]at hc;subst hc;cases hp
  ·simp only[a5y]at hc;subst hc;exact(a6E (.inl rfl) h hk).any
 ·rename_i x heq;cases heq;split at hc
  ·simp only[a5y]at hc;subst hc;cases hp
  ·simp only[a5y]at hc;subst hc;exact(a6E (.inr rfl) h hk).any
 ·rename_i heq;cases heq;exact(b1U UZ h hk).any
 ·rename_i heq;cases heq;obtain⟨z,hz,rfl⟩:=Vy hc;cases hp
 ·rename_i heq;cases heq;simp only[a5y]at hc;subst hc;cases hp
 ·rename_i t parts heq;cases heq;split at hc
  ·rename_i fs hu;split at hc
   ·rename_i Zt;obtain⟨z,hz,hc⟩:=bind_some hc;obtain⟨l,hl,hc⟩:=bind_some hc;simp only[a8H,a5y]at hc;subst hc;exact(a5D hu hz (fun f hf=>by simpa using(d5n.1 Zt) f hf) hl h hk).any
   ·cases hc
  ·rename_i hu;obtain⟨q,hq,hc⟩:=bind_some hc;obtain⟨z,hz,hc⟩:=bind_some hc;simp only[a8H,a5y]at hc;subst hc;exact(a6D hu hq hz h hk).any
  ·cases hc
 ·rename_i t len parts heq;cases heq;split at hc
  ·obtain⟨sz,Yd,hc⟩:=bind_some hc;split at hc
   ·obtain⟨z,hz,hc⟩:=bind_some hc;simp only[a8H,a5y]at hc;subst hc;cases hp
   ·cases hc
  ·cases hc
 ·rename_i heq;cases heq;obtain⟨dd,Ff,hc⟩:=bind_some hc;split at hc
  ·obtain⟨q,hq,rfl⟩:=Vy hc;cases hp
  ·simp only[a8H,a5y]at hc;subst hc;cases hp
 ·rename_i heq;cases heq;obtain⟨q,hq,rfl⟩:=Vy hc;cases hp
 ·rename_i heq;cases heq;exact(b2U UZ h hk).any
 ·rename_i op xt x y yt heq;cases heq;split at hc
  ·simp only[a5y]at hc;subst hc;exact(b5U h hk).any
  ·simp only[a5y]at hc;subst hc;exact(b5U h hk).any
  ·rename_i hu;split at hc
   ·simp only[a5y]at hc;subst hc;exact(b8U hu rfl h hk).any
   ·simp only[a5y]at hc;subst hc;exact(b8U hu rfl h hk).any
   ·cases hc
  ·rename_i hu;split at hc
   ·simp only[a5y]at hc;subst hc;exact(b1V hu rfl h hk).any
   ·simp only[a5y]at hc;subst hc;exact(b1V hu rfl h hk).any
   ·cases hc
  ·rename_i hu;split at hc
   ·simp only[a5y]at hc;subst hc;exact(b4V hu rfl h hk).any
   ·simp only[a5y]at hc;subst hc;exact(b4V hu rfl h hk).any
   ·cases hc
  ·rename_i hu;split at hc
   ·rename_i Q9;obtain⟨ks,WZ,hc⟩:=bind_some hc;split at hc
    ·cases hc
    ·rename_i hi
     have hi:X7 P xt=some ks.length:=by simpa using hi
     split at hc
     ·simp only[a5y]at hc;subst hc;exact(a7x hu Q9 WZ rfl h hk hi).any
     ·simp only[a5y]at hc;subst hc;exact(a7x hu Q9 WZ rfl h hk hi).any
     ·cases hc
   ·cases hc
  ·cases hc
 ·rename_i heq;cases heq;simp only[a5y]at hc;subst hc;exact(b5V h hk).any
 ·rename_i heq;cases heq;split at hc
  ·rename_i h1 h2;simp only[a5y]at hc;subst hc;exact(b6V h1 h2 h hk).any
  ·cases hc
 ·rename_i heq;cases heq;simp only[a5y]at hc;subst hc;exact(a7F h hk).any
 ·rename_i heq;cases heq;split at hc
  ·obtain⟨q,hq,rfl⟩:=Vy hc;cases hp
  ·cases hc
 ·rename_i heq;cases heq;split at hc
  ·obtain⟨i,hi,hc⟩:=bind_some hc;obtain⟨z,hz,hc⟩:=bind_some hc;split at hc
   ·simp only[a8H,a5y]at hc;subst hc;cases hp
   ·cases hc
  ·cases hc
 ·rename_i heq;cases heq;split at hc
  ·rename_i hu;obtain⟨sz,Yd,rfl⟩:=Vy hc;exact(c4w hu Yd h hk).any
  ·cases hc
 ·rename_i heq;cases heq;split at hc
  ·rename_i hu;obtain⟨f,hf,hc⟩:=bind_some hc;obtain⟨q,hq,hc⟩:=bind_some hc;split at hc
   ·cases hc
   ·rename_i qa;simp only[a8H,a5y]at hc;subst hc;exact(c3v hu hf hq qa h hk).any
  ·cases hc
 ·rename_i heq;cases heq;split at hc
  ·rename_i hu;obtain⟨f,hf,hc⟩:=bind_some hc;obtain⟨q,hq,hc⟩:=bind_some hc;obtain⟨dd,Ff,hc⟩:=bind_some hc;simp only[a8H,a5y]at hc;subst hc;exact(c7v hu hf hq Ff h hk).any
  ·cases hc
 ·rename_i heq;cases heq;split at hc
  ·rename_i hu;obtain⟨sz,Yd,rfl⟩:=Vy hc;exact(c8v hu Yd h hk).any
  ·cases hc
 ·rename_i heq;cases heq;split at hc
  ·rename_i hu;simp only[a5y]at hc;subst hc;exact(c9v hu h hk).any
  ·rename_i hu;split at hc
   ·rename_i hq;obtain⟨dd,hd⟩:=c7w.1 hq.2.2;simp only[a5y]at hc;subst hc;exact(c0w hu hq.1 hq.2.1 hd h hk).any
   ·cases hc
  ·cases hc
 ·rename_i heq;cases heq;split at hc
  ·obtain⟨q,hq,hc⟩:=bind_some hc;obtain⟨z,hz,hc⟩:=bind_some hc;split at hc
   ·simp only[a8H,a5y]at hc;subst hc;cases hp
   ·cases hc
  ·cases hc
 ·rename_i heq;cases heq;split at hc
  ·obtain⟨q,hq,hc⟩:=bind_some hc;obtain⟨z,hz,hc⟩:=bind_some hc;split at hc
   ·simp only[a8H,a5y]at hc;subst hc;cases hp
   ·cases hc
  ·cases hc
 ·rename_i heq;cases heq;simp only[a5y]at hc;subst hc;cases hp
 ·rename_i heq;cases heq;split at hc
  ·obtain⟨q,hq,rfl⟩:=Vy hc;cases hp
  ·cases hc
 ·rename_i heq;cases heq;simp only[a5y]at hc;subst hc;cases hp
 ·rename_i heq;cases heq;simp only[a5y]at hc;subst hc;cases hp
 ·rename_i heq;cases heq;split at hc
  ·obtain⟨q,hq,rfl⟩:=Vy hc;cases hp
  ·cases hc
 ·rename_i heq;cases heq;split at hc
  ·obtain⟨q,hq,rfl⟩:=Vy hc;cases hp
  ·cases hc
 ·rename_i heq;cases heq;simp only[a5y]at hc;subst hc;exact(b7V h hk).any
 ·rename_i c heq;cases heq;obtain⟨cl,args,ts⟩:=c;simp only at hc;split at hc
  ·split at hc
   ·simp only[a5y]at hc;subst hc;cases hp
   ·cases hc
  ·simp only[a5y]at hc;subst hc;cases hp
  ·split at hc
   ·rename_i x t h1 h2;have e1:=Ik h1;have e2:=Ik h2;subst e1;subst e2;split at hc
    ·rename_i hu;simp only[a5y]at hc;subst hc;exact(c1v rfl hu h hk).any
    ·rename_i hu;simp only[a5y]at hc;subst hc;exact(c2v rfl hu h hk).any
    ·simp only[a5y]at hc;subst hc;cases hp
    ·cases hc
   ·cases hc
  ·split at hc
   ·split at hc
    ·obtain⟨q,hq,hc⟩:=bind_some hc;obtain⟨q2,QJ,hc⟩:=bind_some hc;split at hc
     ·simp only[a5y]at hc;subst hc;cases hp
     ·cases hc
    ·cases hc
   ·cases hc
  ·simp only[a5y]at hc;subst hc;cases hp
  ·simp only[a5y]at hc;subst hc;cases hp
  ·split at hc
   ·split at hc
    ·obtain⟨q,hq,rfl⟩:=Vy hc;cases hp
    ·cases hc
   ·cases hc
  ·split at hc
   ·split at hc
    ·obtain⟨q,hq,rfl⟩:=Vy hc;cases hp
    ·cases hc
   ·cases hc
  ·split at hc
   ·split at hc
    ·obtain⟨q,hq,hc⟩:=bind_some hc;obtain⟨q2,QJ,hc⟩:=bind_some hc;split at hc
     ·simp only[a5y]at hc;subst hc;cases hp
     ·cases hc
    ·cases hc
   ·cases hc
  ·cases hc
 ·cases hc
end
def qo(P:Program)(o:Oper):Bool:=match comp P o with
 |some r=>r.pure
 |none=>false
def a9F(o:Oper):Bool:=match o.op with
 | .load .. =>true
 | .lookup .. =>true
 | _=>false
def UB(P:Program)(o:Oper):Bool:=qo P o||a9F o
def a1G(ops:Array Oper)(i:Nat):List Nat:=
 (a0I ops.size).foldl (fun D j=>match ops[j]? with
  |some o=>if o.after.any (fun e=>Region.binds .any e&&(e.on==i||D.contains e.on))then j::D else D
  |none=>D) []
def Iw(P:Program)(ops:Array Oper)(ZO:Array Bool)(i:Nat):Bool:=match ops[i]? with
 |none=>false
 |some oi=>UB P oi&&(a1G ops i).all (fun j=> !ZO.getD j true&&match ops[j]? with
  |some o=>o.after.any fun e=>Region.binds .any e&&(e.on==i||(a1G ops i).contains e.on)
  |none=>true)&&
  (a0I ops.size).all fun j=>j==i||ZO.getD j true||(a1G ops i).contains j||match ops[j]? with
   |some oj=>oi.apart ops oj&&(qo P oi||UB P oj||a7P oj)
   |none=>true
def a2G:List VT->Option VT
 | []=>none
 | [t]=>some t
 |t::r=>(a2G r).map (.alt t)
def force{α:Type}(n:Nat)(f:Nat->α):α:=match n with
 | 0=>f 0
 |m+1=>f (m+1)
theorem a3G{α:Type}(n:Nat)(f:Nat->α):force n f=f n:=by cases n<;>rfl
def Iv:List Bool->Nat
 | []=>0
 |b::r=>2*Iv r+(if b then 1 else 0)
def a5G:Nat->Nat->List Bool
 | 0,_=>[]
 |k+1,m=>(m%2==1)::a5G k (m/2)
theorem a6G:∀l:List Bool,a5G l.length (Iv l)=l
 | []=>rfl
 |b::r=>by
  have h1:(2*Iv r+(if b then 1 else 0))/2=Iv r:=by split<;>omega
  have h2:((2*Iv r+(if b then 1 else 0))%2==1)=b:=by
   cases b
   ·have:(2*Iv r+(if false then 1 else 0))%2=0:=by simp
    rw[this];rfl
   ·have:(2*Iv r+(if true then 1 else 0))%2=1:=by simp
    rw[this];rfl
  show((2*Iv r+(if b then 1 else 0))%2==1)::a5G r.length ((2*Iv r+(if b then 1 else 0))/2)=b::r
  rw[h1,h2,a6G r]
def canon{α:Type}(l:Array Bool)(f:Array Bool->α):α:=force l.size fun sz=>force (Iv l.toList) fun m=>f (a5G sz m).toArray
theorem a7G{α:Type}(l:Array Bool)(f:Array Bool->α):canon l f=f l:=by
 unfold canon;rw[a3G,a3G];have:a5G l.size (Iv l.toList)=l.toList:=a6G l.toList;rw[this]
def Q5(P:Program)(n:Nat)(ops:Array Oper):Nat->Array Bool->Option VT
 | 0,ZO=>if(Region.ready .any ops ZO).isEmpty then some .done else none
 |fuel+1,ZO=>
  let one:=fun i=>do
   let o<-ops[i]?
   let vo<-ME P n ops o
   let t<-canon (ZO.setIfInBounds i true) fun l=>Q5 P n ops fuel l
   pure (VT.op vo t)
  if(Region.ready .any ops ZO).isEmpty then some .done
  else match (Region.ready .any ops ZO).find? (Iw P ops ZO)with
   |some i=>one i
   |none=>((Region.ready .any ops ZO).mapM one).bind a2G
theorem a8G(P:Program)(n:Nat)(ops:Array Oper)(fuel:Nat)(ZO:Array Bool):Q5 P n ops (fuel+1) ZO=
 (let one:=fun i=>do
  let o<-ops[i]?
  let vo<-ME P n ops o
  let t<-Q5 P n ops fuel (ZO.setIfInBounds i true)
  pure (VT.op vo t)
 if(Region.ready .any ops ZO).isEmpty then some .done
 else match (Region.ready .any ops ZO).find? (Iw P ops ZO)with
  |some i=>one i
  |none=>((Region.ready .any ops ZO).mapM one).bind a2G):=by
 rw[Q5];simp only[a7G]
section
variable{P:Program}{E:En}{n:Nat}{s:St}{a:Act}{w:World}{ops:Array Oper}
theorem a9G{o:Oper}{r:Wu}{d:Nat}{K:St->AV->Prop}{ψ:Pl}(hc:comp P o=some r)(hr:a9F o=true)(hd:d<1000)(h:Z7 E n ψ s a w)(hk:ZP P d s K r):
 ∃v,∀u,Ext w u->(execOp a.eval o).run P u= .ok (.value v) u:=by
 obtain⟨dst,op,ty,pos,af,g⟩:=o
 cases op with
 |load t x=>exact b0M hc hd h hk
 |lookup t m k ok=>
  simp only[comp]at hc;split at hc
  ·rename_i hu;obtain⟨sk,UM,hc⟩:=bind_some hc;obtain⟨z,hz,hc⟩:=bind_some hc;split at hc
   ·rename_i Q0;simp only[a8H,a5y]at hc;subst hc;obtain⟨v,h1,_⟩:=e0p (dst:=dst) (ty:=ty) (pos:=pos) (af:=af) (g:=g) hu UM hz Q0 hd h hk;exact⟨v,h1⟩
   ·cases hc
  ·cases hc
 | _=>cases hr
theorem a0H{o:Oper}{vo:Yv}(hc:ME P n ops o=some vo)(hn:n<=999){K:St->Prop}(hs:Un E n s a w)
 (hk:V5 P vo s K) (YL:UB P o=true):∃v,OT P ops (if qo P o then fun _=>True else Ext w) o v a/\∃s',Un E n s' (a.put o.dst v) w/\K s':=by
 obtain⟨ψ,h⟩:=hs;unfold ME at hc;obtain⟨g,hg,hc⟩:=bind_some hc;obtain⟨r,hr,hc⟩:=bind_some hc;split at hc
 ·rename_i Iu;simp only[a8H,a5y]at hc;subst hc
  have hd:∀i,o.dst=some i->i<n:=by
   intro i hi;rw[hi]at Iu;simpa[Is]using Iu
  have sg:o.dst.getD 999<1000:=by
   cases ho:o.dst with
   |none=>simp
   |some i=>exact a4N (hd i ho) (a9L hn (by decide))
  have skip:∀s,Z7 E n ψ s a w->Region.wanted o (yielded ops a.tmps)=false->K (s.put o.dst .un)->∃v,OT P ops (if qo P o then fun _=>True else Ext w) o v a/\∃s',Un E n s' (a.put o.dst v) w/\K s':=
   fun s h hw hk=>⟨undef, .inr ⟨hw,rfl⟩,_,⟨ψ,h.put hd .un⟩,hk⟩
  have run:∀s,Z7 E n ψ s a w->Region.wanted o (yielded ops a.tmps)=true->ZP P (o.dst.getD 999) s (fun s' x=>K (s'.put o.dst x)) r->
   ∃v,OT P ops (if qo P o then fun _=>True else Ext w) o v a/\∃s',Un E n s' (a.put o.dst v) w/\K s':=by
   intro s h hw qn
   have QN:=b9S hr sg h qn (fun a' w'=>∃s',Un E n s' a' w'/\K s') (fun _ _ _=>False)
    (fun s' av ZF v w' hk hs hv=>⟨_,⟨ZF,hs.put hd hv⟩,hk⟩)
   by_cases hp:qo P o=true
   ·have Fj:r.pure=true:=by unfold qo at hp;rw[hr]at hp;exact hp
    obtain⟨v,hv⟩:=a0Q hr Fj h qn;refine⟨v, .inl ⟨hw,fun u _=>hv u⟩,?_⟩;unfold ND at QN;rw[hv w]at QN;exact QN
   ·have OS:a9F o=true:=by
     unfold UB at YL;simp only[hp,Bool.false_or]at YL;exact YL
    rw[if_neg hp];obtain⟨v,hv⟩:=a9G hr OS sg h qn;refine⟨v, .inl ⟨hw,fun u hu=>hv u hu⟩,?_⟩;unfold ND at QN;rw[hv w (Ext.refl w)]at QN;exact QN
  unfold c0U at hg
  cases Q9:o.guard with
  |none=>
   rw[Q9]at hg;simp only[a5y]at hg;subst hg;simp only[V5]at hk;exact run s h (by simp[Region.wanted,Q9]) hk
  |some jb=>
   obtain⟨j,b⟩:=jb;rw[Q9]at hg;obtain⟨t,ht,rfl⟩:=Vy hg;simp only[V5]at hk;have hy:=d6Z h ht;split at hk
   ·rename_i c hc;have Es:=hy.1 c hc
    by_cases QM:c=b
    ·subst QM;exact run _ (h.lit (by assumption)) (by simp[Region.wanted,Q9,Es]) (hk.1 rfl)
    ·have qk:c= !b:=by cases c<;>cases b<;>simp_all
     subst qk;exact skip _ (h.lit (by assumption)) (by simp[Region.wanted,Q9,Es]) (hk.2 rfl)
   ·rename_i hc;have Es:=hy.2 hc;exact skip s h (by simp[Region.wanted,Q9,Es]) hk
   ·exact hk.elim
 ·cases hc
theorem a1H{P:Program}{s:St}{K:St->Prop}:∀{ts:List VT} {t:VT},a2G ts=some t->Uc P t s K->∀u∈ts,Uc P u s K
 | [],t,h,_,_,_=>by cases h
 | [x],t,h,hk,u,hu=>by
  simp only[a2G,a5y]at h;subst h;rw[a2z.1 hu];exact hk
 |x::y::r,t,h,hk,u,hu=>by
  simp only[a2G]at h;obtain⟨t',JW,rfl⟩:=Vy h;simp only[Uc]at hk
  rcases a2E.1 hu with rfl|hu
  ·exact hk.1
  ·exact a1H (ts:=y::r) JW hk.2 u hu
theorem a2H{α β:Type}{f:α->Option β}:∀{l:List α} {r:List β},l.mapM f=some r->∀x∈l,∃y∈r,f x=some y:=by
 intro l
 induction l with
 |nil=>intro r _ x hx;cases hx
 |cons x l ih=>
  intro r h y hy;rw[a3N]at h;obtain⟨z,hz,h⟩:=bind_some h;obtain⟨q,hq,h⟩:=bind_some h;simp only[a8H,a5y]at h;subst h
  rcases a2E.1 hy with rfl|hy
  ·exact⟨z,a8C,hz⟩
  ·obtain⟨u,hu,e⟩:=ih hq y hy;exact⟨u,a2C _ hu,e⟩
theorem a3H{o:Oper}{vo:Yv}{i:Nat}(hi:ops[i]? =some o)(hc:ME P n ops o=some vo)(hn:n<=999){K:St->Prop}{K':Act->World->Prop}(hs:Un E n s a w)
 (hk:V5 P vo s K) (hK:∀s' a' w',Un E n s' a' w'->K s'->K' a' w'):WY (UB P) P ops i K' a w:=by
 unfold WY;rw[hi];simp only
 by_cases YL:UB P o=true
 ·rw[if_pos YL];obtain⟨v,hy,s',Rm,R7⟩:=a0H hc hn hs hk YL;refine⟨v,?_,hK s' _ _ Rm R7⟩
  rcases hy with⟨hw,hv⟩|hy
  ·refine .inl ⟨hw,fun u e=>hv u ?_⟩;split
   ·trivial
   ·rw[e];exact Ext.refl _
  ·exact .inr hy
 ·rw[if_neg YL];unfold Jl;rw[hi];exact d7Z hc hn hs hk hK
theorem a4H(hn:n<=999)(JV:Region.noSelect ops=true){N:St->Prop}{Q:Exit->Act->World->Prop}(hQ:∀s a w,Un E n s a w->N s->Q .normal a w):
 ∀(fuel:Nat) (ZO:Array Bool) (t:VT) (s:St) (a:Act) (w:World),Q5 P n ops fuel ZO=some t->Un E n s a w->Uc P t s N->
  a0P (UB P) P .any ops Q fuel ZO a w:=by
 intro fuel
 induction fuel with
 |zero=>
  intro ZO t s a w ht hs hk;simp only[Q5]at ht;split at ht
  ·rename_i he;cases ht;exact⟨c2y.1 he,hQ _ _ _ hs hk⟩
  ·cases ht
 |succ fuel ih=>
  intro ZO t s a w ht hs hk
  have one:∀i u,(do let o<-ops[i]?;let vo<-ME P n ops o;let t<-Q5 P n ops fuel (ZO.setIfInBounds i true);pure (VT.op vo t))=some u->
   ∃o vo t',ops[i]? =some o/\ME P n ops o=some vo/\Q5 P n ops fuel (ZO.setIfInBounds i true)=some t'/\u= .op vo t':=by
   intro i u hu;obtain⟨o,h1,hu⟩:=bind_some hu;obtain⟨vo,h2,hu⟩:=bind_some hu;obtain⟨t',h3,hu⟩:=bind_some hu;simp only[a8H,a5y]at hu;exact⟨o,vo,t',h1,h2,h3,hu.symm⟩
  simp only[a8G]at ht;split at ht
  ·rename_i he;cases ht;have he:=c2y.1 he;exact⟨fun _=>hQ _ _ _ hs hk,by rw[he];simp⟩
  ·rename_i ZS;split at ht
   ·rename_i i OQ;obtain⟨o,vo,t',h1,h2,h3,rfl⟩:=one i t ht;have TL:=List.find?_some OQ;have qj:i∈Region.ready .any ops ZO:=List.mem_of_find?_eq_some OQ;unfold Iw at TL;rw[h1]at TL;simp only[a4C,a0E,List.mem_range]at TL;obtain⟨⟨YL,hD⟩,MD⟩:=TL;simp only[Uc]at hk;obtain⟨v,hy,s',Rm,R7⟩:=a0H h2 hn hs hk YL
    refine a2P (D:=a1G ops i) h1 (Region.noSelect_spec JV) (fun j hj oj OP=>?_) fuel ZO a w
     (fun j hj=>by simpa using(hD j hj).1) (by split<;>first|trivial|exact Ext.refl _) (fun j oj OP WB hun Y6=>?_) qj hy (ih _ t' s' _ _ h3 Rm R7)
    ·have:=(hD j hj).2;rw[OP]at this;obtain⟨e,he,hb⟩:=Array.any_eq_true'.1 this;simp only[a4C,b6L,beq_iff_eq,a0N]at hb;exact⟨e,he,hb.1,hb.2⟩
    ·have:=MD j (c0r.1 OP).1;rw[OP]at this;simp only[b6L,beq_iff_eq,WB,hun,a5M,a0N,Y6,false_or,a4C]at this;refine⟨this.1,?_⟩
     rcases this.2 with(hp|hs)|hg
     ·left;rw[if_pos hp];exact fun _=>trivial
     ·exact .inr (.inl hs)
     ·refine .inr (.inr fun a w1 n w2 hI hr=>?_);obtain⟨q1,q2⟩:=a9P hg a w1 n w2 hr;refine⟨?_,q2⟩;split at hI
      ·rename_i hp;rw[if_pos hp];trivial
      ·rename_i hp;rw[if_neg hp];exact hI.trans q1
   ·rename_i OQ;obtain⟨ts,MC,hal⟩:=b2q.1 ht;refine⟨fun h=>absurd (c2y.2 h) ZS,fun i hi=>?_⟩;obtain⟨u,hu,hui⟩:=a2H MC i hi;obtain⟨o,vo,t',h1,h2,h3,rfl⟩:=one i u hui;have R7:=a1H hal hk _ hu;simp only[Uc]at R7;exact a3H h1 h2 hn hs R7 (fun s' a' w' Rm f7L=>ih _ t' s' a' w' h3 Rm f7L)
end
def c4E(ops:Array Oper):Bool:=ops.toList.all fun o=>match o.op with
 | .defer _=>false
 | _=>true
theorem c5E{ops:Array Oper}(h:c4E ops=true):∀o∈ops.toList,∀c,o.op≠ .defer c:=by
 intro o ho c hc;have:=a0E.1 h o ho;rw[hc]at this;cases this
theorem c6E{P:Program}{n:Nat}{ops:Array Oper}:∀{l:List Oper} {vl:List Yv},l.mapM (ME P n ops)=some vl->∀o∈l,∀c,o.op≠ .defer c:=by
 intro l vl h o ho c hc;obtain⟨vo,_,h⟩:=a2H h o ho;unfold ME at h;obtain⟨g,_,h⟩:=bind_some h;obtain⟨r,hr,_⟩:=bind_some h;obtain⟨dst,op,ty,pos,af,gd⟩:=o;simp only at hc;subst hc;unfold comp at hr;cases hr
def c7E(P:Program)(n:Nat)(ops:Array Oper)(draw:Bool):Option Z9:=
 if draw then
  if P.follows .mixedOrders&&Region.noSelect ops&&c4E ops then(Q5 P n ops ops.size (c1A ops.size false)).map .any else none
 else(ops.toList.mapM (ME P n ops)).map .E7
theorem Jz{P:Program}{n:Nat}{ops:Array Oper}{draw:Bool}{c:Z9}(h:c7E P n ops draw=some c):
 (∃t,c= .any t/\draw=true/\P.follows .mixedOrders=true/\Region.noSelect ops=true/\Q5 P n ops ops.size (c1A ops.size false)=some t/\∀o∈ops.toList,∀c,o.op≠ .defer c)∨
 (∃l,c= .E7 l/\draw=false/\ops.toList.mapM (ME P n ops)=some l):=by
 unfold c7E at h
 cases draw with
 |true=>
  rw[if_pos rfl]at h;split at h
  ·rename_i hm;simp only[a4C]at hm;obtain⟨t,ht,rfl⟩:=Vy h;exact .inl ⟨t,rfl,rfl,hm.1.1,hm.1.2,ht,c5E hm.2⟩
  ·cases h
 |false=>
  rw[if_neg (by simp)]at h;obtain⟨l,hl,rfl⟩:=Vy h;exact .inr ⟨l,rfl,rfl,hl⟩
def ja:Code->Option Nat
 | .goto l=>some l
 | .seq a b=>(ja a).or (ja b)
 | .cond _ a b=>(ja a).or (ja b)
 | .block _ c=>ja c
 | .loop c=>ja c
 | _=>none
def I1(P:Program)(n:Nat):Code->Option Z9
 | .skip=>some .skip
 | .region _ ops draw=>c7E P n ops draw
 | .seq a b=>do pure (.seq (<-I1 P n a) (<-I1 P n b))
 | .cond x t e=>do pure (.cond x (<-I1 P n t) (<-I1 P n e))
 | .block id c=>do pure (.block id (<-I1 P n c))
 | .loop c=>do pure (.loop (<-I1 P n c))
 | .exit id=>some (.exit id)
 | .ret=>some .ret
 | .label _=>some .skip
 | .goto l=>some (.goto l)
 | _=>none
def c1F(P:Program)(n:Nat)(c:Code)(v:Z9):Option Z9:=match ja c with
 |none=>some (.scope v)
 |some l=>match findLabel c l with
  |some rest=>(I1 P n rest).map fun r=> .WR v l r
  |none=>none
def Z9.Rh:Z9->Bool
 | .seq x y=>x.Rh&&y.Rh
 | .cond _ x y=>x.Rh&&y.Rh
 | .block _ x=>x.Rh
 | .loop x=>x.Rh
 | .scope _=>false
 | .WR .. =>false
 | .QY .. =>false
 | _=>true
def KL(n:Nat)(g:Operand)(ps:List Nat)(x y:Z9):Option Z9:=if x.Rh&&y.Rh&&ps.all (· <n)then some (.QY g ps x y)else none
def Vb(P:Program)(n:Nat):Code->Option Z9
 | .skip=>some .skip
 | .region _ ops draw=>c7E P n ops draw
 | .seq a b=>do pure (.seq (<-Vb P n a) (<-Vb P n b))
 | .cond x t e=>do pure (.cond x (<-Vb P n t) (<-Vb P n e))
 | .block id c=>do pure (.block id (<-Vb P n c))
 | .loop c=>do pure (.loop (<-Vb P n c))
 | .exit id=>some (.exit id)
 | .ret=>some .ret
 | .label _=>some .skip
 | .goto l=>some (.goto l)
 | .scope c=>do c1F P n c (<-Vb P n c)
 | .rangeFunc g ps x y=>do KL n g ps.toList (<-Vb P n x) (<-Vb P n y)
 | .refuse _=>none
theorem c3F{n:Nat}{g:Operand}{ps:List Nat}{x y r:Z9}(h:KL n g ps x y=some r):r= .QY g ps x y/\x.Rh=true/\y.Rh=true/\ps.all (· <n)=true:=by
 unfold KL at h;split at h
 ·rename_i VX;simp only[a4C]at VX;cases h;exact⟨rfl,VX.1.1,VX.1.2,VX.2⟩
 ·cases h
theorem I0{n:Nat}{g:Operand}{ps:List Nat}{x y r:Z9}(h:KL n g ps x y=some r)(h1:∀g ps x y,r≠ .QY g ps x y):False:=h1 _ _ _ _ (c3F h).1
theorem c5F{P:Program}{n:Nat}{c:Code}{v r:Z9}(h:c1F P n c v=some r):r= .scope v\/∃l q,r= .WR v l q:=by
 unfold c1F at h;split at h
 ·simp only[a5y]at h;exact .inl h.symm
 ·split at h
  ·obtain⟨q,_,rfl⟩:=Vy h;exact .inr ⟨_,q,rfl⟩
  ·cases h
theorem IZ{P:Program}{n:Nat}{c:Code}{v r:Z9}(h:c1F P n c v=some r)(h1:∀x,r≠ .scope x)(h2:∀x l q,r≠ .WR x l q):False:=by
 rcases c5F h with h|⟨_,_,h⟩
 ·exact h1 _ h
 ·exact h2 _ _ _ h
theorem c7F{P:Program}{n:Nat}:∀(c:Code) (v:Z9),I1 P n c=some v->Vb P n c=some v:=by
 intro c
 induction c with
 |seq a b EJ ihb=>
  intro v h;simp only[I1]at h;obtain⟨x,hx,h⟩:=bind_some h;obtain⟨y,hy,h⟩:=bind_some h;simp only[Vb,EJ x hx,ihb y hy];exact h
 |cond x a b EJ ihb=>
  intro v h;simp only[I1]at h;obtain⟨x,hx,h⟩:=bind_some h;obtain⟨y,hy,h⟩:=bind_some h;simp only[Vb,EJ x hx,ihb y hy];exact h
 |block i a EJ=>
  intro v h;simp only[I1]at h;obtain⟨x,hx,h⟩:=bind_some h;simp only[Vb,EJ x hx];exact h
 |loop a EJ=>
  intro v h;simp only[I1]at h;obtain⟨x,hx,h⟩:=bind_some h;simp only[Vb,EJ x hx];exact h
 |scope a EJ=>intro v h;cases h
 |rangeFunc=>intro v h;cases h
 |refuse=>intro v h;cases h
 | _=>intro v h;exact h
structure YC where
 n:St->Prop
 x:Nat->St->Prop
 r:St->Prop
 g:Nat->St->Prop
def M5(E:En)(n:Nat)(O:YC):Exit->Act->World->Prop
 | .normal,a,w=>∃s,Un E n s a w/\O.n s
 | .exit id,a,w=>∃s,Un E n s a w/\O.x id s
 | .ret,a,w=>∃s,Un E n s a w/\O.r s
 | .goto l,a,w=>∃s,Un E n s a w/\O.g l s
 | .panic _,_,_=>False
 | .outgrown,_,_=>False
def VC(P:Program)(n:Nat)(c:Z9)(s:St)(O:YC):Prop:=
 ∀code,Vb P n code=some c->∀(ro:Option Nat) (m:Nat),(ro=none\/c.Rh=true)->∀E a w,Un E n s a w->code.wpIn (qb ro) m P (M5 E n O) a w
section
variable{P:Program}{n:Nat}{s:St}{O:YC}
theorem M5.mono{E:En}{O':YC}(h1:∀s,O.n s->O'.n s)(h2:∀i s,O.x i s->O'.x i s)(h3:∀s,O.r s->O'.r s)(h4:∀i s,O.g i s->O'.g i s):
 ∀e a w,M5 E n O e a w->M5 E n O' e a w:=by
 intro e a w h
 cases e with
 |normal=>obtain⟨s,hs,hk⟩:=h;exact⟨s,hs,h1 _ hk⟩
 |exit id=>obtain⟨s,hs,hk⟩:=h;exact⟨s,hs,h2 _ _ hk⟩
 |ret=>obtain⟨s,hs,hk⟩:=h;exact⟨s,hs,h3 _ hk⟩
 |goto l=>obtain⟨s,hs,hk⟩:=h;exact⟨s,hs,h4 _ _ hk⟩
 |panic=>exact h
 |outgrown=>exact h
theorem VC.mono{c:Z9}{O':YC}(h:VC P n c s O)(h1:∀s,O.n s->O'.n s)(h2:∀i s,O.x i s->O'.x i s)(h3:∀s,O.r s->O'.r s)(h4:∀i s,O.g i s->O'.g i s):VC P n c s O':=
 fun code hc ro m Uj E a w hs=>Code.wpIn_mono (M5.mono h1 h2 h3 h4) (h code hc ro m Uj E a w hs)
theorem c8F(h:O.n s):VC P n .skip s O:=by
 intro code hc ro m Uj E a w hs
 cases code<;>simp only[Vb]at hc<;>(first|cases hc|skip)
 ·exact wpIn_skip ⟨s,hs,h⟩
 all_goals first
  |exact wpIn_label ⟨s,hs,h⟩
  |(obtain⟨_,_,hc⟩:=bind_some hc;first|cases hc|exact(IZ hc (fun _ h=>by cases h) (fun _ _ _ h=>by cases h)).elim|(obtain⟨_,_,hc⟩:=bind_some hc;first|cases hc|exact(I0 hc (fun _ _ _ _ h=>by cases h)).elim|(obtain⟨_,_,hc⟩:=bind_some hc;cases hc)))
  |(rcases Jz hc with⟨_,hc,_⟩|⟨_,hc,_⟩<;>cases hc)
theorem c9F{id:Nat}(h:O.x id s):VC P n (.exit id) s O:=by
 intro code hc ro m Uj E a w hs
 cases code<;>simp only[Vb]at hc<;>(first|cases hc|skip)
 all_goals first
  |exact wpIn_exit ⟨s,hs,h⟩
  |(obtain⟨_,_,hc⟩:=bind_some hc;first|cases hc|exact(IZ hc (fun _ h=>by cases h) (fun _ _ _ h=>by cases h)).elim|(obtain⟨_,_,hc⟩:=bind_some hc;first|cases hc|exact(I0 hc (fun _ _ _ _ h=>by cases h)).elim|(obtain⟨_,_,hc⟩:=bind_some hc;cases hc)))
  |(rcases Jz hc with⟨_,hc,_⟩|⟨_,hc,_⟩<;>cases hc)
theorem c0G(h:O.r s):VC P n .ret s O:=by
 intro code hc ro m Uj E a w hs
 cases code<;>simp only[Vb]at hc<;>(first|cases hc|skip)
 all_goals first
  |exact wpIn_ret ⟨s,hs,h⟩
  |(obtain⟨_,_,hc⟩:=bind_some hc;first|cases hc|exact(IZ hc (fun _ h=>by cases h) (fun _ _ _ h=>by cases h)).elim|(obtain⟨_,_,hc⟩:=bind_some hc;first|cases hc|exact(I0 hc (fun _ _ _ _ h=>by cases h)).elim|(obtain⟨_,_,hc⟩:=bind_some hc;cases hc)))
  |(rcases Jz hc with⟨_,hc,_⟩|⟨_,hc,_⟩<;>cases hc)
theorem c1G{l:Nat}(h:O.g l s):VC P n (.goto l) s O:=by
 intro code hc ro m Uj E a w hs
 cases code<;>simp only[Vb]at hc<;>(first|cases hc|skip)
 all_goals first
  |exact wpIn_goto ⟨s,hs,h⟩
  |(obtain⟨_,_,hc⟩:=bind_some hc;first|cases hc|exact(IZ hc (fun _ h=>by cases h) (fun _ _ _ h=>by cases h)).elim|(obtain⟨_,_,hc⟩:=bind_some hc;first|cases hc|exact(I0 hc (fun _ _ _ _ h=>by cases h)).elim|(obtain⟨_,_,hc⟩:=bind_some hc;cases hc)))
  |(rcases Jz hc with⟨_,hc,_⟩|⟨_,hc,_⟩<;>cases hc)
theorem c2G{x y:Z9}{code:Code}(hc:Vb P n code=some (.seq x y)):∃a b,code= .seq a b/\Vb P n a=some x/\Vb P n b=some y:=by
 cases code<;>simp only[Vb]at hc<;>(first|cases hc|skip)
 all_goals first
  |(obtain⟨x',hx,hc⟩:=bind_some hc;obtain⟨y',hy,hc⟩:=bind_some hc;simp only[a8H,a5y,Z9.seq.injEq]at hc;obtain⟨rfl,rfl⟩:=hc;exact⟨_,_,rfl,hx,hy⟩)
  |(obtain⟨_,_,hc⟩:=bind_some hc;first|cases hc|exact(IZ hc (fun _ h=>by cases h) (fun _ _ _ h=>by cases h)).elim|(obtain⟨_,_,hc⟩:=bind_some hc;first|cases hc|exact(I0 hc (fun _ _ _ _ h=>by cases h)).elim|(obtain⟨_,_,hc⟩:=bind_some hc;cases hc)))
  |(rcases Jz hc with⟨_,hc,_⟩|⟨_,hc,_⟩<;>cases hc)
theorem c3G{x y:Z9}(h:VC P n x s {O with n:=fun s'=>VC P n y s' O}):VC P n (.seq x y) s O:=by
 intro code hc ro m Uj E a w hs;obtain⟨c1,c2,rfl,h1,h2⟩:=c2G hc
 have Rj:ro=none\/x.Rh=true:=Uj.imp id fun h=>(by simp only[Z9.Rh,a4C]at h;exact h.1)
 have Lp:ro=none\/y.Rh=true:=Uj.imp id fun h=>(by simp only[Z9.Rh,a4C]at h;exact h.2)
 refine wpIn_seq (Code.wpIn_mono ?_ (h c1 h1 ro m Rj E a w hs));intro e a' w' hp
 cases e with
 |normal=>obtain⟨s',Rm,hk⟩:=hp;exact hk c2 h2 ro m Lp E a' w' Rm
 | _=>exact hp
theorem c4G{ops:List Yv}(hn:n<=999)(h:Uy P ops s O.n):VC P n (.E7 ops) s O:=by
 intro code hc ro m Uj E a w hs
 cases code<;>simp only[Vb]at hc<;>(first|cases hc|skip)
 ·rename_i id os draw
  rcases Jz hc with⟨_,e,_⟩|⟨l,e,hd,hl⟩
  ·cases e
  ·cases e;subst hd;exact wpIn_region_list (d9Z ro m _ (c6E hl) _ _ (e0a hn (Q:=M5 E n O) (fun s a w hs hk=>⟨s,hs,hk⟩) os.toList ops s a w hl hs h))
 all_goals (obtain⟨_,_,hc⟩:=bind_some hc;first|cases hc|exact(IZ hc (fun _ h=>by cases h) (fun _ _ _ h=>by cases h)).elim|(obtain⟨_,_,hc⟩:=bind_some hc;first|cases hc|exact(I0 hc (fun _ _ _ _ h=>by cases h)).elim|(obtain⟨_,_,hc⟩:=bind_some hc;cases hc)))
theorem c5G{t:VT}(hn:n<=999)(h:Uc P t s O.n):VC P n (.any t) s O:=by
 intro code hc ro m Uj E a w hs
 cases code<;>simp only[Vb]at hc<;>(first|cases hc|skip)
 ·rename_i id os draw
  rcases Jz hc with⟨t',e,hd,hm,JV,hvt,WA⟩|⟨_,e,_⟩
  ·cases e;subst hd;obtain⟨ψ,XM⟩:=hs;refine wpIn_region_any hm (a1P WA ro m _ _ _ _ (a4H hn JV (Q:=M5 E n O) (fun s a w hs hk=>⟨s,hs,hk⟩) _ _ t s a _ hvt ⟨ψ,?_⟩ h));exact XM.ext (Ext.drew w)
  ·cases e
 all_goals (obtain⟨_,_,hc⟩:=bind_some hc;first|cases hc|exact(IZ hc (fun _ h=>by cases h) (fun _ _ _ h=>by cases h)).elim|(obtain⟨_,_,hc⟩:=bind_some hc;first|cases hc|exact(I0 hc (fun _ _ _ _ h=>by cases h)).elim|(obtain⟨_,_,hc⟩:=bind_some hc;cases hc)))
theorem c6G{x:Operand}{t e:Z9}{b:Bool}(hx:s.ev x= .iv (.v (.bool b)))(ht:b=true->VC P n t s O)(he:b=false->VC P n e s O):VC P n (.cond x t e) s O:=by
 intro code hc ro m Uj E a w hs
 cases code<;>simp only[Vb]at hc<;>(first|cases hc|skip)
 case cond x' t' e'=>
  obtain⟨t1,h1,hc⟩:=bind_some hc;obtain⟨e1,h2,hc⟩:=bind_some hc;simp only[a8H,a5y,Z9.cond.injEq]at hc;obtain⟨rfl,rfl,rfl⟩:=hc;obtain⟨ψ,h⟩:=hs;have hv:=h.ev x';rw[hx]at hv;have hv:=VN hv;cases b
  ·exact wpIn_cond_false hv (he rfl e' h2 ro m (Uj.imp id fun h=>(by simp only[Z9.Rh,a4C]at h;exact h.2)) E a w ⟨ψ,h⟩)
  ·exact wpIn_cond_true hv (ht rfl t' h1 ro m (Uj.imp id fun h=>(by simp only[Z9.Rh,a4C]at h;exact h.1)) E a w ⟨ψ,h⟩)
 all_goals first
  |(obtain⟨_,_,hc⟩:=bind_some hc;first|cases hc|exact(IZ hc (fun _ h=>by cases h) (fun _ _ _ h=>by cases h)).elim|(obtain⟨_,_,hc⟩:=bind_some hc;first|cases hc|exact(I0 hc (fun _ _ _ _ h=>by cases h)).elim|(obtain⟨_,_,hc⟩:=bind_some hc;cases hc)))
  |(rcases Jz hc with⟨_,hc,_⟩|⟨_,hc,_⟩<;>cases hc)
theorem c7G{id:Nat}{c:Z9}(h:VC P n c s {O with x:=fun j s'=>if j=id then O.n s' else O.x j s'}):VC P n (.block id c) s O:=by
 intro code hc ro m Uj E a w hs
 cases code<;>simp only[Vb]at hc<;>(first|cases hc|skip)
 case block XP c'=>
  obtain⟨c1,h1,hc⟩:=bind_some hc;simp only[a8H,a5y,Z9.block.injEq]at hc;obtain⟨rfl,rfl⟩:=hc;refine wpIn_block (Code.wpIn_mono ?_ (h c' h1 ro m Uj E a w hs));intro e a' w' hp
  cases e with
  |exit j=>
   obtain⟨s',Rm,hk⟩:=hp
   change (if j=XP then O.n s' else O.x j s')at hk
   by_cases hj:j=XP
   ·rw[if_pos hj]at hk;simp only[Exit.inBlock,if_pos hj];exact⟨s',Rm,hk⟩
   ·rw[if_neg hj]at hk;simp only[Exit.inBlock,if_neg hj];exact⟨s',Rm,hk⟩
  | _=>exact hp
 all_goals first
  |(obtain⟨_,_,hc⟩:=bind_some hc;first|cases hc|exact(IZ hc (fun _ h=>by cases h) (fun _ _ _ h=>by cases h)).elim|(obtain⟨_,_,hc⟩:=bind_some hc;first|cases hc|exact(I0 hc (fun _ _ _ _ h=>by cases h)).elim|(obtain⟨_,_,hc⟩:=bind_some hc;cases hc)))
  |(rcases Jz hc with⟨_,hc,_⟩|⟨_,hc,_⟩<;>cases hc)
theorem c8G{c:Z9}(h:VC P n c s {O with g:=fun _ _=>False}):VC P n (.scope c) s O:=by
 intro code hc ro m Uj E a w hs
 cases code<;>simp only[Vb]at hc<;>(first|cases hc|skip)
 case scope c'=>
  obtain⟨c1,h1,hc⟩:=bind_some hc
  rcases c5F hc with hc|⟨_,_,hc⟩
  rotate_left
  ·cases hc
  simp only[Z9.scope.injEq]at hc;subst hc;obtain rfl:ro=none:=Uj.resolve_right (by simp[Z9.Rh]);refine wpIn_wide.2 (wp_scope_straight ((wpIn_wide (n:=m)).1 (Code.wpIn_mono ?_ (h c' h1 none m (.inl rfl) E a w hs))));intro e a' w' hp
  cases e with
  |goto l=>obtain⟨_,_,hk⟩:=hp;exact hk
  | _=>exact hp
 all_goals first
  |(obtain⟨_,_,hc⟩:=bind_some hc;first|cases hc|exact(IZ hc (fun _ h=>by cases h) (fun _ _ _ h=>by cases h)).elim|(obtain⟨_,_,hc⟩:=bind_some hc;first|cases hc|exact(I0 hc (fun _ _ _ _ h=>by cases h)).elim|(obtain⟨_,_,hc⟩:=bind_some hc;cases hc)))
  |(rcases Jz hc with⟨_,hc,_⟩|⟨_,hc,_⟩<;>cases hc)
theorem c9G{c r:Z9}{l:Nat}(J:St->Prop)(h:VC P n c s {O with g:=fun l' s'=>l'=l/\J s'})(h2:∀s',J s'->VC P n r s' {O with g:=fun _ _=>False}):VC P n (.WR c l r) s O:=by
 intro code hc ro m Uj E a w hs
 cases code<;>simp only[Vb]at hc<;>(first|cases hc|skip)
 case scope c'=>
  obtain⟨c1,h1,hc⟩:=bind_some hc;unfold c1F at hc;split at hc
  ·cases hc
  ·rename_i l' hl';split at hc
   ·rename_i rest hf;obtain⟨q,hq,hc⟩:=Vy hc;simp only[Z9.WR.injEq]at hc;obtain⟨rfl,rfl,rfl⟩:=hc;obtain rfl:ro=none:=Uj.resolve_right (by simp[Z9.Rh]);refine wpIn_wide.2 (wp_scope_jumps l' (fun a w=>∃s',Un E n s' a w/\J s') (fun _ _=>0) hf ((wpIn_wide (n:=m)).1 (Code.wpIn_mono ?_ (h c' h1 none m (.inl rfl) E a w hs))) ?_)
    ·intro e a' w' hp
     cases e with
     |goto l2=>obtain⟨s',Rm,rfl,hk⟩:=hp;exact⟨rfl,s',Rm,hk⟩
     | _=>exact hp
    ·rintro a' w' ⟨s',Rm,hk⟩;refine(wpIn_wide (n:=m)).1 (Code.wpIn_mono ?_ (h2 s' hk rest (c7F _ _ hq) none m (.inl rfl) E a' w' Rm));intro e a2 w2 hp
     cases e with
     |goto l2=>obtain⟨_,_,hk⟩:=hp;exact hk.elim
     | _=>exact hp
   ·cases hc
 all_goals first
  |(obtain⟨_,_,hc⟩:=bind_some hc;first|cases hc|(obtain⟨_,_,hc⟩:=bind_some hc;first|cases hc|exact(I0 hc (fun _ _ _ _ h=>by cases h)).elim|(obtain⟨_,_,hc⟩:=bind_some hc;cases hc)))
  |(rcases Jz hc with⟨_,hc,_⟩|⟨_,hc,_⟩<;>cases hc)
theorem c0H{p:Nat->Prop}(h:∃k,p k):∃k,p k/\∀m,p m->k<=m:=by
 obtain⟨k,hk⟩:=h
 induction k using Nat.strongRecOn with
 |ind k ih=>
  by_cases he:∃m,m<k/\p m
  ·obtain⟨m,hm,hp⟩:=he;exact ih m hm hp
  ·exact⟨k,hk,fun m hp=>d2z fun hl=>he ⟨m,hl,hp⟩⟩
theorem c1H{c:Z9}(I:Nat->St->Prop)(h0:Jk s fun s'=>∃k,I k s')
 (round:∀k s',I k s'->VC P n c s' {O with n:=fun s2=>∃m s3,m<k/\Le s2 s3/\I m s3}):VC P n (.loop c) s O:=by
 intro code hc ro m Uj E a w hs
 cases code<;>simp only[Vb]at hc<;>(first|cases hc|skip)
 case loop c'=>
  obtain⟨c1,h1,hc⟩:=bind_some hc;simp only[a8H,a5y,Z9.loop.injEq]at hc;subst hc;obtain⟨s0,⟨k0,hI0⟩,QO⟩:=h0 E n a w hs
  classical
  let Inv:Act->World->Prop:=fun a' w'=>∃k s',Un E n s' a' w'/\I k s'
  let μ:Act->World->Nat:=fun a' w'=>if h:∃k,∃s',Un E n s' a' w'/\I k s' then b6u (c0H h)else 0
  refine wpIn_loop Inv μ ⟨k0,s0,QO,hI0⟩ ?_;intro a' w' hI;have hex:∃k,∃s',Un E n s' a' w'/\I k s':=hI;obtain⟨⟨s',Rm,hIk⟩,_⟩:=b5P (c0H hex);have hμ:μ a' w'=b6u (c0H hex):=dif_pos hex;refine Code.wpIn_mono ?_ (round (b6u (c0H hex)) s' hIk c' h1 ro m Uj E a' w' Rm);intro e a2 w2 hp
  cases e with
  |normal=>
   obtain⟨s2,TM,m,s3,hm,hl,hI3⟩:=hp;have hs3:=hl E n a2 w2 TM;have iZ:∃k,∃s',Un E n s' a2 w2/\I k s':=⟨m,s3,hs3,hI3⟩;refine⟨⟨m,s3,hs3,hI3⟩,?_⟩;rw[hμ];have:μ a2 w2=b6u (c0H iZ):=dif_pos iZ;rw[this];exact Nat.lt_of_le_of_lt ((b5P (c0H iZ)).2 _ ⟨s3,hs3,hI3⟩) hm
  | _=>exact hp
 all_goals first
  |(obtain⟨_,_,hc⟩:=bind_some hc;first|cases hc|exact(IZ hc (fun _ h=>by cases h) (fun _ _ _ h=>by cases h)).elim|(obtain⟨_,_,hc⟩:=bind_some hc;first|cases hc|exact(I0 hc (fun _ _ _ _ h=>by cases h)).elim|(obtain⟨_,_,hc⟩:=bind_some hc;cases hc)))
  |(rcases Jz hc with⟨_,hc,_⟩|⟨_,hc,_⟩<;>cases hc)
end
def SG:Nat->List AV->List (Nat×AV)
 | _,[]=>[]
 |i,x::r=>(i,x)::SG (i+1) r
theorem d3g:∀(xs:List AV) (i t:Nat),look (SG i xs) t=if i<=t then xs[t-i]? else none:=by
 intro xs
 induction xs with
 |nil=>intro i t;simp[SG,look]
 |cons x xs ih=>
  intro i t;simp only[SG,look,ih]
  by_cases h:i=t
  ·subst h;simp
  ·rw[if_neg h]
   by_cases h2:i<=t
   ·rw[if_pos (by omega),if_pos h2,show t-i=(t-(i+1))+1 from by omega,a2I]
   ·rw[if_neg (by omega),if_neg h2]
inductive SL where
 |tmp (t:Nat)
 |cell (x:Nat) (n:Option Nat)
 deriving Inhabited,DecidableEq
def f7Q(x:Nat)(t:TypeId):Oper:=⟨some x, .load t (.tmp x),t,"", #[],none⟩
def d4g(P:Program):ResultVar->Option SL
 | .tmp t=>some (.tmp t)
 | .cell x t=>match comp P (f7Q x t)with
  |some (.ld (.tmp y) k)=>if y=x then some (.cell x k)else none
  | _=>none
def V4(s:St):SL->Option AV
 | .tmp t=>some (s.get t)
 | .cell x none=>match s.get x with
  | .ptr id off=>match look s.hp id with
   |some (.box cs)=>cs[off]?
   | _=>none
  | _=>none
 | .cell x (some n)=>match s.get x with
  | .ptr id off=>match look s.hp id with
   |some (.box cs)=>if off+n<=cs.length then some (.agg ((cs.drop off).take n))else none
   | _=>none
  | _=>none
def Kc:List AV->AV
 | [x]=>x
 |l=> .Zp l
def d5g(tmps:Array Value):ResultVar->Sem Value
 | .tmp t=>pure (tmps.getD t undef)
 | .cell a t=>do loadVar t (<-asAddr (tmps.getD a undef))
def IV.flat:IV->Bool
 | .v _=>true
 | .Z6 _ xs=>xs.isEmpty
 | _=>false
def Z3.flat:Z3->Bool
 | .ptr _ _=>true
 | .val x=>x.flat
def AV.TO:AV->Bool
 | .iv x=>x.flat
 | .fn _ a b=>a.all Z3.flat&&b.all Z3.flat
 | .agg _=>false
 | .Zp _=>false
 | _=>true
def AV.Qm:AV->Bool
 | .agg cs=>cs.all AV.TO
 |x=>x.TO
def AV.flat:AV->Bool
 | .Zp vs=>vs.all AV.Qm
 |x=>x.Qm
def Ob.flat:Ob->Prop
 | .box cs=>cs.all AV.TO=true
 | .list _ xs=>∀x∈xs,∀y∈x,y.flat=true
 | .map _ g=>∀k c,g k=some c->∀x∈c,x.flat=true
 | .WT _ g _ _=>∀k c,g k=some c->∀x∈c,x.flat=true
 | .YU _ _ xs=>∀x∈xs,∀y∈x,y.flat=true
 | .YJ _ _ g _=>∀k xs,g k=some xs->∀x∈xs,∀y∈x,y.flat=true
 | .ZI _ xs _=>∀z∈xs,∀x∈z,∀y∈x,y.flat=true
 | .iter .. =>False
 | .gh .. =>False
theorem YB.flat{A A':Nat->Prop}{w:World}{x:IV}{v:Value}(h:YB A w x v)(hf:x.flat=true):YB A' w x v:=by
 cases h with
 |v x h1=>exact .v _ h1
 |Wj sz=>exact .Wj sz
 |Z6 sz xs b off cap a vs ha hs VA hc hr=>
  simp only[IV.flat,c2y]at hf;subst hf;exact .Z6 sz [] b off cap a vs ha hs VA (fun i j c hc=>by simp[at2]at hc) (fun i j c hc=>by simp[at2]at hc)
 |pt=>cases hf
 |mp=>cases hf
 |Nd=>cases hf
theorem ZK.TO{A A':Nat->Prop}{ψ:Pl}{H:Hp}{w:World}{x:AV}{v:Value}(h:ZK A ψ H w x v)(hf:x.TO=true):ZK A' ψ H w x v:=by
 cases h with
 |iv x v h=>exact .iv x v (h.flat hf)
 |nil sz=>exact .nil sz
 |U4 id sz o n ho he hb=>exact .U4 id sz o n ho he hb
 |sl id sz lo len b k cap a o n ho he hx hb ha UO hk hm=>exact .sl id sz lo len b k cap a o n ho he hx hb ha UO hk hm
 |ptr id off b k o ho hb=>exact .ptr id off b k o ho hb
 |ep id sz i off b k o n ho he hi hb=>exact .ep id sz i off b k o n ho he hi hb
 |mpr id b k o ho hb=>exact .mpr id b k o ho hb
 |fn f first caps vf vc g1 g2 h1 h2=>
  simp only[AV.TO,a4C,a0E]at hf
  have hc:∀{c:Z3} {v:Value},c.flat=true->Xg A ψ H w c v->Xg A' ψ H w c v:=by
   intro c v hf h
   cases h with
   |ptr id off b k o ho hb=>exact .ptr id off b k o ho hb
   |val x v h=>exact .val x v (h.flat hf)
  exact .fn f first caps vf vc g1 g2 (fun i c h=>hc (hf.1 c (a8y h)) (h1 i c h)) (fun i c h=>hc (hf.2 c (a8y h)) (h2 i c h))
 |agg=>cases hf
 |Zp=>cases hf
 |un=>exact .un
 |junk v=>exact .junk v
theorem ZK.Qm{A A':Nat->Prop}{ψ:Pl}{H:Hp}{w:World}{x:AV}{v:Value}(h:ZK A ψ H w x v)(hf:x.Qm=true):ZK A' ψ H w x v:=by
 cases x with
 |agg cs=>
  cases h with
  |agg cs vs hl h=>exact .agg cs vs hl fun i c hc=>(h i c hc).TO (a0E.1 hf c (a8y hc))
 | _=>exact h.TO hf
theorem ZK.flat{A A':Nat->Prop}{ψ:Pl}{H:Hp}{w:World}{x:AV}{v:Value}(h:ZK A ψ H w x v)(hf:x.flat=true):ZK A' ψ H w x v:=by
 cases x with
 |Zp cs=>
  cases h with
  |Zp cs vs hl h=>exact .Zp cs vs hl fun i c hc=>(h i c hc).Qm (a0E.1 hf c (a8y hc))
 | _=>exact h.Qm hf
theorem Xx.flat{A A':Nat->Prop}{w:World}{sk:Sk}{g:List Value->Option (List IV)}{es:Array MapEntry}(h:Xx A w sk g es)(hf:∀k c,g k=some c->∀x∈c,x.flat=true):Xx A' w sk g es:=by
 obtain⟨m1,m2,m3,m4⟩:=h;refine⟨m1,m2,m3,fun k c hg=>?_⟩;obtain⟨e,he,h5,h6,h7⟩:=m4 k c hg;exact⟨e,he,h5,h6,fun i x hx=>(h7 i x hx).flat (hf k c hg x (a8y hx))⟩
theorem Ti.flat{A A':Nat->Prop}{w:World}{sz:Nat}{xs:List (List IV)}{p:Option (Nat×(Nat×Nat))}{v:Value}(h:Ti A w sz xs p v)(hf:∀x∈xs,∀y∈x,y.flat=true):Ti A' w sz xs p v:=by
 obtain⟨h0,h|⟨b,k,cap,a,h1,h2,h3,h4,h5,h6,c,e,g1,g2,g3,g4⟩⟩:=h
 ·exact⟨h0, .inl h⟩
 ·refine⟨h0, .inr ⟨b,k,cap,a,h1,h2,h3,h4,h5,h6,c,e,g1,g2,g3,fun i j x hx=>(g4 i j x hx).flat ?_⟩⟩;obtain⟨r,Rj,Lp⟩:=JO hx;exact hf r (a8y Rj) x (a8y Lp)
theorem Xa.flat{A A':Nat->Prop}{ψ:Pl}{H:Hp}{w:World}{id:Nat}{o:Ob}(h:Xa A ψ H w id o)(hf:o.flat):Xa A' ψ H w id o:=by
 cases o with
 |box cs=>
  obtain⟨b,c,e,h1,h2,h3,h4⟩:=h;exact⟨b,c,e,h1,h2,h3,fun i x hx=>(h4 i x hx).TO (a0E.1 hf x (a8y hx))⟩
 |list sz xs=>
  obtain⟨h0,h⟩:=h;refine⟨h0,?_⟩
  rcases h with h|⟨b,k,c,e,h1,h2,h3,Te,h4⟩
  ·exact .inl h
  ·refine .inr ⟨b,k,c,e,h1,h2,h3,Te,fun i j x hx=>(h4 i j x hx).flat ?_⟩;obtain⟨r,Rj,Lp⟩:=JO hx;exact hf r (a8y Rj) x (a8y Lp)
 |map sk g=>obtain⟨b,es,clock,h1,h2,h3,m⟩:=h;exact⟨b,es,clock,h1,h2,h3,m.flat hf⟩
 |WT sk g n kk=>obtain⟨b,es,clock,h1,h2,h3,m,h4⟩:=h;exact⟨b,es,clock,h1,h2,h3,m.flat hf,h4⟩
 |YU org sz xs=>
  obtain⟨h0,h⟩:=h;refine⟨h0,?_⟩
  rcases h with h|⟨b,k,c,e,h1,h2,h3,Te,h4⟩
  ·exact .inl h
  ·refine .inr ⟨b,k,c,e,h1,h2,h3,Te,fun i j x hx=>(h4 i j x hx).flat ?_⟩;obtain⟨r,Rj,Lp⟩:=JO hx;exact hf r (a8y Rj) x (a8y Lp)
 |YJ sk sz g hole=>
  obtain⟨b,es,clock,pl,h1,h2,h3,h4,h5,h6,h7,h8,h9,U0,TD⟩:=h;refine⟨b,es,clock,pl,h1,h2,h3,h4,h5,h6,h7,h8,fun k xs hg=>?_,U0,TD⟩;obtain⟨e,g1,g2,g3⟩:=h9 k xs hg;exact⟨e,g1,g2,g3.flat (hf k xs hg)⟩
 |ZI sz xs hole=>
  obtain⟨h0,b,k,c,e,pl,h1,h2,h3,h4,h5,h6,h7⟩:=h;exact⟨h0,b,k,c,e,pl,h1,h2,h3,h4,fun i x g1 g2=>(h5 i x g1 g2).flat (hf x (a8y g1)),h6,h7⟩
 |iter sk g left last=>exact hf.elim
 |gh Z vs cs=>exact hf.elim
theorem ZK.hp{A:Nat->Prop}{ψ:Pl}{H H':Hp}{w:World}{x:AV}{v:Value}(h:ZK A ψ H w x v)(hH:∀id,look H' id=look H id):ZK A ψ H' w x v:=
 h.mono (fun _ _ h=>h) (fun _ _ _=>rfl) fun id o ho=>⟨⟨o,by rw[hH];exact ho,o.le_refl⟩,rfl⟩
theorem Xa.hp{A:Nat->Prop}{ψ:Pl}{H H':Hp}{w:World}{id:Nat}{o:Ob}(h:Xa A ψ H w id o)(hH:∀id,look H' id=look H id):Xa A ψ H' w id o:=
 h.mono (fun _ _ h=>h) (fun _ _ _=>rfl) (fun id o ho=>⟨⟨o,by rw[hH];exact ho,o.le_refl⟩,rfl⟩) ⟨rfl,fun _ h=>h⟩ fun _ _=>rfl
theorem d6g{ψ:Pl}{H H':Hp}(hH:∀id,look H' id=look H id)(b:Nat):ZD ψ H' b↔ZD ψ H b:=by
 constructor
 ·rintro⟨id,o,h1,h2⟩;exact⟨id,o,by rw[<-hH];exact h1,h2⟩
 ·rintro⟨id,o,h1,h2⟩;exact⟨id,o,by rw[hH];exact h1,h2⟩
section
variable{P:Program}{E:En}{n:Nat}{ψ:Pl}{s:St}{a:Act}{w:World}
theorem d7g{rv:ResultVar}{vr:SL}{av:AV}(hc:d4g P rv=some vr)(hv:V4 s vr=some av)(h:Z7 E n ψ s a w):
 ∃v,(d5g a.tmps rv).run P w= .ok v w/\ZK (Im E ψ s.hp) ψ s.hp w av v:=by
 cases rv with
 |tmp t=>
  simp only[d4g,a5y]at hc;subst hc;simp only[V4,a5y]at hv;subst hv;exact⟨_,rfl,h.frame t⟩
 |cell x t=>
  simp only[d4g]at hc;split at hc
  ·rename_i y k f6l;split at hc
   ·rename_i hy;subst hy;simp only[a5y]at hc;subst hc
    have f8Q:∃id off,s.get y= .ptr id off/\ZP P y s (fun s' z=>s'=s/\z=av) (.ld (.tmp y) k):=by
     cases k with
     |none=>
      simp only[V4]at hv;split at hv
      ·rename_i id off hg;refine⟨id,off,hg,?_⟩;simp only[ZP,St.ev,hg];split at hv
       ·rename_i cs ho;simp only[ho];rw[hv];simp
       ·cases hv
      ·cases hv
     |some k=>
      simp only[V4]at hv;split at hv
      ·rename_i id off hg;refine⟨id,off,hg,?_⟩;simp only[ZP,St.ev,hg];split at hv
       ·rename_i cs ho;simp only[ho];split at hv
        ·rename_i hl;simp only[a5y]at hv;exact⟨hl,by simp,hv⟩
        ·cases hv
       ·cases hv
      ·cases hv
    obtain⟨id,off,hg,YL⟩:=f8Q;obtain⟨v,av',h1,⟨_,rfl⟩,h3⟩:=e1h (K:=fun s' z=>s'=s/\z=av) f6l h YL (by intro _ _ _ _ _ _ _ hh;simp only[St.ev,hg]at hh;cases hh)
    refine⟨v,?_,h3⟩;have hf:=h.frame y;rw[hg]at hf;obtain⟨b,q,o,_,_,e⟩:=ED hf;have e:a.eval (.tmp y)= .pointer (some ⟨b,off,none⟩):=e;have h1:=h1 w (Ext.refl w);rw[e]at h1;have e':a.tmps.getD y undef= .pointer (some ⟨b,off,none⟩):=e;simp only[d5g,e',asAddr];exact h1
   ·cases hc
  ·cases hc
theorem d8g(h:Z7 E n ψ s a w):∀(rvs:List ResultVar) (rs:List SL) (l:List AV),rvs.mapM (d4g P)=some rs->rs.mapM (V4 s)=some l->
 ∃vs:List Value,(rvs.mapM (d5g a.tmps)).run P w= .ok vs w/\vs.length=l.length/\∀i x,l[i]? =some x->ZK (Im E ψ s.hp) ψ s.hp w x (vs.getD i undef):=by
 intro rvs
 induction rvs with
 |nil=>
  intro rs l hc hv;simp only[d0Q,a8H,a5y]at hc;subst hc;simp only[d0Q,a8H,a5y]at hv;subst hv;exact⟨[],by simp,rfl,by simp⟩
 |cons rv rvs ih=>
  intro rs l hc hv;rw[a3N]at hc;obtain⟨r,hr,hc⟩:=bind_some hc;obtain⟨rs',hrs,hc⟩:=bind_some hc;simp only[a8H,a5y]at hc;subst hc;rw[a3N]at hv;obtain⟨x,hx,hv⟩:=bind_some hv;obtain⟨l',hl,hv⟩:=bind_some hv;simp only[a8H,a5y]at hv;subst hv;obtain⟨v,h1,h2⟩:=d7g hr hx h
  obtain⟨vs,h3,h4,h5⟩:=ih rs' l' hrs hl;refine⟨v::vs,by rw[a3N];simp only[Sem.run_bind,h1,Result.andThen_ok,h3,Sem.run_pure],by simp[h4],fun i y hi=>?_⟩
  cases i with
  |zero=>simp at hi;subst hi;exact h2
  |succ i=>simp only[a2I]at hi;simpa using h5 i y hi
def oneOf:List Value->Value
 | [v]=>v
 |vs=> .tuple vs.toArray
theorem d9g{fn:Func}{vs:List Value}{w:World}{tmps:Array Value}(h:(fn.results.toList.mapM (d5g tmps)).run P w= .ok vs w):
 (results fn tmps).run P w= .ok (oneOf vs) w:=by
 have e:results fn tmps=(do let vs<-fn.results.mapM (d5g tmps);pure (if h:vs.size=1 then vs[0]else .tuple vs)):=by
  unfold results
  congr 1
 rw[e,Array.mapM_eq_mapM_toList];simp only[Sem.run_bind,Sem.run_map,h,Result.andThen_ok,Sem.run_pure]
 match vs with
 | []=>rfl
 | [v]=>rfl
 |v::u::r=>rfl
end
def JH(A:Nat->Prop)(w:World)(b:Nat):Prop:=A b/\¬Qx w b
theorem d0U{w:World}{b o:Nat}{v:Value}(h:w.cell? ⟨b,o,none⟩=some v):¬Qx w b:=fun⟨q,hq,hc⟩=>by cases q<;>first|(simp[World.cell?,hq]at h;done)|(cases hc;done)
theorem d1U{w:World}{b:Nat}{es:Array MapEntry}{c:Nat}(h:w.heap[b]? =some (.map es c)):¬Qx w b:=fun⟨q,hq,hc⟩=>by rw[h]at hq;cases hq;cases hc
theorem YB.UH{A:Nat->Prop}{w:World}{x:IV}{v:Value}(h:YB A w x v):YB (JH A w) w x v:=by
 induction h with
 |v x h1=>exact .v x h1
 |Wj sz=>exact .Wj sz
 |Z6 sz xs b off cap a vs ha hs VA hc hr ih=>
  exact .Z6 sz xs b off cap a vs ha hs VA (fun i j c h=>by obtain⟨h1,h2⟩:=hc i j c h;exact⟨⟨h1,d0U h2⟩,h2⟩) ih
 |pt cs b off vs hc hr ih=>
  exact .pt cs b off vs (fun i c h=>by obtain⟨h1,h2⟩:=hc i c h;exact⟨⟨h1,d0U h2⟩,h2⟩) ih
 |mp sk g b clock es vs oE hh UM Yq Y6 YL hg hr ih=>
  exact .mp sk g b clock es vs ⟨oE,d1U hh⟩ hh UM Yq Y6 YL hg ih
 |Nd sk g h=>exact .Nd sk g h
theorem Xg.UH{A:Nat->Prop}{ψ:Pl}{H:Hp}{w:World}{c:Z3}{v:Value}(h:Xg A ψ H w c v):Xg (JH A w) ψ H w c v:=by
 cases h with
 |ptr id off b k o ho hb=>exact .ptr id off b k o ho hb
 |val x v h1=>exact .val x v h1.UH
theorem ZK.UH{A:Nat->Prop}{ψ:Pl}{H:Hp}{w:World}{x:AV}{v:Value}(h:ZK A ψ H w x v):ZK (JH A w) ψ H w x v:=by
 induction h with
 |iv x v h=>exact .iv x v h.UH
 |nil sz=>exact .nil sz
 |U4 id sz o n ho he hb=>exact .U4 id sz o n ho he hb
 |sl id sz lo len b k cap a o n ho he hx hb ha UO hk hm=>exact .sl id sz lo len b k cap a o n ho he hx hb ha UO hk hm
 |ptr id off b k o ho hb=>exact .ptr id off b k o ho hb
 |ep id sz i off b k o n ho he hi hb=>exact .ep id sz i off b k o n ho he hi hb
 |mpr id b k o ho hb=>exact .mpr id b k o ho hb
 |fn f first caps vf vc hf hc h1 h2=>exact .fn f first caps vf vc hf hc (fun i c h=>(h1 i c h).UH) (fun i c h=>(h2 i c h).UH)
 |agg cs vs hl _ ih=>exact .agg cs vs hl ih
 |Zp cs vs hl _ ih=>exact .Zp cs vs hl ih
 |un=>exact .un
 |junk v=>exact .junk v
theorem iY.UH{A:Nat->Prop}{w:World}{sz:Nat}{xs:List (List IV)}{b:Nat}{k:Nat×Nat}(h:iY A w sz xs b k):iY (JH A w) w sz xs b k:=by
 obtain⟨c,e,h1,h2,h3,h4⟩:=h;exact⟨c,e,h1,h2,h3,fun i j x hx=>(h4 i j x hx).UH⟩
theorem Ti.UH{A:Nat->Prop}{w:World}{sz:Nat}{xs:List (List IV)}{p:Option (Nat×(Nat×Nat))}{v:Value}(h:Ti A w sz xs p v):Ti (JH A w) w sz xs p v:=by
 obtain⟨h0,h⟩:=h;refine⟨h0,?_⟩
 rcases h with h|⟨b,k,cap,a,h1,h2,h3,h4,h5,h6,h7⟩
 ·exact .inl h
 ·exact .inr ⟨b,k,cap,a,h1,h2,h3,h4,h5,h6,h7.UH⟩
theorem Xx.UH{A:Nat->Prop}{w:World}{sk:Sk}{g:List Value->Option (List IV)}{es:Array MapEntry}(h:Xx A w sk g es):Xx (JH A w) w sk g es:=by
 obtain⟨m1,m2,m3,m4⟩:=h;refine⟨m1,m2,m3,fun k c hg=>?_⟩;obtain⟨e,he,h5,h6,h7⟩:=m4 k c hg;exact⟨e,he,h5,h6,fun i x hx=>(h7 i x hx).UH⟩
theorem Xa.UH{A:Nat->Prop}{ψ:Pl}{H:Hp}{w:World}{id:Nat}{o:Ob}(h:Xa A ψ H w id o):Xa (JH A w) ψ H w id o:=by
 cases o with
 |box cs=>obtain⟨b,c,e,h1,h2,h3,h4⟩:=h;exact⟨b,c,e,h1,h2,h3,fun i x hx=>(h4 i x hx).UH⟩
 |list sz xs=>
  obtain⟨h0,h⟩:=h;refine⟨h0,?_⟩
  rcases h with h|⟨b,k,c,e,h1,h2,h3,Te,h4⟩
  ·exact .inl h
  ·exact .inr ⟨b,k,c,e,h1,h2,h3,Te,fun i j x hx=>(h4 i j x hx).UH⟩
 |map sk g=>obtain⟨b,es,clock,h1,h2,h3,m⟩:=h;exact⟨b,es,clock,h1,h2,h3,m.UH⟩
 |WT sk g n kk=>obtain⟨b,es,clock,h1,h2,h3,m,h4⟩:=h;exact⟨b,es,clock,h1,h2,h3,m.UH,h4⟩
 |YU org sz xs=>
  obtain⟨h0,h⟩:=h;refine⟨h0,?_⟩
  rcases h with h|⟨b,k,c,e,h1,h2,h3,Te,h4⟩
  ·exact .inl h
  ·exact .inr ⟨b,k,c,e,h1,h2,h3,Te,fun i j x hx=>(h4 i j x hx).UH⟩
 |YJ sk sz g hole=>
  obtain⟨b,es,clock,pl,h1,h2,h3,h4,h5,h6,h7,h8,h9,U0,TD⟩:=h;refine⟨b,es,clock,pl,h1,h2,h3,h4,h5,h6,h7,h8,fun k xs hg=>?_,U0,TD⟩;obtain⟨e,g1,g2,g3⟩:=h9 k xs hg;exact⟨e,g1,g2,g3.UH⟩
 |ZI sz xs hole=>
  obtain⟨h0,b,k,c,e,pl,h1,h2,h3,h4,h5,h6,h7⟩:=h;exact⟨h0,b,k,c,e,pl,h1,h2,h3,h4,fun i x g1 g2=>(h5 i x g1 g2).UH,h6,h7⟩
 |iter sk g left last=>
  obtain⟨b,m,since,stamps,YG,h1,h2,h3⟩:=h;refine⟨b,m,since,stamps,YG,h1,h2,?_⟩
  rcases h3 with h3|⟨bm,es,g1,g2,g3,g4,g5,g6,g7⟩
  ·exact .inl h3
  ·exact .inr ⟨bm,es,g1,⟨g2,d1U g3⟩,g3,g4,g5,g6.UH,g7⟩
 |gh Z vs cs=>
  obtain⟨h1,h2,h3,h4⟩:=h;exact⟨h1,h2.UH (fun b _ ha hd=>⟨ha,hd⟩) (fun _ h=>h) (fun _ _ _ _=>rfl) (fun _ _=>rfl),h3,fun i x hx=>(h4 i x hx).UH⟩
section
variable{P:Program}{E:En}{n:Nat}{ψ:Pl}{s:St}{a:Act}{w:World}
theorem Z7.ctl(h:Z7 E n ψ s a w){D:Nat}(Ff:Qx w D)(hH:¬ZD ψ s.hp D){o':Obj}{E2:En}(eA:E2.A=E.A)(eI:E2.ids=E.ids)(eψ:E2.ψ=E.ψ)(eP:E2.Oh=E.Oh)(eS:E2.w.heap.size=E.w.heap.size)
 (eO:E2.w.os=E.w.os/\E2.w.tape=E.w.tape/\E2.w.output=E.w.output/\E2.w.drawn<=E.w.drawn) (hold:∀b,b<E.w.heap.size->¬E.mp b->(w.putObj D o').heap[b]? =E2.w.heap[b]?)
 {ds:List Deferred} (tS:pv E.w.heap.size (Im E ψ s.hp) (w.putObj D o') ds):Z7 E2 n ψ s {a with defers:=ds} (w.putObj D o'):=by
 have ZS:∀b,b≠D->(w.putObj D o').heap[b]? =w.heap[b]? :=fun b hb=>World.putObj_heap_other hb
 have Sy:∀b,E2.fresh b↔E.fresh b:=fun b=>by simp[En.fresh,eP,eS]
 have hmp:∀b,E2.mp b↔E.mp b:=fun b=>by simp[En.mp,eI,eψ,eP]
 have D5:∀b,Im E2 ψ s.hp b↔Im E ψ s.hp b:=fun b=>by simp[Im,eA,Sy]
 have hI:∀b,b<w.heap.size->JH (Im E ψ s.hp) w b->Im E2 ψ s.hp b:=fun b _ h=>(D5 b).2 h.1
 have hw:∀b,b<w.heap.size->JH (Im E ψ s.hp) w b->(w.putObj D o').heap[b]? =w.heap[b]? :=fun b _ h=>ZS b fun e=>h.2 (e▸Ff)
 refine {size:=h.size,defers:=?_,frame:=fun t=>(h.frame t).UH.mono hI hw (Vt.refl _ _),YH:=fun id o ho=>?_,inj:=h.inj,own:=fun id o b ho hb=>?_,Y0:=h.Y0.ext (by simp),par:=fun id VF=>?_,old:=fun b hb hm=>?_,grow:=by rw[eS];simpa using h.grow,same:=⟨h.same.1.trans eO.1.symm,h.same.2.1.trans eO.2.1.symm,h.same.2.2.1.trans eO.2.2.1.symm,a9L eO.2.2.2 h.same.2.2.2⟩}
 ·rw[eS];exact⟨tS.1,fun d hd=>by obtain⟨D',g1,g2,g3,g4⟩:=tS.2 d hd;exact⟨D',g1,g2,(D5 D').2 g3,g4⟩⟩
 ·refine(h.YH id o ho).UH.mono hI hw (Vt.refl _ _) ⟨rfl,fun _ h=>h⟩ fun b hb=>ZS b ?_
  rintro rfl;exact hH ⟨id,o,ho,hb⟩
 ·rw[eI,eψ,Sy];exact h.own id o b ho hb
 ·rw[eI]at VF;rw[eψ];exact h.par id VF
 ·rw[eS]at hb
  exact hold b hb fun hh=>hm ((hmp b).2 hh)
theorem Z7.take(h:Z7 E n ψ s a w){d:Deferred}{ds:List Deferred}(hd:a.defers=d::ds):
 ∃D,d.target= .collected D/\(Instr.takeDeferred D).run P w= .ok [] (w.putObj D (.deferred none))/\Z7 E n ψ s {a with defers:=ds} (w.putObj D (.deferred none)):=by
 obtain⟨hn,Zt⟩:=h.defers;rw[hd]at hn Zt;obtain⟨D,rfl,hk,hA,hD⟩:=Zt d a8C;refine⟨D,rfl,run_takeDeferred hD,?_⟩
 have ZS:∀b,b≠D->(w.putObj D (.deferred none)).heap[b]? =w.heap[b]? :=fun b hb=>World.putObj_heap_other hb
 refine h.ctl ⟨_,hD,rfl⟩ hA.2 rfl rfl rfl rfl rfl ⟨rfl,rfl,rfl,a8F _⟩ (fun b hb hm=>?_) ⟨(b0q.1 hn).2,fun d' NL=>?_⟩
 ·rw[ZS b (by omega)];exact h.old b hb hm
 ·obtain⟨D',rfl,g1,g2,g3⟩:=Zt d' (a2C _ NL);refine⟨D',rfl,g1,g2,?_⟩;rw[ZS D' (fun e=>(b0q.1 hn).1 (e▸NL))];exact g3
theorem d2U{fn:Func}{R:Ending->World->Prop}{tmps:Array Value}(key:∀w,Z7 E n ψ s {tmps:=tmps,defers:=[]} w->∃v,(results fn tmps).run P w= .ok v w/\R (.returned v) w):
 ∀(ds:List Deferred) (w:World),Z7 E n ψ s {tmps:=tmps,defers:=ds} w->LeavesInM Fence.wide 0 P fn tmps R ds .returning w:=by
 intro ds
 induction ds with
 |nil=>intro w h;exact key w h
 |cons d ds ih=>
  intro w h;obtain⟨D,h1,h2,h3⟩:=h.take (P:=P) (d:=d) (ds:=ds) rfl;exact⟨by simp, .inl ⟨D,_,h1,h2,ih _ h3⟩⟩
end
def Zz(P:Program)(f:FuncId):Option (Nat×Z9×List SL):=do
 let fn<-P.funcs[f]?
 let code<-fn.body
 let c<-Vb P fn.ntmps code
 let rs<-fn.results.toList.mapM (d4g P)
 if fn.ntmps<=999 then pure (fn.ntmps,c,rs)else none
def Ends(fr:Bool)(rs:List SL)(res:AV)(H':Hp)(s:St):Prop:=
 ∃s' l,Le s s'/\rs.mapM (V4 s')=some l/\res=Kc l/\(∀id,look s'.hp id=look H' id)/\(fr=true->res.flat=true/\∀id o,look H' id=some o->o.flat)
def J1(fr:Bool)(rs:List SL)(R:AV->Hp->Prop)(s:St):Prop:=
 ∃s' l H',Le s s'/\rs.mapM (V4 s')=some l/\R (Kc l) H'/\(∀id,look s'.hp id=look H' id)/\(fr=true->(Kc l).flat=true/\∀id o,look H' id=some o->o.flat)
def g1c(fr:Bool)(rs:List SL)(R:AV->Hp->Prop):YC:=⟨J1 fr rs R,fun _ _=>False,J1 fr rs R,fun _ _=>False⟩
def g2c(fr:Bool)(rs:List SL)(res:AV)(H':Hp):YC:=⟨Ends fr rs res H',fun _ _=>False,Ends fr rs res H',fun _ _=>False⟩
theorem qe{H:Hp}{id:Nat}(h:id∈H.map (·.1)):∃o,look H id=some o:=b7S (a0N.2 h)
theorem Ez{α:Type}:∀{l:List (Nat×α)} {k:Nat} {x:α},look l k=some x->(k,x)∈l
 | [],_,_,h=>by cases h
 |(j,y)::r,k,x,h=>by
  simp only[look]at h;split at h
  ·rename_i e;subst e;cases h;exact a8C
  ·exact a2C _ (Ez h)
theorem d2Z{P:Program}{fr:Bool}{f:FuncId}{args:List AV}{H:Hp}{R:AV->Hp->Prop}{n:Nat}{c:Z9}{rs:List SL}(hf:Zz P f=some (n,c,rs))
 (YQ:args.length<=n) (UA:(H.map (·.1)).all (1000<= ·)=true) (Vr:(H.all fun p=> !p.2.Zl)=true) (FE:∀res H',R res H'->∀id o,look H' id=some o->o.Zl=false)
 (hvc:VC P n c ⟨SG 0 args,H⟩ (g1c fr rs R)):Ng P fr f args H R:=by
 unfold Zz at hf;obtain⟨fn,h1,hf⟩:=bind_some hf;obtain⟨code,h2,hf⟩:=bind_some hf;obtain⟨c',h3,hf⟩:=bind_some hf;obtain⟨rs',h4,hf⟩:=bind_some hf;split at hf
 ·simp only[a8H,a5y,a6J]at hf;obtain⟨rfl,rfl,rfl⟩:=hf
  have SJ:∀id o,look H id=some o->o.Zl=false:=fun id o ho=>by
   have:=a0E.1 Vr (id,o) (Ez ho);simpa using this
  have org:∀{o:Ob} {id:Nat},o.Zl=false->o.org id=id:=by intro o id h;cases o<;>first|rfl|cases h
  refine⟨⟨SJ,FE⟩,?_⟩;intro A ψ w vs hA Uh hinj Ue Vu hlen Q7
  have Yd:vs.toArray.size=vs.length:=by simp
  have eb:∀id∈H.map (·.1),1000<=id:=fun id VF=>by simpa using a0E.1 UA id VF
  have ed:∀b id,id∈H.map (·.1)->Z2 ψ id b->¬A b:=fun b id VF hb=>by
   obtain⟨o,ho⟩:=qe VF;exact Vu b ⟨id,o,ho,hb⟩
  have et:∀id b,id∈H.map (·.1)->Z2 ψ id b->b<w.heap.size:=fun id b VF hb=>by
   obtain⟨o,ho⟩:=qe VF
   rcases hb with⟨k,hb⟩|hb
   ·exact(Uh id o ho).lt hb
   ·exact(Ue id o b ho hb).2.1
  let E:En:=⟨A,w,H.map (·.1),ψ,eb,ed,et,hA,fun _=>False,fun _ h=>h.elim,fun _ h=>h.elim,fun _ _ _ _ h=>h⟩
  have EX:∀b,A b->Im E ψ H b:=fun b hb=>⟨.inl hb,fun hh=>Vu b hh hb⟩
  have XM:Un E fn.ntmps ⟨SG 0 args,H⟩ {tmps:=vs.toArray++c1A (fn.ntmps-vs.toArray.size) undef,defers:=[]} w:=by
   refine⟨ψ,{size:=?_,defers:=⟨by simp,fun d hd=>by cases hd⟩,frame:=fun t=>?_,YH:=fun id o ho=>?_,inj:=hinj,own:=fun id o b ho hb=> .inl ?_,Y0:=Ue,par:=fun id VF=>rfl,old:=fun b hb _=>rfl,grow:=a8F _,same:=⟨rfl,rfl,rfl,a8F _⟩}⟩
   ·simp;omega
   ·simp only[St.get,d3g,Nat.zero_le,if_true,Nat.sub_zero]
    cases hx:args[t]? with
    |none=>exact .junk _
    |some x=>
     have ZV:t<vs.length:=by rw[hlen];exact(a7y.1 hx).1
     have e:(vs.toArray++c1A (fn.ntmps-vs.toArray.size) undef).getD t undef=vs.getD t undef:=by
      simp[a4E,Array.getElem?_append,ZV,a7V]
     rw[e];exact(Q7 t x hx).mono (fun b _ hb=>EX b hb) (fun _ _ _=>rfl) (Vt.refl _ _)
   ·exact(Uh id o ho).mono (fun b _ hb=>EX b hb) (fun _ _ _=>rfl) (Vt.refl _ _) ⟨rfl,fun _ h=>h⟩ (fun _ _=>rfl)
   ·rw[org (SJ id o ho)];exact⟨a0N.1 (Ep ho),hb⟩
  refine callsIn_wide.1 (callsIn_of_wp_marks (n:=0) h1 h2 trivial (Code.wpIn_mono ?_ (hvc code h3 none 0 (.inl rfl) E _ w XM)))
  have f3t:∀(tmps:Array Value) w',(∃s,Un E fn.ntmps s {tmps:=tmps,defers:=[]} w'/\J1 fr rs' R s)->∃v,(results fn tmps).run P w'= .ok v w'/\∃v' ZF res H',R res H'/\Ending.returned v= .returned v'∧
   (∀b,b<w.heap.size->¬ZD ψ H b->w'.heap[b]? =w.heap[b]?)/\w.heap.size<=w'.heap.size/\RJ w w'∧
   (∀id o,look H id=some o->ZF id=ψ id)∧
   (∀id o b,look H' id=some o->Z2 ZF id b->(∃o0,look H id=some o0/\Z2 ψ id b)\/w.heap.size<=b)∧
   (∀id XP o o' b,look H' id=some o->look H' XP=some o'->Z2 ZF id b->Z2 ZF XP b->id=XP)/\Uv ZF H' w'∧
   (∀id o,look H' id=some o->Xa (fun b=>((fr=false/\A b)\/w.heap.size<=b)/\¬ZD ZF H' b) ZF H' w' id o)∧
   ZK (fun b=>((fr=false/\A b)\/w.heap.size<=b)/\¬ZD ZF H' b) ZF H' w' res v':=by
   rintro tmps w' ⟨s,hs,s',l,H',hle,hl,TY,hH,FD⟩;obtain⟨ZF,h⟩:=hle E _ _ w' hs;obtain⟨us,u1,u2,u3⟩:=d8g h _ _ _ h4 hl;have MG:=FE _ H' TY;refine⟨_,d9g u1,_,ZF,_,H',TY,rfl,?_⟩
   have hrv:ZK (Im E ZF s'.hp) ZF s'.hp w' (Kc l) (oneOf us):=by
    clear TY FD
    match l,us,u2,u3 with
    | [x],[v],_,u3=>exact u3 0 x rfl
    | [],[],_,_=>exact .Zp _ _ rfl (by simp)
    |x::y::l,v::u::us,u2,u3=>
     refine .Zp _ _ (by simpa using u2) fun i c hc=>?_
     rw[b5S];exact u3 i c hc
   refine⟨fun b hb hm=>h.old b hb ?_,h.grow,⟨h.same.1,h.same.2.1,h.same.2.2.1,h.same.2.2.2⟩,fun id o ho=>h.par id (a0N.1 (Ep ho)),fun id o b ho hb=>?_,fun id XP o o' b g1 g2 g3 g4=>?_,fun id o b ho hb=>h.Y0 id o b (by rw[hH];exact ho) hb,fun id o ho=>?_,?_⟩
   ·rintro(⟨id,VF,hb⟩|hp)
    ·obtain⟨o,ho⟩:=qe VF;exact hm ⟨id,o,ho,hb⟩
    ·exact hp
   ·rcases h.own id o b (by rw[hH];exact ho) hb with⟨VF,how⟩|hp|X3
    ·rw[org (MG id o ho)]at VF how;obtain⟨o',XQ⟩:=qe VF;exact .inl ⟨o',XQ,how⟩
    ·exact hp.elim
    ·exact .inr X3
   ·exact h.inj id XP o o' b (by rw[hH];exact g1) (by rw[hH];exact g2) g3 g4
   ·have XQ:=(h.YH id o (by rw[hH];exact ho)).hp (fun id=>(hH id).symm)
    cases fr with
    |true=>exact XQ.flat ((FD rfl).2 id o ho)
    |false=>
     refine XQ.mono (fun b _ hb=>⟨?_,fun hh=>hb.2 ((d6g hH b).2 hh)⟩) (fun _ _ _=>rfl) (Vt.refl _ _) ⟨rfl,fun _ h=>h⟩ (fun _ _=>rfl)
     rcases hb.1 with h|h|h
     ·exact .inl ⟨rfl,h⟩
     ·exact h.elim
     ·exact .inr h
   ·have hr':=hrv.hp (fun id=>(hH id).symm)
    cases fr with
    |true=>exact hr'.flat (FD rfl).1
    |false=>
     refine hr'.mono (fun b _ hb=>⟨?_,fun hh=>hb.2 ((d6g hH b).2 hh)⟩) (fun _ _ _=>rfl) (Vt.refl _ _)
     rcases hb.1 with h|h|h
     ·exact .inl ⟨rfl,h⟩
     ·exact h.elim
     ·exact .inr h
  intro e a' w' hp
  cases e with
  |normal=>
   obtain⟨s,⟨ZF,hs⟩,he⟩:=hp;obtain⟨tmps,ds⟩:=a';exact d2U (fun w2 h2=>f3t tmps w2 ⟨s,⟨ZF,h2⟩,he⟩) ds w' hs
  |ret=>
   obtain⟨s,⟨ZF,hs⟩,he⟩:=hp;obtain⟨tmps,ds⟩:=a';exact d2U (fun w2 h2=>f3t tmps w2 ⟨s,⟨ZF,h2⟩,he⟩) ds w' hs
  |exit id=>obtain⟨_,_,hk⟩:=hp;exact hk.elim
  |goto l=>obtain⟨_,_,hk⟩:=hp;exact hk.elim
  |panic=>exact hp.elim
  |outgrown=>exact hp.elim
 ·cases hf
theorem Ip{P:Program}{fr:Bool}{f:FuncId}{args:List AV}{H H':Hp}{res:AV}{n:Nat}{c:Z9}{rs:List SL}(hf:Zz P f=some (n,c,rs))
 (YQ:args.length<=n) (UA:(H.map (·.1)).all (1000<= ·)=true) (Vr:((H++H').all fun p=> !p.2.Zl)=true) (hvc:VC P n c ⟨SG 0 args,H⟩ (g2c fr rs res H')):ZU P fr f args H res H':=by
 have MG:∀id o,look H' id=some o->o.Zl=false:=fun id o ho=>by
  have:=a0E.1 Vr (id,o) (List.mem_append_right _ (Ez ho));simpa using this
 have conv:∀s,Ends fr rs res H' s->J1 fr rs (fun r K=>r=res/\K=H') s:=fun s ⟨s',l,q1,q2,q3,q4,q5⟩=>⟨s',l,H',q1,q2,⟨q3.symm,rfl⟩,q4,fun e=>by rw[<-q3];exact q5 e⟩
 refine(d2Z (R:=fun r K=>r=res/\K=H') hf YQ UA ?_ (fun r K e=>by obtain⟨rfl,rfl⟩:=e;exact MG) (hvc.mono conv (fun _ _ h=>h) conv (fun _ _ h=>h))).one (fun _ _ h=>h) MG;rw[List.all_append,a4C]at Vr;exact Vr.1
def ZE(S:List (List AV)->Prop)(Zs:List (List AV)->GZ)(Zx:List (List AV)->List AV->GZ):GZ:=fun A B w=>(∃xs,S xs/\Zs xs A B w)\/∃pre x,Zx pre x A B w
def rJ(P:Program)(f:FuncId)(caps:List IV)(Ul:List (List AV)->List AV->Prop)(S:List (List AV)->Prop):Prop:=
 ∀(l:Nat) (Zs:List (List AV)->GZ) (Zx:List (List AV)->List AV->GZ) (cont:List (List AV)->List AV->Bool),
 (∀pre x,Ul pre x->rI P l x (Zs pre) (cont pre x) (if cont pre x then Zs (pre++[x])else Zx pre x))->
 ZU P false f (.iv (.v (.func (.yield l) #[] #[]))::caps.map AV.iv) [(1000, .gh (Zs []) [] [])] (.Zp []) [(1000, .gh (ZE S Zs Zx) [] [])]
theorem rI.conv{P:Program}{l:Nat}{x:List AV}{Z Z' Z1 Z1':GZ}{b:Bool}(h:rI P l x Z b Z')(h1:∀A B w,Z1 A B w->Z A B w)(h2:∀A B w,Z' A B w->Z1' A B w):rI P l x Z1 b Z1':=by
 intro A B w vs a1 a2 a3 a4 a5 a6;obtain⟨fn,tmps,assign,body,hr,WN⟩:=h A B w vs a1 a2 a3 (fun A' B' w' k1 k2 k3 k4=>h1 _ _ _ (a4 A' B' w' k1 k2 k3 k4)) a5 a6;exact⟨fn,tmps,assign,body,hr,fun m=>(WN m).mono fun e w' ⟨B',q1,q2,q3,q4,q5,q6,q7⟩=>⟨B',q1,q2,q3,q4,q5,q6,fun A' B' w' k1 k2 k3 k4=>h2 _ _ _ (q7 A' B' w' k1 k2 k3 k4)⟩⟩
def ZT:GZ:=fun _ _ _=>True
def UU:List Nat->List AV->St->St
 |p::ps,x::xs,s=>UU ps xs (s.set p x)
 | _,_,s=>s
def II(E:En)(ψ:Pl)(H:Hp)(A B:Nat->Prop)(w:World)(b:Nat):Prop:=((A b/\¬Qx w b)\/(B b/\(E.A b\/E.fresh b)))/\¬ZD ψ H b
structure ZA (E:En) (ds:List Deferred) (H:Hp) (l D:Nat) (rec:Loop) (A B:Nat->Prop) (w:World) (ψ:Pl):Prop where
 YH:∀id o,look H id=some o->Xa (II E ψ H A B w) ψ H w id o
 inj:∀id XP o o' b,look H id=some o->look H XP=some o'->Z2 ψ id b->Z2 ψ XP b->id=XP
 own:∀id o b,look H id=some o->Z2 ψ id b->(o.org id∈E.ids/\Z2 E.ψ (o.org id) b)\/E.fresh b
 Y0:Uv ψ H w
 par:∀id,id∈E.ids->ψ id=E.ψ id
 held:∀b,ZD ψ H b->B b
 ids:∀id b,id∈E.ids->Z2 E.ψ id b->B b
 nl:¬ZD ψ H l
 nD:¬ZD ψ H D
 bl:B l
 bD:B D
 hl:w.heap[l]? =some (.loop rec)
 hD:w.heap[D]? =some (.deferred (some []))
 old:∀b,b<E.w.heap.size->¬E.mp b->w.heap[b]? =E.w.heap[b]? /\((A b/\¬Qx w b)\/B b)
 defs:pv E.w.heap.size (fun b=>B b/\¬ZD ψ H b) w ds
def ZC(E:En)(ds:List Deferred)(H:Hp)(l D:Nat)(rec:Loop):GZ:=fun A B w=>∃ψ,ZA E ds H l D rec A B w ψ
theorem ZC.gok{E:En}{ds:List Deferred}{H:Hp}{l D:Nat}{rec:Loop}{A B:Nat->Prop}{w:World}(h:ZC E ds H l D rec A B w):Oi (ZC E ds H l D rec) A B w:=by
 intro A' B' w' k1 k2 k3 k4;obtain⟨ψ,h⟩:=h
 have lt:∀b,b<w.heap.size->A b->¬Qx w b->b<w'.heap.size/\¬Qx w' b:=fun b hb ha hd=>by
  have e:=k3 b hb ha hd;refine⟨?_,fun⟨q,hq,hc⟩=>hd ⟨q,by rw[<-e];exact hq,hc⟩⟩;rw[a2S hb]at e;exact VJ e
 have ltB:∀b,b<w.heap.size->B b->b<w'.heap.size:=fun b hb h=>by
  have e:=k4 b h;rw[a2S hb]at e;exact VJ e
 have hI:∀b,b<w.heap.size->II E ψ H A B w b->II E ψ H A' B' w' b:=fun b hb ⟨h,h''⟩=>⟨h.imp (fun⟨a,d⟩=>⟨k1 b hb a d,(lt b hb a d).2⟩) (fun h=>⟨k2 b h.1,h.2⟩),h''⟩
 have hw:∀b,b<w.heap.size->II E ψ H A B w b->w'.heap[b]? =w.heap[b]? :=fun b hb ⟨h,_⟩=>by
  rcases h with⟨a,d⟩|h
  ·exact k3 b hb a d
  ·exact k4 b h.1
 refine⟨ψ,fun id o ho=>(h.YH id o ho).mono hI hw (Vt.refl _ _) ⟨rfl,fun _ h=>h⟩ (fun b hb=>k4 b (h.held b ⟨id,o,ho,hb⟩)),h.inj,h.own,fun id o b ho hb=>?_,h.par,fun b hb=>k2 b (h.held b hb),fun id b hi ho=>k2 b (h.ids id b hi ho),
  h.nl,h.nD,k2 _ h.bl,k2 _ h.bD,(k4 _ h.bl).trans h.hl,(k4 _ h.bD).trans h.hD,fun b hb hm=>?_,⟨h.defs.1,fun d hd=>?_⟩⟩
 ·obtain⟨q1,q2,q3⟩:=h.Y0 id o b ho hb;exact⟨q1,ltB b q2 (h.held b ⟨id,o,ho, .inr hb⟩),q3⟩
 ·obtain⟨e,h'⟩:=h.old b hb hm
  rcases h' with⟨a,d⟩|h'
  ·by_cases D6:b<w.heap.size
   ·exact⟨(k3 b D6 a d).trans e, .inl ⟨k1 b D6 a d,(lt b D6 a d).2⟩⟩
   ·exfalso
    rw[b9l (by omega),a2S hb]at e;cases e
  ·exact⟨(k4 b h').trans e, .inr (k2 b h')⟩
 ·obtain⟨D',g1,g2,g3,g4⟩:=h.defs.2 d hd;exact⟨D',g1,g2,⟨k2 _ g3.1,g3.2⟩,(k4 _ g3.1).trans g4⟩
theorem b5w{α:Type}:∀{l:List (Nat×α)} {t:Nat} {x:α},look l t=some x->∃i:Nat,l[i]? =some (t,x)
 | [],_,_,h=>by cases h
 |(j,y)::r,t,x,h=>by
  simp only[look]at h;split at h
  ·rename_i e;subst e;cases h;exact⟨0,rfl⟩
  ·obtain⟨i,hi⟩:=b5w h;exact⟨i+1,hi⟩
def Qa(tmps:Array Value)(fr:List (Nat×AV)):List Value:=fr.map fun p=>tmps.getD p.1 undef
def X0(fr:List (Nat×AV)):List AV:=fr.map fun p=>p.2
theorem b6w{A:Nat->Prop}{ψ:Pl}{H:Hp}{w:World}{r:Nat}{tmps:Array Value}{fr:List (Nat×AV)}(h:Xa A ψ H w r (.gh ZT (Qa tmps fr) (X0 fr)))(H2:Hp)(t:Nat):
 ZK A ψ H w (St.get ⟨fr,H2⟩ t) (tmps.getD t undef):=by
 simp only[St.get]
 cases hl:look fr t with
 |none=>exact .junk _
 |some x=>
  obtain⟨i,hi⟩:=b5w hl;obtain⟨_,_,_,h4⟩:=h;have:=h4 i x (by simp[X0,hi]);simpa[Qa,a7V,hi]using this
def En.round(E:En)(ψ:Pl)(H:Hp)(A B:Nat->Prop)(w w2:World)(Yd:E.w.heap.size<=w.heap.size)(TM:w2.heap.size=w.heap.size)
 (f9N:∀id b,id∈E.ids->Z2 E.ψ id b->B b) (rH:∀b,B b->¬A b):En where
 A:=fun b=>b<w.heap.size/\II E ψ H A B w b
 w:=w2
 ids:=E.ids
 ψ:=E.ψ
 big:=E.big
 pq:=fun b id hi ho ha=>by
  rcases ha.2.1 with h|⟨_,h|h|h⟩
  ·exact rH b (f9N id b hi ho) h.1
  ·exact E.pq b id hi ho h
  ·exact E.Lv b id hi ho h
  ·have:=E.there id b hi ho;omega
 there:=fun id b h1 h2=>by rw[TM];exact a4N (E.there id b h1 h2) Yd
 inA:=fun b h=>by rw[TM];exact h.1
 Oh:=fun b=>E.fresh b/\ZD ψ H b/\b<w.heap.size
 f8i:=fun b h=>by rw[TM];exact h.2.2
 f9i:=fun b h h'=>h'.2.2 h.2.1
 Lv:=fun b id hi ho hp=>by
  rcases hp.1 with h|h
  ·exact E.Lv b id hi ho h
  ·have:=E.there id b hi ho;omega
theorem b7w{E:En}{n:Nat}{ψ:Pl}{w:World}:∀(ps:List Nat) (xs:List AV) (vs:List Value) (s:St) (a:Act),Z7 E n ψ s a w->(∀p∈ps,p<n)->xs.length=ps.length->vs.length=ps.length->
 (∀i x,xs[i]? =some x->ZK (Im E ψ s.hp) pl0 [] w x (vs.getD i undef))->Z7 E n ψ (UU ps xs s) {a with tmps:=(ps.zip vs).foldl (fun t p=>t.setIfInBounds p.1 p.2) a.tmps} w:=by
 intro ps
 induction ps with
 |nil=>intro xs vs s a h _ h1 h2 _;cases xs<;>cases vs<;>first|exact h|simp at h1 h2
 |cons p ps ih=>
  intro xs vs s a h hp h1 h2 hr
  match xs,vs,h1,h2 with
  |x::xs,v::vs,h1,h2=>
   have hv:=hr 0 x rfl
   exact ih xs vs (s.set p x) (a.put (some p) v) (h.set (hp p a8C) (f0O hv)) (fun q hq=>hp q (a2C _ hq)) (by simpa using h1) (by simpa using h2)
    (fun i y hy=>hr (i+1) y (by simpa using hy))
def Og(fn:FuncId)(tmps:Array Value)(ps:Array Nat)(cx cy:Code)(D:Nat)(c:Option Code):Loop:=
 {state:=if c.isNone then .ready else .done,pending:=c,fn,tmps,params:=ps,assign:=cx,body:=cy,defers:=D}
def ZJ(E:En)(ds:List Deferred)(l D:Nat)(fn:FuncId)(tmps:Array Value)(ps:Array Nat)(cx cy:Code)(J:Option Code->Prop)(H:Hp):GZ:=fun A B w=>
 ∃c,J c/\ZC E ds H l D (Og fn tmps ps cx cy D c) A B w
theorem ZJ.gok{E:En}{ds:List Deferred}{l D:Nat}{fn:FuncId}{tmps:Array Value}{ps:Array Nat}{cx cy:Code}{J:Option Code->Prop}{H:Hp}{A B:Nat->Prop}{w:World}
 (h:ZJ E ds l D fn tmps ps cx cy J H A B w):Oi (ZJ E ds l D fn tmps ps cx cy J H) A B w:=by
 obtain⟨c,hc,h⟩:=h
 exact fun A' B' w' k1 k2 k3 k4=>⟨c,hc,h.gok A' B' w' k1 k2 k3 k4⟩
theorem b9w{P:Program}{E:En}{n:Nat}{tmps:Array Value}{ds:List Deferred}{fr:List (Nat×AV)}{H H':Hp}{r l D:Nat}{fn:FuncId}{ps:Array Nat}{cx cy:Code}{x:List AV}{X Y:Z9}
 (hx:Vb P n cx=some X) (hy:Vb P n cy=some Y) (rx:X.Rh=true) (ry:Y.Rh=true) (G7:∀p∈ps.toList,p<n) (hlen:x.length=ps.size) (QX:tmps.size=n)
 (hl:E.w.heap.size<=l) (hD:E.w.heap.size<=D) (hlD:D≠l) (gr:look H r=some (.gh ZT (Qa tmps fr) (X0 fr))) (J:Option Code->Prop) (b:Bool) (hJ:∀c,J c->c.isNone=b)
 (hv:VC P n X (UU ps.toList x ⟨fr,H⟩) ⟨fun s'=>VC P n Y s' ⟨fun s2=>J none/\Le s2 ⟨[],H'⟩,fun id s2=>J (some (.exit id))/\Le s2 ⟨[],H'⟩,fun s2=>J (some .ret)/\Le s2 ⟨[],H'⟩,fun _ _=>False⟩,
  fun _ _=>False,fun _=>False,fun _ _=>False⟩):
 rI P l x (ZJ E ds l D fn tmps ps cx cy (· =none) H) b (ZJ E ds l D fn tmps ps cx cy J H'):=by
 intro A B w vs hA hB rH Re E0 hrv;obtain⟨c,rfl,ψ,hz⟩:=Re.now
 have Yd:E.w.heap.size<=w.heap.size:=by have:=VJ hz.hl;omega
 refine⟨fn,_,cx,cy,run_yield hz.hl (by simp[Og,E0,hlen]),fun m=>?_⟩
 let E1:=E.round ψ H A B w w Yd rfl hz.ids rH
 have D5:∀k,k<w.heap.size->II E ψ H A B w k->Im E1 ψ H k:=fun k hk h=>⟨.inl ⟨hk,h⟩,h.2⟩
 have XM:Z7 E1 n ψ ⟨fr,H⟩ {tmps:=tmps,defers:=[]} w:={
  size:=QX
  defers:=⟨by simp,fun d hd=>by cases hd⟩
  frame:=fun t=>(b6w (hz.YH r _ gr) H t).mono D5 (fun _ _ _=>rfl) (Vt.refl _ _)
  YH:=fun id o ho=>(hz.YH id o ho).mono D5 (fun _ _ _=>rfl) (Vt.refl _ _) ⟨rfl,fun _ h=>h⟩ (fun _ _=>rfl)
  inj:=hz.inj
  own:=fun id o k ho hk=>(hz.own id o k ho hk).imp (fun h=>h) fun hf=> .inl ⟨hf,⟨id,o,ho,hk⟩,hB k (hz.held k ⟨id,o,ho,hk⟩)⟩
  Y0:=hz.Y0
  par:=hz.par
  old:=fun _ _ _=>rfl
  grow:=a8F _
  same:=⟨rfl,rfl,rfl,a8F _⟩}
 have f0j:=b7w ps.toList x vs _ _ XM G7 (by simpa using hlen) (by simpa[E0]using hlen) (fun i y hy=>(hrv i y hy).UH.mono (fun k hk h=>D5 k hk ⟨.inl h,fun hh=>rH k (hz.held k hh) h.1⟩) (fun _ _ _=>rfl) (fun id o ho=>by cases ho))
 have f1O:(ps.toList.zip vs).foldl (fun(t:Array Value) p=>t.setIfInBounds p.1 p.2) tmps=(ps.zip vs.toArray).foldl (fun(t:Array Value) (p:Nat×Value)=>t.setIfInBounds p.1 p.2) tmps:=by
  rw[<-Array.foldl_toList,Array.toList_zip]
 have Oe:Z7 E1 n ψ (UU ps.toList x ⟨fr,H⟩) {tmps:=(ps.zip vs.toArray).foldl (fun(t:Array Value) (p:Nat×Value)=>t.setIfInBounds p.1 p.2) tmps,defers:=[]} w:=by
  rw[<-f1O];exact f0j
 have lnm:∀{s:St} {a:Act} {w':World} {ZF:Pl},Z7 E1 n ZF s a w'->¬E1.mp l/\¬ZD ZF s.hp l:=by
  intro s a w' ZF h
  have h1:¬E1.mp l:=by
   rintro(⟨id,hi,ho⟩|hp)
   ·have:=E.there id l hi ho;omega
   ·exact hz.nl hp.2.1
  refine⟨h1,fun⟨id,o,ho,hk⟩=>?_⟩
  rcases h.own id o l ho hk with⟨q1,q2⟩|q|q
  ·exact h1 (.inl ⟨_,q1,q2⟩)
  ·exact h1 (.inr q)
  ·have:=VJ hz.hl;have:w.heap.size<=l:=q;omega
 have f2O:∀k,E1.mp k->B k:=by
  rintro k (⟨id,hi,ho⟩|hp)
  ·exact hz.ids id k hi ho
  ·exact hz.held k hp.2.1
 refine roundIn_of_wpIn trivial (Code.wpIn_mono ?_ (hv cx hx (some l) m (.inr rx) E1 _ w ⟨ψ,Oe⟩));intro e a1 w1 hp
 cases e with
 |normal=>
  obtain⟨s1,⟨ψ1,h1⟩,hk⟩:=hp;obtain⟨n1,n2⟩:=lnm h1
  have SJ:w1.heap[l]? =some (.loop (Og fn tmps ps cx cy D none)):=by rw[h1.old l (VJ hz.hl) n1];exact hz.hl
  refine⟨_,run_beginRound SJ rfl,?_⟩
  let E2:=E.round ψ H A B w (w.putObj l (.loop {Og fn tmps ps cx cy D none with state:= .busy})) Yd (by simp) hz.ids rH
  have h2:Z7 E2 n ψ1 s1 {a1 with defers:=a1.defers} (w1.putObj l (.loop {Og fn tmps ps cx cy D none with state:= .busy})):=by
   refine h1.ctl (E2:=E2) (o':= .loop {Og fn tmps ps cx cy D none with state:= .busy}) ⟨_,SJ,rfl⟩ n2 rfl rfl rfl rfl (by simp[E2,E1,En.round]) ⟨rfl,rfl,rfl,a8F _⟩ (fun k hk hm=>?_) ?_
   ·by_cases e:k=l
    ·subst e;rw[World.putObj_heap_same (VJ SJ)];exact(World.putObj_heap_same (VJ hz.hl)).symm
    ·rw[World.putObj_heap_other e];refine(h1.old k hk hm).trans ?_;exact(World.putObj_heap_other e).symm
   ·refine⟨h1.defers.1,fun d hd=>?_⟩;obtain⟨D',g1,g2,g3,g4⟩:=h1.defers.2 d hd;refine⟨D',g1,g2,g3,?_⟩;rw[World.putObj_heap_other (fun e=>by subst e;rw[SJ]at g4;cases g4)]
    exact g4
  have fin:∀(c:Option Code) (s3:St) (a3:Act) (w3:World),Un E2 n s3 a3 w3->J c->Le s3 ⟨[],H'⟩->∃v w',(Instr.endRound l c).run P w3= .ok v w'/\∃B':Nat->Prop,Ending.returned v= .returned (.bool b)∧
   (∀k,k<w.heap.size->¬B k->w'.heap[k]? =w.heap[k]?)/\w.heap.size<=w'.heap.size/\RJ w w'/\(∀k,B' k->B k\/w.heap.size<=k)/\(∀k,B' k->k<w'.heap.size)∧
   Oi (ZJ E ds l D fn tmps ps cx cy J H') (fun k=>(A k\/w.heap.size<=k)/\¬B' k) B' w':=by
   intro c s3 a3 w3 hs hc hle;obtain⟨D4,h4⟩:=hle E2 n a3 w3 hs
   have P9:E2.w.heap.size=w.heap.size:=by simp[E2,En.round]
   have rG:w.heap.size<=w3.heap.size:=by have:=h4.grow;rw[P9]at this;exact this
   have nm2:∀k,¬B k->¬E2.mp k:=fun k hk hm=>hk (f2O k hm)
   have po:¬E2.mp l/\¬ZD D4 H' l:=by
    refine⟨(lnm h1).1,fun⟨id,o,ho,hk⟩=>?_⟩
    rcases h4.own id o l ho hk with⟨q1,q2⟩|q|q
    ·exact(lnm h1).1 (.inl ⟨_,q1,q2⟩)
    ·exact(lnm h1).1 (.inr q)
    ·rw[P9]at q;have:=VJ hz.hl;omega
   have rF:w3.heap[l]? =some (.loop {Og fn tmps ps cx cy D none with state:= .busy}):=by
    rw[h4.old l (by rw[P9];exact VJ hz.hl) po.1];exact World.putObj_heap_same (VJ hz.hl)
   have XC:=run_endRound (P:=P) c rF;refine⟨_,_,XC,fun k=>B k\/ZD D4 H' k,?_,fun k hk hb=>?_,by simpa using rG,⟨h4.same.1,h4.same.2.1,h4.same.2.2.1,h4.same.2.2.2⟩,fun k hk=>?_,fun k hk=>?_,?_⟩
   ·rw[hJ c hc]
   ·have XL:k≠l:=fun e=>hb (e▸hz.bl)
    rw[World.putObj_heap_other XL,h4.old k (by rw[P9];exact hk) (nm2 k hb)];exact World.putObj_heap_other XL
   ·rcases hk with hk|⟨id,o,ho,hk⟩
    ·exact .inl hk
    ·rcases h4.own id o k ho hk with⟨q1,q2⟩|q|q
     ·exact .inl (hz.ids _ k q1 q2)
     ·exact .inl (hz.held k q.2.1)
     ·rw[P9]at q;exact .inr q
   ·rcases hk with hk|⟨id,o,ho,hk⟩
    ·have:=hB k hk;simp;omega
    ·simpa using h4.lt ho hk
   ·refine ZJ.gok ⟨c,hc,D4,?_⟩
    have ZS:∀{o:Obj} k,k≠l->(w3.putObj l o).heap[k]? =w3.heap[k]? :=fun k hk=>World.putObj_heap_other hk
    have G6:Qx w3 l:=⟨_,rF,rfl⟩
    have nH:∀k,k<w.heap.size->(∀id,id∈E.ids->¬Z2 E.ψ id k)->¬(E.fresh k/\ZD ψ H k)->¬ZD D4 H' k:=by
     rintro k hk hi hp ⟨id,o,ho,hq⟩
     rcases h4.own id o k ho hq with⟨q1,q2⟩|q|q
     ·exact hi _ q1 q2
     ·exact hp ⟨q.1,q.2.1⟩
     ·rw[P9]at q;omega
    have nM:∀k,(∀id,id∈E.ids->¬Z2 E.ψ id k)->¬(E.fresh k/\ZD ψ H k)->¬E2.mp k:=by
     rintro k hi hp (⟨id,h1,h2⟩|q)
     ·exact hi id h1 h2
     ·exact hp ⟨q.1,q.2.1⟩
    have D3:∀k,E.w.heap.size<=k->∀id,id∈E.ids->¬Z2 E.ψ id k:=fun k hk id hi ho=>by have:=E.there id k hi ho;omega
    have e2:∀k,k≠l->E2.w.heap[k]? =w.heap[k]? :=fun k hk=>World.putObj_heap_other hk
    have hI:∀k,k<w3.heap.size->JH (Im E2 D4 H') w3 k->II E D4 H' (fun k=>(A k\/w.heap.size<=k)/\¬(B k\/ZD D4 H' k)) (fun k=>B k\/ZD D4 H' k)
     (w3.putObj l (.loop {Og fn tmps ps cx cy D none with state:=if c.isNone then .ready else .done,pending:=c})) k:=by
     rintro k hk ⟨⟨EX,hnh⟩,WA⟩
     have XL:k≠l:=fun e=>WA (e▸G6)
     have f1j:∀o,¬Qx (w3.putObj l o) k:=fun o ⟨q,hq,hc⟩=>WA ⟨q,by rw[<-ZS k XL];exact hq,hc⟩
     refine⟨?_,hnh⟩
     rcases EX with⟨hkw,hA1,_⟩|q|q
     ·rcases hA1 with⟨ha,_⟩|⟨hb,hf⟩
      ·exact .inl ⟨⟨.inl ha,fun h=>h.elim (fun h=>rH k h ha) hnh⟩,f1j _⟩
      ·exact .inr ⟨.inl hb,hf⟩
     ·exact .inr ⟨.inl (hz.held k q.2.1), .inr q.1⟩
     ·rw[P9]at q;exact .inl ⟨⟨.inr q,fun h=>h.elim (fun h=>by have:=hB k h;omega) hnh⟩,f1j _⟩
    have hw4:∀k,k<w3.heap.size->JH (Im E2 D4 H') w3 k->(w3.putObj l (.loop {Og fn tmps ps cx cy D none with state:=if c.isNone then .ready else .done,pending:=c})).heap[k]? =w3.heap[k]? :=
     fun k _ h=>ZS k fun e=>h.2 (e▸G6)
    have back:∀k,k<w.heap.size->k≠l->(∀id,id∈E.ids->¬Z2 E.ψ id k)->¬(E.fresh k/\ZD ψ H k)->∀o,(w3.putObj l o).heap[k]? =w.heap[k]? :=fun k hk XL hi hp o=>by
     rw[ZS k XL,h4.old k (by rw[P9];exact hk) (nM k hi hp)];exact e2 k XL
    exact {
     YH:=fun id o ho=>(h4.YH id o ho).UH.mono hI hw4 (Vt.refl _ _) ⟨rfl,fun _ h=>h⟩ fun k hk=>ZS k (by rintro rfl;exact po.2 ⟨id,o,ho,hk⟩)
     inj:=h4.inj
     own:=fun id o k ho hk=>(h4.own id o k ho hk).imp (fun h=>h) fun q=>by
      rcases q with q|q
      ·exact q.1
      ·rw[P9]at q;exact .inr (a9L Yd q)
     Y0:=h4.Y0.ext (by simp)
     par:=h4.par
     held:=fun k hk=> .inr hk
     ids:=fun id k hi ho=> .inl (hz.ids id k hi ho)
     nl:=po.2
     nD:=nH D (VJ hz.hD) (D3 D hD) (fun h=>hz.nD h.2)
     bl:= .inl hz.bl
     bD:= .inl hz.bD
     hl:=World.putObj_heap_same (VJ rF)
     hD:=(back D (VJ hz.hD) hlD (D3 D hD) (fun h=>hz.nD h.2) _).trans hz.hD
     old:=fun k hk hm=>by
      obtain⟨g1,g2⟩:=hz.old k hk hm
      have XL:k≠l:=by omega
      have hi:∀id,id∈E.ids->¬Z2 E.ψ id k:=fun id hi ho=>hm (.inl ⟨id,hi,ho⟩)
      have hp:¬(E.fresh k/\ZD ψ H k):=fun h=>E.no hk hm h.1
      have e:=back k (by omega) XL hi hp (.loop {Og fn tmps ps cx cy D none with state:=if c.isNone then .ready else .done,pending:=c});refine⟨e.trans g1,?_⟩
      rcases g2 with⟨ha,hd⟩|hb
      ·exact .inl ⟨⟨.inl ha,fun h=>h.elim (fun h=>rH k h ha) (nH k (by omega) hi hp)⟩,fun⟨q,hq,hc⟩=>hd ⟨q,by rw[<-e];exact hq,hc⟩⟩
      ·exact .inr (.inl hb)
     defs:=⟨hz.defs.1,fun d hd=>by
      obtain⟨D',g1,g2,g3,g4⟩:=hz.defs.2 d hd;have hk:=VJ g4
      have XL:D'≠l:=fun e=>by subst e;rw[hz.hl]at g4;cases g4
      have hp:¬(E.fresh D'/\ZD ψ H D'):=fun h=>g3.2 h.2
      exact⟨D',g1,g2,⟨.inl g3.1,nH D' hk (D3 D' g2) hp⟩,(back D' hk XL (D3 D' g2) hp _).trans g4⟩⟩}
  refine Code.wpIn_mono ?_ (hk cy hy (some l) m (.inr ry) E2 _ _ ⟨ψ1,h2⟩);intro e a3 w3 hp
  cases e with
  |normal=>obtain⟨s3,hs,hc,hle⟩:=hp;exact fin none s3 a3 w3 hs hc hle
  |ret=>obtain⟨s3,hs,hc,hle⟩:=hp;exact fin (some .ret) s3 a3 w3 hs hc hle
  |exit id=>obtain⟨s3,hs,hc,hle⟩:=hp;exact fin (some (.exit id)) s3 a3 w3 hs hc hle
  |goto t=>obtain⟨_,_,hk⟩:=hp;exact hk.elim
  |panic ch=>exact hp.elim
  |outgrown=>exact hp.elim
 |exit id=>obtain⟨_,_,hk⟩:=hp;exact hk.elim
 |ret=>obtain⟨_,_,hk⟩:=hp;exact hk.elim
 |goto t=>obtain⟨_,_,hk⟩:=hp;exact hk.elim
 |panic ch=>exact hp.elim
 |outgrown=>exact hp.elim
def Ny(P:Program)(W1 W2:St->YC->Prop)(g:Operand)(ps:List Nat)(s:St)(O:YC):Prop:=
 ∃(f:FuncId) (caps:List IV) (Ul:List (List AV)->List AV->Prop) (S:List (List AV)->Prop) (r:Nat) (fr:List (Nat×AV)) (I:List (List AV)->Prop) (H:List (List AV)->Hp) (cont:List (List AV)->List AV->Bool) (Hx:List (List AV)->List AV->Hp),
  (Le s ⟨fr,H []⟩/\St.ev ⟨fr,H []⟩ g= .fn f [] (caps.map Z3.val)/\XI P f=true/\rJ P f caps Ul S/\r<1000/\look (H []) r=none/\(fr.map (·.1)).Nodup/\(∀pre x,Ul pre x->x.length=ps.length)/\I [])∧
  (∀vs pre x,I pre->Ul pre x->cont pre x=true->I (pre++[x])/\W1 (UU ps x ⟨fr,(r, .gh ZT vs (X0 fr))::H pre⟩)
   ⟨fun s'=>W2 s' ⟨fun s2=>Le s2 ⟨[],(r, .gh ZT vs (X0 fr))::H (pre++[x])⟩,fun _ _=>False,fun _=>False,fun _ _=>False⟩,fun _ _=>False,fun _=>False,fun _ _=>False⟩)∧
  (∀vs pre x,I pre->Ul pre x->cont pre x=false->W1 (UU ps x ⟨fr,(r, .gh ZT vs (X0 fr))::H pre⟩)
   ⟨fun s'=>W2 s' ⟨fun _=>False,fun id s2=>Le s2 ⟨[],(r, .gh ZT vs (X0 fr))::Hx pre x⟩/\∃s',Le ⟨fr,(r, .gh ZT vs (X0 fr))::Hx pre x⟩ s'/\O.x id s',
    fun s2=>Le s2 ⟨[],(r, .gh ZT vs (X0 fr))::Hx pre x⟩/\∃s',Le ⟨fr,(r, .gh ZT vs (X0 fr))::Hx pre x⟩ s'/\O.r s',fun _ _=>False⟩,fun _ _=>False,fun _=>False,fun _ _=>False⟩)∧
  ∀vs xs,I xs->S xs->∃s',Le ⟨fr,(r, .gh ZT vs (X0 fr))::H xs⟩ s'/\O.n s'
theorem e0r{P:Program}{W1 W2 W1' W2':St->YC->Prop}{g:Operand}{ps:List Nat}{s:St}{O O':YC}
 (m1:∀{s:St} {O O':YC},(∀s,O.n s->O'.n s)->(∀i s,O.x i s->O'.x i s)->(∀s,O.r s->O'.r s)->(∀i s,O.g i s->O'.g i s)->W1 s O->W1' s O')
 (m2:∀{s:St} {O O':YC},(∀s,O.n s->O'.n s)->(∀i s,O.x i s->O'.x i s)->(∀s,O.r s->O'.r s)->(∀i s,O.g i s->O'.g i s)->W2 s O->W2' s O')
 (hn:∀s,O.n s->O'.n s) (hx:∀i s,O.x i s->O'.x i s) (hr:∀s,O.r s->O'.r s) (h:Ny P W1 W2 g ps s O):Ny P W1' W2' g ps s O':=by
 obtain⟨f,caps,Ul,S,r,fr,I,H,cont,Hx,h1,h2,h3,h4⟩:=h;refine⟨f,caps,Ul,S,r,fr,I,H,cont,Hx,h1,fun vs pre x q1 q2 q3=>⟨(h2 vs pre x q1 q2 q3).1,?_⟩,fun vs pre x q1 q2 q3=>?_,fun vs xs q1 q2=>?_⟩
 ·refine m1 ?_ ?_ ?_ ?_ (h2 vs pre x q1 q2 q3).2
  ·intro s h;exact m2 (fun _ h=>h) (fun _ _ h=>h) (fun _ h=>h) (fun _ _ h=>h) h
  ·exact fun _ _ h=>h
  ·exact fun _ h=>h
  ·exact fun _ _ h=>h
 ·refine m1 ?_ ?_ ?_ ?_ (h3 vs pre x q1 q2 q3)
  ·intro s h;refine m2 ?_ ?_ ?_ ?_ h
   ·exact fun _ h=>h
   ·exact fun _ _ ⟨q,s',q1,q2⟩=>⟨q,s',q1,hx _ _ q2⟩
   ·exact fun _ ⟨q,s',q1,q2⟩=>⟨q,s',q1,hr _ q2⟩
   ·exact fun _ _ h=>h
  ·exact fun _ _ h=>h
  ·exact fun _ h=>h
  ·exact fun _ _ h=>h
 ·obtain⟨s',g1,g2⟩:=h4 vs xs q1 q2;exact⟨s',g1,hn _ g2⟩
theorem e1r{P:Program}{W1 W2 W1' W2':St->YC->Prop}{g:Operand}{ps:List Nat}{s:St}{O:YC}
 (w1:∀s O,W1 s O->W1' s O) (w2:∀s O,W2 s O->W2' s O)
 (m1:∀{s:St} {O O':YC},(∀s,O.n s->O'.n s)->(∀i s,O.x i s->O'.x i s)->(∀s,O.r s->O'.r s)->(∀i s,O.g i s->O'.g i s)->W1' s O->W1' s O')
 (h:Ny P W1 W2 g ps s O):Ny P W1' W2' g ps s O:=by
 obtain⟨f,caps,Ul,S,r,fr,I,H,cont,Hx,h1,h2,h3,h4⟩:=h;refine⟨f,caps,Ul,S,r,fr,I,H,cont,Hx,h1,fun vs pre x q1 q2 q3=>⟨(h2 vs pre x q1 q2 q3).1,?_⟩,fun vs pre x q1 q2 q3=>?_,h4⟩
 ·refine m1 ?_ ?_ ?_ ?_ (w1 _ _ (h2 vs pre x q1 q2 q3).2)
  ·exact fun s h=>w2 _ _ h
  ·exact fun _ _ h=>h
  ·exact fun _ h=>h
  ·exact fun _ _ h=>h
 ·refine m1 ?_ ?_ ?_ ?_ (w1 _ _ (h3 vs pre x q1 q2 q3))
  ·exact fun s h=>w2 _ _ h
  ·exact fun _ _ h=>h
  ·exact fun _ h=>h
  ·exact fun _ _ h=>h
theorem e2r{α:Type}:∀{l:List (Nat×α)} {i t:Nat} {x:α},(l.map (·.1)).Nodup->l[i]? =some (t,x)->look l t=some x
 | [],_,_,_,_,h=>by simp at h
 |(j,y)::r,i,t,x,hn,h=>by
  simp only[a0G,b0q]at hn
  cases i with
  |zero=>simp only[a9E,a5y,a6J]at h;obtain⟨rfl,rfl⟩:=h;simp[look]
  |succ i=>
   have h:r[i]? =some (t,x):=by simpa using h
   have:j≠t:=by rintro rfl;exact hn.1 (a3E.2 ⟨(j,x),a8y h,rfl⟩)
   simp only[look,if_neg this];exact e2r hn.2 h
theorem e3r{P:Program}{n:Nat}{g:Operand}{ps:List Nat}{X Y:Z9}{s:St}{O:YC}(hv:Ny P (VC P n X) (VC P n Y) g ps s O):VC P n (.QY g ps X Y) s O:=by
 intro code hc ro m Uj E a w hs
 cases code<;>simp only[Vb]at hc<;>(first|cases hc|skip)
 case rangeFunc g' EE cx cy=>
  obtain⟨X',hX,hc⟩:=bind_some hc;obtain⟨Y',hY,hc⟩:=bind_some hc;obtain⟨e,rx,ry,G7⟩:=c3F hc;simp only[Z9.QY.injEq]at e;obtain⟨rfl,rfl,rfl,rfl⟩:=e;obtain rfl:ro=none:=Uj.resolve_right (by simp[Z9.Rh]);obtain⟨f,caps,Ul,S,r,fr,I,H0,cont,Hx,⟨h1,hg,ZY,Wk,hr,EZ,WA,hlen,hI0⟩,WN,f8t,T3⟩:=hv
  obtain⟨H,hH⟩:∃H:Nat->Hp,H 0=H0 []:=⟨fun _=>H0 [],rfl⟩;rw[<-hH]at h1 hg EZ;obtain⟨ψ,h⟩:=h1 E n a w hs
  have hnr:r∉E.ids:=fun hi=>by have:=E.big r hi;omega
  refine wpIn_rangeFunc ?_;intro fn _;obtain⟨W1,hW1⟩:∃W1,(w.alloc (.deferred (some []))).alloc (.loop (Og fn a.tmps EE cx cy w.heap.size none))=W1:=⟨_,rfl⟩
  have O5:Ext w W1:=by rw[<-hW1];exact(Ext.alloc _ _).trans (Ext.alloc _ _)
  have Yd:W1.heap.size=w.heap.size+2:=by rw[<-hW1];simp
  have hL1:W1.heap[w.heap.size+1]? =some (.loop (Og fn a.tmps EE cx cy w.heap.size none)):=by
   rw[<-hW1];have:=World.alloc_heap_new (w.alloc (.deferred (some []))) (.loop (Og fn a.tmps EE cx cy w.heap.size none));rwa [World.size_alloc]at this
  have hD1:W1.heap[w.heap.size]? =some (.deferred (some [])):=by
   rw[<-hW1];exact((Ext.alloc _ _).block _ (by simp)).trans (World.alloc_heap_new w _)
  have h':=h.ext O5
  let A:Nat->Prop:=fun b=>b<w.heap.size/\Im E ψ (H 0) b/\¬Qx w b
  let B:Nat->Prop:=fun b=>b<W1.heap.size/\¬A b
  have nd1:∀b,b<w.heap.size->(Qx W1 b↔Qx w b):=fun b hb=>by simp only[Qx,O5.block b hb]
  have ZV:∀{b},ZD ψ (H 0) b->b<w.heap.size:=fun⟨id,o,ho,hb⟩=>h.lt ho hb
  have qJ:∀b,b<W1.heap.size->JH (Im E ψ (H 0)) W1 b->A b:=by
   rintro b hb ⟨EX,WA⟩
   by_cases hbw:b<w.heap.size
   ·exact⟨hbw,EX,fun h=>WA ((nd1 b hbw).2 h)⟩
   ·exfalso
    have:b=w.heap.size\/b=w.heap.size+1:=by omega
    rcases this with rfl|rfl
    ·exact WA ⟨_,hD1,rfl⟩
    ·exact WA ⟨_,hL1,rfl⟩
  let Hr:Hp->Hp:=fun K=>(r, .gh ZT (Qa a.tmps fr) (X0 fr))::K
  let IP:=XF ψ r none
  have sA:∀{K:Hp} {id:Nat},look (Hr K) id=if r=id then some (.gh ZT (Qa a.tmps fr) (X0 fr))else look K id:=fun {K id}=>rfl
  have sy:∀{id b},id≠r->(Z2 IP id b↔Z2 ψ id b):=fun ZS=>JF none ZS
  have sx:∀{b},¬Z2 IP r b:=fun hb=>by obtain⟨k,h⟩:=e6j r none hb;cases h
  have Qk:∀{b},ZD IP (Hr (H 0)) b->ZD ψ (H 0) b:=by
   rintro b ⟨id,o,ho,hb⟩;rw[sA]at ho
   by_cases e:r=id
   ·subst e;exact(sx hb).elim
   ·rw[if_neg e]at ho;exact⟨id,o,ho,(sy (Ne.symm e)).1 hb⟩
  have hI:∀b,b<W1.heap.size->JH (Im E ψ (H 0)) W1 b->II E IP (Hr (H 0)) A B W1 b:=fun b hb hd=>
   ⟨.inl ⟨qJ b hb hd,hd.2⟩,fun hh=>hd.1.2 (Qk hh)⟩
  have WC:Vt ψ IP (H 0) (Hr (H 0)):=by
   intro id o ho
   have ZS:id≠r:=by rintro rfl;rw[EZ]at ho;cases ho
   exact⟨⟨o,by rw[sA,if_neg (Ne.symm ZS)];exact ho,o.le_refl⟩,by simp[IP,XF,ZS]⟩
  have hAI:∀b,A b->E.A b\/E.fresh b:=fun b hb=>hb.2.1.1
  have rH:∀b,B b->¬A b:=fun b hb=>hb.2
  have hz:ZA E a.defers (Hr (H 0)) (w.heap.size+1) w.heap.size (Og fn a.tmps EE cx cy w.heap.size none) A B W1 IP:={
   YH:=fun id o ho=>by
    rw[sA]at ho
    by_cases e:r=id
    ·subst e;rw[if_pos rfl]at ho;cases ho;refine⟨by simp[IP,XF],fun _ _ _ _ _ _ _=>trivial,by simp[Qa,X0],fun i x hx=>?_⟩;simp only[X0,a0C]at hx;obtain⟨⟨t,x'⟩,hi,rfl⟩:=a1S.1 hx;have hf:=(h'.frame t).UH.mono hI (fun _ _ _=>rfl) WC;simp only[St.get,e2r WA hi,a2L]at hf;simpa[Qa,a7V,hi]using hf
    ·rw[if_neg e]at ho;exact(h'.YH id o ho).UH.mono hI (fun _ _ _=>rfl) WC ⟨by simp[IP,XF,Ne.symm e],fun b hb=>⟨Ne.symm e,hb⟩⟩ (fun _ _=>rfl)
   inj:=fun id XP o o' b q1 q2 q3 q4=>by
    rw[sA]at q1 q2
    by_cases e:r=id
    ·subst e;exact(sx q3).elim
    ·by_cases e':r=XP
     ·subst e';exact(sx q4).elim
     ·rw[if_neg e]at q1;rw[if_neg e']at q2;exact h.inj id XP o o' b q1 q2 ((sy (Ne.symm e)).1 q3) ((sy (Ne.symm e')).1 q4)
   own:=fun id o b ho hb=>by
    rw[sA]at ho
    by_cases e:r=id
    ·subst e;exact(sx hb).elim
    ·rw[if_neg e]at ho;exact h.own id o b ho ((sy (Ne.symm e)).1 hb)
   Y0:=fun id o b ho hb=>by
    rw[sA]at ho
    by_cases e:r=id
    ·exact absurd e.symm hb.1
    ·rw[if_neg e]at ho;obtain⟨q1,q2,q3⟩:=h.Y0 id o b ho hb.2;exact⟨q1,by omega,fun k=>by simp only[IP,XF,if_neg (Ne.symm e)];exact q3 k⟩
   par:=fun id hi=>by
    have:id≠r:=fun e=>hnr (e▸hi)
    simp only[IP,XF,if_neg this];exact h.par id hi
   held:=fun b hb=>⟨by have:=ZV (Qk hb);omega,fun ha=>ha.2.1.2 (Qk hb)⟩
   ids:=fun id b hi ho=>⟨by have:=E.there id b hi ho;have:=h.grow;omega,fun ha=>by
    rcases hAI b ha with q|q|q
    ·exact E.pq b id hi ho q
    ·exact E.Lv b id hi ho q
    ·have:=E.there id b hi ho;omega⟩
   nl:=fun hh=>by have:=ZV (Qk hh);omega
   nD:=fun hh=>by have:=ZV (Qk hh);omega
   bl:=⟨by omega,fun ha=>by have:=ha.1;omega⟩
   bD:=⟨by omega,fun ha=>by have:=ha.1;omega⟩
   hl:=hL1
   hD:=hD1
   old:=fun b hb hm=>by
    have hbw:b<w.heap.size:=a4N hb h.grow;refine⟨(O5.block b hbw).trans (h.old b hb hm),?_⟩
    by_cases ha:A b
    ·exact .inl ⟨ha,fun hd=>ha.2.2 ((nd1 b hbw).1 hd)⟩
    ·exact .inr ⟨by omega,ha⟩
   defs:=⟨h.defers.1,fun d hd=>by
    obtain⟨D',g1,g2,g3,g4⟩:=h.defers.2 d hd;have hk:=VJ g4
    exact⟨D',g1,g2,⟨⟨by omega,fun ha=>ha.2.2 ⟨_,g4,rfl⟩⟩,fun hh=>g3.2 (Qk hh)⟩,(O5.block D' hk).trans g4⟩⟩}
  let Zs:List (List AV)->GZ:=fun p A B w'=>I p/\ZJ E a.defers (w.heap.size+1) w.heap.size fn a.tmps EE cx cy (· =none) (Hr (H0 p)) A B w'
  have My:E.w.heap.size<=w.heap.size:=h.grow
  have f9t:∀p∈EE.toList,p<n:=fun p hp=>by simpa using a0E.1 G7 p hp
  let Fin:Option Code->Hp->Prop:=fun c K=>match c with
   |none=>∃s',Le ⟨fr,K⟩ s'/\O.n s'
   |some .ret=>∃s',Le ⟨fr,K⟩ s'/\O.r s'
   |some (.exit id)=>∃s',Le ⟨fr,K⟩ s'/\O.x id s'
   | _=>False
  let Zx:List (List AV)->List AV->GZ:=fun p x=>ZJ E a.defers (w.heap.size+1) w.heap.size fn a.tmps EE cx cy (fun c=>c.isNone=false/\Fin c (Hr (Hx p x))) (Hr (Hx p x))
  have S2:∀pre x,Ul pre x->rI P (w.heap.size+1) x (Zs pre) (cont pre x) (if cont pre x then Zs (pre++[x])else Zx pre x):=by
   intro pre x hp
   by_cases hIp:I pre
   ·by_cases VB:cont pre x=true
    ·rw[VB,if_pos rfl];obtain⟨hI1,Rj⟩:=WN (Qa a.tmps fr) pre x hIp hp VB
     refine(b9w (r:=r) (fr:=fr) (H:=Hr (H0 pre)) (H':=Hr (H0 (pre++[x]))) hX hY rx ry f9t (by rw[hlen pre x hp];simp) h.size (by omega) (by omega) (by omega) (by rw[sA,if_pos rfl]) (· =none) true (fun c hc=>by subst hc;rfl) ?_).conv
      (fun A B w' hz=>hz.2) (fun A B w' hz=>⟨hI1,hz⟩)
     exact Rj.mono (fun s' Rm=>Rm.mono (fun s2 h=>⟨rfl,h⟩) (fun _ _ h=>h.elim) (fun _ h=>h.elim) (fun _ _ h=>h)) (fun _ _ h=>h) (fun _ h=>h) (fun _ _ h=>h)
    ·have VB:cont pre x=false:=by simpa using VB
     rw[VB,if_neg (by simp)]
     refine(b9w (r:=r) (fr:=fr) (H:=Hr (H0 pre)) (H':=Hr (Hx pre x)) hX hY rx ry f9t (by rw[hlen pre x hp];simp) h.size (by omega) (by omega) (by omega) (by rw[sA,if_pos rfl]) (fun c=>c.isNone=false/\Fin c (Hr (Hx pre x))) false (fun c hc=>hc.1) ?_).conv
      (fun A B w' hz=>hz.2) (fun A B w' hz=>hz)
     exact(f8t (Qa a.tmps fr) pre x hIp hp VB).mono (fun s' Rm=>Rm.mono (fun s2 h=>h.elim) (fun id s2 ⟨q1,q2⟩=>⟨⟨rfl,q2⟩,q1⟩) (fun s2 ⟨q1,q2⟩=>⟨⟨rfl,q2⟩,q1⟩) (fun _ _ h=>h)) (fun _ _ h=>h) (fun _ h=>h) (fun _ _ h=>h)
   ·exact fun A B w' vs _ _ _ hg _ _=>absurd hg.now.1 hIp
  have Nc:∀A B w',ZE S Zs Zx A B w'->∃c K,ZC E a.defers (Hr K) (w.heap.size+1) w.heap.size (Og fn a.tmps EE cx cy w.heap.size c) A B w'/\Fin c (Hr K):=by
   rintro A B w' (⟨xs,hS,hIx,c,hc,hz⟩|⟨pre,x,c,hc,hz⟩)
   ·exact⟨c,H0 xs,hz,by subst hc;exact T3 _ xs hIx hS⟩
   ·exact⟨c,Hx pre x,hz,hc.2⟩
  have hgs:=Wk (w.heap.size+1) Zs Zx cont S2;have hgv:=h'.ev g;rw[hg]at hgv;generalize g5f:a.eval g=gv at hgv
  cases hgv with
  |fn _ _ _ vf vc hvf hvc q1 q2=>
  obtain rfl:vf= #[]:=b8T (by simpa using hvf)
  let ψg:Pl:=⟨fun _=>none,fun id b=>id=1000/\B b⟩
  have lk1:∀{o:Ob} {id:Nat} {q:Ob},look [(1000,o)] id=some q->id=1000/\q=o:=by
   intro o id q h;simp only[look]at h;split at h
   ·exact⟨by omega,by cases h;rfl⟩
   ·cases h
  have f7f:∀{b},ZD ψg [(1000,Ob.gh (Zs []) [] [])] b->B b:=by
   rintro b ⟨id,o,ho,hb⟩
   rcases hb with⟨k,hb⟩|hb
   ·cases hb
   ·exact hb.2
  have hz0:Oi (ZJ E a.defers (w.heap.size+1) w.heap.size fn a.tmps EE cx cy (· =none) (Hr (H0 []))) A B W1:=ZJ.gok ⟨none,rfl,IP,hH▸hz⟩
  have f0u:=hgs.2 A ψg W1 (.func (.yield (w.heap.size+1)) #[] #[]::vc.toList) (fun b hb=>by have:=hb.1;omega)
   (fun id o ho=>by
    obtain⟨rfl,rfl⟩:=lk1 ho
    exact⟨rfl,Oi.mono (Z:=Zs []) (A:=A) (B:=B) (w:=W1) (fun A' B' w' k1 k2 k3 k4=>⟨hI0,hz0 A' B' w' k1 k2 k3 k4⟩) (fun _ _ h=>h) (fun b hb=>⟨rfl,hb⟩) (fun _ _ _=>rfl) (fun _ _=>rfl),rfl,by simp⟩)
   (fun id XP o o' b q1 q2 _ _=>by obtain⟨rfl,_⟩:=lk1 q1;obtain⟨rfl,_⟩:=lk1 q2;rfl)
   (fun id o b ho hb=>by obtain⟨rfl,rfl⟩:=lk1 ho;exact⟨rfl,hb.2.1,fun _ h=>by cases h⟩)
   (fun b hb=>(f7f hb).2) (by simp[hvc])
   (fun i x hx=>by
    cases i with
    |zero=>simp only[a9E,a5y]at hx;subst hx;exact .iv _ _ (.v _ rfl)
    |succ i=>
     simp only[a2I,a0C]at hx;obtain⟨y,hy,rfl⟩:=a1S.1 hx;have:=q2 i (.val y) (by simp[hy]);rw[List.getD_cons_succ,SK]
     cases this with
     |val _ _ hv=>exact .iv _ _ (hv.UH.mono qJ (fun _ _ _=>rfl)))
  refine⟨w.heap.size+1,[{target:= .collected w.heap.size,args:= #[]}],W1,{target:= .fn (.func f) vc,args:= #[.func (.yield (w.heap.size+1)) #[] #[]]},W1,f,
   (.func (.yield (w.heap.size+1)) #[] #[]::vc.toList).toArray,W1,?_,?_,fun _ _=>trivial,?_,(fun h=>by cases h),?_⟩
  ·rw[<-hW1];exact run_enterLoop_outer _ _ _ _ _
  ·simp only[resolve,g5f];simp[go_sem]
  ·have e1:(Value.func (.yield (w.heap.size+1)) #[] #[]::vc.toList).toArray= #[.func (.yield (w.heap.size+1)) #[] #[]]++vc:=by apply b3n;simp
   rw[e1];simp only[invoke];exact d6W ZY _ _
  ·refine e7f (ro:=none) (Calls.mono f0u ?_);rintro e w' ⟨v,ZF,rfl,k1,k2,k3,k4,k5,k6,kS,k7,k8⟩;obtain⟨_,g6f,_,_⟩:=k7 1000 (.gh (ZE S Zs Zx) [] []) rfl;obtain⟨c,K,⟨qI,hf⟩,hfc⟩:=Nc _ _ _ g6f.now
   have hnb:(Og fn a.tmps EE cx cy w.heap.size c).state≠ .busy:=by cases c<;>simp[Og]
   refine⟨c,_,run_endLoop hf.hl hnb,?_⟩
   have D5:∀b,b<w'.heap.size->II E qI (Hr K) (fun b=>((false=false/\A b)\/W1.heap.size<=b)/\¬ZD ZF [(1000, .gh (ZE S Zs Zx) [] [])] b) (ZF.sub 1000) w' b->Im E qI (Hr K) b:=by
    rintro b _ ⟨q,hnh⟩;refine⟨?_,hnh⟩
    rcases q with⟨⟨⟨_,q⟩|q,_⟩,_⟩|⟨_,q⟩
    ·exact hAI b q
    ·exact .inr (.inr (by omega))
    ·exact q
   have Fs:pv E.w.heap.size (Im E qI (Hr K)) w' ({target:= .collected w.heap.size,args:= #[]}::a.defers):=by
    refine⟨b0q.2 ⟨fun hm=>?_,h.defers.1⟩,fun d hd=>?_⟩
    ·obtain⟨D',g1,g2,g3,g4⟩:=h.defers.2 _ hm;simp only[Deferred.mk.injEq,Target.collected.injEq]at g1;have:=VJ g4;omega
    ·rcases a2E.1 hd with rfl|hd
     ·exact⟨w.heap.size,rfl,My,⟨.inr (.inr My),hf.nD⟩,hf.hD⟩
     ·obtain⟨D',g1,g2,g3,g4⟩:=hf.defs.2 d hd;exact⟨D',g1,g2,⟨.inr (.inr g2),g3.2⟩,g4⟩
   have Jx:E.w.heap.size<=w'.heap.size:=by omega
   have XM:Z7 E n qI ⟨fr,Hr K⟩ {tmps:=a.tmps,defers:={target:= .collected w.heap.size,args:= #[]}::a.defers} w':={
    size:=h.size
    defers:=Fs
    frame:=fun t=>(b6w (hf.YH r _ (by rw[sA,if_pos rfl])) (Hr K) t).mono D5 (fun _ _ _=>rfl) (Vt.refl _ _)
    YH:=fun id o ho=>(hf.YH id o ho).mono D5 (fun _ _ _=>rfl) (Vt.refl _ _) ⟨rfl,fun _ h=>h⟩ (fun _ _=>rfl)
    inj:=hf.inj
    own:=hf.own
    Y0:=hf.Y0
    par:=hf.par
    old:=fun b hb hm=>(hf.old b hb hm).1
    grow:=Jx
    same:=⟨k3.os.trans (O5.same.1.trans h.same.1),k3.tape.trans (O5.same.2.1.trans h.same.2.1),k3.output.trans (O5.same.2.2.1.trans h.same.2.2.1),a9L (a9L h.same.2.2.2 O5.same.2.2.2) k3.drawn⟩}
   have ZS:∀o b,b≠w.heap.size+1->(w'.putObj (w.heap.size+1) o).heap[b]? =w'.heap[b]? :=fun o b hb=>World.putObj_heap_other hb
   have Oe:∀o,Z7 E n qI ⟨fr,Hr K⟩ {tmps:=a.tmps,defers:={target:= .collected w.heap.size,args:= #[]}::a.defers} (w'.putObj (w.heap.size+1) o):=fun o=>by
    refine XM.ctl (E2:=E) (o':=o) ⟨_,hf.hl,rfl⟩ hf.nl rfl rfl rfl rfl rfl ⟨rfl,rfl,rfl,a8F _⟩ (fun b hb hm=>?_) ⟨Fs.1,fun d hd=>?_⟩
    ·rw[ZS o b (by omega)];exact XM.old b hb hm
    ·obtain⟨D',g1,g2,g3,g4⟩:=Fs.2 d hd;refine⟨D',g1,g2,g3,?_⟩;rw[ZS o D' (fun e=>by subst e;rw[hf.hl]at g4;cases g4)]
     exact g4
   cases c with
   |none=>obtain⟨s',q1,q2⟩:=hfc;exact⟨s',q1 E n _ _ ⟨qI,Oe _⟩,q2⟩
   |some c=>
    cases c with
    |ret=>obtain⟨s',q1,q2⟩:=hfc;exact wpIn_ret ⟨s',q1 E n _ _ ⟨qI,Oe _⟩,q2⟩
    |exit id=>obtain⟨s',q1,q2⟩:=hfc;exact wpIn_exit ⟨s',q1 E n _ _ ⟨qI,Oe _⟩,q2⟩
    | _=>exact hfc.elim
 all_goals first
  |(rcases Jz hc with⟨_,hc,_⟩|⟨_,hc,_⟩<;>cases hc)
  |(obtain⟨_,_,hc⟩:=bind_some hc;first|cases hc|exact(IZ hc (fun _ h=>by cases h) (fun _ _ _ h=>by cases h)).elim|(obtain⟨_,_,hc⟩:=bind_some hc;first|cases hc|(obtain⟨_,_,hc⟩:=bind_some hc;cases hc)))
end Go.Vm
end
