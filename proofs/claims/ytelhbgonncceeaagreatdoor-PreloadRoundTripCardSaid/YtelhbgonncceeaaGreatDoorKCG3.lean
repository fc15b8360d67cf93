/-
  Parts of the proof, merged by a program of the prover's own; no condition.
-/
import Derived.Test.YtelhbgonncceeaaGreatDoorKCG2
import Derived.Deep.Draws
import Derived.JoinedCond
import Derived.KernelRfl
import Derived.LaidMore
import Derived.LaidSub
import Derived.Laws.RangeString
import Derived.Lay
import Derived.Lib.IndexMore
import Derived.Lib.ItoaNum
import Derived.Lib.Join
import Derived.Lib.JoinLaws
import Derived.Lib.LaidTab
import Derived.Lib.LaidU8
import Derived.Lib.LastIndexLaws
import Derived.Lib.RuneCount
import Derived.Lib.TrailingZeros
import Derived.Lib.TrimAscii
import Derived.Lib.ValidU
import Derived.OpenShut
import Derived.ProofKit
import Derived.Shelf.SlSortCmp.Insertion
import Derived.Shelf.Vars
import Derived.Sort.AssemblyPlain
import Derived.Sort.Grow
import Derived.Test.YtelhbgonncceeaaGreatDoorChecked
import Derived.Test.YtelhbgonncceeaaGreatDoorProg
import Derived.Test.YtelhbgonncceeaaGreatDoorRows
import Derived.WalkKit
namespace Go.Proofs.YtelhbgonncceeaaGreatDoor.E
set_option linter.all false
section
open Go Go.ChangeShapes Go.RowKit Go.WideShapes
inductive Ty where
 | bool
 | int (k:IntKind)
 | str
 | slice (e:List Ty)
 deriving Inhabited
def Ao0 (P:Program) (f:Nat->Option (List Ty)):List Field->Nat->Option (List Ty)
 | [],_=>some []
 | x::r,off=>if x.offset==off then match f x.type with
   | some a=>if P.cellsOf x.type==a.length then match Ao0 P f r (off+a.length) with
    | some b=>some (a++b)
    | none=>none else none
   | none=>none else none
def Fi (P:Program):Nat->Nat->Option (List Ty)
 | 0,_=>none
 | d+1,t=>match P.underlying t with
  | some .bool=>some [.bool]
  | some (.int k)=>some [.int k]
  | some .string=>some [.str]
  | some (.slice e)=>match Fi P d e with
   | some a=>if P.cellsOf e==a.length&&decide (0<a.length) then some [.slice a] else none
   | none=>none
  | some (.struct fs)=>match Ao0 P (Fi P d) fs.toList 0 with
   | some r=>if P.cellsOf t==r.length then some r else none
   | none=>none
  | some (.array n e)=>match Fi P d e with
   | some a=>if P.cellsOf e==a.length&&P.cellsOf t==n*a.length then some (List.replicate n a).flatten else none
   | none=>none
  | _=>none
mutual
def Ty.of:Ty->SV->Prop
 | .bool,v=>∃ b,v = .bool b
 | .int k,v=>∃ n,v = .int k n/\k.min<=n/\n<=k.max
 | .str,v=>∃ l,v = .str l/\l.length<=maxLen
 | .slice e,v=>v = .sl true false e.length []\/∃ els,v = .sl false false e.length els/\els.length<=maxLen/\∀ el∈els,Ty.ofL e el
def Ty.ofL:List Ty->List SV->Prop
 | [],l=>l=[]
 | t::r,l=>∃ v q,l=v::q/\t.of v/\Ty.ofL r q
end
theorem Ty.ofL_len:∀ {ts:List Ty} {l:List SV},Ty.ofL ts l->l.length=ts.length
 | [],l,h=>by simp only [Ty.ofL] at h;subst h;rfl
 | t::r,l,h=>by
  simp only [Ty.ofL] at h
  obtain ⟨v,q,rfl,_,hq⟩:=h
  simp [Ty.ofL_len hq]
theorem Ty.ofL_append:∀ {a b:List Ty} {x y:List SV},Ty.ofL a x->Ty.ofL b y->Ty.ofL (a++b) (x++y)
 | [],b,x,y,h,k=>by simp only [Ty.ofL] at h;subst h;exact k
 | t::r,b,x,y,h,k=>by
  simp only [Ty.ofL] at h
  obtain ⟨v,q,rfl,hv,hq⟩:=h
  simp only [List.cons_append,Ty.ofL]
  exact ⟨v,q++y,rfl,hv,Ty.ofL_append hq k⟩
def CVS (St:Nat->Prop) (w:World) (l:List SV) (A:List Value):Prop:=A.length=l.length/\∀ j (h:j<l.length),∃ U,A[j]? = some U/\VS St w (l[j]) U
theorem CVS.append {St:Nat->Prop} {w:World} {x y:List SV} {X Y:List Value} (hx:CVS St w x X) (hy:CVS St w y Y):CVS St w (x++y) (X++Y):=by
 refine ⟨by simp [hx.1,hy.1],λj hj=>?_⟩
 by_cases h:j<x.length
 ·obtain ⟨U,e,k⟩:=hx.2 j h
  exact ⟨U,by rw [List.getElem?_append_left (by rw [hx.1];exact h)];exact e,by rw [List.getElem_append_left h];exact k⟩
 ·obtain ⟨U,e,k⟩:=hy.2 (j-x.length) (by simp at hj;omega)
  exact ⟨U,by rw [List.getElem?_append_right (by rw [hx.1];omega),hx.1];exact e,by rw [List.getElem_append_right (by omega)];exact k⟩
theorem CVS.one {St:Nat->Prop} {w:World} {v:SV} {V:Value} (h:VS St w v V):CVS St w [v] [V]:=⟨rfl,λj hj=>by
 have:j=0:=by simpa using hj
 subst this
 exact ⟨V,rfl,h⟩⟩
theorem ZL {w:World} {a:Addr} {V:Value} (h:w.cell? a=some V):a.spot=none/\a.block<w.heap.size:=by
 unfold World.cell? at h
 split at h
 ·rename_i c t fr hb
  refine ⟨?_,(Array.getElem?_eq_some_iff.1 hb).1⟩
  cases hs:a.spot with
  | none=>rfl
  | some x=>rw [hs] at h;simp at h
 ·cases h
theorem HA {a:Addr} (h:a.spot=none) (n:Nat):a.add n=⟨a.block,a.off+n,none⟩:=by
 unfold Addr.add
 split
 ·rename_i hn;subst hn;cases a;simp_all
 ·rfl
theorem Ar7 {a:Addr} {m n:Nat} (h:a.spot=none):(a.add m).add n=⟨a.block,a.off+m+n,none⟩:=by
 rw [HA h,HA rfl]
theorem AU {H:Type} {enc:TypeId × Value->H} {P:Program} {w:World} {base:Nat} {sp:Nat->Bool} {held:Bool} {f:Nat->Option (List Ty)} {m:Nat}
  (ih:∀ t tys cs x,f t=some tys->DataW.trod enc P w base sp held m t cs=some x->∃ svs,Ty.ofL tys svs/\CVS (· < w.heap.size) w svs cs) (cs:List Value) :
  ∀ (fs:List Field) (off:Nat) (tys:List Ty),Ao0 P f fs off=some tys->(∀ (i:Nat) (fl:Field),fs[i]? = some fl->∃ y,DataW.trod enc P w base sp held m fl.type ((cs.drop fl.offset).take (P.cellsOf fl.type))=some y)->
   ∃ svs,Ty.ofL tys svs/\CVS (· < w.heap.size) w svs ((cs.drop off).take tys.length)
 | [],off,tys,h,_=>by
  simp only [Ao0,Option.some.injEq] at h
  subst h
  exact ⟨[],rfl,by simp,λj hj=>by simp at hj⟩
 | x::r,off,tys,h,hall=>by
  simp only [Ao0] at h
  split at h
  ·rename_i hoff
   simp only [beq_iff_eq] at hoff
   split at h
   ·rename_i a ha
    split at h
    ·rename_i hc
     simp only [beq_iff_eq] at hc
     split at h
     ·rename_i b hb
      simp only [Option.some.injEq] at h
      subst h
      obtain ⟨y,hy⟩:=hall 0 x rfl
      rw [hoff,hc] at hy
      obtain ⟨s1,h1,h2⟩:=ih _ _ _ _ ha hy
      obtain ⟨s2,h3,h4⟩:=AU ih cs r _ b hb (λi fl hi=>hall (i+1) fl (by simpa using hi))
      refine ⟨s1++s2,Ty.ofL_append h1 h3,?_⟩
      have:=h2.append h4
      have e:(cs.drop off).take (a++b).length=(cs.drop off).take a.length++(cs.drop (off+a.length)).take b.length:=by
       rw [List.length_append,List.take_add,List.drop_drop]
      rw [e];exact this
     ·cases h
    ·cases h
   ·cases h
  ·cases h
theorem HH {H:Type} {enc:TypeId × Value->H} {P:Program} {w:World} {base:Nat} {sp:Nat->Bool} {held:Bool} {e m:Nat} {a:List Ty} (cs:List Value)
  (ih:∀ cs x,DataW.trod enc P w base sp held m e cs=some x->∃ svs,Ty.ofL a svs/\CVS (· < w.heap.size) w svs cs) (hc:P.cellsOf e=a.length) :
  ∀ (n k:Nat),(∀ i,k<=i->i<k+n->∃ y,DataW.trod enc P w base sp held m e ((cs.drop (i*P.cellsOf e)).take (P.cellsOf e))=some y)->
   ∃ svs,Ty.ofL (List.replicate n a).flatten svs/\CVS (· < w.heap.size) w svs ((cs.drop (k*a.length)).take (n*a.length))
 | 0,k,_=>⟨[],by simp [Ty.ofL],by simp,λj hj=>by simp at hj⟩
 | n+1,k,hall=>by
  obtain ⟨y,hy⟩:=hall k (Nat.le_refl _) (by omega)
  obtain ⟨s1,h1,h2⟩:=ih _ _ hy
  obtain ⟨s2,h3,h4⟩:=HH cs ih hc n (k+1) (λi hi1 hi2=>hall i (by omega) (by omega))
  rw [hc] at h2
  refine ⟨s1++s2,?_,?_⟩
  ·rw [List.replicate_succ,List.flatten_cons];exact Ty.ofL_append h1 h3
  ·have:=h2.append h4
   have e:(cs.drop (k*a.length)).take ((n+1)*a.length)=(cs.drop (k*a.length)).take a.length++(cs.drop ((k+1)*a.length)).take (n*a.length):=by
    rw [show (n+1)*a.length=a.length+n*a.length by rw [Nat.add_mul,Nat.one_mul,Nat.add_comm],List.take_add,List.drop_drop,show k*a.length+a.length=(k+1)*a.length by rw [Nat.add_mul,Nat.one_mul]]
   rw [e];exact this
theorem Sw {H:Type} {enc:TypeId × Value->H} {P:Program} {w:World} {base:Nat} {sp:Nat->Bool} {held:Bool}:∀ (n t:Nat) (tys:List Ty) (m:Nat) (cs:List Value) (x:DataW H × List MemPlace),Fi P n t=some tys->
  DataW.trod enc P w base sp held m t cs=some x->∃ svs,Ty.ofL tys svs/\CVS (· < w.heap.size) w svs cs
 | 0,t,tys,m,cs,x,h,_=>by simp [Fi] at h
 | n+1,t,tys,m,cs,x,h,hd=>by
  simp only [Fi] at h
  split at h
  ·rename_i ht
   simp only [Option.some.injEq] at h;subst h
   obtain ⟨b,rfl,_⟩:=DataW.trod_bool ht hd
   exact ⟨[.bool b],by simp [Ty.ofL,Ty.of],CVS.one (.bool b)⟩
  ·rename_i k ht
   simp only [Option.some.injEq] at h;subst h
   obtain ⟨b,rfl,_,hw⟩:=DataW.trod_int ht hd
   simp only [Lit.wf,Bool.and_eq_true,decide_eq_true_eq] at hw
   exact ⟨[.int k b],by simp [Ty.ofL,Ty.of,hw],CVS.one (.int k b)⟩
  ·rename_i ht
   simp only [Option.some.injEq] at h;subst h
   obtain ⟨b,rfl,_,hw⟩:=DataW.trod_string ht hd
   exact ⟨[.str b.data.toList],by simpa [Ty.ofL,Ty.of] using hw,CVS.one (.str b)⟩
  ·rename_i e ht
   split at h
   ·rename_i a ha
    split at h
    ·rename_i hc
     simp only [Bool.and_eq_true,beq_iff_eq,decide_eq_true_eq] at hc
     simp only [Option.some.injEq] at h;subst h
     rcases DataW.trod_slice ht hd with ⟨rfl,_⟩ | ⟨ad,len,cap,elems,rest,m',_,rfl,_,hb,hl,hm,hlen,hel,_,_⟩
     ·exact ⟨[.sl true false a.length []],by simp [Ty.ofL,Ty.of],CVS.one (.nil _ _)⟩
     ·have each:∀ i,i<len->∃ el cs',w.cells? base (ad.add (i*a.length)) a.length=some cs'/\Ty.ofL a el/\CVS (· < w.heap.size) w el cs':=λi hi=>by
       have h1:=hel i hi
       rw [List.getElem?_eq_getElem (by omega),hc.1,Option.bind_eq_some_iff] at h1
       obtain ⟨cs',h2,h3⟩:=h1
       obtain ⟨el,h4,h5⟩:=Sw n e a m' cs' _ ha h3
       exact ⟨el,cs',h2,h4,h5⟩
      by_cases h0:len=0
      ·subst h0
       exact ⟨[.sl false false a.length []],by simp [Ty.ofL,Ty.of],CVS.one (.emp _ _ _ _ (by simp) hm)⟩
      ·let els:List (List SV):=(List.range len).attach.map λi=>Classical.choose (each i.1 (List.mem_range.1 i.2))
       have hels:els.length=len:=by simp [els]
       have hget:∀ i (hi:i<els.length),∃ cs',w.cells? base (ad.add (i*a.length)) a.length=some cs'/\Ty.ofL a (els[i])/\CVS (· < w.heap.size) w (els[i]) cs':=λi hi=>by
        have hi':i<len:=by omega
        have e:els[i]=Classical.choose (each i hi'):=by simp [els]
        rw [e]
        exact Classical.choose_spec (each i hi')
       have hspot:ad.spot=none/\ad.block<w.heap.size:=by
        obtain ⟨cs',h1,h2,h3⟩:=hget 0 (by omega)
        obtain ⟨_,hl1,hl2⟩:=World.cells?_some h1
        have:=hl2 0 hc.2
        rw [List.getElem?_eq_getElem (by omega)] at this
        simp only [Nat.zero_mul,Addr.add,if_true] at this
        exact ZL this
       have hel:∀ i (hi:i<els.length),(els[i]).length=a.length:=λi hi=>by
        obtain ⟨cs',h1,h2,h3⟩:=hget i hi
        exact Ty.ofL_len h2
       have hcell:∀ i (hi:i<els.length) j (hj:j<(els[i]).length),∃ U,w.cell? ⟨ad.block,ad.off+i*a.length+j,none⟩=some U/\VS (· < w.heap.size) w (els[i][j]) U:=λi hi j hj=>by
        obtain ⟨cs',h1,h2,h3⟩:=hget i hi
        obtain ⟨_,hl1,hl2⟩:=World.cells?_some h1
        have hj':j<a.length:=by rw [<-hel i hi];exact hj
        obtain ⟨U,e1,e2⟩:=h3.2 j hj
        refine ⟨U,?_,e2⟩
        rw [<-e1,<-hl2 j hj',Ar7 hspot.1]
       refine ⟨[.sl false false a.length els],?_,CVS.one ?_⟩
       ·simp only [Ty.ofL,Ty.of]
        refine ⟨_,[],rfl,.inr ⟨els,rfl,by omega,λel hm'=>?_⟩,rfl⟩
        obtain ⟨i,hi,rfl⟩:=List.getElem_of_mem hm'
        obtain ⟨cs',h1,h2,h3⟩:=hget i hi
        exact h2
       ·have e:ad=⟨ad.block,ad.off,none⟩:=by cases ad;simp_all
        rw [e]
        refine .sl false els ad.block ad.off len cap a.length (λi j=>(w.cell? ⟨ad.block,ad.off+i*a.length+j,none⟩).getD undef) hels.symm hl hm (by simp) hspot.2 hel (λi hi j hj=>?_) (λi hi j hj=>?_)
        ·obtain ⟨U,e1,e2⟩:=hcell i hi j hj
         rw [e1];rfl
        ·obtain ⟨U,e1,e2⟩:=hcell i hi j hj
         rw [e1];exact e2
    ·cases h
   ·cases h
  ·rename_i fs ht
   split at h
   ·rename_i r hr
    split at h
    ·rename_i hc
     simp only [beq_iff_eq] at hc
     simp only [Option.some.injEq] at h;subst h
     obtain ⟨xs,m',_,_,hlen,hxs,hf⟩:=DataW.trod_struct ht hd
     obtain ⟨svs,h1,h2⟩:=AU (λt tys cs x=>Sw n t tys m' cs x) cs fs.toList 0 r hr (λi fl hi=>by
      have hi':fs[i]? = some fl:=by simpa using hi
      have:=hf i fl hi'
      have hlt:i<xs.length:=by rw [hxs];exact (Array.getElem?_eq_some_iff.1 hi').1
      rw [List.getElem?_eq_getElem hlt] at this
      exact ⟨_,this⟩)
     refine ⟨svs,h1,?_⟩
     rw [List.drop_zero,List.take_of_length_le (by omega)] at h2
     exact h2
    ·cases h
   ·cases h
  ·rename_i k e ht
   split at h
   ·rename_i a ha
    split at h
    ·rename_i hc
     simp only [Bool.and_eq_true,beq_iff_eq] at hc
     simp only [Option.some.injEq] at h;subst h
     obtain ⟨xs,m',_,_,hlen,hxs,hf⟩:=DataW.trod_array ht hd
     obtain ⟨svs,h1,h2⟩:=HH cs (λcs x=>Sw n e a m' cs x ha) hc.1 k 0 (λi _ hi=>by
      have:=hf i (by omega)
      rw [List.getElem?_eq_getElem (by omega)] at this
      exact ⟨_,this⟩)
     refine ⟨svs,h1,?_⟩
     rw [Nat.zero_mul,List.drop_zero,List.take_of_length_le (by omega)] at h2
     exact h2
    ·cases h
   ·cases h
  ·cases h
def Qv (P:Program) (t:Nat):Bool:=match P.underlying t with
 | some (.struct _)=>true
 | some (.array _ _)=>true
 | _=>false
def Yi (P:Program) (t:Nat) (v:PV):Prop:=∃ tys l,Fi P 20 t=some tys/\Ty.ofL tys l/\((Qv P t=true/\v = .agg (l.map .s))\/(Qv P t=false/\∃ x,l=[x]/\v = .s x))
def Fk (P:Program):List Nat->List PV->Prop
 | [],l=>l=[]
 | t::r,l=>∃ v q,l=v::q/\Yi P t v/\Fk P r q
theorem Yi.nms {P:Program} {t:Nat} {v:PV} (h:Yi P t v):v.nms=[]:=by
 obtain ⟨tys,l,_,_,h⟩:=h
 rcases h with ⟨_,rfl⟩ | ⟨_,x,_,rfl⟩
 ·simp only [PV.nms]
  rw [List.eq_nil_iff_forall_not_mem]
  intro c hc
  obtain ⟨j,hj,hc⟩:=C0.1 hc
  simp [PV.nms] at hc
 ·rfl
theorem Fk.nms {P:Program}:∀ {ts:List Nat} {l:List PV},Fk P ts l->C1 l=[]
 | [],l,h=>by simp only [Fk] at h;subst h;rfl
 | t::r,l,h=>by
  simp only [Fk] at h
  obtain ⟨v,q,rfl,h1,h2⟩:=h
  simp [C1,h1.nms,h2.nms]
section
variable {H : Type} {enc : TypeId × Value -> H} {P : Program} {w : World}
theorem Az9 {v:Value} {r:Reach} {b:Nat} {t:Nat} (ha:Qv P t=false) (Ms:Value.okWide P w r b t v):∀ cs,v = .agg cs->False:=by
 rintro cs rfl
 simp only [Value.okWide,Cell.okWide] at Ms
 unfold Qv at ha
 split at Ms
 ·grind
 ·grind
 ·revert Ms
  cases hu:P.underlying t with
  | none=>simp [Cell.ok,hu]
  | some d=>cases d<;>simp [Cell.ok,hu]
theorem Am3 {Γ:Ctx} {sh:Nat->Option Shp} {sp:Nat->Bool} {held:Bool} {r:Reach} {b b' t:Nat} {v:Value} {d:DataW H} {ps:List MemPlace} (hΓ:∀ g,g<w.heap.size->Γ.St g) (htys:(Fi P 20 t).isSome=true) (Ms:Value.okWide P w r b t v) (hd:DataW.Trod enc P w b' sp held t v d ps) :
  ∃ pv,Yi P t pv/\VP Γ sh w pv v:=by
 obtain ⟨tys,ht⟩:=Option.isSome_iff_exists.1 htys
 obtain ⟨m,hm⟩:=hd
 obtain ⟨svs,h1,h2⟩:=Sw 20 t tys m _ _ ht hm
 have lift:∀ {x:SV} {V:Value},VS (· < w.heap.size) w x V->VS Γ.St w x V:=λh=>h.mono (λ_ _=>rfl) hΓ
 cases ha:Qv P t with
 | true=>
  refine ⟨.agg (svs.map .s),⟨tys,svs,ht,h1,.inl ⟨ha,rfl⟩⟩,?_⟩
  have:∃ cs,v = .agg cs:=by
   unfold Qv at ha
   simp only [Value.okWide] at Ms
   grind
  obtain ⟨cs,rfl⟩:=this
  simp only [Value.cells] at h2
  refine VP.mk_agg (by simpa using h2.1) λj hj=>?_
  have hj':j<svs.length:=by simpa using hj
  obtain ⟨U,e,k⟩:=h2.2 j hj'
  exact ⟨U,by simpa using e,by rw [List.getElem_map];exact .s _ _ (lift k)⟩
 | false=>
  have hc:v.cells = #[v]:=by
   have:=Az9 ha Ms
   cases v with
   | agg cs=>exact (this cs rfl).elim
   | _=>rfl
  rw [hc] at h2
  have hl:svs.length=1:=by have:=h2.1;simpa using this.symm
  obtain ⟨x,rfl⟩:∃ x,svs=[x]:=by
   match svs,hl with
   | [x],_=>exact ⟨x,rfl⟩
  obtain ⟨U,e,k⟩:=h2.2 0 (by simp)
  simp only [List.getElem?_cons_zero,Option.some.injEq] at e
  subst e
  exact ⟨.s x,⟨tys,[x],ht,h1,.inr ⟨ha,x,rfl,rfl⟩⟩,.s _ _ (lift k)⟩
theorem AL {Γ:Ctx} {sh:Nat->Option Shp} {sp:Nat->Bool} {held:Bool} {r:Reach} {b b':Nat} (hΓ:∀ g,g<w.heap.size->Γ.St g):∀ (ts:List Nat) (vs:List Value) (ds:List (DataW H)) (ps:List MemPlace),(∀ t∈ts,(Fi P 20 t).isSome=true)->(∀ (j:Nat) t v,ts[j]? = some t->vs[j]? = some v->Value.okWide P w r b t v)->DataW.TrodAll enc P w b' sp held ts vs ds ps->
  ∃ pvs,Fk P ts pvs/\vs.length=pvs.length/\ds.length=ts.length/\∀ j (h:j<pvs.length),∃ U,vs[j]? = some U/\VP Γ sh w (pvs[j]) U
 | [],vs,ds,ps,_,_,h=>by
  obtain ⟨rfl,rfl,_⟩:=trodAll_nil h
  exact ⟨[],rfl,rfl,rfl,λj hj=>by simp at hj⟩
 | t::ts,vs,ds,ps,htys,Ms,h=>by
  obtain ⟨v,vs',d,ds',p,q,rfl,rfl,rfl,h1,h2⟩:=trodAll_cons h
  obtain ⟨pv,k1,k2⟩:=Am3 (Γ:=Γ) (sh:=sh) hΓ (htys t (by simp)) (Ms 0 t v rfl rfl) h1
  obtain ⟨pvs,g1,g2,g3,g4⟩:=AL (Γ:=Γ) (sh:=sh) hΓ ts vs' ds' q (λt ht=>htys t (by simp [ht])) (λj t v hj hv=>Ms (j+1) t v (by simpa using hj) (by simpa using hv)) h2
  refine ⟨pv::pvs,⟨pv,pvs,rfl,k1,g1⟩,by simp [g2],by simp [g3],λj hj=>?_⟩
  cases j with
  | zero=>exact ⟨v,rfl,k2⟩
  | succ j=>
   obtain ⟨U,e,k⟩:=g4 j (by simpa using hj)
   grind
theorem Tz (hl:laidOutB P=true) {w':World} {ts:List Nat} {vs:List Value} {ds:List (DataW H)} {ps:List MemPlace}:∀ {ts:List Nat} {vs:List Value} {ds:List (DataW H)} {ps:List MemPlace},(∀ t∈ts,P.readableRec t=true/\t<P.types.size)->DataW.TrodAll enc P w 0 (λ_=>true) true ts vs ds ps->(∀ x∈ps,w.sameAt w' x)->∀ sp:Nat->Bool,(∀ x∈ps,sp x.block=true)->
  DataW.TrodAll enc P w' 0 sp true ts vs ds ps
 | [],vs,ds,ps,_,h,_,sp,_=>by
  obtain ⟨rfl,rfl,rfl⟩:=trodAll_nil h
  exact trodAll_mk0
 | t::ts,vs,ds,ps,hr,h,hs,sp,hsp=>by
  obtain ⟨v,vs',d,ds',p,q,rfl,rfl,rfl,h1,h2⟩:=trodAll_cons h
  refine ⟨p,q,WideElems.Trod_stays hl (hr t (by simp)).1 (hr t (by simp)).2 h1 (λx hx=>hs x (by simp [hx])) (λx hx=>hsp x (by simp [hx])),Tz hl (w':=w') (ts:=ts) (vs:=vs') (ds:=ds') (ps:=q) (λt ht=>hr t (by simp [ht])) h2 (λx hx=>hs x (by simp [hx])) sp (λx hx=>hsp x (by simp [hx])),rfl⟩
theorem Ya {f:Func} {s:ChangeSpec} {apart fresh handsOn again:Bool} {W W':World} {args:Array Value} {v:Value} {ds gs:List (DataW H)} {before pa pv:List MemPlace}
  (hW:DataW.Whole enc P f.params.toList s.vars apart W args.toList ds gs before)
  (hres:∀ (b:Nat) (sp:Nat->Bool) (hd:Bool),DataW.TrodAll enc P W' b sp hd f.resultTypes.toList (v.resultList f.resultTypes.size) (s.fn H (ds++gs)).results [])
  (hargs:∀ sp:Nat->Bool,(∀ p∈before,sp p.block=true)->DataW.TrodAll enc P W' 0 sp true f.params.toList args.toList (s.fn H (ds++gs)).args pa)
  (hvars:∀ sp:Nat->Bool,(∀ p∈before,sp p.block=true)->DataW.TrodVars enc P W' sp s.vars (s.fn H (ds++gs)).vars pv)
  (hps:before=pa++pv) (hb:Below W.heap.size W W')
  (hok:∀ (j:Nat) (t:TypeId) (r:Value),f.resultTypes[j]? = some t->(v.resultList f.resultTypes.size)[j]? = some r->Value.okWide P W' .any 0 t r) :
  s.post enc P f apart fresh handsOn again W args v W':=by
 have hold:∀ p∈before,(λb=>decide (b<W.heap.size)) p.block=true:=λp hp=>by simpa using hW.lt p hp
 refine ⟨ds,gs,before,[],pa,pv,hW,hres _ _ _,hargs _ hold,hvars _ hold,hb.frame _,λ_=>?_⟩
 have hlt:=hW.lt
 obtain ⟨_,_,_,_,_,hz,hn⟩:=hW
 refine ⟨hok,_,_,([]++pa)++pv,⟨[]++pa,pv,trodAll_append (hargs _ (λ_ _=>rfl)) (hres _ _ _),hvars _ (λ_ _=>rfl),rfl,?_,?_⟩,?_⟩
 ·intro b off hp
  have hp':MemPlace.cell b off∈before:=by rw [hps];simpa using hp
  rw [hb.frozen (hlt _ hp')]
  exact hz b off hp'
 ·intro ha
  have:=hn ha
  rw [hps] at this
  simpa using this
 ·intro p hp _
  rw [hps]
  simpa using hp
end
theorem SH {P:Program} {f:Nat} {Vs:Array Value} {w:World} {R:Value->World->Prop} (hrun:(callFunc f Vs).run P w = .ok (.enter f Vs) w) (h:K5 P ((callFunc f Vs).run P w) R):Calls P f Vs w λe w'=>∃ V,e = .returned V/\R V w':=by
 rw [hrun] at h
 have:=h none 1 { op:=.move (.const undef),dst:=some 0,guard:=none,type:=0,after:=#[],pos:=default } { tmps:=#[undef],defers:=[] } (λa' w'=>∃ V,a'.tmps[0]? = some V/\R V w') (λ_ _ _=>False) (λV w' hR=>⟨V,by simp [Act.put],hR⟩)
 rw [Oper.uponIn_enter] at this
 have h2:CallsIn Fence.wide 0 P f Vs w _:=this.2
 refine (callsIn_wide.1 h2).mono λe w' he=>?_
 cases e with
 | returned v=>
  obtain ⟨V,e1,e2⟩:=he
  simp [Act.put] at e1
  grind
 | panicked c=>exact he.elim
 | outgrown=>obtain ⟨_,_,h⟩:=he;exact h.elim
def noY:Yh Unit:=λ_ _=>none
theorem Af0 {H:Type} {enc:TypeId × Value->H} {C:Cfg} {f tb:Nat} {fn:Func} {c:Code} {s:ChangeSpec} {apart fresh handsOn again:Bool} (hX:XOK C) (hO:Ax C) (hm:C.P.follows .mixedOrders=true) (hl:laidOutB C.P=true) (hfn:C.P.funcs[f]? = some fn) (hb:fn.body=some c) (hname:(fn.name == "runtime.NumGoroutine")=false)
  (hp:∀ t∈fn.params.toList,(C.P.readableRec t=true/\t<C.P.types.size)/\(Fi C.P 20 t).isSome=true) (hres:fn.resultTypes = #[tb]) (hbool:C.P.underlying tb=some .bool) (hvars:s.vars=[])
  (hspec:∀ ds:List (DataW H),ds.length=fn.params.toList.length->s.fn H ds = { results:=[.lit (.bool true)],args:=ds })
  (hev:∀ args,Fk C.P fn.params.toList args->∃ d Hc,evC C d Unit noY f args [] ()=some (.s (.bool true),Hc,()))
  (W:World) (hG:GOK C (· < W.heap.size) W) (base:Nat) (args:Array Value) (ds gs:List (DataW H)) (before:List MemPlace)
  (Ms:∀ (j:Nat) t v,fn.params[j]? = some t->args[j]? = some v->Value.okWide C.P W .any base t v)
  (hW:DataW.Whole enc C.P fn.params.toList s.vars apart W args.toList ds gs before) :
  Calls C.P f args W λe W'=>∃ v,e = .returned v/\s.post enc C.P fn apart fresh handsOn again W args v W':=by
 have hW':=hW
 obtain ⟨p,q,hA,hV,rfl,hfz,hnd⟩:=hW
 rw [hvars] at hV
 obtain ⟨rfl,rfl⟩:=trodVars_none hV
 let Γ:Ctx:={ St:=(· < W.heap.size),nm:=λ_=>none,yv:=.nilFunc,yv1:=rfl }
 obtain ⟨pvs,h1,h2,h3,h4⟩:=AL (Γ:=Γ) (sh:=A0 []) (λ_ h=>h) fn.params.toList args.toList ds p (λt ht=>(hp t ht).2) (λj t v hj hv=>Ms j t v (by simpa using hj) (by simpa using hv)) hA
 obtain ⟨d,Hc,hd⟩:=hev pvs h1
 have hS:=Ev hX hO hm d Unit I0 noY .nilFunc Aa1 Aa2 f pvs [] () _ Hc () hd Γ noΦ W args rfl (Dd (λ_=>rfl) (λ_ h=>h)) hG (λ_ h=>h) (λb g h=>by cases h)
  ⟨by rw [<-Array.length_toList];exact h2,λj hj=>by obtain ⟨U,e,k⟩:=h4 j hj;exact ⟨U,by simpa using e,k⟩⟩ (by rw [h1.nms];simp)
 refine (SH (Ht hfn hb hname) hS).mono ?_
 rintro e W' ⟨V,rfl,Γ',Φ',hs,hH,hv,_⟩
 have hV:=hv.inv_bool
 subst hV
 have hbel:Below W.heap.size W W':=⟨hs.os,hs.tape,hs.output,hs.size,λk hk=>hs.frame k hk (λb=>by simp [Γ]) (λx=>x)⟩
 simp only [List.append_nil] at hW'
 refine ⟨_,rfl,?_⟩
 have hsp:=hspec ds h3
 have hlt:=hW'.lt
 refine Ya (pa:=p) (pv:=[]) hW' (λb sp hd=>?_) (λsp hsp'=>?_) (λsp _=>?_) (by simp) hbel ?_
 ·rw [List.append_nil,hsp,hres]
  exact trodAll_cons_mk (shut_bool hbool _) trodAll_mk0
 ·rw [List.append_nil,hsp]
  exact Tz hl (w:=W) (ts:=fn.params.toList) (vs:=args.toList) (ds:=ds) (ps:=p) (λt ht=>(hp t ht).1) hA (λx hx=>hbel.same (hlt x hx)) sp hsp'
 ·rw [List.append_nil,hsp,hvars]
  rfl
 ·exact ok_one hres rfl (okWide_bool_mk hbool _)
end
section
open Go
def A7 (P:Program) (G:GT) (g:Nat) (pf:List PV->Tr):Prop:=
 ∀ args ret Hc,F6 (pf args)=some (ret,Hc)->∀ C:Cfg,C.P=P->C.G=G->∀ Γ w Vs,(∀ b,Γ.nm b=none)->HR Γ [] w->GOK C Γ.St w->CR Γ (A0 []) w args Vs->
  K5 P ((callFunc g Vs).run P w) (V7 C I0 Γ [] w noΦ ret Hc ())
theorem Ap {C₀:Cfg} {g:Nat} {pf:List PV->Tr} (hX:XOK C₀) (hO:Ax C₀) (hm:C₀.P.follows .mixedOrders=true)
  (h:∀ args ret Hc,F6 (pf args)=some (ret,Hc)->C1 args=[]/\∃ d,evC C₀ d Unit noY g args [] ()=some (ret,Hc,())):A7 C₀.P C₀.G g pf:=by
 intro args ret Hc hpf C hP hGe Γ w Vs hnm hH hG hc
 obtain ⟨hna,d,hev⟩:=h args ret Hc hpf
 have hG0:GOK C₀ Γ.St w:=hG.congr hGe.symm
 refine (Ev hX hO hm d Unit I0 noY Γ.yv Aa1 Aa2 g args [] () ret Hc () hev Γ noΦ w Vs rfl hH hG0 (λ_ h=>h) (λb g h=>by rw [hnm] at h;cases h) hc (by rw [hna];simp)).mono ?_
 rintro V w' ⟨Γ1,Φ1,hs,hH1,hv,hvn,hi1,hd1⟩
 exact ⟨Γ1,Φ1,⟨hs.os,hs.tape,hs.output,hs.size,hs.sub,hs.stnew,hs.own,hs.foot,hs.frame,hs.yv,hs.len,λb hb=>by simp at hb⟩,hH1,hv,hvn,hi1,hd1⟩
def Tr.snap:Tr->Tr
 | .ret v H=>cond (v.snap H).nms.isEmpty (.ret (v.snap H) []) .fail
 | .need c t=>.need c t.snap
 | .split c a b=>.split c a.snap b.snap
 | .fail=>.fail
theorem Tr.snap_res:∀ {t:Tr} {v:PV} {H:List Blk},F6 t.snap=some (v,H)->∃ v' H',F6 t=some (v',H')/\v=v'.snap H'/\H=[]/\v.nms=[]
 | .ret v' H',v,H,h=>by
  simp only [Tr.snap] at h
  cases he:(v'.snap H').nms.isEmpty with
  | false=>rw [he] at h;cases h
  | true=>
   rw [he] at h
   simp only [cond_true,F6,X9,Option.some.injEq,Prod.mk.injEq] at h
   obtain ⟨rfl,rfl⟩:=h
   exact ⟨v',H',rfl,rfl,rfl,List.isEmpty_iff.1 he⟩
 | .need c t,v,H,h=>by
  cases c with
  | true=>exact Tr.snap_res (t:=t) h
  | false=>cases h
 | .split c a b,v,H,h=>by
  cases c with
  | true=>exact Tr.snap_res (t:=a) h
  | false=>exact Tr.snap_res (t:=b) h
 | .fail,_,_,h=>by cases h
theorem A7.snap {P:Program} {G:GT} {g:Nat} {pf:List PV->Tr} (h:A7 P G g pf):A7 P G g (λargs=>(pf args).snap):=by
 intro args ret Hc hpf C hP hGe Γ w Vs hnm hH hG hc
 obtain ⟨ret',Hc',hpf',rfl,rfl,hnr⟩:=Tr.snap_res hpf
 refine (h args ret' Hc' hpf' C hP hGe Γ w Vs hnm hH hG hc).mono ?_
 rintro V w' ⟨Γ1,Φ1,hs,hH1,hv,hvn,hi1,hd1⟩
 let Γ2:Ctx:={ Γ1.all with nm:=λ_=>none }
 have hlt:∀ g,Γ2.St g->g<w'.heap.size:=λg hg=>by
  rcases hg with hg | ⟨b,hb⟩
  ·exact hH1.stlt g hg
  ·exact (hH1.lt b g hb).2.1
 refine ⟨Γ2,Φ1,⟨hs.os,hs.tape,hs.output,hs.size,λg hg=>.inl (hs.sub g hg),λg hg=>?_,λb g h=>by simp [Γ2] at h,hs.foot,hs.frame,hs.yv,Nat.le_refl _,λb hb=>by simp at hb⟩,
  Dd (λ_=>rfl) hlt,?_,by rw [hnr];simp,hi1,λb g h=>by simp [Γ2] at h⟩
 ·rcases hg with hg | ⟨b,hb⟩
  ·exact hs.stnew g hg
  ·rcases hs.own b g hb with ⟨h',_⟩ | h'
   all_goals grind
 ·exact VP.mono (Γ:=Γ1.all) (Γ':=Γ2) (w:=w') (w':=w') (sh:=A0 Hc') (ok:=λ_=>False) ⟨λ_ _=>rfl,λ_ h=>h,λ_ h=>h.elim,λ_ h=>h.elim,λ_ _ h=>h.elim,rfl⟩ (hv.snap hH1) (by rw [hnr];simp)
def FZ:List (Nat × (List PV->Tr))->Nat->Option (List PV->Tr)
 | [],_=>none
 | (g,pf)::r,n=>cond (Nat.beq n g) (some pf) (FZ r n)
def K8 (P:Program) (G:GT):List (Nat × (List PV->Tr))->Prop
 | []=>True
 | (g,pf)::r=>A7 P G g pf/\K8 P G r
theorem K8.x1 {C:Cfg} {l:List (Nat × (List PV->Tr))} (hl:C.X=FZ l) (h:K8 C.P C.G l):Bh0 C:=by
 intro g pf args ret Hc hg hpf Γ w Vs hnm hH hG hc
 rw [hl] at hg
 have key:∀ l:List (Nat × (List PV->Tr)),K8 C.P C.G l->FZ l g=some pf->A7 C.P C.G g pf:=by
  intro l
  induction l with
  | nil=>intro _ h;cases h
  | cons e r ih=>
   intro h1 h2
   obtain ⟨n,q⟩:=e
   simp only [FZ] at h2
   cases hb:Nat.beq g n with
   | true=>
    rw [hb] at h2
    simp only [cond_true,Option.some.injEq] at h2
    have:=Nat.eq_of_beq_eq_true hb
    subst this;subst h2
    exact h1.1
   | false=>
    rw [hb] at h2
    exact ih h1.2 h2
 exact key l h hg args ret Hc hpf C rfl rfl Γ w Vs hnm hH hG hc
theorem Ve {C C':Cfg} (h:C.P=C'.P):Ec C=Ec C':=by
 funext s
 unfold Ec
 split
 ·simp only [Fy,Cfg.sh,h]
 ·rfl
 ·rfl
theorem Stp.congr {C C':Cfg} (h:C.P=C'.P) {Γ Γ':Ctx} {H H':List Blk} {w w':World} {Φ Φ':Nat->Prop} (s:Stp C Γ H w Φ Γ' H' w' Φ'):Stp C' Γ H w Φ Γ' H' w' Φ':=
 ⟨s.os,s.tape,s.output,s.size,s.sub,s.stnew,s.own,s.foot,s.frame,s.yv,s.len,λb hb hf=>s.keep b hb (by rw [Ve h];exact hf)⟩
def Lq (P:Program) (G:GT) (g:Nat) (pf:List PV->List Blk->Tr):Prop:=
 ∀ C:Cfg,C.P=P->C.G=G->∀ (σ:Type) (I:σ->(Nat->Prop)->(Nat->Prop)->World->Prop) (yh:Yh σ) (yv:Value),HI I->MH P I yh yv->
  ∀ args H s ret Hc,F6 (pf args H)=some (ret,Hc)->∀ Γ Φ w Vs,Γ.yv=yv->HR Γ H w->GOK C Γ.St w->I s Γ.St Φ w->(∀ b g,Γ.nm b=some g->¬ Φ g)->CR Γ (A0 H) w args Vs->(∀ c∈C1 args,c<H.length)->
   K5 P ((callFunc g Vs).run P w) (V7 C I Γ H w Φ ret Hc s)
def GO (P:Program) (G:GT) (g:Nat) (pf:List PV->List Blk->Option (Bool × List (List PV))):Prop:=
 ∀ C:Cfg,C.P=P->C.G=G->∀ (σ:Type) (I:σ->(Nat->Prop)->(Nat->Prop)->World->Prop) (yh:Yh σ) (yv:Value),HI I->MH P I yh yv->
  ∀ args H L s s',pf args H=some (true,L)->H.all Ie=true->P5 yh L s=some s'->∀ Γ Φ w Vs,Γ.yv=yv->HR Γ H w->GOK C Γ.St w->I s Γ.St Φ w->(∀ b g,Γ.nm b=some g->¬ Φ g)->CR Γ (A0 H) w args Vs->(∀ c∈C1 args,c<H.length)->
   K5 P ((callFunc g Vs).run P w) (V7 C I Γ H w Φ (.tup []) (H.map Es) s')
theorem Ad7 {C C₀:Cfg} {σ:Type} {I:σ->(Nat->Prop)->(Nat->Prop)->World->Prop} {Γ:Ctx} {H Hc:List Blk} {w w':World} {Φ:Nat->Prop} {s':σ} {V:Value} (hP:C₀.P=C.P) (hb:H.all Ie=true) (hH:HR Γ H w) (h:V7 C₀ I Γ H w Φ (.tup []) Hc s' V w'):V7 C I Γ H w Φ (.tup []) (H.map Es) s' V w':=by
 obtain ⟨Γ1,Φ1,hs,k1,k2,k3,k4,k5⟩:=h
 have hn:∀ b g,(if b<H.length then Γ1.nm b else none)=some g->b<H.length/\Γ1.nm b=some g:=λb g h=>by grind
 have hlen:(H.map Es).length=H.length:=List.length_map _
 refine ⟨{ Γ1 with nm:=λb=>if b<H.length then Γ1.nm b else none },Φ1,⟨hs.os,hs.tape,hs.output,hs.size,hs.sub,hs.stnew,λb g hg=>hs.own b g (hn b g hg).2,hs.foot,hs.frame,hs.yv,by rw [hlen];exact Nat.le_refl _,λb hbl hf=>?_⟩,
  ⟨λb b' g h1 h2=>k1.inj b b' g (hn b g h1).2 (hn b' g h2).2,λb g hg=>?_,k1.stlt,λb hbl c hc=>?_,λb hbl=>?_⟩,?_,by simp [PV.nms,C1],k4,λb g hg=>k5 b g (hn b g hg).2⟩
 ·obtain ⟨m1,m2,m3⟩:=hs.keep b hbl (by rw [Ve hP];exact hf)
  refine ⟨by simp only;rw [if_pos hbl];exact m1,?_,m3⟩
  simp only [A0,List.getElem?_map]
  cases H[b]? with
  | none=>rfl
  | some x=>exact congrArg some (Yq x)
 ·obtain ⟨q1,q2⟩:=hn b g hg
  have:=k1.lt b g q2
  grind
 ·rw [List.getElem_map,Yp] at hc
  simp at hc
 ·rw [hlen] at hbl
  rw [List.getElem_map]
  have hbx:=List.all_eq_true.1 hb _ (List.getElem_mem hbl)
  have hB:=hH.blk b hbl
  cases hx:H[b] with
  | box cells=>
   rw [hx] at hB
   obtain ⟨g,cur,e,h1,h2,h3,_⟩:=hB
   obtain ⟨m1,m2,m3⟩:=hs.keep b hbl (by simp only [A0,List.getElem?_eq_getElem hbl,hx];exact trivial)
   have hl2:b<Hc.length:=Nat.lt_of_lt_of_le hbl hs.len
   have hB2:=k1.blk b hl2
   have hshp:(Hc[b]).shp = .box:=by
    simp only [A0,List.getElem?_eq_getElem hbl,List.getElem?_eq_getElem hl2,Option.map_some,Option.some.injEq] at m2
    rw [m2,hx];rfl
   cases hy:Hc[b] with
   | box cells'=>
    rw [hy] at hB2
    obtain ⟨g',cur',e',h1',h2',h3',h4'⟩:=hB2
    have hgg:g'=g:=by grind
    subst hgg
    have hsz:=m3 g' h1
    simp only [World.shape?,h2,h2',Option.some.injEq,Prod.mk.injEq] at hsz
    refine ⟨g',cur',e',by simp only;rw [if_pos hbl];exact h1',h2',by rw [hsz.2,h3];simp,λj hj=>?_⟩
    have hj':j<cur'.size:=by rw [hsz.2,h3];simpa using hj
    exact ⟨cur'[j],Array.getElem?_eq_getElem hj',by rw [List.getElem_map];exact .bad _⟩
   | arr a b c d=>rw [hy] at hshp;cases hshp
   | iter a b=>rw [hy] at hshp;cases hshp
   | dead=>rw [hy] at hshp;cases hshp
  | arr a b c d=>rw [hx] at hbx;cases hbx
  | iter a b=>rw [hx] at hbx;cases hbx
  | dead=>rw [hx] at hbx;cases hbx
 ·obtain ⟨A,rfl,hA,hcA⟩:=k2.inv_tup
  exact VP.mk_tup hA λj hj=>by simp at hj
theorem Sd {C₀:Cfg} {g:Nat} {pf:List PV->List Blk->Option (Bool × List (List PV))} (hX:XOK C₀) (hO:Ax C₀) (hm:C₀.P.follows .mixedOrders=true)
  (h:∀ args H L,pf args H=some (true,L)->∀ (σ:Type) (yh:Yh σ) (s s':σ),P5 yh L s=some s'->∃ d Hc,evC C₀ d σ yh g args H s=some (.tup [],Hc,s')):GO C₀.P C₀.G g pf:=by
 intro C hP hG σ I yh yv hI hy args H L s s' hpf hb hrun Γ Φ w Vs hyv hH hg hi hdis hc hn
 obtain ⟨d,Hc,hev⟩:=h args H L hpf σ yh s s' hrun
 exact (Ev hX hO hm d σ I yh yv hI hy g args H s _ Hc s' hev Γ Φ w Vs hyv hH (hg.congr hG.symm) hi hdis hc hn).mono λV w' hr=>Ad7 hP.symm hb hH hr
def Fh {α:Type}:List (Nat × α)->Nat->Option α
 | [],_=>none
 | (g,pf)::r,n=>cond (Nat.beq n g) (some pf) (Fh r n)
theorem Nu {α:Type}:∀ {l:List (Nat × α)} {g:Nat} {pf:α},Fh l g=some pf->(g,pf)∈l
 | [],_,_,h=>by cases h
 | (n,q)::r,g,pf,h=>by
  simp only [Fh] at h
  cases hb:Nat.beq g n with
  | true=>
   simp_all
  | false=>
   rw [hb] at h
   exact List.mem_cons_of_mem _ (Nu h)
def Dx (P:Program) (G:GT):List (Nat × (List PV->List Blk->Tr))->Prop
 | []=>True
 | (g,pf)::r=>Lq P G g pf/\Dx P G r
def Dw (P:Program) (G:GT):List (Nat × (List PV->List Blk->Option (Bool × List (List PV))))->Prop
 | []=>True
 | (g,pf)::r=>GO P G g pf/\Dw P G r
theorem Dx.mem {P:Program} {G:GT}:∀ {l:List (Nat × (List PV->List Blk->Tr))} {g:Nat} {pf:List PV->List Blk->Tr},Dx P G l->(g,pf)∈l->Lq P G g pf
 | [],_,_,_,hm=>by simp at hm
 | (n,q)::r,g,pf,h,hm=>by
  rcases List.mem_cons.1 hm with e | hm
  ·cases e;exact h.1
  ·exact Dx.mem h.2 hm
theorem Dw.mem {P:Program} {G:GT}:∀ {l:List (Nat × (List PV->List Blk->Option (Bool × List (List PV))))} {g:Nat} {pf:List PV->List Blk->Option (Bool × List (List PV))},Dw P G l->(g,pf)∈l->GO P G g pf
 | [],_,_,_,hm=>by simp at hm
 | (n,q)::r,g,pf,h,hm=>by
  rcases List.mem_cons.1 hm with e | hm
  ·cases e;exact h.1
  ·exact Dw.mem h.2 hm
theorem Dx.ok {C:Cfg} {l:List (Nat × (List PV->List Blk->Tr))} (hl:C.Y=Fh l) (h:Dx C.P C.G l):V8 C (clY C):=by
 intro σ I yh yv hI hy g args H s ret Hc s' hcl Γ Φ w Vs hyv hH hg hi hd hc hn
 simp only [clY,hl] at hcl
 split at hcl
 ·rename_i pf hpf
  split at hcl
  ·rename_i r' h' hr
   simp only [Option.some.injEq,Prod.mk.injEq] at hcl
   obtain ⟨rfl,rfl,rfl⟩:=hcl
   exact h.mem (Nu hpf) C rfl rfl σ I yh yv hI hy args H s _ _ hr Γ Φ w Vs hyv hH hg hi hd hc hn
  grind
 ·cases hcl
theorem Dw.ok {C:Cfg} {l:List (Nat × (List PV->List Blk->Option (Bool × List (List PV))))} (hl:C.S=Fh l) (h:Dw C.P C.G l):V8 C (clS C):=by
 intro σ I yh yv hI hy g args H s ret Hc s' hcl Γ Φ w Vs hyv hH hg hi hd hc hn
 simp only [clS,hl] at hcl
 split at hcl
 ·rename_i pf hpf
  split at hcl
  ·rename_i hb
   split at hcl
   ·rename_i L hL
    split at hcl
    ·rename_i s2 hr
     simp only [Option.some.injEq,Prod.mk.injEq] at hcl
     obtain ⟨rfl,rfl,rfl⟩:=hcl
     exact h.mem (Nu hpf) C rfl rfl σ I yh yv hI hy args H L s _ hL hb hr Γ Φ w Vs hyv hH hg hi hd hc hn
    grind
   grind
  grind
 ·cases hcl
theorem En {C:Cfg} {lx:List (Nat × (List PV->Tr))} {ly:List (Nat × (List PV->List Blk->Tr))} {ls:List (Nat × (List PV->List Blk->Option (Bool × List (List PV))))} (h1:C.X=FZ lx) (h2:C.Y=Fh ly) (h3:C.S=Fh ls) (x:K8 C.P C.G lx) (y:Dx C.P C.G ly) (s:Dw C.P C.G ls) (h4:C.Z=Fh []:=by rfl):XOK C:=
 ⟨K8.x1 h1 x,Dx.ok h2 y,Dw.ok h3 s,λg pf h=>by rw [h4] at h;cases h⟩
theorem K8.ok {C:Cfg} {l:List (Nat × (List PV->Tr))} (hl:C.X=FZ l) (h:K8 C.P C.G l) (h2:C.Y=Fh []:=by rfl) (h3:C.S=Fh []:=by rfl) (h4:C.Z=Fh []:=by rfl):XOK C:=
 En hl h2 h3 h trivial trivial h4
def okL:List Nat->Nat->Bool
 | [],_=>false
 | a::r,n=>Nat.beq n a || okL r n
def PZ (C:Cfg) (l:List Nat):Bool:=l.all λf=>match C.P.funcs[f]? with
 | some fn=>match fn.body with
  | some c=>Ae9 C c && !(fn.name == "runtime.NumGoroutine")
  | none=>true
 | none=>true
theorem F2 {C:Cfg} {l:List Nat} (hl:C.okf=okL l) (h:PZ C l=true):Ax C:=by
 intro f fn c hok hf hb
 have key:∀ l:List Nat,okL l f=true->f∈l:=by
  intro l
  induction l with
  | nil=>intro h;cases h
  | cons a r ih=>
   intro h
   simp only [okL,Bool.or_eq_true] at h
   rcases h with h | h
   all_goals simp_all
 have hm:f∈l:=key l (by rw [<-hl];exact hok)
 simp only [PZ,List.all_eq_true] at h
 grind
def cd:List Nat->Code->Code
 | [],c=>c
 | 0::p,.seq a _=>cd p a
 | 1::p,.seq _ b=>cd p b
 | 0::p,.cond _ a _=>cd p a
 | 1::p,.cond _ _ b=>cd p b
 | 0::p,.block _ a=>cd p a
 | 0::p,.loop a=>cd p a
 | 0::p,.scope a=>cd p a
 | 0::p,.rangeFunc _ _ a _=>cd p a
 | 1::p,.rangeFunc _ _ _ b=>cd p b
 | _,_=>.skip
def S7:List Nat->Code->Code->Code
 | [],b,_=>b
 | 0::p,b,.seq x y=>.seq (S7 p b x) y
 | 1::p,b,.seq x y=>.seq x (S7 p b y)
 | 0::p,b,.cond c x y=>.cond c (S7 p b x) y
 | 1::p,b,.cond c x y=>.cond c x (S7 p b y)
 | 0::p,b,.block id x=>.block id (S7 p b x)
 | 0::p,b,.loop x=>.loop (S7 p b x)
 | 0::p,b,.scope x=>.scope (S7 p b x)
 | 0::p,b,.rangeFunc g ps x y=>.rangeFunc g ps (S7 p b x) y
 | 1::p,b,.rangeFunc g ps x y=>.rangeFunc g ps x (S7 p b y)
 | _,_,c=>c
def F0 (f:Func):Code:=f.body.getD .skip
section
variable {σ R : Type}
def bd (C:Cfg) (cl:E1) (yh:Yh σ) (c:Code):St σ->(Out->St σ->Option R)->Option R:=λst k=>A8 C cl yh c st k
def N1 (C:Cfg) (cl:E1) (yh:Yh σ) (b:Code) (k:Out->St σ->Option R):Out->St σ->Option R:=λo st'=>match o with
 | .normal=>A8 C cl yh b st' k
 | o=>k o st'
def M3 (id:Nat) (k:Out->St σ->Option R):Out->St σ->Option R:=λo st'=>match o with
 | .exit j=>if j=id then k .normal st' else k (.exit j) st'
 | o=>k o st'
def K9 (C:Cfg) (fn:Func):Out->St σ->Option (PV × List Blk × σ):=λo st=>match o with
 | .normal=>Sj C st.sl st.hp fn.results.toList λvs=>some (W4 vs,st.hp,st.s)
 | .ret=>Sj C st.sl st.hp fn.results.toList λvs=>some (W4 vs,st.hp,st.s)
 | _=>none
def lpK (L:Nat) (ds:Option (List Nat)) (body:St σ->(Out->St σ->Option R)->Option R) (n:Nat) (k:Out->St σ->Option R):Out->St σ->Option R:=λo st'=>match o with
 | .normal=>G9 L ds body n (Ga ds (Q5 L st')) k
 | o=>k o (Ga ds st')
end
theorem A95 {C:Cfg} {d f:Nat} {fn:Func} {σ:Type} {yh:Yh σ} {args:List PV} {H:List Blk} {s:σ} (h2:C.P.funcs[f]? = some fn) (h1:C.okf f=true) (h3:fn.body=some (F0 fn)) :
  evC C (d+1) σ yh f args H s=A8 C (evC C d) yh (F0 fn) { sl:=args++List.replicate (fn.ntmps-args.length) (.tup []),hp:=H,s:=s } (K9 C fn):=by
 simp only [evC,h1,h2]
 split
 ·rename_i c hc
  rw [hc] at h3
  simp only [Option.some.injEq] at h3
  rw [<-h3]
  rfl
 ·rename_i hc
  rw [hc] at h3
  cases h3
theorem evE {C:Cfg} {d f:Nat} {fn:Func} {σ:Type} {yh:Yh σ} {args:List PV} {H:List Blk} {s:σ} (h:(C.P.funcs[f]?,C.okf f,fn.body)=(some fn,true,some (F0 fn))) :
  evC C (d+1) σ yh f args H s=A8 C (evC C d) yh (F0 fn) { sl:=args++List.replicate (fn.ntmps-args.length) (.tup []),hp:=H,s:=s } (K9 C fn):=by
 simp only [Prod.mk.injEq] at h
 exact A95 h.1 h.2.1 h.2.2
def Eb:List Nat->List Blk->List Blk
 | [],H=>H
 | i::r,H=>Eb r (H.set i .dead)
def NM (idx:List Nat) (ret:PV) (H:List Blk):Bool:=idx.all λi=>!(ret.nms.contains i)&&(Eb idx H).all λb=>!(b.nms.contains i)
theorem Rf:∀ (idx:List Nat) (H:List Blk),(Eb idx H).length=H.length/\∀ i (h:i<(Eb idx H).length) (h':i<H.length),(i∈idx/\(Eb idx H)[i] = .dead)\/(i∉idx/\(Eb idx H)[i]=H[i])
 | [],H=>⟨rfl,λi h h'=>.inr ⟨by simp,rfl⟩⟩
 | a::r,H=>by
  obtain ⟨h1,h2⟩:=Rf r (H.set a .dead)
  simp only [Eb]
  grind
theorem V7.dead {C:Cfg} {Γ:Ctx} {w w':World} {ret:PV} {Hc:List Blk} {V:Value} {idx:List Nat} (h:V7 C I0 Γ [] w noΦ ret Hc () V w') (hok:NM idx ret Hc=true):V7 C I0 Γ [] w noΦ ret (Eb idx Hc) () V w':=by
 obtain ⟨Γ1,Φ1,hs,hH1,hv,hvn,hi1,hd1⟩:=h
 obtain ⟨hl,hsp⟩:=Rf idx Hc
 simp only [NM,List.all_eq_true,Bool.and_eq_true,Bool.not_eq_true',List.contains_iff_mem,<-Bool.not_eq_true] at hok
 let Γ2:Ctx:={ Γ1 with nm:=λb=>if b∈idx then none else Γ1.nm b }
 have hnm:∀ b g,Γ2.nm b=some g->b∉idx/\Γ1.nm b=some g:=λb g h=>by
  simp only [Γ2] at h
  split at h
  ·cases h
  ·exact ⟨‹_›,h⟩
 have M:R8 Γ1 (A0 Hc) w' Γ2 (A0 (Eb idx Hc)) w' (·∉idx):=⟨λ_ _=>rfl,λ_ h=>h,λb hb=>by simp only [Γ2];rw [if_neg hb],λb hb=>by
  simp only [A0]
  by_cases hlt:b<Hc.length
  ·rcases hsp b (by omega) hlt with ⟨q,_⟩ | ⟨_,q⟩
   ·exact absurd q hb
   ·rw [List.getElem?_eq_getElem (by omega),List.getElem?_eq_getElem hlt,q]
  ·rw [List.getElem?_eq_none (by omega),List.getElem?_eq_none (by omega)],λ_ _ _ _=>rfl,rfl⟩
 refine ⟨Γ2,Φ1,⟨hs.os,hs.tape,hs.output,hs.size,hs.sub,hs.stnew,λb g h=>hs.own b g (hnm b g h).2,hs.foot,hs.frame,hs.yv,Nat.zero_le _,λb hb=>by simp at hb⟩,
  ⟨λb b' g h1 h2=>hH1.inj b b' g (hnm b g h1).2 (hnm b' g h2).2,λb g h=>by have:=hH1.lt b g (hnm b g h).2;rw [hl];exact this,hH1.stlt,λb hb c hc=>?_,λb hb=>?_⟩,
  hv.mono M (λb hb hi=>by have:=(hok b hi).1;exact this hb),λc hc=>by rw [hl];exact hvn c hc,hi1,λb g h=>hd1 b g (hnm b g h).2⟩
 ·have hlt:b<Hc.length:=by omega
  rcases hsp b hb hlt with ⟨_,q⟩ | ⟨_,q⟩
  ·rw [q] at hc;simp [Blk.nms] at hc
  ·rw [q] at hc;rw [hl];exact hH1.nms b hlt c hc
 ·have hlt:b<Hc.length:=by omega
  rcases hsp b hb hlt with ⟨_,q⟩ | ⟨q0,q⟩
  ·rw [q];trivial
  ·rw [q]
   refine (hH1.blk b hlt).mono M (M.nm b q0) (λ_ _=>rfl) (λc hc hi=>?_)
   have:=(hok c hi).2 _ (List.getElem_mem hb)
   rw [q] at this
   exact this hc
theorem O8 {C₀:Cfg} {g:Nat} {pf:List PV->Tr} (hX:XOK C₀) (hO:Ax C₀) (hm:C₀.P.follows .mixedOrders=true)
  (h:∀ args ret Hc,F6 (pf args)=some (ret,Hc)->C1 args=[]/\∃ d H0 idx,evC C₀ d Unit noY g args [] ()=some (ret,H0,())/\NM idx ret H0=true/\Eb idx H0=Hc):A7 C₀.P C₀.G g pf:=by
 intro args ret Hc hpf C hP hGe Γ w Vs hnm hH hG hc
 obtain ⟨hna,d,H0,idx,hev,hd,rfl⟩:=h args ret Hc hpf
 have h0:=Ap (C₀:=C₀) (g:=g) (pf:=λa=>match F6 (pf a) with | some _=>(match evC C₀ d Unit noY g a [] () with | some (r,H,_)=>cond (C1 a).isEmpty (.ret r H) .fail | none=>.fail) | none=>.fail) hX hO hm (λa r H hr=>by
  split at hr
  ·split at hr
   ·rename_i r' H' _ he
    cases hn:(C1 a).isEmpty with
    | true=>
     rw [hn] at hr
     simp only [cond_true,F6,X9,Option.some.injEq,Prod.mk.injEq] at hr
     grind
    | false=>rw [hn] at hr;cases hr
   ·cases hr
  ·cases hr)
 refine (h0 args ret H0 ?_ C hP hGe Γ w Vs hnm hH hG hc).mono λV w' hR=>hR.dead hd
 dsimp only
 rw [hpf]
 dsimp only
 rw [hev]
 dsimp only
 rw [hna]
 rfl
theorem GH {C₀:Cfg} {g:Nat} {pf:List PV->Tr} (hX:XOK C₀) (hO:Ax C₀) (hm:C₀.P.follows .mixedOrders=true)
  (h:∀ args ret Hc,F6 (pf args)=some (ret,Hc)->C1 args=[]/\Hc=[]/\ret.nms=[]/\∃ d ret' H0,evC C₀ d Unit noY g args [] ()=some (ret',H0,())/\ret'.snap H0=ret):A7 C₀.P C₀.G g pf:=by
 intro args ret Hc hpf C hP hGe Γ w Vs hnm hH hG hc
 obtain ⟨hna,rfl,hnr,d,ret',H0,hev,rfl⟩:=h args ret Hc hpf
 have h0:=Ap (C₀:=C₀) (g:=g) (pf:=λa=>match evC C₀ d Unit noY g a [] () with | some (r,H,_)=>cond (C1 a).isEmpty (.ret r H) .fail | none=>.fail) hX hO hm (λa r H hr=>by
  split at hr
  ·rename_i r' H' _ he
   cases hn:(C1 a).isEmpty with
   | true=>
    rw [hn] at hr
    simp only [cond_true,F6,X9,Option.some.injEq,Prod.mk.injEq] at hr
    grind
   | false=>rw [hn] at hr;cases hr
  ·cases hr)
 refine h0.snap args (ret'.snap H0) [] ?_ C hP hGe Γ w Vs hnm hH hG hc
 dsimp only
 rw [hev]
 dsimp only
 rw [hna]
 simp only [List.isEmpty_nil,cond_true,Tr.snap,hnr]
 rfl
section
variable {σ R : Type} {C : Cfg} {cl : E1} {yh : Yh σ} {c a b : Code} {st : St σ} {k : Out -> St σ -> Option R} {id : Nat}
theorem A1 {b:Bool} {x y x' y':Option R} (hx:x=x') (hy:y=y'):cond b x y=cond b x' y':=by rw [hx,hy]
end
def A3 {α:Type}:List (Nat × α)->Nat->Option α
 | [],_=>none
 | (a,l)::r,n=>cond (Nat.beq n a) (some l) (A3 r n)
def bds (n:Nat):List PV:=List.replicate n .bad
def tps (n:Nat):List PV:=List.replicate n (.tup [])
def gp:List (Nat × PV)->Nat->List PV
 | [],n=>bds n
 | (m,v)::r,n=>bds m++v::gp r n
abbrev LL:=List (List SV)
abbrev By:=List UInt8
def A4 (n:Int):Int:=IntKind.wrap .i64 n
def Ap4 (n:Int):Int:=IntKind.wrap .u64 n
def Ap3 (n:Int):Int:=IntKind.wrap .u32 n
def Od (n:Int):Int:=IntKind.wrap .u16 n
def wu8 (n:Int):Int:=IntKind.wrap .u8 n
def bOr (k:IntKind) (a b:Int):Int:=k.wrap (BitVec.ofInt k.bits a ||| BitVec.ofInt k.bits b).toNat
def Ju (k:IntKind) (a b:Int):Int:=k.wrap (a*2 ^ min b.toNat k.bits)
def ZI (k:IntKind) (a b:Int):Int:=a.fdiv (2 ^ min b.toNat k.bits)
def inR (n:Int) (m:Nat):Bool:=decide (0<=n)&&decide (n<m)
def RZ:TI:=⟨true,false,[.int .i64]⟩
def Iu:TI:=⟨true,false,[.str]⟩
def okE (t:TI) (l:LL) (i o:Nat):Bool:=decide (i<l.length)&&okS t (l.getD i []) o
def gC (l:LL) (i j:Nat):SV:=(l.getD i []).getD j .nilp
def gE (l:LL) (i j:Nat):Int:=(gC l i j).gI
def gX (l:LL) (i j:Nat):By:=(gC l i j).gS
def gY (l:LL) (i j:Nat):Bool:=(gC l i j).gB
def bAt (s:By) (n:Int):Int:=((s.getD n.toNat 0).toNat:Int)
def Z4 (l h:Int) (n:Nat):Bool:=decide (0<=l)&&decide (l<=h)&&decide (h<=n)
def cut {α:Type} (s:List α) (l h:Int):List α:=(s.take h.toNat).drop l.toNat
def Bl6:Code->Bool | .rangeFunc _ _ _ _=>true | _=>false
def rgX:Code->Operand | .rangeFunc x _ _ _=>x | _=>.tmp 0
def rgP:Code->Array Tmp | .rangeFunc _ p _ _=>p | _=>#[]
theorem EB:∀ (p:List Nat),cd p .skip = .skip
 | []=>rfl
 | 0::_=>rfl
 | 1::_=>rfl
 | (_+2)::_=>rfl
theorem Cj:∀ (p q:List Nat) (c:Code),cd (p++q) c=cd q (cd p c)
 | [],q,c=>rfl
 | i::p,q,c=>by
  rw [List.cons_append]
  match i,c with
  | 0,.seq a b=>exact Cj p q a
  | 1,.seq a b=>exact Cj p q b
  | 0,.cond _ a b=>exact Cj p q a
  | 1,.cond _ a b=>exact Cj p q b
  | 0,.block _ a=>exact Cj p q a
  | 0,.loop a=>exact Cj p q a
  | 0,.scope a=>exact Cj p q a
  | 0,.rangeFunc _ _ a b=>exact Cj p q a
  | 1,.rangeFunc _ _ a b=>exact Cj p q b
  | 0,.skip | 0,.region _ _ _ | 0,.exit _ | 0,.label _ | 0,.goto _ | 0,.ret | 0,.refuse _=>exact (EB q).symm
  | 1,.skip | 1,.region _ _ _ | 1,.exit _ | 1,.scope _ | 1,.label _ | 1,.goto _ | 1,.ret | 1,.refuse _ | 1,.block _ _ | 1,.loop _=>exact (EB q).symm
  | _+2,.skip | _+2,.region _ _ _ | _+2,.exit _ | _+2,.scope _ | _+2,.label _ | _+2,.goto _ | _+2,.ret | _+2,.refuse _ | _+2,.block _ _ | _+2,.loop _ | _+2,.seq _ _ | _+2,.cond _ _ _ | _+2,.rangeFunc _ _ _ _=>exact (EB q).symm
section
variable {σ R : Type} {C : Cfg} {cl : E1} {yh : Yh σ} {B : Code} {st : St σ} {k : Out -> St σ -> Option R}
theorem A70 (p:List Nat) (h:Bl6 (cd p B)=true):A8 C cl yh (cd p B) st k=Lf C cl (opnd C st.sl (rgX (cd p B))) st (λsl0=>Ed (rgP (cd p B)) sl0 (bd C cl yh (cd (p++[0]) B)) (bd C cl yh (cd (p++[1]) B))) (λsl0=>R4 (rgP (cd p B)) sl0 (bd C cl yh (cd (p++[0]) B)) (bd C cl yh (cd (p++[1]) B))) k:=by
 rw [Cj,Cj]
 cases hc:cd p B<;>rw [hc] at h<;>first | rfl | cases h
theorem Wb {c:Bool} {x y:Option R} (h:x=y):need c x=cond c y none:=by rw [h];rfl
end
abbrev pS (l:List UInt8):PV:=.s (.str l)
abbrev pB (b:Bool):PV:=.s (.bool b)
abbrev pI (n:Int):PV:=.s (.int .i64 n)
abbrev p8 (n:Int):PV:=.s (.int .u8 n)
abbrev p16 (n:Int):PV:=.s (.int .u16 n)
abbrev p32 (n:Int):PV:=.s (.int .u32 n)
abbrev vl {α β:Type} (e:α) (f:α->β):β:=f e
theorem C2 {α R:Type} {e:α} {f g:α->Option R} (h:∀ x,f x=g x):vl e f=vl e g:=h e
def TP (m n:Nat):Bool:=decide (m+n<4611686018427387904)
theorem fx1 {A R:Type} {f g:A->R} (h0:∀ a,f a=g a):f=g:=funext h0
theorem fx2 {A B R:Type} {f g:A->B->R} (h0:∀ a b,f a b=g a b):f=g:=funext λa=>fx1 (h0 a)
theorem fx3 {A B C R:Type} {f g:A->B->C->R} (h0:∀ a b c,f a b c=g a b c):f=g:=funext λa=>fx2 (h0 a)
theorem fx4 {A B C D R:Type} {f g:A->B->C->D->R} (h0:∀ a b c d,f a b c d=g a b c d):f=g:=funext λa=>fx3 (h0 a)
theorem fx5 {A B C D E R:Type} {f g:A->B->C->D->E->R} (h0:∀ a b c d e,f a b c d e=g a b c d e):f=g:=funext λa=>fx4 (h0 a)
theorem fx6 {A B C D E H R:Type} {f g:A->B->C->D->E->H->R} (h0:∀ a b c d e h,f a b c d e h=g a b c d e h):f=g:=funext λa=>fx5 (h0 a)
theorem fx7 {A B C D E H I R:Type} {f g:A->B->C->D->E->H->I->R} (h0:∀ a b c d e h i,f a b c d e h i=g a b c d e h i):f=g:=funext λa=>fx6 (h0 a)
theorem fx8 {A B C D E H I J R:Type} {f g:A->B->C->D->E->H->I->J->R} (h0:∀ a b c d e h i j,f a b c d e h i j=g a b c d e h i j):f=g:=funext λa=>fx7 (h0 a)
theorem fx9 {A B C D E H I J K R:Type} {f g:A->B->C->D->E->H->I->J->K->R} (h0:∀ a b c d e h i j k,f a b c d e h i j k=g a b c d e h i j k):f=g:=funext λa=>fx8 (h0 a)
theorem Bl3 {A B C D E H I J K L R:Type} {f g:A->B->C->D->E->H->I->J->K->L->R} (h0:∀ a b c d e h i j k l,f a b c d e h i j k l=g a b c d e h i j k l):f=g:=funext λa=>fx9 (h0 a)
def Bc0 {α β:Type} (z:α) (f:β->List β->α->α):List β->α
 | []=>z
 | x::xs=>f x xs (Bc0 z f xs)
def Mh (n:Nat):PV->PV
 | .s (.sl z t k els)=>if n=0 then .s (.sl z t k els) else if k=n then .s (.sl z t k els) else .s (.sl z t (cond z n k) els)
 | v=>v
def Hj:List Nat->List PV->List PV
 | n::r,v::l=>Mh n v::Hj r l
 | _,l=>l
def A96 (szs:List Nat):PV->PV
 | .agg l=>.agg (Hj szs l)
 | v=>Mh (szs.headD 0) v
def E4:List (List Nat)->List PV->List PV
 | s::r,v::l=>A96 s v::E4 r l
 | _,l=>l
section
variable {Γ : Ctx} {sh : Nat -> Option Shp} {w : World}
theorem Fx {n:Nat} {v:PV} {V:Value} (h:VP Γ sh w v V):VP Γ sh w (Mh n v) V:=by
 unfold Mh
 split
 ·rename_i z t k els
  split
  ·exact h
  ·split
   ·exact h
   ·cases z with
    | false=>exact h
    | true=>
     have hs:=h.inv_s
     cases hs with
     | nil=>exact .s _ _ (.nil _ _)
 ·exact h
theorem Ex:∀ (szs:List Nat) (l:List PV),(Hj szs l).length=l.length
 | [],_=>rfl
 | _::_,[]=>rfl
 | n::r,v::l=>by simp [Hj,Ex r l]
theorem Ib:∀ (szs:List Nat) (l:List PV) (j:Nat) (h:j<l.length) (h':j<(Hj szs l).length),∃ n,(Hj szs l)[j]=Mh n l[j]
 | [],l,j,h,h'=>⟨0,by
  have e:Hj [] l=l:=by cases l<;>rfl
  simp only [e]
  unfold Mh
  split
  ·rename_i he;rw [he];simp
  ·rfl⟩
 | n::r,v::l,0,h,h'=>⟨n,rfl⟩
 | n::r,v::l,j+1,h,h'=>by
  obtain ⟨m,e⟩:=Ib r l j (by simpa using h) (by simpa [Hj] using h')
  exact ⟨m,by simpa [Hj] using e⟩
theorem Au3 {szs:List Nat} {v:PV} {V:Value} (h:VP Γ sh w v V):VP Γ sh w (A96 szs v) V:=by
 unfold A96
 split
 ·rename_i l
  obtain ⟨A,rfl,hA,hc⟩:=h.inv_agg
  refine VP.mk_agg (by rw [Ex];exact hA) λj hj=>?_
  have hj':j<l.length:=by rw [Ex] at hj;exact hj
  obtain ⟨U,e,k⟩:=hc j hj'
  obtain ⟨m,e2⟩:=Ib szs l j hj' hj
  exact ⟨U,e,by rw [e2];exact Fx k⟩
 ·exact Fx h
theorem IL:∀ (szs:List (List Nat)) (l:List PV),(E4 szs l).length=l.length
 | [],_=>rfl
 | _::_,[]=>rfl
 | n::r,v::l=>by simp [E4,IL r l]
theorem Au4:∀ (szs:List (List Nat)) (l:List PV) (V:Array Value),CR Γ sh w l V->CR Γ sh w (E4 szs l) V:=by
 intro szs l V h
 refine ⟨by rw [IL];exact h.1,?_⟩
 have key:∀ (szs:List (List Nat)) (l:List PV) (As:Nat->Option Value),(∀ j (h:j<l.length),∃ U,As j=some U/\VP Γ sh w (l[j]) U)->∀ j (h:j<(E4 szs l).length),∃ U,As j=some U/\VP Γ sh w ((E4 szs l)[j]) U:=by
  intro szs
  induction szs with
  | nil=>intro l As hl j hj;exact hl j (by cases l<;>exact hj)
  | cons s r ih=>
   intro l As hl j hj
   cases l with
   | nil=>simp [E4] at hj
   | cons v l=>
    cases j with
    | zero=>
     obtain ⟨U,e,k⟩:=hl 0 (by simp)
     exact ⟨U,e,Au3 k⟩
    | succ j=>
     have:=ih l (λj=>As (j+1)) (λj h=>hl (j+1) (by simpa using h)) j (by simpa [E4] using hj)
     simpa [E4] using this
 exact key szs l (λj=>V[j]?) h.2
end
theorem A7.fix {P:Program} {G:GT} {g:Nat} {pf:List PV->Tr} (szs:List (List Nat)) (h:A7 P G g pf):A7 P G g (λargs=>pf (E4 szs args)):=
 λargs ret Hc hpf C hP hGe Γ w Vs hnm hH hG hc=>h (E4 szs args) ret Hc hpf C hP hGe Γ w Vs hnm hH hG (Au4 szs args Vs hc)
def plE (els:LL):Bool:=els.all λel=>el.all SV.plain
theorem G1 {v:PV} {H:List Blk} {ret:PV} {Hc:List Blk} (h:F6 (.ret v H)=some (ret,Hc)):ret=v/\Hc=H:=by
 simp only [F6,X9,Option.some.injEq,Prod.mk.injEq] at h
 grind
theorem C6 {c:Bool} {t:Tr} {ret:PV} {Hc:List Blk} (h:F6 (.need c t)=some (ret,Hc)):c=true/\F6 t=some (ret,Hc):=by
 cases c with
 | true=>exact ⟨rfl,h⟩
 | false=>cases h
theorem Nv {c:Bool} {a b:Tr} {ret:PV} {Hc:List Blk} (h:F6 (.split c a b)=some (ret,Hc)):(c=true/\F6 a=some (ret,Hc))\/(c=false/\F6 b=some (ret,Hc)):=by
 cases c with
 | true=>exact .inl ⟨rfl,h⟩
 | false=>exact .inr ⟨rfl,h⟩
theorem A53:∃ n:Nat,100000000000000000000<=n:=⟨_,Nat.le_refl _⟩
noncomputable def LF:Nat:=Classical.choose A53
theorem I4:100000000000000000000<=LF:=Classical.choose_spec A53
attribute [irreducible] LF
theorem WJ (b:UInt8):Ux (G2 b)=b:=by
 simp [Ux,G2,SV.gI]
theorem Mx (l:List UInt8):(l.map G2).map Ux=l:=by
 rw [List.map_map]
 have:Ux ∘ G2=id:=by funext b;exact WJ b
 rw [this,List.map_id]
theorem XJ (b:UInt8):Xt (G2 b)=true:=by
 have:=b.toNat_lt
 simp only [Xt,G2,Bool.and_eq_true,decide_eq_true_eq]
 omega
theorem Lr (l:List UInt8):(l.map G2).all Xt=true:=by
 rw [List.all_map]
 simp [Function.comp_def,XJ]
theorem Be0 (n:Nat):IntKind.wrap .u8 (n:Int)=((n % 256:Nat):Int):=by simp [IntKind.wrap,IntKind.bits,IntKind.signed]
theorem VH (n:Nat):IntKind.wrap .u16 (n:Int)=((n % 65536:Nat):Int):=by simp [IntKind.wrap,IntKind.bits,IntKind.signed]
theorem A38 (n:Nat):IntKind.wrap .u32 (n:Int)=((n % 4294967296:Nat):Int):=by simp [IntKind.wrap,IntKind.bits,IntKind.signed]
theorem A39 (n:Nat):IntKind.wrap .u64 (n:Int)=((n % 18446744073709551616:Nat):Int):=by simp [IntKind.wrap,IntKind.bits,IntKind.signed]
theorem A37 (n:Int) (h0:-9223372036854775808<=n) (h1:n<9223372036854775808):IntKind.wrap .i64 n=n:=by
 simp [IntKind.wrap,IntKind.bits,IntKind.signed]
 split<;>omega
theorem Ah1 (n m:Nat):Int.fdiv (n:Int) (m:Int)=((n / m:Nat):Int):=by
 rw [Int.fdiv_eq_ediv_of_nonneg _ (by omega)]
 rfl
theorem X1 (n m:Nat):Int.tdiv (n:Int) (m:Int)=((n / m:Nat):Int):=by
 rw [Int.tdiv_eq_ediv_of_nonneg (by omega)]
 rfl
theorem Xf (n m:Nat):Int.tmod (n:Int) (m:Int)=((n % m:Nat):Int):=by
 rw [Int.tmod_eq_emod_of_nonneg (by omega)]
 rfl
theorem A87 (w a b:Nat) (ha:a<2 ^ w) (hb:b<2 ^ w):(BitVec.ofInt w (a:Int) ||| BitVec.ofInt w (b:Int)).toNat=a ||| b:=by
 simp [BitVec.ofInt_natCast,Nat.mod_eq_of_lt ha,Nat.mod_eq_of_lt hb]
theorem Bb5 (a b i:Nat) (h:a<2 ^ i):a ||| (b*2 ^ i)=a+b*2 ^ i:=by
 rw [Nat.mul_comm b,Nat.or_comm,Nat.add_comm]
 exact (Nat.two_pow_add_eq_or_of_lt h b).symm
end
section
open Go Go.ChangeShapes Go.RowKit Go.Sort Go.WideShapes
theorem Ab {P:Program} {f:Nat} {fn:Func} {Vs:Array Value} {w:World} {R:Value->World->Prop} (hf:P.funcs[f]? = some fn) (hb:fn.body.isSome=true) (hn:(fn.name == "runtime.NumGoroutine")=false)
  (h:Calls P f Vs w λe w'=>∃ V,e = .returned V/\R V w'):K5 P ((callFunc f Vs).run P w) R:=by
 obtain ⟨c,hb⟩:=Option.isSome_iff_exists.1 hb
 intro ro n o a next Q hnext
 have hrun:(callFunc f Vs).run P w = .ok (.enter f Vs) w:=by
  have hn':¬ fn.name = "runtime.NumGoroutine":=by simpa using hn
  simp [callFunc,hf,hb,hn',Result.andThen]
 rw [hrun]
 simp only [Oper.uponIn_enter]
 refine ⟨λh=>(by simp [E3,Fence.wide] at h),?_⟩
 have key:CallsIn Fence.wide (n-1) P f Vs w λe w'=>∃ V,e = .returned V/\R V w':=callsIn_wide.2 h
 have key':CallsIn (E3 ro) (n-1) P f Vs w λe w'=>∃ V,e = .returned V/\R V w':=key
 refine key'.mono ?_
 rintro e w' ⟨V,rfl,hR⟩
 exact hnext V w' hR
theorem Af1 {C:Cfg} {Γ:Ctx} {w w':World} {ret:PV} {V:Value} (hnm:∀ b,Γ.nm b=none) (hH:HR Γ [] w) (hb:Below w.heap.size w w') (hv:VP Γ (A0 []) w' ret V) (hr:ret.nms=[]):V7 C I0 Γ [] w noΦ ret [] () V w':=by
 refine ⟨Γ,noΦ,⟨hb.os,hb.tape,hb.output,hb.size,λ_ h=>h,λ_ h=>.inl h,λb g h=>(by rw [hnm] at h;cases h),λ_ h=>h.elim,λg hg _ _=>hb.block g hg,rfl,Nat.le_refl _,λb h=>(by simp at h)⟩,
  ⟨λb b' g h=>(by rw [hnm] at h;cases h),λb g h=>(by rw [hnm] at h;cases h),λg hg=>Nat.lt_of_lt_of_le (hH.stlt g hg) hb.size,λb h=>(by simp at h),λb h=>(by simp at h)⟩,hv,by rw [hr];simp,λ_ h=>h,λb g h=>(by rw [hnm] at h;cases h)⟩
theorem Qx (w:World) (n:Nat):Below w.heap.size w (w.drewN n):=⟨rfl,rfl,rfl,Nat.le_refl _,λ_ _=>rfl⟩
theorem MO (w:World) (os:Array Obj):Below w.heap.size w (grow w os):=by
 refine ⟨rfl,rfl,rfl,by simp [grow],λk hk=>?_⟩
 simp only [grow]
 grind
theorem MP (w:World) (s:ByteArray) (pos:Nat):Below w.heap.size w (w.iter s pos):=(Below.refl _ w).alloc (Nat.le_refl _) _
section
variable {Γ : Ctx} {sh : Nat -> Option Shp} {w : World}
theorem CR.arr1 {a:PV} {A:Array Value} (h:CR Γ sh w [a] A):∃ U,A = #[U]/\VP Γ sh w a U:=by
 obtain ⟨U,e,k⟩:=h.2 0 (by simp)
 refine ⟨U,?_,k⟩
 have hs:A.size=1:=h.1
 grind
theorem CR.arr2 {a b:PV} {A:Array Value} (h:CR Γ sh w [a,b] A):∃ U V,A = #[U,V]/\VP Γ sh w a U/\VP Γ sh w b V:=by
 obtain ⟨U,e,k⟩:=h.2 0 (by simp)
 obtain ⟨V,e',k'⟩:=h.2 1 (by simp)
 refine ⟨U,V,?_,k,k'⟩
 have hs:A.size=2:=h.1
 grind
theorem CR.arr3 {a b c:PV} {A:Array Value} (h:CR Γ sh w [a,b,c] A):∃ U V W,A = #[U,V,W]/\VP Γ sh w a U/\VP Γ sh w b V/\VP Γ sh w c W:=by
 obtain ⟨U,e,k⟩:=h.2 0 (by simp)
 obtain ⟨V,e',k'⟩:=h.2 1 (by simp)
 obtain ⟨W,e'',k''⟩:=h.2 2 (by simp)
 refine ⟨U,V,W,?_,k,k',k''⟩
 have hs:A.size=3:=h.1
 grind
theorem VP.mk_str (l:List UInt8):VP Γ sh w (.s (.str l)) (.string ⟨l.toArray⟩):=by
 have:=VP.s (Γ:=Γ) (sh:=sh) (w:=w) _ _ (VS.str (St:=Γ.St) (w:=w) ⟨l.toArray⟩)
 omega
theorem VP.mk_int (k:IntKind) (n:Int):VP Γ sh w (.s (.int k n)) (.int k n):=.s _ _ (.int k n)
theorem VP.mk_bool (b:Bool):VP Γ sh w (.s (.bool b)) (.bool b):=.s _ _ (.bool b)
theorem VP.mk_tup2 {a b:PV} {U V:Value} (h:VP Γ sh w a U) (k:VP Γ sh w b V):VP Γ sh w (.tup [a,b]) (.tuple #[U,V]):=
 VP.mk_tup rfl λj hj=>by grind
theorem VP.mk_tup3 {a b c:PV} {U V W:Value} (h:VP Γ sh w a U) (k:VP Γ sh w b V) (l:VP Γ sh w c W):VP Γ sh w (.tup [a,b,c]) (.tuple #[U,V,W]):=
 VP.mk_tup rfl λj hj=>by grind
end
theorem K2 {P:Program} {G:GT} {g:Nat} {fn:Func} {pf:List PV->Tr} (hf:P.funcs[g]? = some fn) (hb:fn.body.isSome=true) (hn:(fn.name == "runtime.NumGoroutine")=false)
  (h:∀ args ret Hc,F6 (pf args)=some (ret,Hc)->Hc=[]/\ret.nms=[]/\∀ C:Cfg,C.P=P->C.G=G->∀ Γ w Vs,GOK C Γ.St w->(∀ g,Γ.St g->g<w.heap.size)->CR Γ (A0 []) w args Vs->
   Calls P g Vs w λe w'=>∃ V,e = .returned V/\Below w.heap.size w w'/\VP Γ (A0 []) w' ret V):A7 P G g pf:=by
 intro args ret Hc hpf C hP hG Γ w Vs hnm hH hg hc
 obtain ⟨rfl,hr,h1⟩:=h args ret Hc hpf
 exact Ab hf hb hn ((h1 C hP hG Γ w Vs hg hH.stlt hc).mono λe w' ⟨V,he,hb,hv⟩=>⟨V,he,Af1 hnm hH hb hv hr⟩)
def PV.stab (szs:List Nat) (H:List Blk):PV->PV
 | .tup l=>.tup (Hj szs (I6 H l))
 | v=>Mh (szs.headD 0) (v.snap H)
theorem VP.stab {Γ:Ctx} {H:List Blk} {w:World} (szs:List Nat) (hH:HR Γ H w) {v:PV} {V:Value} (h:VP Γ (A0 H) w v V):VP Γ.all (A0 H) w (v.stab szs H) V:=by
 by_cases ht:∃ l,v = .tup l
 ·obtain ⟨l,rfl⟩:=ht
  obtain ⟨A,rfl,hA,hc⟩:=h.inv_tup
  simp only [PV.stab]
  have hl:(Hj szs (I6 H l)).length=l.length:=by rw [Ex,T5,List.length_map]
  refine VP.mk_tup (by rw [hl];exact hA) λj hj=>?_
  obtain ⟨U,e,k⟩:=hc j (by omega)
  refine ⟨U,e,?_⟩
  have hj':j<(I6 H l).length:=by rw [T5,List.length_map];omega
  obtain ⟨n,en⟩:=Ib szs (I6 H l) j hj' hj
  rw [en]
  have e2:(I6 H l)[j]=(l[j]'(by omega)).snap H:=by
   simp only [T5,List.getElem_map]
  rw [e2]
  exact Fx (k.snap hH)
 ·have e:v.stab szs H=Mh (szs.headD 0) (v.snap H):=by
   cases v with
   | tup l=>exact absurd ⟨l,rfl⟩ ht
   | _=>rfl
  rw [e]
  exact Fx (h.snap hH)
theorem Xl (f:List Blk->PV->PV) (hf:∀ {Γ:Ctx} {H:List Blk} {w:World},HR Γ H w->∀ {v:PV} {V:Value},VP Γ (A0 H) w v V->VP Γ.all (A0 H) w (f H v) V) {C₀:Cfg} {g:Nat} {pf:List PV->Tr} (hX:XOK C₀) (hO:Ax C₀) (hm:C₀.P.follows .mixedOrders=true)
  (h:∀ args ret Hc,F6 (pf args)=some (ret,Hc)->C1 args=[]/\Hc=[]/\ret.nms=[]/\∃ d ret' H0,evC C₀ d Unit noY g args [] ()=some (ret',H0,())/\f H0 ret'=ret):A7 C₀.P C₀.G g pf:=by
 intro args ret Hc hpf C hP hGe Γ w Vs hnm hH hG hc
 obtain ⟨hna,rfl,hnr,d,ret',H0,hev,rfl⟩:=h args ret Hc hpf
 have h0:=Ap (C₀:=C₀) (g:=g) (pf:=λa=>match evC C₀ d Unit noY g a [] () with | some (r,H,_)=>cond (C1 a).isEmpty (.ret r H) .fail | none=>.fail) hX hO hm (λa r H hr=>by
  split at hr
  ·rename_i r' H' _ he
   cases hn:(C1 a).isEmpty with
   | true=>
    rw [hn] at hr
    simp only [cond_true,F6,X9,Option.some.injEq,Prod.mk.injEq] at hr
    grind
   | false=>rw [hn] at hr;cases hr
  ·cases hr)
 refine (h0 args ret' H0 (by dsimp only;rw [hev];dsimp only;rw [hna];rfl) C hP hGe Γ w Vs hnm hH hG hc).mono ?_
 rintro V w' ⟨Γ1,Φ1,hs,hH1,hv,hvn,hi1,hd1⟩
 let Γ2:Ctx:={ Γ1.all with nm:=λ_=>none }
 have hlt:∀ g,Γ2.St g->g<w'.heap.size:=λg hg=>by
  rcases hg with hg | ⟨b,hb⟩
  ·exact hH1.stlt g hg
  ·exact (hH1.lt b g hb).2.1
 refine ⟨Γ2,Φ1,⟨hs.os,hs.tape,hs.output,hs.size,λg hg=>.inl (hs.sub g hg),λg hg=>?_,λb g h=>by simp [Γ2] at h,hs.foot,hs.frame,hs.yv,Nat.le_refl _,λb hb=>by simp at hb⟩,
  Dd (λ_=>rfl) hlt,?_,by rw [hnr];simp,hi1,λb g h=>by simp [Γ2] at h⟩
 ·rcases hg with hg | ⟨b,hb⟩
  ·exact hs.stnew g hg
  ·rcases hs.own b g hb with ⟨h',_⟩ | h'
   ·simp at h'
   ·exact .inr h'
 ·exact VP.mono (Γ:=Γ1.all) (Γ':=Γ2) (w:=w') (w':=w') (sh:=A0 H0) (ok:=λ_=>False) ⟨λ_ _=>rfl,λ_ h=>h,λ_ h=>h.elim,λ_ h=>h.elim,λ_ _ h=>h.elim,rfl⟩ (hf hH1 hv) (by rw [hnr];simp)
theorem P2 (szs:List Nat) {C₀:Cfg} {g:Nat} {pf:List PV->Tr} (hX:XOK C₀) (hO:Ax C₀) (hm:C₀.P.follows .mixedOrders=true)
  (h:∀ args ret Hc,F6 (pf args)=some (ret,Hc)->C1 args=[]/\Hc=[]/\ret.nms=[]/\∃ d ret' H0,evC C₀ d Unit noY g args [] ()=some (ret',H0,())/\ret'.stab szs H0=ret):A7 C₀.P C₀.G g pf:=
 Xl (λH v=>v.stab szs H) (λhH _ _ h=>h.stab szs hH) hX hO hm h
def Tr.Good (szs:List Nat) (args:List PV) (e:Option (PV × List Blk × Unit)):Tr->Prop
 | .ret v H=>C1 args=[]/\H=[]/\v.nms=[]/\∃ r H0,e=some (r,H0,())/\r.stab szs H0=v
 | .need c t=>c=true->Good szs args e t
 | .split c a b=>(c=true->Good szs args e a)/\(c=false->Good szs args e b)
 | .fail=>True
theorem Tr.Good.res {szs:List Nat} {args:List PV} {e:Option (PV × List Blk × Unit)} {ret:PV} {Hc:List Blk}:∀ {t:Tr},t.Good szs args e->F6 t=some (ret,Hc)->C1 args=[]/\Hc=[]/\ret.nms=[]/\∃ r H0,e=some (r,H0,())/\r.stab szs H0=ret
 | .ret v H,h,hr=>by
  obtain ⟨rfl,rfl⟩:=G1 hr
  exact h
 | .need c t,h,hr=>by
  obtain ⟨h0,hr⟩:=C6 hr
  exact res (h h0) hr
 | .split c a b,h,hr=>by
  rcases Nv hr with ⟨h0,hr⟩ | ⟨h0,hr⟩
  ·exact res (h.1 h0) hr
  ·exact res (h.2 h0) hr
theorem xf (szs:List Nat) (C₀:Cfg) {g:Nat} (pf:List PV->Tr) {ss:List (List Nat)} {l:List (Nat × (List PV->Tr))} {lo:List Nat} (hl:C₀.X=FZ l) (hx:K8 C₀.P C₀.G l) (ho:C₀.okf=okL lo) (hb:PZ C₀ lo=true) (hm:C₀.P.follows .mixedOrders=true)
  (h:∀ args,(pf args).Good szs args (evC C₀ 1 Unit noY g args [] ())) (h2:C₀.Y=Fh []:=by rfl) (h3:C₀.S=Fh []:=by rfl) (h4:C₀.Z=Fh []:=by rfl):A7 C₀.P C₀.G g (λargs=>pf (E4 ss args)):=
 A7.fix ss (P2 szs (K8.ok hl hx h2 h3 h4) (F2 ho hb) hm λargs ret Hc hr=>by
  obtain ⟨q1,q2,q3,r,H0,q4,q5⟩:=(h args).res hr
  exact ⟨q1,q2,q3,1,r,H0,q4,q5⟩)
end
section
open Go
def OQ (n:Nat) (ret:PV) (H:List Blk):Bool:=ret.nms.all (Nat.blt · n)&&H.all λb=>b.nms.all (Nat.blt · n)
theorem V7.head {C:Cfg} {σ:Type} {I:σ->(Nat->Prop)->(Nat->Prop)->World->Prop} {Γ:Ctx} {H Hc T:List Blk} {w w':World} {Φ:Nat->Prop} {s':σ} {ret:PV} {V:Value}
  (h:V7 C I Γ H w Φ ret (Hc++T) s' V w') (hl:H.length<=Hc.length) (hok:OQ Hc.length ret Hc=true):V7 C I Γ H w Φ ret Hc s' V w':=by
 obtain ⟨Γ1,Φ1,hs,hH1,hv,hvn,hi1,hd1⟩:=h
 simp only [OQ,Bool.and_eq_true,List.all_eq_true,Nat.blt_eq] at hok
 let Γ2:Ctx:={ Γ1 with nm:=λb=>if b<Hc.length then Γ1.nm b else none }
 have hnm:∀ b g,Γ2.nm b=some g->b<Hc.length/\Γ1.nm b=some g:=λb g h=>by grind
 have get:∀ b (h:b<Hc.length) (h':b<(Hc++T).length),(Hc++T)[b]=Hc[b]:=λb h h'=>List.getElem_append_left h
 have shp:∀ b,b<Hc.length->A0 Hc b=A0 (Hc++T) b:=λb hb=>by
  simp only [A0]
  grind
 have M:R8 Γ1 (A0 (Hc++T)) w' Γ2 (A0 Hc) w' (· < Hc.length):=⟨λ_ _=>rfl,λ_ h=>h,λb hb=>by simp only [Γ2];rw [if_pos hb],λb hb=>shp b hb,λ_ _ _ _=>rfl,rfl⟩
 refine ⟨Γ2,Φ1,⟨hs.os,hs.tape,hs.output,hs.size,hs.sub,hs.stnew,λb g h=>hs.own b g (hnm b g h).2,hs.foot,hs.frame,hs.yv,hl,λb hb hf=>?_⟩,
  ⟨λb b' g h1 h2=>hH1.inj b b' g (hnm b g h1).2 (hnm b' g h2).2,λb g h=>by have:=hH1.lt b g (hnm b g h).2;exact ⟨(hnm b g h).1,this.2⟩,hH1.stlt,λb hb c hc=>hok.2 _ (List.getElem_mem hb) c hc,λb hb=>?_⟩,
  hv.mono M (λb hb=>hok.1 b hb),λc hc=>hok.1 c hc,hi1,λb g h=>hd1 b g (hnm b g h).2⟩
 ·obtain ⟨m1,m2,m3⟩:=hs.keep b hb hf
  have hb2:b<Hc.length:=Nat.lt_of_lt_of_le hb hl
  exact ⟨by simp only [Γ2];rw [if_pos hb2];exact m1,by rw [shp b hb2];exact m2,m3⟩
 ·have hb':b<(Hc++T).length:=by rw [List.length_append];omega
  have:=hH1.blk b hb'
  rw [get b hb hb'] at this
  exact this.mono M (M.nm b hb) (λ_ _=>rfl) (λc hc=>hok.2 _ (List.getElem_mem hb) c hc)
theorem X4 {C₀:Cfg} {g:Nat} {pf:List PV->List Blk->Tr} (hX:XOK C₀) (hO:Ax C₀) (hm:C₀.P.follows .mixedOrders=true)
  (h:∀ args H ret Hc,F6 (pf args H)=some (ret,Hc)->Nat.ble H.length Hc.length=true/\OQ Hc.length ret Hc=true/\∀ (σ:Type) (yh:Yh σ) (s:σ),∃ d H0,evC C₀ d σ yh g args H s=some (ret,H0,s)/\H0.take Hc.length=Hc):Lq C₀.P C₀.G g pf:=by
 intro C hP hG σ I yh yv hI hy args H s ret Hc hpf Γ Φ w Vs hyv hH hg hi hd hc hn
 obtain ⟨hl,hok,h1⟩:=h args H ret Hc hpf
 obtain ⟨d,H0,hev,ht⟩:=h1 σ yh s
 rw [<-List.take_append_drop Hc.length H0,ht] at hev
 refine (Ev hX hO hm d σ I yh yv hI hy g args H s ret (Hc++H0.drop Hc.length) s hev Γ Φ w Vs hyv hH (hg.congr hG.symm) hi hd hc hn).mono ?_
 rintro V w' hr
 obtain ⟨Γ1,Φ1,hs,k1,k2,k3,k4,k5⟩:=hr.head (Nat.le_of_ble_eq_true hl) hok
 exact ⟨Γ1,Φ1,hs.congr hP.symm,k1,k2,k3,k4,k5⟩
def PV.snapQ (szc:List Nat) (H:List Blk):PV->PV
 | .ptr b 0 0=>match H[b]? with
  | some (.box cells)=>match It (Hj szc (I6 H cells)) with
   | some vs=>.s (.sp [vs] 0 0)
   | none=>.bad
  | _=>.bad
 | v=>v.snap H
def PV.stabQ (szs szc:List Nat) (H:List Blk):PV->PV
 | .tup l=>.tup (Hj szs (l.map (PV.snapQ szc H)))
 | v=>Mh (szs.headD 0) (v.snapQ szc H)
theorem VP.snapQ {Γ:Ctx} {H:List Blk} {w:World} (szc:List Nat) (hH:HR Γ H w) {v:PV} {V:Value} (h:VP Γ (A0 H) w v V):VP Γ.all (A0 H) w (v.snapQ szc H) V:=by
 unfold PV.snapQ
 split
 ·rename_i b
  split
  ·rename_i cells hb
   split
   ·rename_i vs hvs
    obtain ⟨g,cur,e,hg,hh,hcur,hcells,_⟩:=hH.box' hb
    have hV:V = .pointer (some ⟨g,0,none⟩):=by
     cases h with
     | ptrA _ _ _ g' v e sz n h' hg'=>simp [A0,hb,Blk.shp] at h'
     | ptrB _ _ g' h' hg'=>rw [hg] at hg';cases hg';rfl
    subst hV
    have hl:(Hj szc (I6 H cells)).length=cells.length:=by rw [Ex,T5,List.length_map]
    obtain ⟨f1,f2⟩:=R6 (Γ:=Γ.all) (w:=w) (sh:=A0 H) (As:=cur.toList) hvs (by rw [hl];simpa using hcur.symm) (λj hj=>by
     obtain ⟨U,e1,k⟩:=hcells j (by omega)
     have hj':j<(I6 H cells).length:=by rw [T5,List.length_map];omega
     obtain ⟨n,en⟩:=Ib szc (I6 H cells) j hj' hj
     refine ⟨U,by simpa using e1,?_⟩
     rw [en]
     have e2:(I6 H cells)[j]=(cells[j]'(by omega)).snap H:=by simp only [T5,List.getElem_map]
     rw [e2]
     exact Fx (k.snap hH))
    refine .s _ _ ?_
    have hvl:vs.length=cells.length:=by rw [f1];simpa using hcur
    have:=VS.sp (St:=Γ.all.St) (w:=w) [vs] 0 0 g 0 vs.length (λ_ j=>cur.getD j undef) (.inr ⟨b,hg⟩) (λi hi=>by
      have:i=0:=by simpa using hi
      subst this;rfl) (λi hi j hj=>?_) (λi hi j hj=>?_)
    ·simpa using this
    ·have:i=0:=by simpa using hi
     subst this
     have hj':j<cur.size:=by rw [hcur,<-hvl];exact hj
     simp [World.cell?,hh,hj']
    ·have:i=0:=by simpa using hi
     subst this
     have hj1:j<vs.length:=hj
     obtain ⟨U,e1,k⟩:=f2 j hj1
     have e3:cur.getD j undef=U:=by rw [Array.getD_eq_getD_getElem?,<-Array.getElem?_toList,e1];rfl
     rw [e3]
     exact k
   ·exact .bad _
  ·exact .bad _
 ·exact h.snap hH
theorem VP.stabQ {Γ:Ctx} {H:List Blk} {w:World} (szs szc:List Nat) (hH:HR Γ H w) {v:PV} {V:Value} (h:VP Γ (A0 H) w v V):VP Γ.all (A0 H) w (v.stabQ szs szc H) V:=by
 unfold PV.stabQ
 split
 ·rename_i l
  obtain ⟨A,rfl,hA,hc⟩:=h.inv_tup
  have hl:(Hj szs (l.map (PV.snapQ szc H))).length=l.length:=by rw [Ex,List.length_map]
  refine VP.mk_tup (by rw [hl];exact hA) λj hj=>?_
  obtain ⟨U,e,k⟩:=hc j (by omega)
  refine ⟨U,e,?_⟩
  obtain ⟨n,en⟩:=Ib szs (l.map (PV.snapQ szc H)) j (by rw [List.length_map];omega) hj
  rw [en,List.getElem_map]
  exact Fx (k.snapQ szc hH)
 ·exact Fx (h.snapQ szc hH)
theorem Xm (szs szc:List Nat) {C₀:Cfg} {g:Nat} {pf:List PV->Tr} (hX:XOK C₀) (hO:Ax C₀) (hm:C₀.P.follows .mixedOrders=true)
  (h:∀ args ret Hc,F6 (pf args)=some (ret,Hc)->C1 args=[]/\Hc=[]/\ret.nms=[]/\∃ d ret' H0,evC C₀ d Unit noY g args [] ()=some (ret',H0,())/\ret'.stabQ szs szc H0=ret):A7 C₀.P C₀.G g pf:=
 Xl (λH v=>v.stabQ szs szc H) (λhH _ _ h=>h.stabQ szs szc hH) hX hO hm h
def Tu (P:Program):List (Nat × (SV->List (List SV)->Bool × List (List SV)))->Prop
 | []=>True
 | (g,pf)::r=>GW P g pf/\Tu P r
theorem Tu.mem {P:Program}:∀ {l:List (Nat × (SV->List (List SV)->Bool × List (List SV)))} {g:Nat} {pf:SV->List (List SV)->Bool × List (List SV)},Tu P l->(g,pf)∈l->GW P g pf
 | [],_,_,_,hm=>by simp at hm
 | (n,q)::r,g,pf,h,hm=>by
  rcases List.mem_cons.1 hm with e | hm
  ·cases e;exact h.1
  ·exact Tu.mem h.2 hm
theorem Aq9 {C:Cfg} {lx:List (Nat × (List PV->Tr))} {ly:List (Nat × (List PV->List Blk->Tr))} {ls:List (Nat × (List PV->List Blk->Option (Bool × List (List PV))))} {lz:List (Nat × (SV->List (List SV)->Bool × List (List SV)))} (h1:C.X=FZ lx) (h2:C.Y=Fh ly) (h3:C.S=Fh ls) (h4:C.Z=Fh lz) (x:K8 C.P C.G lx) (y:Dx C.P C.G ly) (s:Dw C.P C.G ls) (z:Tu C.P lz):XOK C:=
 ⟨K8.x1 h1 x,Dx.ok h2 y,Dw.ok h3 s,λg pf h=>by rw [h4] at h;exact z.mem (Nu h)⟩
def Ce:List Int:=(List.range 32).map λi=>((if i % 2=0 then Lib.accLo (i / 2) else Lib.accHi (i / 2):Nat):Int)
def GX:GT:=⟨λg=>cond (Nat.beq g 1) (some (.u8,Lib.firstTab)) (cond (Nat.beq g 2) (some (.u8,Ce)) (cond (Nat.beq g 3) (some (.u64,Lib.pow10Tab)) (cond (Nat.beq g 5) (some (.u8,Lib.deBruijn64tab.map λn:Nat=>(n:Int))) none))),λg=>Nat.beq g 0⟩
def Bi8:List (Nat × Nat × Nat × Nat)->Nat->Nat->Nat × Nat
 | [],_,_=>(0,0)
 | (t,j,e,k)::r,t',j'=>cond (Nat.beq t t'&&Nat.beq j j') (e,k) (Bi8 r t' j')
def A72:List (Nat × Nat)->Nat->Option Nat
 | [],_=>none
 | (a,b)::r,i=>cond (Nat.beq a i) (some b) (A72 r i)
noncomputable def D2 (lf:Nat) (okf:List Nat) (keep:Nat->Option (List Nat)) (X:List (Nat × (List PV->Tr))) (keepR:Nat->Option (List Nat):=λ_=>none) (xp:List Nat:=[]) (keepE:Nat->Option (List Nat):=λ_=>none) (keepT:Option (List Nat):=none) (Y:List (Nat × (List PV->List Blk->Tr)):=[]) (S:List (Nat × (List PV->List Blk->Option (Bool × List (List PV)))):=[]) (lend:List Nat:=[]) (nt:List (Nat × Nat × Nat × Nat):=[]) (rw:List (Nat × Nat):=[]) (Z:List (Nat × (SV->List (List SV)->Bool × List (List SV))):=[]) (fr:List (Nat × List Nat × List Nat):=[]):Cfg:=
 { P:=Tryz.prog,G:=GX,X:=FZ X,lend:=okL lend,okf:=okL okf,lf:=lf,keep:=keep,keepR:=keepR,xp:=okL xp,keepE:=keepE,keepT:=keepT,Y:=Fh Y,S:=Fh S,nilT:=Bi8 nt,rowR:=A72 rw,Z:=Fh Z,farR:=A3 fr }
theorem follows:Tryz.prog.follows .mixedOrders=true:=by kernel_rfl
theorem ZG {n:Nat}:K4 n=true↔n<=68719476736:=by simp [K4]
theorem J3 {n:Nat} (h:n<=68719476736):K4 n=true:=ZG.2 h
theorem E0 {a b:Int} (h:a<b):ltI a b=true:=by rw [Z0];simpa using h
theorem G4 {a b:Int} (h:b<=a):ltI a b=false:=by rw [Z0];simpa using h
theorem Ay9 {a b:Int}:ltI a b=true↔a<b:=by rw [Z0];simp
theorem J1 {n:Int} (h0:-9223372036854775808<=n) (h1:n<9223372036854775808):A4 n=n:=A37 n h0 h1
theorem VK {n:Int} (h0:0<=n) (h1:n<18446744073709551616):Ap4 n=n:=by
 obtain ⟨m,rfl⟩:=Int.eq_ofNat_of_zero_le h0
 unfold Ap4;rw [A39,Nat.mod_eq_of_lt (by omega)]
theorem VJ {n:Int} (h0:0<=n) (h1:n<4294967296):Ap3 n=n:=by
 obtain ⟨m,rfl⟩:=Int.eq_ofNat_of_zero_le h0
 unfold Ap3;rw [A38,Nat.mod_eq_of_lt (by omega)]
theorem VI {n:Int} (h0:0<=n) (h1:n<65536):Od n=n:=by
 obtain ⟨m,rfl⟩:=Int.eq_ofNat_of_zero_le h0
 unfold Od;rw [VH,Nat.mod_eq_of_lt (by omega)]
theorem GE {n:Int} (h0:0<=n) (h1:n<256):wu8 n=n:=by
 obtain ⟨m,rfl⟩:=Int.eq_ofNat_of_zero_le h0
 unfold wu8;rw [Be0,Nat.mod_eq_of_lt (by omega)]
theorem C4 {a b:Int} (h:a<b:=by omega):ltI a b=true:=E0 h
theorem A6 {a b:Int} (h:b<=a:=by omega):ltI a b=false:=G4 h
theorem A5 {n:Int} (h:-9223372036854775808<=n:=by omega) (g:n<9223372036854775808:=by omega):A4 n=n:=J1 h g
theorem GD {n:Int} (h:0<=n:=by omega) (g:n<4294967296:=by omega):Ap3 n=n:=VJ h g
theorem Qs {n:Int} (h:0<=n:=by omega) (g:n<65536:=by omega):Od n=n:=VI h g
theorem Y0 {n:Int} (h:0<=n:=by omega) (g:n<256:=by omega):wu8 n=n:=GE h g
theorem Gz {α:Sort _} {c:Prop} [Decidable c] {a b:α} (h:c:=by omega):(if c then a else b)=a:=if_pos h
theorem R7 {α:Sort _} {c:Prop} [Decidable c] {a b:α} (h:¬c:=by omega):(if c then a else b)=b:=if_neg h
theorem Ap2 (n:Nat):Od (n:Int)=((n % 65536:Nat):Int):=VH n
theorem VA (k:IntKind) (a m:Nat) (h:m<=k.bits):ZI k (a:Int) (m:Int)=((a / 2 ^ m:Nat):Int):=by
 unfold ZI
 rw [Int.toNat_natCast,Nat.min_eq_left h]
 have:(2:Int) ^ m=((2 ^ m:Nat):Int):=by simp
 rw [this,Ah1]
theorem El {l h:Int} {n:Nat} (h0:0<=l) (h1:l<=h) (h2:h<=n):Z4 l h n=true:=by simp [Z4,h0,h1,h2]
theorem N7 {i:Int} {n:Nat} (h0:0<=i) (h1:i<n):inR i n=true:=by simp [inR,h0,h1]
theorem T0 {l h:Int} {n:Nat} (h0:0<=l:=by omega) (h1:l<=h:=by omega) (h2:h<=n:=by omega):Z4 l h n=true:=El h0 h1 h2
theorem P8 {i:Int} {n:Nat} (h0:0<=i:=by omega) (h1:i<n:=by omega):inR i n=true:=N7 h0 h1
end
section
open Go Go.Proofs
def Sx (r:Option (PV × List Blk × Unit)):Bool:=match r with
 | some (.s (.bool true),_,_)=>true
 | _=>false
theorem FP {r:Option (PV × List Blk × Unit)} (h:Sx r=true):∃ H,r=some (.s (.bool true),H,()):=by
 unfold Sx at h
 split at h
 ·exact ⟨_,rfl⟩
 ·cases h
theorem SX {C₀:Cfg} {g d:Nat} (hX:XOK C₀) (hO:Ax C₀) (hm:C₀.P.follows .mixedOrders=true) (h:Sx (evC C₀ d Unit noY g [] [] ())=true):A7 C₀.P C₀.G g (λargs=>match args with | []=>.ret (.s (.bool true)) [] | _=>.fail):=
 GH hX hO hm λargs ret Hc hr=>by
  cases args with
  | nil=>
   obtain ⟨rfl,rfl⟩:=G1 hr
   obtain ⟨H,e⟩:=FP h
   exact ⟨rfl,rfl,rfl,d,_,H,e,rfl⟩
  | cons a r=>cases hr
theorem Ar8 {P:Program} {t:Nat} {v:PV} {ty:Ty} (h:Yi P t v) (e:Fi P 20 t=some [ty]) (ha:Qv P t=false):∃ x,v = .s x/\ty.of x:=by
 obtain ⟨tys,l,h1,h2,h3⟩:=h
 rw [e] at h1
 simp only [Option.some.injEq] at h1
 subst h1
 rcases h3 with ⟨h3,_⟩ | ⟨_,x,rfl,rfl⟩
 ·rw [ha] at h3;cases h3
 ·simp only [Ty.ofL] at h2
  obtain ⟨v,q,h4,h5,rfl⟩:=h2
  simp only [List.cons.injEq,and_true] at h4
  subst h4
  exact ⟨_,rfl,h5⟩
end
section
open Go
def D3 (l:List By):LL:=l.map λs=>[SV.str s]
def J0 (l:List Nat):LL:=l.map λn=>[SV.int .u16 (Int.ofNat n)]
def G8 (c:UInt8):By->By->List By
 | acc,[]=>[acc]
 | acc,b::r=>if b=c then acc::G8 c [] r else G8 c (acc++[b]) r
def pcs (c:UInt8) (s:By):List By:=G8 c [] s
theorem Du (c:UInt8):∀ (s acc:By),(G8 c acc s).length=s.count c+1
 | [],acc=>rfl
 | b::r,acc=>by
  simp only [G8,List.count_cons]
  by_cases h:b=c
  ·simp [h,Du c r]
  ·simp [h,Du c r]
theorem Br (c:UInt8):∀ (s acc:By),c∉s->G8 c acc s=[acc++s]
 | [],acc,_=>by simp [G8]
 | b::r,acc,h=>by
  simp only [List.mem_cons,not_or] at h
  simp only [G8]
  rw [if_neg (λe=>h.1 e.symm),Br c r _ h.2]
  simp
theorem Se (c:UInt8):∀ (p acc s:By),c∉p->G8 c acc (p++c::s)=(acc++p)::G8 c [] s
 | [],acc,s,_=>by simp [G8]
 | b::r,acc,s,h=>by
  simp only [List.mem_cons,not_or] at h
  simp only [List.cons_append,G8]
  rw [if_neg (λe=>h.1 e.symm),Se c r _ s h.2]
  simp
theorem RU (c:UInt8) (s acc:By):G8 c acc s≠[]:=by
 intro h
 have:=Du c s acc
 rw [h] at this
 simp at this
theorem Iq (c:UInt8):∀ (s acc:By),c∉acc->∀ x∈G8 c acc s,c∉x/\x.length<=acc.length+s.length
 | [],acc,h,x,hx=>by
  simp only [G8,List.mem_singleton] at hx
  subst hx
  exact ⟨h,by simp⟩
 | b::r,acc,h,x,hx=>by
  simp only [G8] at hx
  split at hx
  ·rcases List.mem_cons.1 hx with rfl | hx
   ·exact ⟨h,by simp⟩
   ·have:=Iq c r [] (by simp) x hx
    refine ⟨this.1,?_⟩
    have:=this.2
    simp at this ⊢
    omega
  ·rename_i hb
   have:=Iq c r (acc++[b]) (by simp [h,Ne.symm hb]) x hx
   refine ⟨this.1,?_⟩
   have:=this.2
   simp at this ⊢
   omega
def Y8 (b:UInt8):UInt8:=if 65<=b/\b<=90 then b+32 else b
def C5 (s:By):By:=s.map Y8
def dig (b:UInt8):Nat:=
 if 48<=b.toNat/\b.toNat<=57 then b.toNat-48 else if 97<=b.toNat/\b.toNat<=102 then b.toNat-87 else if 65<=b.toNat/\b.toNat<=70 then b.toNat-55 else 99
def Ef:Nat:=1099511627776
def G3 (base:Nat):Nat->By->Option Nat
 | n,[]=>some n
 | n,b::r=>if dig b<base then G3 base (min (n*base+dig b) Ef) r else none
def Az (s:By):Bool:=s.getD 0 0==48&&(s.getD 1 0==120 || s.getD 1 0==88)
def Gi (s:By):Option Nat:=
 if s=[] then none else if Az s then G3 16 0 (s.drop 2) else if 1<s.length/\s.getD 0 0=48 then G3 8 0 (s.drop 1) else G3 10 0 s
def D8 (s:By):List By:=if 1<(pcs 46 s).length/\(pcs 46 s).getLastD []=[] then (pcs 46 s).dropLast else pcs 46 s
def X7 (s:By):By:=(D8 s).getLastD []
def I1 (s:By):Bool:=if Az (X7 s) then (G3 16 0 ((X7 s).drop 2)).isSome else !(X7 s).isEmpty&&(G3 10 0 (X7 s)).isSome
def FL (free:Nat):Nat->List By->Option Nat
 | _,[]=>none
 | v,p::r=>match Gi p with
  | none=>none
  | some n=>match r with
   | []=>if n<2 ^ free then some (v*2 ^ free+n) else none
   | r=>if n<=255 then FL free (v*256+n) r else none
def pnB (s:By):Option Nat:=if 4<(D8 s).length then none else FL (8*(5-(D8 s).length)) 0 (D8 s)
def oct (s:By):Option Nat:=match G3 10 0 s with
 | some n=>if n<=255/\Lib.decDigits n=s then some n else none
 | none=>none
def JT:Nat->List By->Option Nat
 | v,[]=>some v
 | v,p::r=>match oct p with
  | some n=>JT (v*256+n) r
  | none=>none
def v4B (s:By):Option Nat:=if (pcs 46 s).length=4 then JT 0 (pcs 46 s) else none
def Zf:Nat->By->Option Nat
 | n,[]=>some n
 | n,b::r=>if dig b<16 then Zf (n*16+dig b) r else none
def grp (s:By):Option Nat:=if s=[]\/4<s.length then none else Zf 0 s
def Pv (last:Bool):List By->Option (List Nat)
 | []=>some []
 | x::r=>match grp x with
  | some v=>(Pv last r).map (v::·)
  | none=>match v4B x with
   | some v=>if last=true/\r=[] then some [v / 65536,v % 65536] else none
   | none=>none
def Co (s:By) (last:Bool):Option (List Nat):=if s=[] then some [] else Pv last (pcs 58 s)
def v6B (s:By):Option (List Nat):=
 match Co (Lib.cut s [58,58]).1 (!(Lib.cut s [58,58]).2.2),Co (Lib.cut s [58,58]).2.1 true with
 | some x,some y=>if (Lib.cut s [58,58]).2.2 then (if x.length+y.length<=7 then some (x++List.replicate (8-x.length-y.length) 0++y) else none)
   else if x.length+y.length=8 then some (x++y) else none
 | _,_=>none
def Bi0 (n:Nat):UInt8:=if n<10 then UInt8.ofNat (48+n) else UInt8.ofNat (87+n)
def A98 (v:Nat):By:=if h:v<16 then [Bi0 v] else A98 (v / 16)++[Bi0 (v % 16)]
 termination_by v
 decreasing_by omega
def Bi3 (l:List Nat):By:=Lib.join (l.map A98) [58]
def Hk (n:Nat):Bool:=Nat.ble n 1114111&&(Nat.blt n 55296 || Nat.blt 57343 n)
def Tv (d k:Nat):Nat:=if h:455<d then Tv (d / 35) (k+36) else k+36*d / (d+38)
 termination_by d
 decreasing_by omega
def Cf (delta count:Nat) (first:Bool):Nat:=
 let d:=if first then delta / 700 else delta / 2
 Tv (d+d / count) 0
def thr (k bias:Nat):Nat:=max 1 (min 26 (36*(k+1)-bias))
theorem Z5 (k bias:Nat):1<=thr k bias/\thr k bias<=26:=by unfold thr;omega
def Hy (d:Nat):UInt8:=if d<26 then UInt8.ofNat (97+d) else UInt8.ofNat (22+d)
def Hi (b:UInt8):Option Nat:=
 if 97<=b.toNat/\b.toNat<=122 then some (b.toNat-97) else if 65<=b.toNat/\b.toNat<=90 then some (b.toNat-65) else if 48<=b.toNat/\b.toNat<=57 then some (b.toNat-22) else none
def P4 (q k bias:Nat):By:=
 if h:q<thr k bias then [Hy q] else Hy (thr k bias+(q-thr k bias) % (36-thr k bias))::P4 ((q-thr k bias) / (36-thr k bias)) (k+1) bias
 termination_by q
 decreasing_by
  have:=Z5 k bias
  exact Nat.lt_of_le_of_lt (Nat.div_le_self _ _) (by omega)
structure LJ where
 delta:Nat
 bias:Nat
 done:Nat
 out:By
def L7 (n basic:Nat):List Nat->LJ->LJ
 | [],s=>s
 | p::r,s=>if p<n then L7 n basic r { s with delta:=s.delta+1 }
  else if p=n then L7 n basic r { delta:=0,bias:=Cf s.delta (s.done+1) (s.done==basic),done:=s.done+1,out:=s.out++P4 s.delta 0 s.bias }
  else L7 n basic r s
def J8 (n:Nat):List Nat->Nat->Nat
 | [],m=>m
 | p::r,m=>J8 n r (if n<=p then min m p else m)
def T8 (pts:List Nat) (basic:Nat):Nat->Nat->LJ->LJ
 | 0,_,s=>s
 | f+1,n,s=>if s.done<pts.length then
   let m:=J8 n pts 1114112
   let s':=L7 m basic pts { s with delta:=s.delta+(m-n)*(s.done+1) }
   T8 pts basic f (m+1) { s' with delta:=s'.delta+1 }
  else s
def L3 (pts:List Nat):By:=(pts.filter (· < 128)).map UInt8.ofNat
def Fw (pts:List Nat):By × Nat:=
 if 256<pts.length then ([],3) else if !(pts.all Hk) then ([],2)
 else ((T8 pts (L3 pts).length 256 128 { delta:=0,bias:=72,done:=(L3 pts).length,out:=if (L3 pts).isEmpty then [] else L3 pts++[45] }).out,0)
def D1 (bias:Nat):By->Nat->Nat->Nat->Nat × By × Nat
 | [],i,w,k=>(0,[],4)
 | b::r,i,w,k=>match Hi b with
  | none=>(0,[],4)
  | some x=>if Ef<i+x*w then (0,[],19) else if x<thr k bias then (i+x*w,r,0)
   else if Ef<w*(36-thr k bias) then (0,[],19) else D1 bias r (i+x*w) (w*(36-thr k bias)) (k+1)
theorem Pk (bias:Nat):∀ (s:By) (i w k:Nat),(D1 bias s i w k).2.2=0->(D1 bias s i w k).2.1.length<s.length
 | [],i,w,k,h=>by simp [D1] at h
 | b::r,i,w,k,h=>by
  unfold D1 at h ⊢
  cases hv:Hi b with
  | none=>simp [hv] at h
  | some x=>
   simp only [hv] at h ⊢
   split at h
   ·simp at h
   ·rename_i h1
    rw [if_neg h1]
    split at h
    ·rename_i h2
     rw [if_pos h2]
     simp
    ·rename_i h2
     rw [if_neg h2]
     split at h
     ·simp at h
     ·rename_i h3
      rw [if_neg h3]
      have:=Pk bias r _ _ _ h
      simp only [List.length_cons]
      omega
def Rm (l:List Nat) (i n:Nat):List Nat:=l.take i++n::l.drop i
def O0 (s:By) (pts:List Nat) (n i bias:Nat) (first:Bool):List Nat × Nat:=
 if hs:s=[] then (pts,0) else
  let q:=D1 bias s i 1 0
  if hq:q.2.2=0 then
   let count:=pts.length+1
   let n':=n+q.1 / count
   if Hk n' then (if 256<count then ([],3) else O0 q.2.1 (Rm pts (q.1 % count) n') n' (q.1 % count+1) (Cf (q.1-i) count first) false)
   else ([],2)
  else ([],q.2.2)
 termination_by s.length
 decreasing_by exact Pk bias s i 1 0 hq
def M6:By->Nat
 | []=>0
 | b::r=>if 45∈r then M6 r+1 else 0
def R0 (s:By):List Nat × Nat:=
 if 1024<s.length then ([],3) else if s.any (λb=>Nat.ble 128 b.toNat) then ([],4)
 else if 256<M6 s then ([],3)
 else O0 (if M6 s=0 then s else s.drop (M6 s+1)) ((s.take (M6 s)).map (·.toNat)) 128 0 72 true
def W6:Nat->By->Option (List Nat)
 | 0,_=>some []
 | f+1,l=>if l=[] then some [] else if (Lib.decodeL l).1=65533/\(Lib.decodeL l).2=1 then none else (W6 f (l.drop (Lib.decodeL l).2)).map ((Lib.decodeL l).1::·)
def Qi (s:By):Option (List Nat):=W6 s.length s
def Jq (s:By):Bool:=
 (R0 s).2==0 && !((R0 s).1.any λp=>Nat.ble 65 p&&Nat.ble p 90)&&((R0 s).1.any λp=>Nat.ble 128 p)&&(Fw (R0 s).1).2==0&&(Fw (R0 s).1).1==s
def O2 (b:UInt8):Bool:=(Nat.ble 97 b.toNat&&Nat.ble b.toNat 122) || (Nat.ble 48 b.toNat&&Nat.ble b.toNat 57) || b==45 || b==95
def xnB:By:=[120,110,45,45]
def L1 (s:By):Bool:=
 !s.isEmpty&&Nat.ble s.length 63&&s.getD 0 0 != 45&&s.getD (s.length-1) 0 != 45&&s.all O2&&(!(xnB.isPrefixOf s) || Jq (s.drop 4))
def N2 (s:By):By × Nat:=match Qi s with
 | none=>([],4)
 | some p=>if 256<p.length then ([],3)
  else if p.length<s.length then (match Qi (C5 s) with
   | none=>([],14)
   | some q=>if (Fw q).2=0 then (if L1 (xnB++(Fw q).1) then (xnB++(Fw q).1,0) else ([],14)) else ([],14))
  else if L1 (C5 s) then (C5 s,0) else ([],14)
def T4:By->Option By
 | []=>some []
 | b::r=>if b=37 then (match r with
   | x::y::r'=>if dig x<16/\dig y<16 then (T4 r').map (UInt8.ofNat (16*dig x+dig y)::·) else none
   | _=>none)
  else (T4 r).map (b::·)
structure F5 where
 kind:Nat
 name:By
 v4:Nat
 v6:List Nat
 deriving DecidableEq
def z8:List Nat:=[0,0,0,0,0,0,0,0]
def O6:F5:=⟨0,[],0,z8⟩
def I9:List By->List By × Nat
 | []=>([],0)
 | x::r=>if (N2 x).2=0 then ((N2 x).1::(I9 r).1,(I9 r).2) else ([],(N2 x).2)
def M8 (s:By):By:=if s.getLast? = some 46 then s.dropLast else s
def D9 (s:By):F5 × Nat:=
 if 1024<s.length then (O6,3)
 else if s.head? = some 91 then (if s.getLast? = some 93/\2<=s.length then (match v6B ((s.take (s.length-1)).drop 1) with
   | some a=>(⟨3,[],0,a⟩,0)
   | none=>(O6,14)) else (O6,14))
 else match T4 s with
  | none=>(O6,14)
  | some t=>if I1 (M8 t) then (match pnB (M8 t) with
    | some v=>(⟨2,[],v,z8⟩,0)
    | none=>(O6,14))
   else if (I9 (pcs 46 (M8 t))).2=0 then (
    let name:=Lib.join (I9 (pcs 46 (M8 t))).1 [46]
    if 253<name.length then (O6,3) else if I1 name then (O6,14) else (⟨1,name,0,z8⟩,0))
   else (O6,(I9 (pcs 46 (M8 t))).2)
def F7 (s:By):Bool:=Nat.ble s.length 253 && !(I1 s)&&(pcs 46 s).all L1
def Ir:List By->List By
 | []=>[]
 | [_]=>[]
 | _::r=>Lib.join r [46]::Ir r
def FX (s:By):List By:=if F7 s then Ir (pcs 46 s) else []
def As7 (a b:By):Bool:=F7 a&&F7 b&&(a==b || (46::a).isSuffixOf b)
def A2 (n:Nat):Bool:=decide (n<=1000000000)
theorem AP {n:Nat}:A2 n=true↔n<=1000000000:=by simp [A2]
def isS:List SV->Bool | [.str _]=>true | _=>false
def elS (el:List SV):By:=(el.getD 0 .nilp).gS
def X6 (o:Option Nat):Nat:=o.getD 0
def u8n (c:Int):UInt8:=UInt8.ofNat c.toNat
def GA (s p:By):By:=if p.isSuffixOf s then s.take (s.length-p.length) else s
def Ut (s p:By):By:=if p.isPrefixOf s then s.drop p.length else s
def ltN (v:Int) (n:Nat):Bool:=match v with
 | .ofNat m=>Nat.ble (m+1) n
 | .negSucc _=>false
theorem O5 {v:Int} {n:Nat}:ltN v n=true↔0<=v/\v<(n:Int):=by
 cases v with
 | ofNat m=>
  simp only [ltN,Nat.ble_eq,Int.ofNat_eq_natCast]
  omega
 | negSucc m=>
  refine ⟨λh=>(by cases h),λh=>?_⟩
  have:=Int.negSucc_lt_zero m
  omega
def A58 (b:Nat):List PV->Tr
 | [.s (.int .i64 n)]=>.need (ltN n b) (.ret (.s (.str (Lib.decDigits (Int.toNat n)))) [])
 | _=>.fail
def gvs (s:By) (last:Bool):List Nat:=(Co s last).getD []
def v6c (i:Nat) (s:By):Nat:=((v6B s).getD z8).getD i 0
def A71:List SV->Bool | [.int .u16 n]=>ltN n 65536 | _=>false
def elN (el:List SV):Nat:=(el.getD 0 .nilp).gI.toNat
def ptI (n:Int):Bool:=match n with | .ofNat m=>Hk m | .negSucc _=>false
def I5 (b:UInt8):Int:=match Hi b with | some n=>n | none=>-1
def U5 (k b:Int):Int:=max 1 (min 26 (k+36-b))
def Ro:List SV->Bool | [.int .i64 _]=>true | _=>false
def elI (el:List SV):Int:=(el.getD 0 .nilp).gI
def Dc (l:List Int):By × Nat:=if 256<l.length then ([],3) else if l.all ptI then Fw (l.map Int.toNat) else ([],2)
def Eu (b:Int):By->Int->Int->Int->Int × By × Int
 | [],i,w,k=>(4,[],i)
 | c::r,i,w,k=>if I5 c<0 then (4,c::r,i) else if 1099511627776<i+I5 c*w then (19,r,i+I5 c*w)
  else if I5 c<U5 k b then (0,r,i+I5 c*w) else if 1099511627776<w*(36-U5 k b) then (19,r,i+I5 c*w)
  else Eu b r (i+I5 c*w) (w*(36-U5 k b)) (k+36)
def Wd (b:Int) (s:By) (i:Int):Int:=(Eu b s i 1 0).1
def We (b:Int) (s:By) (i:Int):By:=(Eu b s i 1 0).2.1
def Ld (b:Int) (s:By) (i:Int):Int:=(Eu b s i 1 0).2.2
def Gc (l:List (List SV)) (i:Nat) (n:Int):List (List SV):=l.take i++[SV.int .i64 n]::l.drop i
structure DS where
 rest:By
 n:Int
 i:Int
 b:Int
 st:Bool
 l:List (List SV)
def D6 (s:DS):Int × DS:=
 if Wd s.b s.rest s.i=0 then
  let c:Int:=s.l.length+1
  let x:=Ld s.b s.rest s.i
  let d:DS:={ rest:=We s.b s.rest s.i,n:=s.n+Int.tdiv x c,i:=Int.tmod x c,b:=Cf (x-s.i).toNat c.toNat (!s.st),st:=true,l:=s.l }
  if ptI d.n then (if 256<c then (3,d) else (0,{ d with i:=d.i+1,l:=Gc s.l d.i.toNat d.n })) else (2,d)
 else (Wd s.b s.rest s.i,{ s with rest:=We s.b s.rest s.i,i:=Ld s.b s.rest s.i })
def F9 (c:UInt8):By->Int
 | []=>-1
 | b::r=>if F9 c r<0 then (if b=c then 0 else -1) else F9 c r+1
def PT (l:List Nat):List (List SV):=l.map λx:Nat=>[SV.int .i64 (x:Int)]
def Pm (b:UInt8):Int:=if dig b<16 then dig b else -1
def QJ (s:By):By:=(T4 s).getD []
def M0 (s:By):F5 × Nat:=if s.getLast? = some 93/\2<=s.length then (match v6B ((s.take (s.length-1)).drop 1) with
 | some a=>(⟨3,[],0,a⟩,0)
 | none=>(O6,14)) else (O6,14)
def Ai7 (s:By):Bool:=([91]:By).isPrefixOf s
attribute [simp] E0 G4 J1 VK VJ VI GE El N7 J3
attribute [simp] vl
@[simp] theorem G0 {n:Nat} (h:n<=1000000000):A2 n=true:=AP.2 h
@[simp] theorem Zx {v:Int} {n:Nat} (h:0<=v) (h1:v<n):ltN v n=true:=O5.2 ⟨h,h1⟩
theorem Dt {n:Nat} (h:n<=1000000000:=by omega):A2 n=true:=G0 h
theorem Al {v:Int} {n:Nat} (h:0<=v:=by omega) (g:v<n:=by omega):ltN v n=true:=Zx h g
@[simp] theorem As3 {m n:Nat} (h:m+n<4611686018427387904):TP m n=true:=by simp [TP,h]
abbrev rv (v:PV) (H:List Blk):Option (PV × List Blk × Unit):=some (v,H,())
theorem M9 {n:Nat} (h:A2 n=true):n<=1000000000:=AP.1 h
theorem R1 (s:By) (i:Nat) (h:i<s.length):s.drop i=s.getD i 0::s.drop (i+1):=by
 rw [List.getD_eq_getElem?_getD,List.getElem?_eq_getElem h,Option.getD_some,List.getElem_cons_drop]
theorem AT (s:By) (i:Nat) (h:i<s.length):s.take (i+1)=s.take i++[s.getD i 0]:=by
 rw [List.take_add_one,List.getD_eq_getElem?_getD,List.getElem?_eq_getElem h]
 rfl
theorem PJ (s:By) (i:Nat) (h:i<s.length):(C5 (s.take (i+1))).map G2=(C5 (s.take i)).map G2++[G2 (Y8 (s.getD i 0))]:=by
 unfold C5
 rw [AT s i h,List.map_append,List.map_append]
 rfl
theorem O4 (b:UInt8):(b.toNat<65/\Y8 b=b)\/(90<b.toNat/\Y8 b=b)\/(65<=b.toNat/\b.toNat<=90/\((Y8 b).toNat=b.toNat+32)):=by
 unfold Y8
 by_cases h1:b.toNat<65
 ·refine .inl ⟨h1,if_neg ?_⟩
  intro h
  have:=UInt8.le_iff_toNat_le.1 h.1
  simp at this
  omega
 ·by_cases h2:90<b.toNat
  ·refine .inr (.inl ⟨h2,if_neg ?_⟩)
   intro h
   have:=UInt8.le_iff_toNat_le.1 h.2
   simp at this
   omega
  ·refine .inr (.inr ⟨by omega,by omega,?_⟩)
   rw [if_pos (by constructor<;>(rw [UInt8.le_iff_toNat_le];simp;omega)),UInt8.toNat_add]
   simp
   omega
@[simp] theorem N8 (s:By) (i:Nat):bAt s (i:Int)=((s.getD i 0).toNat:Int):=by simp [bAt]
@[simp] theorem Uc (s:By):bAt s 0=((s.getD 0 0).toNat:Int):=by simp [bAt]
@[simp] theorem Bl0 (s:By):bAt s 1=((s.getD 1 0).toNat:Int):=by simp [bAt]
theorem Fv {α:Type} (s:List α) (a b:Nat):cut s (a:Int) (b:Int)=(s.take b).drop a:=by simp [cut]
@[simp] theorem Q9 {α:Type} (s:List α) (a:Int):cut s a (s.length:Int)=s.drop a.toNat:=by simp [cut]
@[simp] theorem Hw {α:Type} (s:List α) (b:Int):cut s 0 b=s.take b.toNat:=by simp [cut]
@[simp] theorem I2 (l:List By):(D3 l).length=l.length:=by simp [D3]
@[simp] theorem Bj (l:List By) (i:Nat):gX (D3 l) i 0=l.getD i []:=by
 unfold gX gC D3
 by_cases h:i<l.length
 ·simp [List.getD_eq_getElem?_getD,List.getElem?_eq_getElem h,SV.gS]
 ·simp [List.getD_eq_getElem?_getD,List.getElem?_eq_none (show l.length<=i by omega),SV.gS]
@[simp] theorem W3 {l:List By} {i:Nat} (h:i<l.length):okE Iu (D3 l) i 0=true:=by
 unfold okE D3
 simp [List.getD_eq_getElem?_getD,List.getElem?_eq_getElem h,h,Iu,okS,SV.has]
theorem Xc (a b:List By):D3 (a++b)=D3 a++D3 b:=by simp [D3]
theorem A34 (b:UInt8):u8n (b.toNat:Int)=b:=by simp [u8n]
theorem Bc8 (b:UInt8):inR (b.toNat:Int) 256=true:=by
 have:=b.toNat_lt
 exact P8
theorem Bj5 {a b:UInt8}:((a.toNat:Int)==(b.toNat:Int))=(a==b):=by
 rw [Bool.eq_iff_iff]
 simp only [beq_iff_eq]
 constructor
 ·intro h;exact UInt8.toNat_inj.1 (by omega)
 ·intro h;rw [h]
theorem Lj (a:UInt8) (n:Nat) (h:n<256):((a.toNat:Int)==(n:Int))=(a==UInt8.ofNat n):=by
 rw [<-Bj5]
 simp [Nat.mod_eq_of_lt h]
theorem Hd (p s:By):p.isPrefixOf s=(decide (p.length<=s.length)&&(s.take p.length==p)):=by
 rw [Bool.eq_iff_iff]
 simp only [List.isPrefixOf_iff_prefix,Bool.and_eq_true,decide_eq_true_eq,beq_iff_eq]
 constructor
 ·intro h;exact ⟨h.length_le,(List.prefix_iff_eq_take.1 h).symm⟩
 ·rintro ⟨_,h⟩;exact List.prefix_iff_eq_take.2 h.symm
theorem He (p s:By):p.isSuffixOf s=(decide (p.length<=s.length)&&(s.drop (s.length-p.length)==p)):=by
 rw [Bool.eq_iff_iff]
 simp only [List.isSuffixOf_iff_suffix,Bool.and_eq_true,decide_eq_true_eq,beq_iff_eq]
 constructor
 ·intro h;exact ⟨h.length_le,(List.suffix_iff_eq_drop.1 h).symm⟩
 ·rintro ⟨_,h⟩;exact List.suffix_iff_eq_drop.2 h.symm
end
section
open Go Go.ChangeAt Go.ChangeShapes Go.Proofs Go.RowKit Go.WideShapes
set_option maxRecDepth 100000
theorem own:ownKnob Tryz.prog.godebug=none:=by kernel_rfl
theorem Aw3:laidOutB Tryz.prog=true:=by kernel_rfl
noncomputable def gTy (g:Nat):Nat:=match Tryz.prog.globals[g]? with | some x=>x.type | none=>0
noncomputable def dbT:Nat:=gTy 5
noncomputable def A18:Nat:=gTy 3
noncomputable def DG:Nat:=gTy 2
noncomputable def Au2:Nat:=gTy 1
noncomputable def DF:Nat:=match Tryz.prog.underlying DG with | some (.array _ e)=>e | _=>0
noncomputable def Ov:Array Field:=match Tryz.prog.underlying DF with | some (.struct fs)=>fs | _=>#[]
noncomputable def Yj:Field:=match Ov.toList with | a::_=>a | _=>default
noncomputable def Yk:Field:=match Ov.toList with | _::a::_=>a | _=>default
theorem A80:Ov[0]? = some Yj:=by unfold Yj Ov DF DG gTy;kernel_rfl
theorem A81:Ov[1]? = some Yk:=by unfold Yk Ov DF DG gTy;kernel_rfl
def Ba:List (String × DataW Unit):=[("math/bits.deBruijn32tab", Rows.laid_math_bits_deBruijn32tab), ("math/bits.deBruijn64tab", Rows.laid_math_bits_deBruijn64tab), ("internal/strconv.uint64pow10", Rows.laid_internal_strconv_uint64pow10), ("unicode/utf8.acceptRanges", Rows.laid_unicode_utf8_acceptRanges), ("unicode/utf8.first", Rows.laid_unicode_utf8_first)]
theorem AV {W:World} {n:String} {g:Nat} {cs:Array Value} (hg:Tryz.prog.globalNamed n=some g) (h:W.var? Tryz.prog n=some cs):∃ e x,W.heap[g]? = some (.cells cs e x):=by
 unfold World.var? at h
 rw [hg,Option.bind_some] at h
 split at h
 ·rename_i c e x hh
  simp only [Option.some.injEq] at h
  subst h
  exact ⟨e,x,hh⟩
 ·cases h
theorem Qp {W:World} {n:String} {g t e m:Nat} {k:IntKind} {zs:List Int} (hg:Tryz.prog.globalNamed n=some g) (hty:(Tryz.prog.globals[g]?).map (·.type)=some t) (ht:Tryz.prog.underlying t=some (.array m e)) (he:Tryz.prog.underlying e=some (.int k)) (hce:Tryz.prog.cellsOf e=1) (hct:Tryz.prog.cellsOf t=m)
  (h:Lib.VarReads Tryz.prog W n (Lib.tabData k zs)):∃ e x,W.heap[g]? = some (.cells (zs.map λz=>Value.int k z).toArray e x):=by
 obtain ⟨g',t',cs,fuel,p,h1,h2,h3,h4⟩:=h
 obtain rfl:=Option.some.inj (hg.symm.trans h1)
 obtain rfl:=Option.some.inj (hty.symm.trans h2)
 have hcs:=Lib.cells_of_tab ht he hce hct h4
 have:cs=(zs.map λz=>Value.int k z).toArray:=by rw [<-hcs]
 rw [this] at h3
 exact AV hg h3
theorem Xg {H:Type} {enc:TypeId × Value->H} {P:Program} {w:World} {base:Nat} {sp:Nat->Bool} {held:Bool} {fuel:Nat} {t e:TypeId} {n:Nat} {cs:List Value} {d:DataW H} {p:List MemPlace} (ht:P.underlying t=some (.array n e))
  (h:DataW.trod enc P w base sp held fuel t cs=some (d,p)):cs.length=P.cellsOf t:=by
 cases fuel with
 | zero=>simp [DataW.trod] at h
 | succ fuel=>
  simp only [DataW.trod,ht] at h
  split at h
  ·rename_i hl
   simpa using hl
  ·cases h
theorem VU {W:World} (hg : Tryz.prog.globalNamed "unicode/utf8.acceptRanges" = some 2) (h:Lib.VarReads Tryz.prog W "unicode/utf8.acceptRanges" Lib.acceptData) :
  ∃ e x,W.heap[2]? = some (.cells (Ce.map λz=>Value.int .u8 z).toArray e x):=by
 obtain ⟨g',t,cs,fuel,p,h1,h2,h3,h4⟩:=h
 obtain rfl:=Option.some.inj (hg.symm.trans h1)
 have hty:(Tryz.prog.globals[2]?).map (·.type)=some DG:=by unfold DG;kernel_rfl
 obtain rfl:=Option.some.inj (hty.symm.trans h2)
 have ht:Tryz.prog.underlying DG=some (.array 16 DF):=by unfold DG DF;kernel_rfl
 have hl:=Xg ht h4
 have hct:Tryz.prog.cellsOf DG=32:=by unfold DG;kernel_rfl
 have hce:Tryz.prog.cellsOf DF=2:=by unfold DF;kernel_rfl
 have hu:∃ fs,Tryz.prog.underlying DF=some (.struct fs)/\fs.size=2/\∀ (i:Nat) (f:Field),fs[i]? = some f->Tryz.prog.underlying f.type=some (.int .u8)/\f.offset=i/\Tryz.prog.cellsOf f.type=1:=by
  refine ⟨Ov,by unfold DF Ov;kernel_rfl,by unfold Ov;kernel_rfl,λi f hf=>?_⟩
  have:i<2:=by
   have:=(Array.getElem?_eq_some_iff.1 hf).1
   rwa [show Ov.size=2 by unfold Ov;kernel_rfl] at this
  match i,this with
  | 0,_=>
   obtain rfl:=Option.some.inj (hf.symm.trans (show Ov[0]? = some Yj from A80))
   exact ⟨by unfold Yj;kernel_rfl,by unfold Yj;kernel_rfl,by unfold Yj;kernel_rfl⟩
  | 1,_=>
   obtain rfl:=Option.some.inj (hf.symm.trans (show Ov[1]? = some Yk from A81))
   exact ⟨by unfold Yk;kernel_rfl,by unfold Yk;kernel_rfl,by unfold Yk;kernel_rfl⟩
 obtain ⟨fs,hu1,hu2,hu3⟩:=hu
 have hcs:cs.toList=Ce.map λz=>Value.int .u8 z:=by
  have hlen:(Ce.map λz=>Value.int .u8 z).length=32:=by rw [List.length_map];rfl
  apply List.ext_getElem?
  intro q
  by_cases hq:q<32
  ·obtain ⟨fuel',d,q',hdi,he⟩:=Lib.array_elem ht h4 (q / 2) (by omega)
   simp only [List.getElem?_map,List.getElem?_range (show q / 2<16 by omega),Option.map_some,Option.some.injEq] at hdi
   subst hdi
   rw [hce] at he
   have hz:=Lib.ints_of_struct hu1 hu3 (by rw [hce,hu2]) he
   have e0:=congrArg (·[q % 2]?) hz
   simp only [List.getElem?_take,List.getElem?_drop] at e0
   rw [Gz,show q / 2*2+q % 2=q by omega] at e0
   rw [e0]
   unfold Ce
   have er:∀ g:Nat->Value,(List.map g (List.range 32))[q]? = some (g q):=λg=>by
    rw [List.getElem?_map,List.getElem?_range hq]
    rfl
   rw [List.map_map,er]
   rcases Nat.mod_two_eq_zero_or_one q with h2 | h2
   ·simp [h2]
   ·simp [h2]
  ·rw [List.getElem?_eq_none (by omega),List.getElem?_eq_none (by omega)]
 have:cs=(Ce.map λz=>Value.int .u8 z).toArray:=by rw [<-hcs]
 rw [this] at h3
 exact AV hg h3
theorem OL {C:Cfg} (hC:C.G=GX) {W:World} (hL:laidMet Tryz.prog Ba W) (hsh:W.ShapedOpen Tryz.prog):GOK C (· < W.heap.size) W:=by
 have lt:∀ {g:Nat} {o:Obj},W.heap[g]? = some o->g<W.heap.size:=λh=>(Array.getElem?_eq_some_iff.1 h).1
 have r1:Lib.VarReads Tryz.prog W "math/bits.deBruijn64tab" (Lib.tabData .u8 (Lib.deBruijn64tab.map λn:Nat=>(n:Int))):=Lib.laidMet.reads hL (by rw [show (Lib.tabData .u8 (Lib.deBruijn64tab.map λn:Nat=>(n:Int)):DataW Unit)=Rows.laid_math_bits_deBruijn64tab by kernel_rfl];simp [Ba])
 have r2:Lib.VarReads Tryz.prog W "internal/strconv.uint64pow10" (Lib.tabData .u64 Lib.pow10Tab):=Lib.laidMet.reads hL (by rw [show (Lib.tabData .u64 Lib.pow10Tab:DataW Unit)=Rows.laid_internal_strconv_uint64pow10 by kernel_rfl];simp [Ba])
 have r3:Lib.VarReads Tryz.prog W "unicode/utf8.acceptRanges" Lib.acceptData:=Lib.laidMet.reads hL (by rw [show Lib.acceptData=Rows.laid_unicode_utf8_acceptRanges by kernel_rfl];simp [Ba])
 have r4:Lib.VarReads Tryz.prog W "unicode/utf8.first" (Lib.tabData .u8 Lib.firstTab):=Lib.laidMet.reads hL (by rw [show (Lib.tabData .u8 Lib.firstTab:DataW Unit)=Rows.laid_unicode_utf8_first by kernel_rfl];simp [Ba])
 have c1:=Qp (g:=5) (t:=dbT) (e:=5) (m:=64) (by kernel_rfl) (by unfold dbT;kernel_rfl) (by unfold dbT;kernel_rfl) (by kernel_rfl) (by kernel_rfl) (by unfold dbT;kernel_rfl) r1
 have c2:=Qp (g:=3) (t:=A18) (e:=168) (m:=20) (by kernel_rfl) (by unfold A18;kernel_rfl) (by unfold A18;kernel_rfl) (by kernel_rfl) (by kernel_rfl) (by unfold A18;kernel_rfl) r2
 have c3:=VU (by kernel_rfl) r3
 have c4:=Qp (g:=1) (t:=Au2) (e:=5) (m:=256) (by kernel_rfl) (by unfold Au2;kernel_rfl) (by unfold Au2;kernel_rfl) (by kernel_rfl) (by kernel_rfl) (by unfold Au2;kernel_rfl) r4
 have c5:=cell_of_shapedOpen_int (k:=.i64) (g:=0) (t:=3) (zero:=#[.int .i64 0]) hsh (of_decide_eq_true (by kernel_rfl)) (by kernel_rfl) rfl (by kernel_rfl) (by kernel_rfl) (by kernel_rfl)
 refine ⟨λg k zs h=>?_,λg h=>?_⟩
 ·rw [hC] at h
  simp only [GX] at h
  have key:∀ {g0:Nat} {k0:IntKind} {zs0:List Int},(∃ e x,W.heap[g0]? = some (.cells (zs0.map λz=>Value.int k0 z).toArray e x))->g=g0->(k0,zs0)=(k,zs)->g<W.heap.size/\∃ e x,W.heap[g]? = some (.cells (zs.map λz=>Value.int k z).toArray e x):=λhx e1 e2=>by
   subst e1
   cases e2
   obtain ⟨e,x,hx⟩:=hx
   exact ⟨lt hx,e,x,hx⟩
  cases b1:Nat.beq g 1 with
  | true=>rw [b1,cond_true] at h;exact key c4 (Nat.eq_of_beq_eq_true b1) (Option.some.inj h)
  | false=>
   rw [b1,cond_false] at h
   cases b2:Nat.beq g 2 with
   | true=>rw [b2,cond_true] at h;exact key c3 (Nat.eq_of_beq_eq_true b2) (Option.some.inj h)
   | false=>
    rw [b2,cond_false] at h
    cases b3:Nat.beq g 3 with
    | true=>rw [b3,cond_true] at h;exact key c2 (Nat.eq_of_beq_eq_true b3) (Option.some.inj h)
    | false=>
     rw [b3,cond_false] at h
     cases b4:Nat.beq g 5 with
     | true=>rw [b4,cond_true] at h;exact key c1 (Nat.eq_of_beq_eq_true b4) (Option.some.inj h)
     | false=>rw [b4,cond_false] at h;cases h
 ·rw [hC] at h
  have e:=Nat.eq_of_beq_eq_true h
  subst e
  obtain ⟨m,hm⟩:=c5
  refine ⟨?_,m,hm⟩
  apply Classical.byContradiction
  intro hge
  simp [World.cell?,Array.getElem?_eq_none (Nat.le_of_not_lt hge)] at hm
theorem Qc (os:Os) (args:Array Value):((World.laidAll Tryz.prog os Ba).forCall (λ_ _=>0) ⟨#[],args,[]⟩).Shaped Tryz.prog:=
 World.shaped_of_ZipB (by kernel_rfl) (by kernel_rfl)
theorem Xv (os:Os) (args:Array Value):laidMetH Tryz.prog Ba ((World.laidAll Tryz.prog os Ba).forCall (λ_ _=>0) ⟨#[],args,[]⟩).memory:=by
 rw [MakeChecks.laidMetH_plain _ _ _ (by kernel_rfl)]
 exact laidMet_laidAll _ (by kernel_rfl) (by kernel_rfl)
theorem PA {H:Type} {enc:TypeId × Value->H} {os:Os} (started:os.Started) {C:Cfg} (hCP:C.P=Tryz.prog) (hCG:C.G=GX) (hX:XOK C) (hO:Ax C) {f tb:Nat} {fn:Func} {c:Code} {s:ChangeSpec} {conds:List PathCond} {apart fresh handsOn again:Bool} (noInit:Tryz.prog.inits.idxOf? f=none) (hfn:Tryz.prog.funcs[f]? = some fn) (hb:fn.body=some c) (hname:(fn.name == "runtime.NumGoroutine")=false)
  (hp:∀ t∈fn.params.toList,(Tryz.prog.readableRec t=true/\t<Tryz.prog.types.size)/\(Fi Tryz.prog 20 t).isSome=true) (hres:fn.resultTypes = #[tb]) (hbool:Tryz.prog.underlying tb=some .bool) (hvars:s.vars=[])
  (hspec:∀ ds:List (DataW H),ds.length=fn.params.toList.length->s.fn H ds = { results:=[.lit (.bool true)],args:=ds })
  (wit:Array Value) (fuel:Nat) (hok:Input.okWideB Tryz.prog ((World.laidAll Tryz.prog os Ba).forCall (λ_ _=>0) ⟨#[],wit,[]⟩) f ⟨#[],wit,[]⟩=true)
  (IV:s.preB enc Tryz.prog fn conds apart ((World.laidAll Tryz.prog os Ba).forCall (λ_ _=>0) ⟨#[],wit,[]⟩).memory wit fuel=true)
  (hsz:s.sizedB enc Tryz.prog fn apart ((World.laidAll Tryz.prog os Ba).forCall (λ_ _=>0) ⟨#[],wit,[]⟩).memory wit fuel=true)
  (hev:∀ args,Fk Tryz.prog fn.params.toList args->∃ d Hc,evC C d Unit noY f args [] ()=some (.s (.bool true),Hc,())) :
  ReturnsInHanded {} Tryz.checked os f .any (λw args=>(s.pre enc Tryz.prog fn conds apart w args/\laidMetH Tryz.prog Ba w)/\sizedMet enc Tryz.prog fn (OpenSpec.ofChange s) apart w args) (s.post enc Tryz.prog fn apart fresh handsOn again):=by
 obtain ⟨P,G,X,lend,okf,lf,keep,keepR,xp,keepE,keepT,Y,S,nt,rw0⟩:=C
 simp only at hCP hCG
 subst hCP
 refine returnsInHanded_of_calls (C:=Tryz.checked) own started noInit
  (ChangeSpec.witness_shaped (enc:=enc) (C:=Tryz.checked) (os:=os) (X:=λw _=>laidMetH Tryz.prog Ba w) false (World.laidAll Tryz.prog os Ba) wit fuel (World.laidAll_os _ _ _) (Qc os wit) hok IV hsz (Xv os wit)) ?_
 intro w tape i _ hsh _ hok IV hholds
 obtain ⟨_,_,_,fn',hfn',_,_,_,_,Ms⟩:=hok
 have e:fn'=fn:=Option.some.inj (hfn'.symm.trans hfn)
 subst e
 obtain ⟨⟨⟨ds,gs,before,hw,hc⟩,hx⟩,hz⟩:=IV
 have hw':=DataW.Whole.of_heap (w':=w.forCall tape i) (by rfl) hw
 have hL:laidMet Tryz.prog Ba (w.forCall tape i):=by
  rw [MakeChecks.laidMetH_plain _ _ _ (by kernel_rfl)] at hx
  exact laidMet.of_heap (w':=w.forCall tape i) (by rfl) hx
 refine (Af0 (apart:=apart) (fresh:=fresh) (handsOn:=handsOn) (again:=again) hX hO follows Aw3 hfn hb hname hp hres hbool hvars hspec hev (w.forCall tape i) (OL hCG hL hsh) w.heap.size i.args ds gs before Ms hw').mono λe W' ⟨v,he,hp⟩=>?_
 subst he
 exact ChangeSpec.post_blind hp
end
section
open Go Go.Proofs
set_option maxRecDepth 100000
section
def Kg:List PV->Tr
 | [.s (.str s),.s (.str p),.s (.int .i64 v),.s (.int .i64 n)]=>.need (A2 (List.length s)) (.need ((List.length p)==1) (.need (v==(0:Int)) (.need (n==((-1):Int)) (.ret (.vw 0 0 (List.length (pcs (List.getD p 0 0) s))) [.arr false 9 1 (D3 (pcs (List.getD p 0 0) s))]))))
 | _=>.fail
def Oi (args:List PV):Tr:=Kg (E4 [[0],[0],[0],[0]] args)
def Kl:List PV->Tr
 | [.s (.str s),.s (.str p)]=>.need (A2 (List.length s)) (.need ((List.length p)==1) (.ret (.vw 0 0 (List.length (pcs (List.getD p 0 0) s))) [.arr false 9 1 (D3 (pcs (List.getD p 0 0) s))]))
 | _=>.fail
def Oq (args:List PV):Tr:=Kl (E4 [[0],[0]] args)
def CC:List PV->Tr
 | [.s (.str s),.s (.str p)]=>.need (A2 (List.length s)) (.ret (.s (.bool (List.isPrefixOf p s))) [])
 | _=>.fail
def LX (args:List PV):Tr:=CC (E4 [[0],[0]] args)
def BI:List PV->Tr
 | [.s (.str s),.s (.str p)]=>.need (A2 (List.length s)) (.ret (.s (.bool (List.isPrefixOf p s))) [])
 | _=>.fail
def BH (args:List PV):Tr:=BI (E4 [[0],[0]] args)
def CE:List PV->Tr
 | [.s (.str s),.s (.str p)]=>.need (A2 (List.length s)) (.ret (.s (.bool (List.isSuffixOf p s))) [])
 | _=>.fail
def Ab3 (args:List PV):Tr:=CE (E4 [[0],[0]] args)
def Tm:List PV->Tr
 | [.s (.str s),.s (.str p)]=>.need (A2 (List.length s)) (.ret (.s (.str (GA s p))) [])
 | _=>.fail
def TG (args:List PV):Tr:=Tm (E4 [[0],[0]] args)
def Ts:List PV->Tr
 | [.s (.str s),.s (.str p)]=>.need (A2 (List.length s)) (.ret (.s (.str (GA s p))) [])
 | _=>.fail
def DD (args:List PV):Tr:=Ts (E4 [[0],[0]] args)
def Ti:List PV->Tr
 | [.s (.str s),.s (.str p)]=>.need (A2 (List.length s)) (.ret (.tup [.s (.str (Ut s p)),.s (.bool (List.isPrefixOf p s))]) [])
 | _=>.fail
def TE (args:List PV):Tr:=Ti (E4 [[0],[0]] args)
def AZ:List PV->Tr
 | [.s (.str s),.s (.str p)]=>.need (A2 (List.length s)) (.ret (.tup [.s (.str (Ut s p)),.s (.bool (List.isPrefixOf p s))]) [])
 | _=>.fail
def Aa4 (args:List PV):Tr:=AZ (E4 [[0],[0]] args)
def CY:List PV->Tr
 | [.s (.str s),.s (.str p)]=>.need (A2 (List.length s)) (.ret (.s (.int .i64 (Lib.index s p))) [])
 | _=>.fail
def Tp (args:List PV):Tr:=CY (E4 [[0],[0]] args)
def CW:List PV->Tr
 | [.s (.str s),.s (.str p)]=>.need ((List.length p)==1) (.ret (.s (.int .i64 (↑(List.count (List.getD p 0 0) s):Int))) [])
 | _=>.fail
def ME (args:List PV):Tr:=CW (E4 [[0],[0]] args)
def Tb:List PV->Tr
 | [.s (.str s),.s (.int .i64 n)]=>.fail
 | _=>.fail
def Eo (args:List PV):Tr:=Tb (E4 [[0],[0]] args)
def Oh:List PV->Tr
 | [.s (.str s),.s (.str p),.s (.int .i64 v),.s (.int .i64 n)]=>.need (A2 (List.length s)) (.need ((List.length p)==1) (.need (v==(0:Int)) (.need (n==((-1):Int)) (.ret (.s (.sl false false 1 (D3 (pcs (List.getD p 0 0) s)))) []))))
 | _=>.fail
def GQ (args:List PV):Tr:=Oh (E4 [[0],[0],[0],[0]] args)
def Oo:List PV->Tr
 | [.s (.str s),.s (.str p)]=>.need (A2 (List.length s)) (.need ((List.length p)==1) (.ret (.s (.sl false false 1 (D3 (pcs (List.getD p 0 0) s)))) []))
 | _=>.fail
def Lp (args:List PV):Tr:=Oo (E4 [[0],[0]] args)
def BM:List PV->Tr
 | [.s (.int .i64 n)]=>.need (ltN n 4294967296) (.ret (.s (.str (Lib.decDigits (Int.toNat n)))) [])
 | _=>.fail
def Aa9 (args:List PV):Tr:=BM (E4 [[0]] args)
def CB:List PV->Tr
 | [.s (.str s)]=>.need (A2 (List.length s)) (.ret (.s (.str (C5 s))) [])
 | _=>.fail
def CA (args:List PV):Tr:=CB (E4 [[0]] args)
def BG:List PV->Tr
 | [.s (.str s)]=>.need (A2 (List.length s)) (.ret (.s (.bool (Az s))) [])
 | _=>.fail
def LQ (args:List PV):Tr:=BG (E4 [[0]] args)
def BB:List PV->Tr
 | [.s (.str s),.s (.int .i64 base)]=>.need (A2 (List.length s)) (.need (ltN base 17) (.ret (.tup [.s (.int .i64 (↑(X6 (G3 (Int.toNat base) 0 s)):Int)),.s (.bool (Option.isSome (G3 (Int.toNat base) 0 s)))]) []))
 | _=>.fail
def BA (args:List PV):Tr:=BB (E4 [[0],[0]] args)
def LY:List PV->Tr
 | [.s (.str s)]=>.need (A2 (List.length s)) (.ret (.tup [.s (.int .i64 (↑(X6 (Gi s)):Int)),.s (.bool (Option.isSome (Gi s)))]) [])
 | _=>.fail
def Ab6 (args:List PV):Tr:=LY (E4 [[0]] args)
def Tn:List PV->Tr
 | [.s (.str s)]=>.need (A2 (List.length s)) (.ret (.s (.sl false false 1 (D3 (D8 s)))) [])
 | _=>.fail
def CL (args:List PV):Tr:=Tn (E4 [[0]] args)
def Kj:List PV->Tr
 | [.s (.str s)]=>.need (A2 (List.length s)) (.ret (.s (.bool (I1 s))) [])
 | _=>.fail
def Ep (args:List PV):Tr:=Kj (E4 [[0]] args)
def CS:List PV->Tr
 | [.s (.str s)]=>.need (A2 (List.length s)) (.ret (.tup [.s (.int .u32 (↑(X6 (pnB s)):Int)),.s (.bool (Option.isSome (pnB s)))]) [])
 | _=>.fail
def Ab9 (args:List PV):Tr:=CS (E4 [[0]] args)
def MF:List PV->Tr
 | [.s (.str s)]=>.need (A2 (List.length s)) (.ret (.tup [.s (.int .u32 (↑(X6 (v4B s)):Int)),.s (.bool (Option.isSome (v4B s)))]) [])
 | _=>.fail
def A62 (args:List PV):Tr:=MF (E4 [[0]] args)
def Bg6:List PV->Tr
 | [.s (.str s),.s (.int .u8 c)]=>.need (A2 (List.length s)) (.need (inR c 256) (.ret (.s (.sl false false 1 (D3 (pcs (u8n c) s)))) []))
 | _=>.fail
def Bk9:List PV->Tr
 | [.s (.int .u8 b)]=>.need (inR b 256) (.ret (.s (.int .i64 (↑(dig (u8n b)):Int))) [])
 | _=>.fail
def BD:List PV->Tr
 | [.s (.str s)]=>.need (A2 (List.length s)) (.ret (.tup [.s (.int .u16 (↑(X6 (grp s)):Int)),.s (.bool (Option.isSome (grp s)))]) [])
 | _=>.fail
def Aa5 (args:List PV):Tr:=BD (E4 [[0]] args)
def Tc:List PV->Tr
 | [.s (.str s),.s (.bool last)]=>.need (A2 (List.length s)) (.ret (.tup [.s (.sl (List.isEmpty (gvs s last)) (List.isEmpty (gvs s last)) 1 (J0 (gvs s last))),.s (.bool (Option.isSome (Co s last)))]) [])
 | _=>.fail
def TA (args:List PV):Tr:=Tc (E4 [[0],[0]] args)
def MG:List PV->Tr
 | [.s (.str s)]=>.need (A2 (List.length s)) (.ret (.tup [.agg [.s (.int .u16 (↑(v6c 0 s):Int)),.s (.int .u16 (↑(v6c 1 s):Int)),.s (.int .u16 (↑(v6c 2 s):Int)),.s (.int .u16 (↑(v6c 3 s):Int)),.s (.int .u16 (↑(v6c 4 s):Int)),.s (.int .u16 (↑(v6c 5 s):Int)),.s (.int .u16 (↑(v6c 6 s):Int)),.s (.int .u16 (↑(v6c 7 s):Int))],.s (.bool (Option.isSome (v6B s)))]) [])
 | _=>.fail
def A63 (args:List PV):Tr:=MG (E4 [[0]] args)
def Bh1:List PV->Tr
 | [.s (.sl ds_z ds_t 0 ds),.s (.int .u64 v),.s (.int .i64 b),.s (.bool neg),.s (.bool app)]=>.need (ltN v 65536) (.need (b==(16:Int)) (.need (not neg) (.need (not app) (.ret (.tup [.s (.sl true true 1 List.nil),.s (.str (A98 (Int.toNat v)))]) []))))
 | _=>.fail
def Tq:List PV->Tr
 | [.s (.sl l_z l_t 1 l),.s (.str p)]=>.need (List.all l isS) (.need (A2 (List.length (Lib.join (List.map elS l) p))) (.need (A2 (List.length l)) (.ret (.s (.str (Lib.join (List.map elS l) p))) [])))
 | _=>.fail
def DA (args:List PV):Tr:=Tq (E4 [[1],[0]] args)
def CX:List PV->Tr
 | [.s (.str s),.s (.str p)]=>.need (A2 (List.length s)) (.ret (.tup [.s (.str ((Lib.cut s p)).1),.s (.str (((Lib.cut s p)).2).1),.s (.bool (((Lib.cut s p)).2).2)]) [])
 | _=>.fail
def Kk (args:List PV):Tr:=CX (E4 [[0],[0]] args)
def Bl2:List PV->Tr
 | [.s (.sl l_z l_t 1 l)]=>.need (List.all l A71) (.need (Nat.ble (List.length l) 8) (.ret (.s (.str (Bi3 (List.map elN l)))) []))
 | _=>.fail
def Om:List PV->Tr
 | [.s (.int .i64 n)]=>.ret (.s (.bool (ptI n))) []
 | _=>.fail
def Hn (args:List PV):Tr:=Om (E4 [[0]] args)
def Ol:List PV->Tr
 | [.s (.int .i64 d),.s (.int .i64 c),.s (.bool f)]=>.need (ltN d 1152921504606846976) (.need (ltN c 1000000) (.need (ltI (0:Int) c) (.ret (.s (.int .i64 (↑(Cf (Int.toNat d) (Int.toNat c) f):Int))) [])))
 | _=>.fail
def Hm (args:List PV):Tr:=Ol (E4 [[0],[0],[0]] args)
def CO:List PV->Tr
 | [.s (.int .i64 d)]=>.need (ltN d 36) (.ret (.s (.int .u8 (↑(UInt8.toNat (Hy (Int.toNat d))):Int))) [])
 | _=>.fail
def LZ (args:List PV):Tr:=CO (E4 [[0]] args)
def CV:List PV->Tr
 | [.s (.int .u8 b)]=>.need (inR b 256) (.ret (.s (.int .i64 (I5 (u8n b)))) [])
 | _=>.fail
def MD (args:List PV):Tr:=CV (E4 [[0]] args)
def CU:List PV->Tr
 | [.s (.int .i64 b)]=>.ret (.fnr (Fn.func 201) [] [.ptr 1 0 0,.ptr 0 0 0]) [.box [.s (.int .i64 b)],.box [.s (.int .i64 (0:Int))]]
 | _=>.fail
def To (args:List PV):Tr:=CU (E4 [[0]] args)
def Iy:List PV->List Blk->Tr
 | [.ptr 0 0 0,.ptr 1 0 0],[.box [.s (.int .i64 k)],.box [.s (.int .i64 b)]]=>.need (ltN k 1000000000000) (.need (ltN b 1000000) (.ret (.s (.int .i64 (U5 k b))) [.box [.s (.int .i64 (Int.add k (36:Int)))],.box [.s (.int .i64 b)]]))
 | _,_=>.fail
def CJ:List PV->List Blk->Tr
 | [.fl 0,.s (.int .i64 q),.s (.int .i64 b)],[.arr z 5 1 l]=>.need (ltN q 1152921504606846976) (.need (ltN b 1000000) (.need (Nat.ble (List.length l) 100000) (.ret (.fl 0) [.arr z 5 1 (List.append l (List.map G2 (P4 (Int.toNat q) 0 (Int.toNat b))))])))
 | _,_=>.fail
def CP:List PV->Tr
 | [.s (.sl p_z p_t 1 p)]=>.need (List.all p Ro) (.ret (.tup [.s (.str ((Dc (List.map elI p))).1),.s (.int .i64 (↑((Dc (List.map elI p))).2:Int))]) [])
 | _=>.fail
def MA (args:List PV):Tr:=CP (E4 [[1]] args)
def CZ:List PV->List Blk->Tr
 | [.fl 0,.s (.int .i64 i),.fl 1],[.arr z 3 1 l,.arr false 3 1 [[.int .i64 n]]]=>.need (ltN i (Nat.add (List.length l) 1)) (.need (Nat.ble (List.length l) 100000) (.ret (.fl 0) [.arr z 3 1 (Gc l (Int.toNat i) n),.arr false 3 1 [[.int .i64 n]]]))
 | _,_=>.fail
def BC:List PV->List Blk->Tr
 | [.ptr 0 0 0],[.box [.s (.str rest),.fl 1,.s (.int .i64 n),.s (.int .i64 i),.s (.int .i64 b),.s (.bool st)],.arr z 3 1 l]=>.need (A2 (List.length rest)) (.need (ltN b 1000000) (.need (ltN i 1099511627777) (.ret (.s (.int .i64 (Wd b rest i))) [.box [.s (.str (We b rest i)),.fl 1,.s (.int .i64 n),.s (.int .i64 (Ld b rest i)),.s (.int .i64 b),.s (.bool st)],.arr z 3 1 l])))
 | _,_=>.fail
def Sl:List PV->List Blk->Tr
 | [.ptr 0 0 0],[.box [.s (.str rest),.fl 1,.s (.int .i64 n),.s (.int .i64 i),.s (.int .i64 b),.s (.bool st)],.arr z 3 1 l]=>.need (A2 (List.length rest)) (.need (ltN b 1000000) (.need (ltN i 1099511627777) (.need (ltN n 1152921504606846976) (.need (Nat.ble (List.length l) 100000) (.ret (.s (.int .i64 ((D6 (DS.mk rest n i b st l))).1)) [.box [.s (.str (DS.rest ((D6 (DS.mk rest n i b st l))).2)),.fl 1,.s (.int .i64 (DS.n ((D6 (DS.mk rest n i b st l))).2)),.s (.int .i64 (DS.i ((D6 (DS.mk rest n i b st l))).2)),.s (.int .i64 (DS.b ((D6 (DS.mk rest n i b st l))).2)),.s (.bool (DS.st ((D6 (DS.mk rest n i b st l))).2))],.arr z 3 1 (DS.l ((D6 (DS.mk rest n i b st l))).2)])))))
 | _,_=>.fail
def Ok:List PV->Tr
 | [.s (.str s),.s (.int .u8 c)]=>.need (A2 (List.length s)) (.need (inR c 256) (.ret (.s (.int .i64 (F9 (u8n c) s))) []))
 | _=>.fail
def GS (args:List PV):Tr:=Ok (E4 [[0],[0]] args)
def Tg:List PV->Tr
 | [.s (.str s),.s (.int .u8 c)]=>.need (A2 (List.length s)) (.need (inR c 256) (.ret (.s (.int .i64 (F9 (u8n c) s))) []))
 | _=>.fail
def Sm (args:List PV):Tr:=Tg (E4 [[0],[0]] args)
def CN:List PV->Tr
 | [.s (.str s)]=>.need (A2 (List.length s)) (.ret (.tup [.s (.sl (List.isEmpty ((R0 s)).1) (List.isEmpty ((R0 s)).1) 1 (PT ((R0 s)).1)),.s (.int .i64 (↑((R0 s)).2:Int))]) [])
 | _=>.fail
def Ab8 (args:List PV):Tr:=CN (E4 [[0]] args)
def GP:List PV->Tr
 | [.s (.str t)]=>.fail
 | _=>.fail
def Ln (args:List PV):Tr:=GP (E4 [[0]] args)
def Tl:List PV->Tr
 | [.s (.str t),.s (.str p),.s (.int .i64 n)]=>.ret (.fnr (Fn.func 106) [] [.ptr 1 0 0,.ptr 0 0 0,.ptr 2 0 0]) [.box [.s (.str t)],.box [.s (.str p)],.box [.s (.int .i64 n)]]
 | _=>.fail
def CD (args:List PV):Tr:=Tl (E4 [[0],[0],[0]] args)
def DB:List PV->Tr
 | [.s (.str t),.s (.str p)]=>.ret (.fnr (Fn.func 106) [] [.ptr 1 0 0,.ptr 0 0 0,.ptr 2 0 0]) [.box [.s (.str t)],.box [.s (.str p)],.box [.s (.int .i64 (0:Int))]]
 | _=>.fail
def On (args:List PV):Tr:=DB (E4 [[0],[0]] args)
def Fm:List PV->List Blk->Option (Bool × List (List PV))
 | [.yd,.ptr 0 0 0,.ptr 1 0 0,.ptr 2 0 0],[.box [.s (.str p)],.box [.s (.str t)],.box [.s (.int .i64 n)]]=>some (((A2 (List.length t))&&(((List.length p)==1)&&(n==(0:Int)))),List.map (λ(x:By)=>([.s (.str x)]:List PV)) (pcs (List.getD p 0 0) t))
 | _,_=>none
def BJ:List PV->Tr
 | [.s (.str t)]=>.ret (.fnr (Fn.func 76) [] [.ptr 0 0 0]) [.box [.s (.str t)]]
 | _=>.fail
def Aa7 (args:List PV):Tr:=BJ (E4 [[0]] args)
def BK:List PV->List Blk->Option (Bool × List (List PV))
 | [.yd,.ptr 0 0 0],[.box [.s (.str t)]]=>some ((A2 (List.length t)),List.map (λ(x:By)=>([.s (.str x)]:List PV)) (FX t))
 | _,_=>none
def Tk:List PV->Tr
 | [.s (.str s)]=>.need (A2 (List.length s)) (.ret (.s (.bool (Jq s))) [])
 | _=>.fail
def TF (args:List PV):Tr:=Tk (E4 [[0]] args)
def CG:List PV->Tr
 | [.s (.str s)]=>.need (A2 (List.length s)) (.ret (.s (.bool (L1 s))) [])
 | _=>.fail
def CF (args:List PV):Tr:=CG (E4 [[0]] args)
def Ou:List PV->Tr
 | [.s (.str s)]=>.need (A2 (List.length s)) (.ret (.s (.bool (Option.isSome (Qi s)))) [])
 | _=>.fail
def GV (args:List PV):Tr:=Ou (E4 [[0]] args)
def Ot:List PV->Tr
 | [.s (.str s)]=>.need (A2 (List.length s)) (.ret (.s (.int .i64 (↑(Lib.runeCountL s):Int))) [])
 | _=>.fail
def GU (args:List PV):Tr:=Ot (E4 [[0]] args)
def BP:List PV->Tr
 | [.s (.str s)]=>.need (A2 (List.length s)) (.ret (.tup [.s (.str ((N2 s)).1),.s (.int .i64 (↑((N2 s)).2:Int))]) [])
 | _=>.fail
def LU (args:List PV):Tr:=BP (E4 [[0]] args)
def BF:List PV->Tr
 | [.s (.int .u8 b)]=>.need (inR b 256) (.ret (.s (.int .i64 (Pm (u8n b)))) [])
 | _=>.fail
def Aa6 (args:List PV):Tr:=BF (E4 [[0]] args)
def BE:List PV->Tr
 | [.s (.str s)]=>.need (A2 (List.length s)) (.ret (.tup [.s (.str (QJ s)),.s (.bool (Option.isSome (T4 s)))]) [])
 | _=>.fail
def LP (args:List PV):Tr:=BE (E4 [[0]] args)
def Td:List PV->Tr
 | [.s (.str s)]=>.need (A2 (List.length s)) (.need (Ai7 s) (.ret (.tup [.agg [.s (.int .i64 (↑(F5.kind ((M0 s)).1):Int)),.s (.str (F5.name ((M0 s)).1)),.s (.int .u32 (↑(F5.v4 ((M0 s)).1):Int)),.s (.int .u16 (↑(List.getD (F5.v6 ((M0 s)).1) 0 0):Int)),.s (.int .u16 (↑(List.getD (F5.v6 ((M0 s)).1) 1 0):Int)),.s (.int .u16 (↑(List.getD (F5.v6 ((M0 s)).1) 2 0):Int)),.s (.int .u16 (↑(List.getD (F5.v6 ((M0 s)).1) 3 0):Int)),.s (.int .u16 (↑(List.getD (F5.v6 ((M0 s)).1) 4 0):Int)),.s (.int .u16 (↑(List.getD (F5.v6 ((M0 s)).1) 5 0):Int)),.s (.int .u16 (↑(List.getD (F5.v6 ((M0 s)).1) 6 0):Int)),.s (.int .u16 (↑(List.getD (F5.v6 ((M0 s)).1) 7 0):Int))],.s (.int .i64 (↑((M0 s)).2:Int))]) []))
 | _=>.fail
def TB (args:List PV):Tr:=Td (E4 [[0]] args)
def Oj:List PV->Tr
 | [.s (.str s)]=>.need (A2 (List.length s)) (.ret (.tup [.agg [.s (.int .i64 (↑(F5.kind ((D9 s)).1):Int)),.s (.str (F5.name ((D9 s)).1)),.s (.int .u32 (↑(F5.v4 ((D9 s)).1):Int)),.s (.int .u16 (↑(List.getD (F5.v6 ((D9 s)).1) 0 0):Int)),.s (.int .u16 (↑(List.getD (F5.v6 ((D9 s)).1) 1 0):Int)),.s (.int .u16 (↑(List.getD (F5.v6 ((D9 s)).1) 2 0):Int)),.s (.int .u16 (↑(List.getD (F5.v6 ((D9 s)).1) 3 0):Int)),.s (.int .u16 (↑(List.getD (F5.v6 ((D9 s)).1) 4 0):Int)),.s (.int .u16 (↑(List.getD (F5.v6 ((D9 s)).1) 5 0):Int)),.s (.int .u16 (↑(List.getD (F5.v6 ((D9 s)).1) 6 0):Int)),.s (.int .u16 (↑(List.getD (F5.v6 ((D9 s)).1) 7 0):Int))],.s (.int .i64 (↑((D9 s)).2:Int))]) [])
 | _=>.fail
def GR (args:List PV):Tr:=Oj (E4 [[0]] args)
def LS:List PV->Tr
 | [.s (.str s)]=>.need (A2 (List.length s)) (.ret (.s (.bool (F7 s))) [])
 | _=>.fail
def TC (args:List PV):Tr:=LS (E4 [[0]] args)
end
section
variable {σ R : Type} (lf : Nat) (cl : E1) (yh : Yh σ) (s : σ) (k : Out -> St σ -> Option R)
noncomputable abbrev Y1:Code:=F0 Tryz.f191
noncomputable def R9 (lf:Nat):Cfg:=D2 lf [191] (A3 [(5,[0,1,0,0,10,0])]) [] (A3 [(16,[2,0]),(15,[0,3,10,0]),(10,[0,3,10,0]),(12,[0,3,10,0]),(14,[0,3,10,0]),(8,[2,0]),(13,[0,3,1,8,0,32]),(11,[0,3,1,8,0,18]),(9,[0,3,1,8,0,5]),(7,[0,3,1,8,0]),(6,[0,3,0,9,0]),(5,[0,3,10,0,0]),(4,[0,3,10,0]),(3,[0,3]),(2,[2,0]),(1,[0,12]),(0,[0])]) [] (A3 [(0,[4]),(1,[0,3,10,0]),(2,[0,3,10,0])]) (some [2,0]) [] [] []
noncomputable def Mm {R:Type} (s0:By) (v1 b2 n3 n4:Int) (b5:Bool) (k0:By->Int->Int->Int->Option R) (k1:Unit->Option R):Option R:=cond b5 (vl (wu8 ((wu8 (b2-65))+10)) λn'4=>vl (bOr .u16 (Ju .u16 v1 (4:Int)) (Od n'4)) λn'5=>k0 s0 n'5 n3 n4) (k1 ())
abbrev Zg (b:Code):Prop:=∀ (k:Out->St σ->Option R) s0 v1 b2 n3 n4 b5,A8 (R9 lf) cl yh b ⟨gp [(0,pS s0),(3,p16 v1),(1,p8 b2),(8,pI n3),(0,pI n4),(32,pB b5)] 15,[],s⟩ k=Mm s0 v1 b2 n3 n4 b5 (λs0 v1 n2 n3=>k .normal ⟨gp [(0,pS s0),(3,p16 v1),(10,pI n2),(0,pI n3)] 48,[],s⟩) (λ_=>k .ret ⟨gp [(2,p16 (0:Int)),(0,pB false)] 61,[],s⟩)
theorem OD:Zg (R:=R) lf cl yh s (cd [1,1,1,0,1,0,0,1,1,0,0,1,1,0,1,1,1,1,1] Y1):=by
 intro k s0 v1 b2 n3 n4 b5;unfold Mm;kernel_rfl
noncomputable def Mn {R:Type} (s0:By) (v1 b2 n3 n4:Int) (b5:Bool) (k0:By->Int->Int->Int->Option R) (k1:Unit->Option R):Option R:=cond b5 (vl (wu8 ((wu8 (b2-97))+10)) λn'2=>vl (bOr .u16 (Ju .u16 v1 (4:Int)) (Od n'2)) λn'3=>k0 s0 n'3 n3 n4) (cond (not (ltI b2 65)) (Mm s0 v1 b2 n3 n4 (not (ltI 70 b2)) (λs'6 v'7 n'8 n'9=>k0 s'6 v'7 n'8 n'9) (λ_=>k1 ())) (Mm s0 v1 b2 n3 n4 false (λs'10 v'11 n'12 n'13=>k0 s'10 v'11 n'12 n'13) (λ_=>k1 ())))
abbrev Pu (b:Code):Prop:=∀ (k:Out->St σ->Option R) s0 v1 b2 n3 n4 b5,A8 (R9 lf) cl yh b ⟨gp [(0,pS s0),(3,p16 v1),(1,p8 b2),(8,pI n3),(0,pI n4),(18,pB b5)] 29,[],s⟩ k=Mn s0 v1 b2 n3 n4 b5 (λs0 v1 n2 n3=>k .normal ⟨gp [(0,pS s0),(3,p16 v1),(10,pI n2),(0,pI n3)] 48,[],s⟩) (λ_=>k .ret ⟨gp [(2,p16 (0:Int)),(0,pB false)] 61,[],s⟩)
theorem OE (b_1110100110011011111:Code) (h_grpc_j0:Zg (R:=R) lf cl yh s b_1110100110011011111):Pu (R:=R) lf cl yh s (cd [1,1,1,0,1,0,0,1,1,0,0,1,1,0,1,1,1] (S7 [1,1,1,0,1,0,0,1,1,0,0,1,1,0,1,1,1,1,1] b_1110100110011011111 Y1)):=by
 intro k s0 v1 b2 n3 n4 b5;unfold Mn;simp only [<-h_grpc_j0 k];kernel_rfl
theorem OF:Pu (R:=R) lf cl yh s (cd [1,1,1,0,1,0,0,1,1,0,0,1,1,0,1,1,1] Y1):=by
 intro k s0 v1 b2 n3 n4 b5;exact Eq.trans (by kernel_rfl) (OE lf cl yh s (cd [1,1,1,0,1,0,0,1,1,0,0,1,1,0,1,1,1,1,1] Y1) (OD lf cl yh s) k s0 v1 b2 n3 n4 b5)
noncomputable def Mo {R:Type} (s0:By) (v1 b2 n3 n4:Int) (b5:Bool) (k0:By->Int->Int->Int->Option R) (k1:Unit->Option R):Option R:=cond b5 (vl (Od (wu8 (b2-48))) λn'0=>vl (bOr .u16 (Ju .u16 v1 (4:Int)) n'0) λn'1=>k0 s0 n'1 n3 n4) (cond (not (ltI b2 97)) (Mn s0 v1 b2 n3 n4 (not (ltI 102 b2)) (λs'14 v'15 n'16 n'17=>k0 s'14 v'15 n'16 n'17) (λ_=>k1 ())) (Mn s0 v1 b2 n3 n4 false (λs'18 v'19 n'20 n'21=>k0 s'18 v'19 n'20 n'21) (λ_=>k1 ())))
abbrev Jd (b:Code):Prop:=∀ (k:Out->St σ->Option R) s0 v1 b2 n3 n4 b5,A8 (R9 lf) cl yh b ⟨gp [(0,pS s0),(3,p16 v1),(1,p8 b2),(8,pI n3),(0,pI n4),(5,pB b5)] 42,[],s⟩ k=Mo s0 v1 b2 n3 n4 b5 (λs0 v1 n2 n3=>k .normal ⟨gp [(0,pS s0),(3,p16 v1),(10,pI n2),(0,pI n3)] 48,[],s⟩) (λ_=>k .ret ⟨gp [(2,p16 (0:Int)),(0,pB false)] 61,[],s⟩)
theorem OG (b_11101001100110111:Code) (h_grpc_j1:Pu (R:=R) lf cl yh s b_11101001100110111):Jd (R:=R) lf cl yh s (cd [1,1,1,0,1,0,0,1,1,0,0,1,1,0,1] (S7 [1,1,1,0,1,0,0,1,1,0,0,1,1,0,1,1,1] b_11101001100110111 Y1)):=by
 intro k s0 v1 b2 n3 n4 b5;unfold Mo;simp only [<-h_grpc_j1 k];kernel_rfl
theorem OH:Jd (R:=R) lf cl yh s (cd [1,1,1,0,1,0,0,1,1,0,0,1,1,0,1] Y1):=by
 intro k s0 v1 b2 n3 n4 b5;exact Eq.trans (by kernel_rfl) (OG lf cl yh s (cd [1,1,1,0,1,0,0,1,1,0,0,1,1,0,1,1,1] Y1) (OF lf cl yh s) k s0 v1 b2 n3 n4 b5)
noncomputable def Bk {R:Type} (lf n:Nat) (s0:By) (v1 n2 n3:Int) (k0:Unit->Option R) (k1:Int->Option R):Option R:=match n with | 0=>none | n+1=>cond (ltI n3 n2) (cond (inR n3 s0.length) (cond (not (ltI (bAt s0 n3) (48:Int))) (Mo s0 v1 (bAt s0 n3) n2 n3 (not (ltI 57 (bAt s0 n3))) (λs'22 v'23 n'24 n'25=>vl (A4 (n'25+1)) λn'26=>Bk lf n s'22 v'23 n'24 n'26 k0 k1) (λ_=>k0 ())) (Mo s0 v1 (bAt s0 n3) n2 n3 false (λs'27 v'28 n'29 n'30=>vl (A4 (n'30+1)) λn'31=>Bk lf n s'27 v'28 n'29 n'31 k0 k1) (λ_=>k0 ()))) none) (k1 v1)
theorem OI (b_111010011001101:Code) (h_grpc_j2:Jd (R:=R) lf cl yh s b_111010011001101) (n:Nat) (s0:By) (v1 n2 n3:Int):G9 0 ((R9 lf).keep 5) (bd (R9 lf) cl yh (cd [1,1,1,0,1,0,0] (S7 [1,1,1,0,1,0,0,1,1,0,0,1,1,0,1] b_111010011001101 Y1))) n ⟨gp [(0,pS s0),(3,p16 v1),(10,pI n2),(0,pI n3)] 48,[],s⟩ k =
 Bk lf n s0 v1 n2 n3 (λ_=>k .ret ⟨gp [(2,p16 (0:Int)),(0,pB false)] 61,[],s⟩) (λv0=>k (.exit 0) ⟨gp [(4,p16 v0)] 60,[],s⟩):=by
 induction n generalizing s0 v1 n2 n3 with
 | zero=>rfl
 | succ n ih=>rw [Bk];exact let K0:=(M3 2 (M3 1 (N1 (R9 lf) cl yh (cd [1,1,1,0,1,0,0,1,1,1] Y1) (lpK 0 ((R9 lf).keep 5) (bd (R9 lf) cl yh (cd [1,1,1,0,1,0,0] (S7 [1,1,1,0,1,0,0,1,1,0,0,1,1,0,1] b_111010011001101 Y1))) n k))));(Eq.trans (by kernel_rfl) (A1 (A1 (A1 ((h_grpc_j2 K0 s0 v1 (bAt s0 n3) n2 n3 (not (ltI 57 (bAt s0 n3)))).trans (congr (congr rfl (fx4 λs'22 v'23 n'24 n'25=>(Eq.trans (by kernel_rfl) (C2 λn'26=>(ih s'22 v'23 n'24 n'26))))) (by kernel_rfl))) ((h_grpc_j2 K0 s0 v1 (bAt s0 n3) n2 n3 false).trans (congr (congr rfl (fx4 λs'27 v'28 n'29 n'30=>(Eq.trans (by kernel_rfl) (C2 λn'31=>(ih s'27 v'28 n'29 n'31))))) (by kernel_rfl)))) rfl) rfl))
noncomputable def Ah8 {R:Type} (lf:Nat) (s0:By) (k0:Int->Bool->Option R):Option R:=cond (s0==[]) (k0 0 false) (cond (ltI 4 (s0.length:Int)) (k0 0 false) (Bk lf lf s0 0 (s0.length:Int) 0 (λ_=>k0 0 false) (λv'32=>k0 v'32 true)))
theorem Au7 (b_111010011001101:Code) (h_grpc_j2:Jd (R:=PV × List Blk × σ) lf cl yh s b_111010011001101) (s0:By):A8 (R9 lf) cl yh (cd [] (S7 [1,1,1,0,1,0,0,1,1,0,0,1,1,0,1] b_111010011001101 Y1)) ⟨[pS s0]++tps 64,[],s⟩ (K9 (R9 lf) Tryz.f191)=Ah8 lf s0 (λr0 r1=>some (.tup [p16 r0,pB r1],[],s)):=by
 unfold Ah8;exact (Eq.trans (by kernel_rfl) (A1 rfl (A1 rfl ((OI lf cl yh s (M3 0 (N1 (R9 lf) cl yh (cd [1,1,1,1] Y1) (K9 (R9 lf) Tryz.f191))) b_111010011001101 h_grpc_j2 lf s0 0 (s0.length:Int) 0).trans (by kernel_rfl)))))
theorem Au8 (d:Nat) (s0):evC (R9 lf) (d+1) σ yh 191 [pS s0] [] s=Ah8 lf s0 (λr0 r1=>some (.tup [p16 r0,pB r1],[],s)):=
 (evE (fn:=Tryz.f191) (by kernel_rfl)).trans (Eq.trans (by kernel_rfl) (Au7 lf (evC (R9 lf) d) yh s (cd [1,1,1,0,1,0,0,1,1,0,0,1,1,0,1] Y1) (OH lf (evC (R9 lf) d) yh s) s0))
noncomputable abbrev TL:Code:=F0 Tryz.f179
noncomputable def Fs (lf:Nat):Cfg:=D2 lf [179] (A3 [(6,[1,2,0,0,0,10,0,0])]) [(117,Lp),(191,Aa5),(192,A62)] (A3 [(16,[4,0]),(15,[1,4,0,10,0,0]),(14,[6]),(13,[4,0]),(12,[6,5,39]),(11,[1,4,0,0,3,0]),(10,[1,4,0,10,0,0]),(9,[1,4,0,0,0,0,7,0,0,9]),(8,[1,4,0,0,0,0,0,6,0,0]),(7,[1,4,0,0,0,8,0,0]),(6,[1,4,0,10,0,0,0]),(5,[1,4,0,10,0,0]),(4,[1,4,0]),(3,[0,0,4]),(2,[4,0]),(1,[0,0,13]),(0,[0,0])]) [191,192] (A3 [(0,[6]),(1,[1,4,0,10,0,0])]) (some [4,0]) [] [] []
noncomputable def Ak {R:Type} (lf n:Nat) (last0:Bool) (l1:LL) (n2 n3:Int) (l4:LL) (k0:LL->Option R) (k1:LL->Option R):Option R:=match n with | 0=>none | n+1=>cond (ltI n3 n2) (cond (inR n3 l1.length) (cond (okE Iu l1 (Int.toNat n3) 0) (cond (A2 (List.length (gX l1 (Int.toNat n3) 0))) (vl (↑(X6 (grp (gX l1 (Int.toNat n3) 0))):Int) λn'3=>cond (Option.isSome (grp (gX l1 (Int.toNat n3) 0))) (cond (K4 (l4.length+1)) (Ak lf n last0 l1 n2 (A4 (n3+1)) (l4++[[(SV.int .u16 n'3)]]) k0 k1) none) (cond (A2 (List.length (gX l1 (Int.toNat n3) 0))) (vl (↑(X6 (v4B (gX l1 (Int.toNat n3) 0))):Int) λn'5=>cond (not (Option.isSome (v4B (gX l1 (Int.toNat n3) 0)))) (k0 l4) (cond (not last0) (k0 l4) (vl (A4 ((l1.length:Int)-1)) λn'7=>cond (ltI n3 n'7) (k0 l4) (vl (ZI .u32 n'5 (16:Int)) λn'8=>cond (K4 (l4.length+2)) (k1 (l4++[[(SV.int .u16 (Od n'8))],[(SV.int .u16 (Od n'5))]])) none)))) none)) none) none) none) (k1 l4)
theorem IQ (n last0 l1 n2 n3 l4):G9 1 ((Fs lf).keep 6) (bd (Fs lf) cl yh (cd [1,0,1,1,1,1,0,1,0,0] TL)) n ⟨gp [(1,pB last0),(4,.fl 0),(0,.s (.sl false false 1 l1)),(10,.s (.sl false false 1 l1)),(0,pI n2),(0,pI n3)] 42,[.arr true 25 1 l4],s⟩ k =
 Ak lf n last0 l1 n2 n3 l4 (λl0=>k .ret ⟨gp [(4,.fl 1),(0,pB false)] 57,[.arr true 25 1 l0,.arr true 25 1 []],s⟩) (λl0=>k (.exit 0) ⟨gp [(6,.fl 0)] 56,[.arr true 25 1 l0],s⟩):=by
 induction n generalizing last0 l1 n2 n3 l4 with
 | zero=>rfl
 | succ n ih=>rw [Ak];simp only [<-ih];kernel_rfl
noncomputable def TU {R:Type} (lf:Nat) (s0:By) (last1:Bool) (k0:LL->Option R) (k1:LL->Option R):Option R:=cond (s0==[]) (k0 []) (cond (A2 s0.length) (cond (1==1) (vl (D3 (pcs (List.getD ([58]:List UInt8) 0 0) s0)) λl'1=>Ak lf lf last1 l'1 (l'1.length:Int) 0 [] (λl'9=>k1 l'9) (λl'10=>k0 l'10)) none) none)
theorem Ah9 (d:Nat) (s0 last1):evC (Fs lf) (d+1) σ yh 179 [pS s0,pB last1] [] s=TU lf s0 last1 (λl0=>some (.tup [.fl 0,pB true],[.arr true 25 1 l0],s)) (λl0=>some (.tup [.fl 1,pB false],[.arr true 25 1 l0,.arr true 25 1 []],s)):=by
 refine (evE (fn:=Tryz.f179) (by kernel_rfl)).trans ?_
 generalize evC (Fs lf) d=cl
 unfold TU;exact (Eq.trans (by kernel_rfl) (A1 rfl (A1 (A1 (C2 λl'1=>((IQ lf cl yh s (M3 0 (N1 (Fs lf) cl yh (cd [1,0,1,1,1,1,1] TL) (K9 (Fs lf) Tryz.f179))) lf last1 l'1 (l'1.length:Int) 0 []).trans (by kernel_rfl))) rfl) rfl)))
noncomputable abbrev Ad5:Code:=F0 Tryz.f155
noncomputable def Qz (lf:Nat):Cfg:=D2 lf [155] (A3 []) [(50,Kk),(179,TA)] (A3 [(10,[2,0]),(9,[2,1]),(8,[2,1,5]),(7,[2,0]),(6,[2,1,3,1,45]),(5,[2,1,2,0,0,0,0,0]),(4,[2,1,2,0,0,0,0]),(3,[2,1,1,0,0,0]),(2,[2,1,0,0,0]),(1,[0,1,1]),(0,[0,1])]) [50] (A3 []) (some [2,0]) [] [] []
noncomputable def Iv {R:Type} (x1 y3 l5:LL) (k0:LL->LL->Option R):Option R:=cond (decide (l5.length=8)) (cond (decide (8<=l5.length)) (vl ((List.take 0 l5)++((List.take 8 x1)++(List.drop (0+(min x1.length 8)) l5))) λl'9=>vl (A4 ((8:Int)-(y3.length:Int))) λn'10=>cond (decide (l'9.length=8)) (cond (Z4 n'10 (8:Int) 8) (cond (decide (((Int.toNat n'10)+(8-(Int.toNat n'10)))<=l'9.length)) (vl ((List.take (Int.toNat n'10) l'9)++((List.take (8-(Int.toNat n'10)) y3)++(List.drop ((Int.toNat n'10)+(min y3.length (8-(Int.toNat n'10)))) l'9))) λl'11=>cond ((decide (8=(l'11.length*1)))&&(okS ⟨true,true,[.int .u16,.int .u16,.int .u16,.int .u16,.int .u16,.int .u16,.int .u16,.int .u16]⟩ (List.flatten l'11) 0)) (vl (SV.gI (List.getD (List.flatten l'11) 0 SV.nilp)) λn'12=>vl (SV.gI (List.getD (List.flatten l'11) 1 SV.nilp)) λn'13=>vl (SV.gI (List.getD (List.flatten l'11) 2 SV.nilp)) λn'14=>vl (SV.gI (List.getD (List.flatten l'11) 3 SV.nilp)) λn'15=>vl (SV.gI (List.getD (List.flatten l'11) 4 SV.nilp)) λn'16=>vl (SV.gI (List.getD (List.flatten l'11) 5 SV.nilp)) λn'17=>vl (SV.gI (List.getD (List.flatten l'11) 6 SV.nilp)) λn'18=>vl (SV.gI (List.getD (List.flatten l'11) 7 SV.nilp)) λn'19=>cond (decide (8=(l5.length*1))) (vl (O9 1 l5.length [(SV.int .u16 n'12),(SV.int .u16 n'13),(SV.int .u16 n'14),(SV.int .u16 n'15),(SV.int .u16 n'16),(SV.int .u16 n'17),(SV.int .u16 n'18),(SV.int .u16 n'19)]) λl'20=>k0 l'20 l'11) none) none) none) none) none) none) none
abbrev KV (b:Code):Prop:=∀ (k:Out->St σ->Option R) x_z0 x1 y_z2 y3 b4 l5,A8 (Qz lf) cl yh b ⟨gp [(2,.ptr 0 0 0),(1,.ptr 1 0 0),(3,.s (.sl x_z0 x_z0 1 x1)),(1,.s (.sl y_z2 y_z2 1 y3)),(45,pB b4)] 11,[.arr false 26 1 l5,.arr false 26 1 l5],s⟩ k=Iv x1 y3 l5 (λl0 l1=>k .ret ⟨gp [(2,.ptr 0 0 0),(0,pB true)] 64,[.arr false 26 1 l0,.arr false 26 1 l1],s⟩)
theorem ZV:KV (R:=R) lf cl yh s (cd [1,1,1,1,1,1,1] Ad5):=by
 intro k x_z0 x1 y_z2 y3 b4 l5;unfold Iv;kernel_rfl
noncomputable def v6p {R:Type} (lf:Nat) (s0:By) (k0:Int->Int->Int->Int->Int->Int->Int->Int->Bool->LL->LL->Option R):Option R:=cond (A2 s0.length) (vl ((Lib.cut s0 ([58,58]:List UInt8))).1 λs'2=>vl (((Lib.cut s0 ([58,58]:List UInt8))).2).1 λs'3=>cond (A2 s'2.length) (vl (J0 (gvs s'2 (not (((Lib.cut s0 ([58,58]:List UInt8))).2).2))) λl'5=>cond (A2 s'3.length) (vl (A4 ((l'5.length:Int)+(↑(List.length (J0 (gvs s'3 true))):Int))) λn'7=>cond (not (Option.isSome (Co s'2 (not (((Lib.cut s0 ([58,58]:List UInt8))).2).2)))) (k0 0 0 0 0 0 0 0 0 false (List.replicate 8 [(SV.int .u16 (0:Int))]) (List.replicate 8 [(SV.int .u16 (0:Int))])) (cond (not (Option.isSome (Co s'3 true))) (k0 0 0 0 0 0 0 0 0 false (List.replicate 8 [(SV.int .u16 (0:Int))]) (List.replicate 8 [(SV.int .u16 (0:Int))])) (cond (not (((Lib.cut s0 ([58,58]:List UInt8))).2).2) (cond (n'7 != 8) (k0 0 0 0 0 0 0 0 0 false (List.replicate 8 [(SV.int .u16 (0:Int))]) (List.replicate 8 [(SV.int .u16 (0:Int))])) (cond (((Lib.cut s0 ([58,58]:List UInt8))).2).2 (cond (ltI 7 n'7) (k0 0 0 0 0 0 0 0 0 false (List.replicate 8 [(SV.int .u16 (0:Int))]) (List.replicate 8 [(SV.int .u16 (0:Int))])) (Iv l'5 (J0 (gvs s'3 true)) (List.replicate 8 [(SV.int .u16 (0:Int))]) (λl'21 l'22=>cond ((decide (8=(l'21.length*1)))&&(okS ⟨true,true,[.int .u16,.int .u16,.int .u16,.int .u16,.int .u16,.int .u16,.int .u16,.int .u16]⟩ (List.flatten l'21) 0)) (k0 (SV.gI (List.getD (List.flatten l'21) 0 SV.nilp)) (SV.gI (List.getD (List.flatten l'21) 1 SV.nilp)) (SV.gI (List.getD (List.flatten l'21) 2 SV.nilp)) (SV.gI (List.getD (List.flatten l'21) 3 SV.nilp)) (SV.gI (List.getD (List.flatten l'21) 4 SV.nilp)) (SV.gI (List.getD (List.flatten l'21) 5 SV.nilp)) (SV.gI (List.getD (List.flatten l'21) 6 SV.nilp)) (SV.gI (List.getD (List.flatten l'21) 7 SV.nilp)) true l'21 l'22) none))) (Iv l'5 (J0 (gvs s'3 true)) (List.replicate 8 [(SV.int .u16 (0:Int))]) (λl'23 l'24=>cond ((decide (8=(l'23.length*1)))&&(okS ⟨true,true,[.int .u16,.int .u16,.int .u16,.int .u16,.int .u16,.int .u16,.int .u16,.int .u16]⟩ (List.flatten l'23) 0)) (k0 (SV.gI (List.getD (List.flatten l'23) 0 SV.nilp)) (SV.gI (List.getD (List.flatten l'23) 1 SV.nilp)) (SV.gI (List.getD (List.flatten l'23) 2 SV.nilp)) (SV.gI (List.getD (List.flatten l'23) 3 SV.nilp)) (SV.gI (List.getD (List.flatten l'23) 4 SV.nilp)) (SV.gI (List.getD (List.flatten l'23) 5 SV.nilp)) (SV.gI (List.getD (List.flatten l'23) 6 SV.nilp)) (SV.gI (List.getD (List.flatten l'23) 7 SV.nilp)) true l'23 l'24) none)))) (cond (((Lib.cut s0 ([58,58]:List UInt8))).2).2 (cond (ltI 7 n'7) (k0 0 0 0 0 0 0 0 0 false (List.replicate 8 [(SV.int .u16 (0:Int))]) (List.replicate 8 [(SV.int .u16 (0:Int))])) (Iv l'5 (J0 (gvs s'3 true)) (List.replicate 8 [(SV.int .u16 (0:Int))]) (λl'25 l'26=>cond ((decide (8=(l'25.length*1)))&&(okS ⟨true,true,[.int .u16,.int .u16,.int .u16,.int .u16,.int .u16,.int .u16,.int .u16,.int .u16]⟩ (List.flatten l'25) 0)) (k0 (SV.gI (List.getD (List.flatten l'25) 0 SV.nilp)) (SV.gI (List.getD (List.flatten l'25) 1 SV.nilp)) (SV.gI (List.getD (List.flatten l'25) 2 SV.nilp)) (SV.gI (List.getD (List.flatten l'25) 3 SV.nilp)) (SV.gI (List.getD (List.flatten l'25) 4 SV.nilp)) (SV.gI (List.getD (List.flatten l'25) 5 SV.nilp)) (SV.gI (List.getD (List.flatten l'25) 6 SV.nilp)) (SV.gI (List.getD (List.flatten l'25) 7 SV.nilp)) true l'25 l'26) none))) (Iv l'5 (J0 (gvs s'3 true)) (List.replicate 8 [(SV.int .u16 (0:Int))]) (λl'27 l'28=>cond ((decide (8=(l'27.length*1)))&&(okS ⟨true,true,[.int .u16,.int .u16,.int .u16,.int .u16,.int .u16,.int .u16,.int .u16,.int .u16]⟩ (List.flatten l'27) 0)) (k0 (SV.gI (List.getD (List.flatten l'27) 0 SV.nilp)) (SV.gI (List.getD (List.flatten l'27) 1 SV.nilp)) (SV.gI (List.getD (List.flatten l'27) 2 SV.nilp)) (SV.gI (List.getD (List.flatten l'27) 3 SV.nilp)) (SV.gI (List.getD (List.flatten l'27) 4 SV.nilp)) (SV.gI (List.getD (List.flatten l'27) 5 SV.nilp)) (SV.gI (List.getD (List.flatten l'27) 6 SV.nilp)) (SV.gI (List.getD (List.flatten l'27) 7 SV.nilp)) true l'27 l'28) none)))))) none) none) none
theorem Bd3 (b_1111111:Code) (h_v6p_j0:KV (R:=PV × List Blk × σ) lf cl yh s b_1111111) (s0:By):A8 (Qz lf) cl yh (cd [] (S7 [1,1,1,1,1,1,1] b_1111111 Ad5)) ⟨[pS s0]++tps 67,[],s⟩ (K9 (Qz lf) Tryz.f155)=v6p lf s0 (λr0 r1 r2 r3 r4 r5 r6 r7 r8 l9 l10=>some (.tup [.agg [p16 r0,p16 r1,p16 r2,p16 r3,p16 r4,p16 r5,p16 r6,p16 r7],pB r8],[.arr false 26 1 l9,.arr false 26 1 l10],s)):=by
 unfold v6p;exact let K0:=(K9 (Qz lf) Tryz.f155);(Eq.trans (by kernel_rfl) (A1 (C2 λs'2=>(C2 λs'3=>(A1 (C2 λl'5=>(A1 (C2 λn'7=>(A1 rfl (A1 rfl (A1 (A1 rfl (A1 (A1 rfl ((h_v6p_j0 K0 (List.isEmpty (gvs s'2 (not (((Lib.cut s0 ([58,58]:List UInt8))).2).2))) l'5 (List.isEmpty (gvs s'3 true)) (J0 (gvs s'3 true)) (ltI 7 n'7) (List.replicate 8 [(SV.int .u16 (0:Int))])).trans (by kernel_rfl))) ((h_v6p_j0 K0 (List.isEmpty (gvs s'2 (not (((Lib.cut s0 ([58,58]:List UInt8))).2).2))) l'5 (List.isEmpty (gvs s'3 true)) (J0 (gvs s'3 true)) false (List.replicate 8 [(SV.int .u16 (0:Int))])).trans (by kernel_rfl)))) (A1 (A1 rfl ((h_v6p_j0 K0 (List.isEmpty (gvs s'2 (not (((Lib.cut s0 ([58,58]:List UInt8))).2).2))) l'5 (List.isEmpty (gvs s'3 true)) (J0 (gvs s'3 true)) (ltI 7 n'7) (List.replicate 8 [(SV.int .u16 (0:Int))])).trans (by kernel_rfl))) ((h_v6p_j0 K0 (List.isEmpty (gvs s'2 (not (((Lib.cut s0 ([58,58]:List UInt8))).2).2))) l'5 (List.isEmpty (gvs s'3 true)) (J0 (gvs s'3 true)) false (List.replicate 8 [(SV.int .u16 (0:Int))])).trans (by kernel_rfl))))))) rfl)) rfl))) rfl))
theorem Bd4 (d:Nat) (s0):evC (Qz lf) (d+1) σ yh 155 [pS s0] [] s=v6p lf s0 (λr0 r1 r2 r3 r4 r5 r6 r7 r8 l9 l10=>some (.tup [.agg [p16 r0,p16 r1,p16 r2,p16 r3,p16 r4,p16 r5,p16 r6,p16 r7],pB r8],[.arr false 26 1 l9,.arr false 26 1 l10],s)):=
 (evE (fn:=Tryz.f155) (by kernel_rfl)).trans (Eq.trans (by kernel_rfl) (Bd3 lf (evC (Qz lf) d) yh s (cd [1,1,1,1,1,1,1] Ad5) (ZV lf (evC (Qz lf) d) yh s) s0))
noncomputable def Uj (lf:Nat):Cfg:=D2 lf [184] (A3 []) [] (A3 [(1,[2]),(0,[0])]) [] (A3 []) (some [2]) [] [] []
noncomputable def FM {R:Type} (lf:Nat) (n0:Int) (k0:Bool->Option R):Option R:=cond (not (ltI n0 0)) (cond (not (ltI 1114111 n0)) (cond (ltI n0 55296) (k0 true) (k0 (ltI 57343 n0))) (k0 false)) (k0 false)
theorem YZ (d:Nat) (n0):evC (Uj lf) (d+1) σ yh 184 [pI n0] [] s=FM lf n0 (λr0=>some (pB r0,[],s)):=by
 refine (evE (fn:=Tryz.f184) (by kernel_rfl)).trans ?_
 generalize evC (Uj lf) d=cl
 unfold FM;kernel_rfl
noncomputable abbrev Ho:Code:=F0 Tryz.f186
noncomputable def Q0 (lf:Nat):Cfg:=D2 lf [186] (A3 [(6,[0,5,0])]) [] (A3 [(9,[6]),(8,[0,6]),(7,[0,6]),(6,[0,6,11]),(5,[0,6]),(4,[0]),(2,[0,0]),(3,[0,0]),(1,[0,0,6]),(0,[0,0,0])]) [] (A3 [(0,[0,6]),(1,[0,6])]) (some [6]) [] [] []
noncomputable def Ca {R:Type} (lf n:Nat) (delta0 kk1:Int) (k0:Int->Int->Option R):Option R:=match n with | 0=>none | n+1=>cond (ltI 455 delta0) (vl (A4 (Int.tdiv delta0 (35:Int))) λn'6=>vl (A4 (kk1+36)) λn'7=>Ca lf n n'6 n'7 k0) (k0 delta0 kk1)
theorem FH (n delta0 kk1):G9 0 ((Q0 lf).keep 6) (bd (Q0 lf) cl yh (cd [1,1,1,1,0,0,0] Ho)) n ⟨gp [(0,pI delta0),(6,pI kk1)] 23,[],s⟩ k =
 Ca lf n delta0 kk1 (λdelta0 kk1=>k (.exit 0) ⟨gp [(0,pI delta0),(6,pI kk1)] 23,[],s⟩):=by
 induction n generalizing delta0 kk1 with
 | zero=>rfl
 | succ n ih=>rw [Ca];simp only [<-ih];kernel_rfl
noncomputable def Bz {R:Type} (lf:Nat) (delta0 count1:Int) (k0:Int->Option R):Option R:=cond (count1 != 0) (vl (A4 (Int.tdiv delta0 count1)) λn'5=>Ca lf lf (A4 (delta0+n'5)) 0 (λdelta'8 kk'9=>vl (A4 ((36:Int)*delta'8)) λn'10=>vl (A4 (delta'8+38)) λn'11=>cond (n'11 != 0) (vl (A4 (Int.tdiv n'10 n'11)) λn'12=>k0 (A4 (kk'9+n'12))) none)) none
abbrev Rw (b:Code):Prop:=∀ (k:Out->St σ->Option R) delta0 count1,A8 (Q0 lf) cl yh b ⟨gp [(0,pI delta0),(0,pI count1)] 29,[],s⟩ k=Bz lf delta0 count1 (λn0=>k .ret ⟨gp [(6,pI n0)] 24,[],s⟩)
theorem FG:Rw (R:=R) lf cl yh s (cd [1,1] Ho):=by
 intro k delta0 count1;unfold Bz;exact (Eq.trans (by kernel_rfl) (A1 (C2 λn'5=>((FH lf cl yh s (M3 0 (N1 (Q0 lf) cl yh (cd [1,1,1,1,1] Ho) k)) lf (A4 (delta0+n'5)) 0).trans (by kernel_rfl))) rfl))
noncomputable def Wj {R:Type} (lf:Nat) (delta0 count1:Int) (first2:Bool) (k0:Int->Option R):Option R:=cond first2 (vl (A4 (Int.tdiv delta0 (700:Int))) λn'2=>Bz lf n'2 count1 (λn'13=>k0 n'13)) (vl (A4 (Int.tdiv delta0 (2:Int))) λn'3=>Bz lf n'3 count1 (λn'14=>k0 n'14))
theorem YM (b_11:Code) (h_padapt_j0:Rw (R:=PV × List Blk × σ) lf cl yh s b_11) (delta0 count1:Int) (first2:Bool):A8 (Q0 lf) cl yh (cd [] (S7 [1,1] b_11 Ho)) ⟨[pI delta0,pI count1,pB first2]++tps 28,[],s⟩ (K9 (Q0 lf) Tryz.f186)=Wj lf delta0 count1 first2 (λr0=>some (pI r0,[],s)):=by
 unfold Wj;exact let K0:=(K9 (Q0 lf) Tryz.f186);(Eq.trans (by kernel_rfl) (A1 (C2 λn'2=>((h_padapt_j0 K0 n'2 count1).trans (by kernel_rfl))) (C2 λn'3=>((h_padapt_j0 K0 n'3 count1).trans (by kernel_rfl)))))
theorem YN (d:Nat) (delta0 count1 first2):evC (Q0 lf) (d+1) σ yh 186 [pI delta0,pI count1,pB first2] [] s=Wj lf delta0 count1 first2 (λr0=>some (pI r0,[],s)):=
 (evE (fn:=Tryz.f186) (by kernel_rfl)).trans (Eq.trans (by kernel_rfl) (YM lf (evC (Q0 lf) d) yh s (cd [1,1] Ho) (FG lf (evC (Q0 lf) d) yh s) delta0 count1 first2))
noncomputable def NG (lf:Nat):Cfg:=D2 lf [195] (A3 []) [] (A3 [(3,[2]),(2,[2]),(1,[0,3]),(0,[0])]) [] (A3 []) (some [2]) [] [] []
noncomputable def A09 {R:Type} (lf:Nat) (d0:Int) (k0:Int->Option R):Option R:=cond (ltI d0 26) (vl (wu8 (A4 ((97:Int)+d0))) λn'0=>k0 n'0) (vl (A4 ((A4 ((48:Int)+d0))-26)) λn'1=>k0 (wu8 n'1))
theorem A10 (d:Nat) (d0):evC (NG lf) (d+1) σ yh 195 [pI d0] [] s=A09 lf d0 (λr0=>some (p8 r0,[],s)):=by
 refine (evE (fn:=Tryz.f195) (by kernel_rfl)).trans ?_
 generalize evC (NG lf) d=cl
 unfold A09;kernel_rfl
noncomputable abbrev Kp:Code:=F0 Tryz.f202
noncomputable def Ea (lf:Nat):Cfg:=D2 lf [202] (A3 []) [] (A3 [(7,[2]),(2,[2]),(4,[2]),(6,[2]),(5,[0,22]),(3,[0,12]),(1,[0,2]),(0,[0])]) [] (A3 [(0,[])]) (some [2]) [] [] []
noncomputable def Ni {R:Type} (b0:Int) (b1:Bool) (k0:Int->Option R) (k1:Int->Bool->Option R):Option R:=cond b1 (vl (A4 (wu8 (b0-65))) λn'1=>k0 n'1) (cond (not (ltI b0 48)) (cond (not (ltI 57 b0)) (vl (A4 (wu8 (b0-48))) λn'2=>vl (A4 (n'2+26)) λn'3=>k0 n'3) (k1 b0 (not (ltI 57 b0)))) (k1 b0 false))
abbrev AI (b:Code):Prop:=∀ (k:Out->St σ->Option R) b0 b1,A8 (Ea lf) cl yh b ⟨gp [(0,p8 b0),(12,pB b1)] 20,[],s⟩ k=Ni b0 b1 (λn0=>k .ret ⟨gp [(2,pI n0)] 31,[],s⟩) (λb0 b1=>k .normal ⟨gp [(0,p8 b0),(22,pB b1)] 10,[],s⟩)
theorem RE:AI (R:=R) lf cl yh s (cd [1,0,0,1,1,1] Kp):=by
 intro k b0 b1;unfold Ni;kernel_rfl
noncomputable def Nj {R:Type} (b0:Int) (b1:Bool) (k0:Int->Option R) (k1:Int->Bool->Option R):Option R:=cond b1 (vl (A4 (wu8 (b0-97))) λn'0=>k0 n'0) (cond (not (ltI b0 65)) (Ni b0 (not (ltI 90 b0)) (λn'4=>k0 n'4) (λb'5 b'6=>k1 b'5 b'6)) (Ni b0 false (λn'7=>k0 n'7) (λb'8 b'9=>k1 b'8 b'9)))
abbrev Qj (b:Code):Prop:=∀ (k:Out->St σ->Option R) b0 b1,A8 (Ea lf) cl yh b ⟨gp [(0,p8 b0),(2,pB b1)] 30,[],s⟩ k=Nj b0 b1 (λn0=>k .ret ⟨gp [(2,pI n0)] 31,[],s⟩) (λb0 b1=>k .normal ⟨gp [(0,p8 b0),(22,pB b1)] 10,[],s⟩)
theorem RF (b_100111:Code) (h_pval_j0:AI (R:=R) lf cl yh s b_100111):Qj (R:=R) lf cl yh s (cd [1,0,0,1] (S7 [1,0,0,1,1,1] b_100111 Kp)):=by
 intro k b0 b1;unfold Nj;simp only [<-h_pval_j0 k];kernel_rfl
theorem RG:Qj (R:=R) lf cl yh s (cd [1,0,0,1] Kp):=by
 intro k b0 b1;exact Eq.trans (by kernel_rfl) (RF lf cl yh s (cd [1,0,0,1,1,1] Kp) (RE lf cl yh s) k b0 b1)
noncomputable def Am1 {R:Type} (lf:Nat) (b0:Int) (k0:Int->Option R):Option R:=cond (not (ltI b0 97)) (Nj b0 (not (ltI 122 b0)) (λn'10=>k0 n'10) (λb'11 b'12=>k0 (-1))) (Nj b0 false (λn'13=>k0 n'13) (λb'14 b'15=>k0 (-1)))
theorem A26 (b_1001:Code) (h_pval_j1:Qj (R:=PV × List Blk × σ) lf cl yh s b_1001) (b0:Int):A8 (Ea lf) cl yh (cd [] (S7 [1,0,0,1] b_1001 Kp)) ⟨[p8 b0]++tps 33,[],s⟩ (K9 (Ea lf) Tryz.f202)=Am1 lf b0 (λr0=>some (pI r0,[],s)):=by
 unfold Am1;exact let K0:=(M3 0 (N1 (Ea lf) cl yh (cd [1,1] Kp) (K9 (Ea lf) Tryz.f202)));(Eq.trans (by kernel_rfl) (A1 ((h_pval_j1 K0 b0 (not (ltI 122 b0))).trans (by kernel_rfl)) ((h_pval_j1 K0 b0 false).trans (by kernel_rfl))))
theorem A27 (d:Nat) (b0):evC (Ea lf) (d+1) σ yh 202 [p8 b0] [] s=Am1 lf b0 (λr0=>some (pI r0,[],s)):=
 (evE (fn:=Tryz.f202) (by kernel_rfl)).trans (Eq.trans (by kernel_rfl) (A26 lf (evC (Ea lf) d) yh s (cd [1,0,0,1] Kp) (RG lf (evC (Ea lf) d) yh s) b0))
end
section
variable {σ R : Type} (lf : Nat) (cl : E1) (yh : Yh σ) (s : σ) (k : Out -> St σ -> Option R)
noncomputable def NC (lf:Nat):Cfg:=D2 lf [154] (A3 []) [] (A3 [(1,[4]),(0,[0,0])]) [] (A3 []) (some [4]) [] [] []
noncomputable def Ay5 {R:Type} (lf:Nat) (s0 prefix1:By) (k0:Bool->Option R):Option R:=cond (not (ltI (s0.length:Int) (prefix1.length:Int))) (cond (Z4 0 (prefix1.length:Int) s0.length) (vl (cut s0 0 (prefix1.length:Int)) λs'0=>k0 (s'0==prefix1)) none) (k0 false)
theorem Ay6 (d:Nat) (s0 prefix1):evC (NC lf) (d+1) σ yh 154 [pS s0,pS prefix1] [] s=Ay5 lf s0 prefix1 (λr0=>some (pB r0,[],s)):=by
 refine (evE (fn:=Tryz.f154) (by kernel_rfl)).trans ?_
 generalize evC (NC lf) d=cl
 unfold Ay5;kernel_rfl
noncomputable def MV (lf:Nat):Cfg:=D2 lf [112] (A3 []) [(154,LX)] (A3 [(1,[4]),(0,[0,0])]) [154] (A3 []) (some [4]) [] [] []
noncomputable def IV {R:Type} (lf:Nat) (s0 prefix1:By) (k0:Bool->Option R):Option R:=cond (A2 s0.length) (k0 (List.isPrefixOf prefix1 s0)) none
theorem Av5 (d:Nat) (s0 prefix1):evC (MV lf) (d+1) σ yh 112 [pS s0,pS prefix1] [] s=IV lf s0 prefix1 (λr0=>some (pB r0,[],s)):=by
 refine (evE (fn:=Tryz.f112) (by kernel_rfl)).trans ?_
 generalize evC (MV lf) d=cl
 unfold IV;kernel_rfl
noncomputable def ND (lf:Nat):Cfg:=D2 lf [180] (A3 []) [] (A3 [(1,[4]),(0,[0,0])]) [] (A3 []) (some [4]) [] [] []
noncomputable def Ay7 {R:Type} (lf:Nat) (s0 suffix1:By) (k0:Bool->Option R):Option R:=cond (not (ltI (s0.length:Int) (suffix1.length:Int))) (vl (A4 ((s0.length:Int)-(suffix1.length:Int))) λn'0=>cond (Z4 n'0 (s0.length:Int) s0.length) (vl (cut s0 n'0 (s0.length:Int)) λs'1=>k0 (s'1==suffix1)) none) (k0 false)
theorem Ay8 (d:Nat) (s0 suffix1):evC (ND lf) (d+1) σ yh 180 [pS s0,pS suffix1] [] s=Ay7 lf s0 suffix1 (λr0=>some (pB r0,[],s)):=by
 refine (evE (fn:=Tryz.f180) (by kernel_rfl)).trans ?_
 generalize evC (ND lf) d=cl
 unfold Ay7;kernel_rfl
noncomputable def DV (lf:Nat):Cfg:=D2 lf [157] (A3 []) [(180,Ab3)] (A3 [(3,[4]),(2,[4]),(1,[0,0,5]),(0,[0,0])]) [180] (A3 []) (some [4]) [] [] []
noncomputable def UG {R:Type} (lf:Nat) (s0 suffix1:By) (k0:By->Option R):Option R:=cond (A2 s0.length) (cond (List.isSuffixOf suffix1 s0) (vl (A4 ((s0.length:Int)-(suffix1.length:Int))) λn'0=>cond (Z4 0 n'0 s0.length) (k0 (cut s0 0 n'0)) none) (k0 s0)) none
theorem Ak1 (d:Nat) (s0 suffix1):evC (DV lf) (d+1) σ yh 157 [pS s0,pS suffix1] [] s=UG lf s0 suffix1 (λr0=>some (pS r0,[],s)):=by
 refine (evE (fn:=Tryz.f157) (by kernel_rfl)).trans ?_
 generalize evC (DV lf) d=cl
 unfold UG;kernel_rfl
noncomputable def DZ (lf:Nat):Cfg:=D2 lf [115] (A3 []) [(157,TG)] (A3 [(1,[4]),(0,[0,0])]) [157] (A3 []) (some [4]) [] [] []
noncomputable def VD {R:Type} (lf:Nat) (s0 suffix1:By) (k0:By->Option R):Option R:=cond (A2 s0.length) (k0 (GA s0 suffix1)) none
theorem An9 (d:Nat) (s0 suffix1):evC (DZ lf) (d+1) σ yh 115 [pS s0,pS suffix1] [] s=VD lf s0 suffix1 (λr0=>some (pS r0,[],s)):=by
 refine (evE (fn:=Tryz.f115) (by kernel_rfl)).trans ?_
 generalize evC (DZ lf) d=cl
 unfold VD;kernel_rfl
noncomputable def DT (lf:Nat):Cfg:=D2 lf [169] (A3 []) [(154,LX)] (A3 [(3,[4,0]),(2,[4,0]),(1,[0,0,7]),(0,[0,0])]) [154] (A3 []) (some [4,0]) [] [] []
noncomputable def UB {R:Type} (lf:Nat) (s0 prefix1:By) (k0:By->Bool->Option R):Option R:=cond (A2 s0.length) (cond (not (List.isPrefixOf prefix1 s0)) (k0 s0 false) (cond (Z4 (prefix1.length:Int) (s0.length:Int) s0.length) (vl (cut s0 (prefix1.length:Int) (s0.length:Int)) λs'0=>k0 s'0 true) none)) none
theorem Aj4 (d:Nat) (s0 prefix1):evC (DT lf) (d+1) σ yh 169 [pS s0,pS prefix1] [] s=UB lf s0 prefix1 (λr0 r1=>some (.tup [pS r0,pB r1],[],s)):=by
 refine (evE (fn:=Tryz.f169) (by kernel_rfl)).trans ?_
 generalize evC (DT lf) d=cl
 unfold UB;kernel_rfl
noncomputable def MT (lf:Nat):Cfg:=D2 lf [130] (A3 []) [(169,TE)] (A3 [(1,[4,0]),(0,[0,0])]) [169] (A3 []) (some [4,0]) [] [] []
noncomputable def As8 {R:Type} (lf:Nat) (s0 prefix1:By) (k0:By->Bool->Option R):Option R:=cond (A2 s0.length) (k0 (Ut s0 prefix1) (List.isPrefixOf prefix1 s0)) none
theorem As9 (d:Nat) (s0 prefix1):evC (MT lf) (d+1) σ yh 130 [pS s0,pS prefix1] [] s=As8 lf s0 prefix1 (λr0 r1=>some (.tup [pS r0,pB r1],[],s)):=by
 refine (evE (fn:=Tryz.f130) (by kernel_rfl)).trans ?_
 generalize evC (MT lf) d=cl
 unfold As8;kernel_rfl
noncomputable abbrev HJ:Code:=F0 Tryz.f158
noncomputable def Ad (lf:Nat):Cfg:=D2 lf [158] (A3 [(11,[0,0,0,0,4,0,0])]) [(181,Eo),(182,ME),(108,Tp)] (A3 [(18,[8]),(17,[9,0]),(16,[0,0,0,0,5,0]),(15,[0,0,0,0,5,0]),(14,[0,0,0,0,5,0,0]),(13,[0,0,0,0,5,0,0,29]),(12,[0,0,0,0,5,0,0]),(11,[0,0,0,0,5,0,25]),(10,[0,0,0,0,5,0]),(9,[0,0,0,0,5]),(8,[0,0,0,0,5]),(7,[0,0,0,0]),(6,[0,0,0,0]),(5,[0,0,0,0,16]),(4,[8]),(3,[0,0,0,0,11]),(2,[8]),(1,[0,0,0,0,9]),(0,[0,0,0,0])]) [182,108] (A3 [(0,[0,8,0]),(1,[0,0,0,0,5,0])]) (some [8]) [] [] []
noncomputable def V2 {R:Type} (lf n:Nat) (s0 sep1:By) (sepSave2 n3 i4:Int) (l5:LL) (k0:By->Int->LL->Option R):Option R:=match n with | 0=>none | n+1=>cond (ltI i4 n3) (cond (A2 s0.length) (cond (ltI (Lib.index s0 sep1) (0:Int)) (k0 s0 i4 l5) (vl (A4 ((Lib.index s0 sep1)+sepSave2)) λn'12=>cond (Z4 0 n'12 s0.length) (cond (inR i4 l5.length) (cond (decide ((Int.toNat i4)<l5.length)) (vl (List.set l5 (Int.toNat i4) (E7 (List.getD l5 (Int.toNat i4) []) 0 [(SV.str (cut s0 0 n'12))])) λl'13=>vl (A4 ((Lib.index s0 sep1)+(sep1.length:Int))) λn'14=>cond (Z4 n'14 (s0.length:Int) s0.length) (vl (cut s0 n'14 (s0.length:Int)) λs'15=>V2 lf n s'15 sep1 sepSave2 n3 (A4 (i4+1)) l'13 k0) none) none) none) none)) none) (k0 s0 i4 l5)
theorem Mp (n s0 sep1 sepSave2 n3 i4 l5):G9 1 ((Ad lf).keep 11) (bd (Ad lf) cl yh (cd [1,1,1,1,1,1,1,1,0,0,0] HJ)) n ⟨gp [(0,pS s0),(0,pS sep1),(0,pI sepSave2),(0,pI n3),(5,.fl 0),(0,pI i4)] 55,[.arr false 9 1 l5],s⟩ k =
 V2 lf n s0 sep1 sepSave2 n3 i4 l5 (λs0 i1 l2=>k (.exit 0) ⟨gp [(0,pS s0),(8,.fl 0),(0,pI i1)] 55,[.arr false 9 1 l2],s⟩):=by
 induction n generalizing s0 sep1 sepSave2 n3 i4 l5 with
 | zero=>rfl
 | succ n ih=>rw [V2];simp only [<-ih];kernel_rfl
noncomputable def Vi {R:Type} (lf:Nat) (s0 sep1:By) (sepSave2 n3:Int) (k0:Unit->Option R) (k1:Nat->LL->Option R):Option R:=cond (n3==0) (k0 ()) (cond (sep1==[]) none (cond (ltI n3 0) (cond (sep1.length==1) (vl (↑(List.count (List.getD sep1 0 0) s0):Int) λn'1=>vl (A4 ((s0.length:Int)+1)) λn'4=>vl (if (n'4<(A4 (n'1+1))) then n'4 else (A4 (n'1+1))) λn'5=>cond (((decide ((0:Int)<=n'5))&&(decide (n'5<=n'5)))&&(K4 (Int.toNat n'5))) (V2 lf lf s0 sep1 sepSave2 (A4 (n'5-1)) 0 (List.replicate (Int.toNat n'5) [(SV.str ([]:List UInt8))]) (λs'16 i'17 l'18=>cond (inR i'17 l'18.length) (cond (decide ((Int.toNat i'17)<l'18.length)) (vl (List.set l'18 (Int.toNat i'17) (E7 (List.getD l'18 (Int.toNat i'17) []) 0 [(SV.str s'16)])) λl'19=>vl (A4 (i'17+1)) λn'20=>cond (Z4 0 n'20 l'19.length) (k1 ((Int.toNat n'20)-0) l'19) none) none) none)) none) none) (vl (A4 ((s0.length:Int)+1)) λn'8=>vl (if (n'8<n3) then n'8 else n3) λn'9=>cond (((decide ((0:Int)<=n'9))&&(decide (n'9<=n'9)))&&(K4 (Int.toNat n'9))) (V2 lf lf s0 sep1 sepSave2 (A4 (n'9-1)) 0 (List.replicate (Int.toNat n'9) [(SV.str ([]:List UInt8))]) (λs'21 i'22 l'23=>cond (inR i'22 l'23.length) (cond (decide ((Int.toNat i'22)<l'23.length)) (vl (List.set l'23 (Int.toNat i'22) (E7 (List.getD l'23 (Int.toNat i'22) []) 0 [(SV.str s'21)])) λl'24=>vl (A4 (i'22+1)) λn'25=>cond (Z4 0 n'25 l'24.length) (k1 ((Int.toNat n'25)-0) l'24) none) none) none)) none)))
theorem Zh (d:Nat) (s0 sep1 sepSave2 n3):evC (Ad lf) (d+1) σ yh 158 [pS s0,pS sep1,pI sepSave2,pI n3] [] s=Vi lf s0 sep1 sepSave2 n3 (λ_=>some (.fl 0,[.arr true 9 1 []],s)) (λr_m0 l1=>some (.vw 0 0 r_m0,[.arr false 9 1 l1],s)):=by
 refine (evE (fn:=Tryz.f158) (by kernel_rfl)).trans ?_
 generalize evC (Ad lf) d=cl
 unfold Vi;exact let K0:=(M3 0 (N1 (Ad lf) cl yh (cd [1,1,1,1,1,1,1,1,1] HJ) (K9 (Ad lf) Tryz.f158)));(Eq.trans (by kernel_rfl) (A1 rfl (A1 rfl (A1 (A1 (C2 λn'1=>(C2 λn'4=>(C2 λn'5=>(A1 ((Mp lf cl yh s K0 lf s0 sep1 sepSave2 (A4 (n'5-1)) 0 (List.replicate (Int.toNat n'5) [(SV.str ([]:List UInt8))])).trans (by kernel_rfl)) rfl)))) rfl) (C2 λn'8=>(C2 λn'9=>(A1 ((Mp lf cl yh s K0 lf s0 sep1 sepSave2 (A4 (n'9-1)) 0 (List.replicate (Int.toNat n'9) [(SV.str ([]:List UInt8))])).trans (by kernel_rfl)) rfl)))))))
noncomputable def Uk (lf:Nat):Cfg:=D2 lf [117] (A3 []) [(158,GQ)] (A3 [(1,[4]),(0,[0,0])]) [] (A3 []) (some [4]) [] [] []
noncomputable def FT {R:Type} (lf:Nat) (s0 sep1:By) (k0:LL->Option R):Option R:=cond (A2 s0.length) (cond (sep1.length==1) (cond ((0:Int)==0) (cond (((-1):Int)==((-1):Int)) (vl (D3 (pcs (List.getD sep1 0 0) s0)) λl'0=>k0 l'0) none) none) none) none
theorem ZP (d:Nat) (s0 sep1):evC (Uk lf) (d+1) σ yh 117 [pS s0,pS sep1] [] s=FT lf s0 sep1 (λr0=>some (.s (.sl false false 1 r0),[],s)):=by
 refine (evE (fn:=Tryz.f117) (by kernel_rfl)).trans ?_
 generalize evC (Uk lf) d=cl
 unfold FT;kernel_rfl
noncomputable abbrev Ad1:Code:=F0 Tryz.f111
noncomputable def Ku (lf:Nat):Cfg:=D2 lf [111] (A3 [(3,[0,1,0,6,0])]) [] (A3 [(10,[2]),(9,[0,2,6,0]),(8,[0,2,6,0]),(7,[0,2,1,4,0]),(6,[0,2,1,4,0,10]),(5,[0,2,1,4,0]),(4,[0,2,0,5,0]),(3,[0,2,6,0,0]),(2,[0,2,6,0]),(1,[0,2]),(0,[0])]) [] (A3 [(0,[3]),(1,[0,2,6,0])]) (some [2]) [] [] []
noncomputable def Bm {R:Type} (lf n:Nat) (s0:By) (n1 n2:Int) (l3:LL) (k0:LL->Option R):Option R:=match n with | 0=>none | n+1=>cond (ltI n2 n1) (cond (inR n2 s0.length) (cond (not (ltI (bAt s0 n2) (65:Int))) (cond (not (ltI 90 (bAt s0 n2))) (vl (wu8 ((bAt s0 n2)+32)) λn'0=>cond (K4 (l3.length+1)) (Bm lf n s0 n1 (A4 (n2+1)) (l3++[[(SV.int .u8 n'0)]]) k0) none) (cond (K4 (l3.length+1)) (Bm lf n s0 n1 (A4 (n2+1)) (l3++[[(SV.int .u8 (bAt s0 n2))]]) k0) none)) (cond (K4 (l3.length+1)) (Bm lf n s0 n1 (A4 (n2+1)) (l3++[[(SV.int .u8 (bAt s0 n2))]]) k0) none)) none) (k0 l3)
theorem PI (n s0 n1 n2 l3):G9 1 ((Ku lf).keep 3) (bd (Ku lf) cl yh (cd [1,1,0,1,0,0] Ad1)) n ⟨gp [(0,pS s0),(2,.fl 0),(6,pI n1),(0,pI n2)] 20,[.arr false 5 1 l3],s⟩ k =
 Bm lf n s0 n1 n2 l3 (λl0=>k (.exit 0) ⟨gp [(3,.fl 0)] 28,[.arr false 5 1 l0],s⟩):=by
 induction n generalizing s0 n1 n2 l3 with
 | zero=>rfl
 | succ n ih=>rw [Bm];simp only [<-ih];kernel_rfl
noncomputable def Ay2 {R:Type} (lf:Nat) (s0:By) (k0:By->LL->Option R):Option R:=cond ((decide ((0:Int)<=(s0.length:Int)))&&(K4 (Int.toNat (s0.length:Int)))) (Bm lf lf s0 (s0.length:Int) 0 [] (λl'1=>cond (List.all l'1 Xt) (k0 (List.map Ux l'1) l'1) none)) none
theorem Ay3 (d:Nat) (s0):evC (Ku lf) (d+1) σ yh 111 [pS s0] [] s=Ay2 lf s0 (λr0 l1=>some (pS r0,[.arr false 5 1 l1],s)):=by
 refine (evE (fn:=Tryz.f111) (by kernel_rfl)).trans ?_
 generalize evC (Ku lf) d=cl
 unfold Ay2;exact (Eq.trans (by kernel_rfl) (A1 ((PI lf cl yh s (M3 0 (N1 (Ku lf) cl yh (cd [1,1,1] Ad1) (K9 (Ku lf) Tryz.f111))) lf s0 (s0.length:Int) 0 []).trans (by kernel_rfl)) rfl))
noncomputable def MU (lf:Nat):Cfg:=D2 lf [127] (A3 []) [(112,BH)] (A3 [(1,[2]),(0,[0])]) [112] (A3 []) (some [2]) [] [] []
noncomputable def Av3 {R:Type} (lf:Nat) (s0:By) (k0:Bool->Option R):Option R:=cond (A2 s0.length) (cond (List.isPrefixOf ([48,120]:List UInt8) s0) (k0 true) (cond (A2 s0.length) (k0 (List.isPrefixOf ([48,88]:List UInt8) s0)) none)) none
theorem Av4 (d:Nat) (s0):evC (MU lf) (d+1) σ yh 127 [pS s0] [] s=Av3 lf s0 (λr0=>some (pB r0,[],s)):=by
 refine (evE (fn:=Tryz.f127) (by kernel_rfl)).trans ?_
 generalize evC (MU lf) d=cl
 unfold Av3;kernel_rfl
noncomputable abbrev Ar:Code:=F0 Tryz.f129
noncomputable def P3 (lf:Nat):Cfg:=D2 lf [129] (A3 [(3,[0,0,2,0,0,4,0])]) [] (A3 [(18,[4,0]),(17,[0,0,4,4,0]),(16,[0,0,4,4,0]),(15,[4,0]),(14,[0,0,4,1,2,0,39]),(9,[0,0,4,1,2,0]),(11,[0,0,4,1,2,0]),(13,[0,0,4,1,2,0]),(7,[4,0]),(12,[0,0,4,2,1,0,26]),(10,[0,0,4,2,1,0,15]),(8,[0,0,4,2,1,0,5]),(6,[0,0,4,2,1,0]),(5,[0,0,4,0,3,0]),(4,[0,0,4,0,3,0]),(3,[0,0,4,4,0,0]),(2,[0,0,4,4,0]),(1,[0,0,4]),(0,[0,0])]) [] (A3 [(0,[6]),(1,[0,0,4,4,0]),(2,[0,0,4,1,2,0])]) (some [4,0]) [] [] []
noncomputable def Ly {R:Type} (s0:By) (base1 n2 b3 n4 n5:Int) (b6:Bool) (k0:By->Int->Int->Int->Int->Int->Option R) (k1:Unit->Option R):Option R:=cond b6 (vl (A4 (wu8 (b3-97))) λn'1=>vl (A4 (n'1+10)) λn'2=>k0 s0 base1 n2 n'2 n4 n5) (cond (not (ltI b3 65)) (cond (not (ltI 70 b3)) (vl (A4 (wu8 (b3-65))) λn'3=>vl (A4 (n'3+10)) λn'4=>k0 s0 base1 n2 n'4 n4 n5) (k1 ())) (k1 ()))
abbrev Yy (b:Code):Prop:=∀ (k:Out->St σ->Option R) s0 base1 n2 b3 n4 n5 b6,A8 (P3 lf) cl yh b ⟨gp [(0,pS s0),(0,pI base1),(4,pI n2),(2,p8 b3),(1,pI n4),(0,pI n5),(15,pB b6)] 32,[],s⟩ k=Ly s0 base1 n2 b3 n4 n5 b6 (λs0 base1 n2 d3 n4 n5=>k .normal ⟨gp [(0,pS s0),(0,pI base1),(4,pI n2),(1,pI d3),(2,pI n4),(0,pI n5)] 48,[],s⟩) (λ_=>k .ret ⟨gp [(4,pI (0:Int)),(0,pB false)] 55,[],s⟩)
theorem NO:Yy (R:=R) lf cl yh s (cd [1,1,0,1,0,0,1,1,0,0,1,1,0,1,0,1,1,1] Ar):=by
 intro k s0 base1 n2 b3 n4 n5 b6;unfold Ly;kernel_rfl
noncomputable def Lz {R:Type} (s0:By) (base1 n2 b3 n4 n5:Int) (b6:Bool) (k0:By->Int->Int->Int->Int->Int->Option R) (k1:Unit->Option R):Option R:=cond b6 (vl (A4 (wu8 (b3-48))) λn'0=>k0 s0 base1 n2 n'0 n4 n5) (cond (not (ltI b3 97)) (Ly s0 base1 n2 b3 n4 n5 (not (ltI 102 b3)) (λs'5 base'6 n'7 d'8 n'9 n'10=>k0 s'5 base'6 n'7 d'8 n'9 n'10) (λ_=>k1 ())) (Ly s0 base1 n2 b3 n4 n5 false (λs'11 base'12 n'13 d'14 n'15 n'16=>k0 s'11 base'12 n'13 d'14 n'15 n'16) (λ_=>k1 ())))
abbrev Jc (b:Code):Prop:=∀ (k:Out->St σ->Option R) s0 base1 n2 b3 n4 n5 b6,A8 (P3 lf) cl yh b ⟨gp [(0,pS s0),(0,pI base1),(4,pI n2),(2,p8 b3),(1,pI n4),(0,pI n5),(5,pB b6)] 42,[],s⟩ k=Lz s0 base1 n2 b3 n4 n5 b6 (λs0 base1 n2 d3 n4 n5=>k .normal ⟨gp [(0,pS s0),(0,pI base1),(4,pI n2),(1,pI d3),(2,pI n4),(0,pI n5)] 48,[],s⟩) (λ_=>k .ret ⟨gp [(4,pI (0:Int)),(0,pB false)] 55,[],s⟩)
theorem NP (b_110100110011010111:Code) (h_digs_j0:Yy (R:=R) lf cl yh s b_110100110011010111):Jc (R:=R) lf cl yh s (cd [1,1,0,1,0,0,1,1,0,0,1,1,0,1,0,1] (S7 [1,1,0,1,0,0,1,1,0,0,1,1,0,1,0,1,1,1] b_110100110011010111 Ar)):=by
 intro k s0 base1 n2 b3 n4 n5 b6;unfold Lz;simp only [<-h_digs_j0 k];kernel_rfl
theorem NQ:Jc (R:=R) lf cl yh s (cd [1,1,0,1,0,0,1,1,0,0,1,1,0,1,0,1] Ar):=by
 intro k s0 base1 n2 b3 n4 n5 b6;exact Eq.trans (by kernel_rfl) (NP lf cl yh s (cd [1,1,0,1,0,0,1,1,0,0,1,1,0,1,0,1,1,1] Ar) (NO lf cl yh s) k s0 base1 n2 b3 n4 n5 b6)
noncomputable def Ma {R:Type} (s0:By) (base1 n2 d3 n4 n5:Int) (k0:Unit->Option R) (k1:By->Int->Int->Int->Int->Option R):Option R:=cond (not (ltI d3 base1)) (k0 ()) (vl (A4 ((A4 (n2*base1))+d3)) λn'23=>vl (if ((1099511627776:Int)<n'23) then (1099511627776:Int) else n'23) λn'24=>k1 s0 base1 n'24 n4 n5)
abbrev Po (b:Code):Prop:=∀ (k:Out->St σ->Option R) s0 base1 n2 d3 n4 n5,A8 (P3 lf) cl yh b ⟨gp [(0,pS s0),(0,pI base1),(4,pI n2),(1,pI d3),(2,pI n4),(0,pI n5)] 48,[],s⟩ k=Ma s0 base1 n2 d3 n4 n5 (λ_=>k .ret ⟨gp [(4,pI (0:Int)),(0,pB false)] 55,[],s⟩) (λs0 base1 n2 n3 n4=>k .normal ⟨gp [(0,pS s0),(0,pI base1),(4,pI n2),(4,pI n3),(0,pI n4)] 48,[],s⟩)
theorem NR:Po (R:=R) lf cl yh s (cd [1,1,0,1,0,0,1,1,0,0,1,1,1] Ar):=by
 intro k s0 base1 n2 d3 n4 n5;unfold Ma;kernel_rfl
noncomputable def Df {R:Type} (lf n:Nat) (s0:By) (base1 n2 n3 n4:Int) (k0:Unit->Option R) (k1:Int->Option R):Option R:=match n with | 0=>none | n+1=>cond (ltI n4 n3) (cond (inR n4 s0.length) (cond (not (ltI (bAt s0 n4) (48:Int))) (Lz s0 base1 n2 (bAt s0 n4) n3 n4 (not (ltI 57 (bAt s0 n4))) (λs'17 base'18 n'19 d'20 n'21 n'22=>Ma s'17 base'18 n'19 d'20 n'21 n'22 (λ_=>k0 ()) (λs'25 base'26 n'27 n'28 n'29=>vl (A4 (n'29+1)) λn'30=>Df lf n s'25 base'26 n'27 n'28 n'30 k0 k1)) (λ_=>k0 ())) (Lz s0 base1 n2 (bAt s0 n4) n3 n4 false (λs'31 base'32 n'33 d'34 n'35 n'36=>Ma s'31 base'32 n'33 d'34 n'35 n'36 (λ_=>k0 ()) (λs'37 base'38 n'39 n'40 n'41=>vl (A4 (n'41+1)) λn'42=>Df lf n s'37 base'38 n'39 n'40 n'42 k0 k1)) (λ_=>k0 ()))) none) (k1 n2)
theorem NS (b_1101001100110101:Code) (h_digs_j1:Jc (R:=R) lf cl yh s b_1101001100110101) (b_1101001100111:Code) (h_digs_j2:Po (R:=R) lf cl yh s b_1101001100111) (n:Nat) (s0:By) (base1 n2 n3 n4:Int):G9 0 ((P3 lf).keep 3) (bd (P3 lf) cl yh (cd [1,1,0,1,0,0] (S7 [1,1,0,1,0,0,1,1,0,0,1,1,1] b_1101001100111 (S7 [1,1,0,1,0,0,1,1,0,0,1,1,0,1,0,1] b_1101001100110101 Ar)))) n ⟨gp [(0,pS s0),(0,pI base1),(4,pI n2),(4,pI n3),(0,pI n4)] 48,[],s⟩ k =
 Df lf n s0 base1 n2 n3 n4 (λ_=>k .ret ⟨gp [(4,pI (0:Int)),(0,pB false)] 55,[],s⟩) (λn0=>k (.exit 0) ⟨gp [(6,pI n0)] 54,[],s⟩):=by
 induction n generalizing s0 base1 n2 n3 n4 with
 | zero=>rfl
 | succ n ih=>rw [Df];exact let K0:=(M3 1 (N1 (P3 lf) cl yh (cd [1,1,0,1,0,0,1,1,1] Ar) (lpK 0 ((P3 lf).keep 3) (bd (P3 lf) cl yh (cd [1,1,0,1,0,0] (S7 [1,1,0,1,0,0,1,1,0,0,1,1,1] b_1101001100111 (S7 [1,1,0,1,0,0,1,1,0,0,1,1,0,1,0,1] b_1101001100110101 Ar)))) n k)));let K1:=(M3 2 (N1 (P3 lf) cl yh b_1101001100111 K0));(Eq.trans (by kernel_rfl) (A1 (A1 (A1 ((h_digs_j1 K1 s0 base1 n2 (bAt s0 n4) n3 n4 (not (ltI 57 (bAt s0 n4)))).trans (congr (congr rfl (fx6 λs'17 base'18 n'19 d'20 n'21 n'22=>(Eq.trans (by kernel_rfl) ((h_digs_j2 K0 s'17 base'18 n'19 d'20 n'21 n'22).trans (congr (congr rfl (by kernel_rfl)) (fx5 λs'25 base'26 n'27 n'28 n'29=>(Eq.trans (by kernel_rfl) (C2 λn'30=>(ih s'25 base'26 n'27 n'28 n'30))))))))) (by kernel_rfl))) ((h_digs_j1 K1 s0 base1 n2 (bAt s0 n4) n3 n4 false).trans (congr (congr rfl (fx6 λs'31 base'32 n'33 d'34 n'35 n'36=>(Eq.trans (by kernel_rfl) ((h_digs_j2 K0 s'31 base'32 n'33 d'34 n'35 n'36).trans (congr (congr rfl (by kernel_rfl)) (fx5 λs'37 base'38 n'39 n'40 n'41=>(Eq.trans (by kernel_rfl) (C2 λn'42=>(ih s'37 base'38 n'39 n'40 n'42))))))))) (by kernel_rfl)))) rfl) rfl))
noncomputable def Af7 {R:Type} (lf:Nat) (s0:By) (base1:Int) (k0:Int->Bool->Option R):Option R:=Df lf lf s0 base1 0 (s0.length:Int) 0 (λ_=>k0 0 false) (λn'43=>k0 n'43 true)
theorem At6 (b_1101001100110101:Code) (h_digs_j1:Jc (R:=PV × List Blk × σ) lf cl yh s b_1101001100110101) (b_1101001100111:Code) (h_digs_j2:Po (R:=PV × List Blk × σ) lf cl yh s b_1101001100111) (s0:By) (base1:Int):A8 (P3 lf) cl yh (cd [] (S7 [1,1,0,1,0,0,1,1,0,0,1,1,1] b_1101001100111 (S7 [1,1,0,1,0,0,1,1,0,0,1,1,0,1,0,1] b_1101001100110101 Ar))) ⟨[pS s0,pI base1]++tps 59,[],s⟩ (K9 (P3 lf) Tryz.f129)=Af7 lf s0 base1 (λr0 r1=>some (.tup [pI r0,pB r1],[],s)):=by
 unfold Af7;exact (Eq.trans (by kernel_rfl) ((NS lf cl yh s (M3 0 (N1 (P3 lf) cl yh (cd [1,1,1] Ar) (K9 (P3 lf) Tryz.f129))) b_1101001100110101 h_digs_j1 b_1101001100111 h_digs_j2 lf s0 base1 0 (s0.length:Int) 0).trans (by kernel_rfl)))
theorem At7 (d:Nat) (s0 base1):evC (P3 lf) (d+1) σ yh 129 [pS s0,pI base1] [] s=Af7 lf s0 base1 (λr0 r1=>some (.tup [pI r0,pB r1],[],s)):=
 (evE (fn:=Tryz.f129) (by kernel_rfl)).trans (Eq.trans (by kernel_rfl) (At6 lf (evC (P3 lf) d) yh s (cd [1,1,0,1,0,0,1,1,0,0,1,1,0,1,0,1] Ar) (NQ lf (evC (P3 lf) d) yh s) (cd [1,1,0,1,0,0,1,1,0,0,1,1,1] Ar) (NR lf (evC (P3 lf) d) yh s) s0 base1))
noncomputable def Ae2 (lf:Nat):Cfg:=D2 lf [128] (A3 []) [(127,LQ),(129,BA)] (A3 [(7,[2,0]),(2,[2,0]),(4,[2,0]),(6,[2,0]),(5,[0,14]),(3,[0,6]),(1,[0,3]),(0,[0])]) [127,129] (A3 [(0,[0])]) (some [2,0]) [] [] []
noncomputable def num {R:Type} (lf:Nat) (s0:By) (k0:Int->Bool->Option R):Option R:=cond (s0==[]) (k0 0 false) (cond (A2 s0.length) (cond (Az s0) (cond (Z4 2 (s0.length:Int) s0.length) (vl (cut s0 2 (s0.length:Int)) λs'0=>cond (A2 s'0.length) (cond (ltN 16 17) (vl (↑(X6 (G3 16 0 s'0)):Int) λn'1=>k0 n'1 (Option.isSome (G3 16 0 s'0))) none) none) none) (cond (ltI 1 (s0.length:Int)) (cond (inR 0 s0.length) (cond ((bAt s0 (0:Int))==48) (cond (Z4 1 (s0.length:Int) s0.length) (vl (cut s0 1 (s0.length:Int)) λs'2=>cond (A2 s'2.length) (cond (ltN 8 17) (vl (↑(X6 (G3 8 0 s'2)):Int) λn'3=>k0 n'3 (Option.isSome (G3 8 0 s'2))) none) none) none) (cond (A2 s0.length) (cond (ltN 10 17) (vl (↑(X6 (G3 10 0 s0)):Int) λn'4=>k0 n'4 (Option.isSome (G3 10 0 s0))) none) none)) none) (cond (A2 s0.length) (cond (ltN 10 17) (vl (↑(X6 (G3 10 0 s0)):Int) λn'5=>k0 n'5 (Option.isSome (G3 10 0 s0))) none) none))) none)
theorem Bb3 (d:Nat) (s0):evC (Ae2 lf) (d+1) σ yh 128 [pS s0] [] s=num lf s0 (λr0 r1=>some (.tup [pI r0,pB r1],[],s)):=by
 refine (evE (fn:=Tryz.f128) (by kernel_rfl)).trans ?_
 generalize evC (Ae2 lf) d=cl
 unfold num;kernel_rfl
noncomputable def DW (lf:Nat):Cfg:=D2 lf [126] (A3 []) [(117,Lp)] (A3 [(5,[2]),(4,[3]),(3,[3,0,13]),(2,[3,0]),(1,[3]),(0,[0])]) [] (A3 []) (some [2]) [] [] []
noncomputable def parts {R:Type} (lf:Nat) (s0:By) (k0:LL->Option R):Option R:=cond (A2 s0.length) (cond (1==1) (vl (D3 (pcs (List.getD ([46]:List UInt8) 0 0) s0)) λl'1=>vl (A4 ((l'1.length:Int)-1)) λn'3=>cond (ltI 0 n'3) (cond (inR n'3 l'1.length) (cond (okE Iu l'1 (Int.toNat n'3) 0) (vl (gX l'1 (Int.toNat n'3) 0) λs'4=>cond (s'4==[]) (cond (Z4 0 n'3 l'1.length) (k0 (cut l'1 0 n'3)) none) (k0 l'1)) none) none) (k0 l'1)) none) none
theorem Al1 (d:Nat) (s0):evC (DW lf) (d+1) σ yh 126 [pS s0] [] s=parts lf s0 (λr0=>some (.s (.sl false false 1 r0),[],s)):=by
 refine (evE (fn:=Tryz.f126) (by kernel_rfl)).trans ?_
 generalize evC (DW lf) d=cl
 unfold parts;kernel_rfl
noncomputable def Pe (lf:Nat):Cfg:=D2 lf [93] (A3 []) [(126,CL),(127,LQ),(128,Ab6),(129,BA)] (A3 [(7,[2]),(6,[4,3]),(5,[2]),(4,[6]),(3,[4,13]),(2,[4]),(1,[3]),(0,[0])]) [127,128,129] (A3 []) (some [2]) [] [] []
noncomputable def Sq {R:Type} (lf:Nat) (s0:By) (k0:Bool->Option R):Option R:=cond (A2 s0.length) (vl (A4 ((↑(List.length (D3 (D8 s0))):Int)-1)) λn'2=>cond (inR n'2 (List.length (D3 (D8 s0)))) (cond (okE Iu (D3 (D8 s0)) (Int.toNat n'2) 0) (vl (gX (D3 (D8 s0)) (Int.toNat n'2) 0) λs'3=>cond (A2 s'3.length) (cond (Az s'3) (cond (A2 s'3.length) (vl (↑(X6 (Gi s'3)):Int) λn'5=>k0 (Option.isSome (Gi s'3))) none) (cond (A2 s'3.length) (cond (ltN 10 17) (vl (↑(X6 (G3 10 0 s'3)):Int) λn'6=>cond (Option.isSome (G3 10 0 s'3)) (k0 (not (s'3==[]))) (k0 false)) none) none)) none) none) none) none
theorem PY (d:Nat) (s0):evC (Pe lf) (d+1) σ yh 93 [pS s0] [] s=Sq lf s0 (λr0=>some (pB r0,[],s)):=by
 refine (evE (fn:=Tryz.f93) (by kernel_rfl)).trans ?_
 generalize evC (Pe lf) d=cl
 unfold Sq;kernel_rfl
noncomputable abbrev Ad4:Code:=F0 Tryz.f116
noncomputable def Kx (lf:Nat):Cfg:=D2 lf [116] (A3 [(6,[2,0,0,0,10,0,0])]) [(126,CL),(128,Ab6)] (A3 [(20,[2,0]),(19,[4,0,10,0,0]),(18,[4,0,10,0,0]),(17,[2,0]),(16,[4,0,2,1,5,0,0,29]),(15,[4,0,2,1,5,0,0]),(14,[4,0,10,0,0]),(13,[2,0]),(12,[4,0,2,7,0,0,17]),(11,[4,0,2,7,0,0,15]),(10,[2,0]),(9,[4,0,0,1,7,0,0,10]),(8,[4,0,0,1,0,6,0,0]),(7,[4,0,0,0,8,0,0]),(6,[4,0,10,0,0,0]),(5,[4,0,10,0,0]),(4,[4,0]),(3,[2,0]),(2,[4,10]),(1,[4]),(0,[0])]) [128] (A3 [(0,[5]),(1,[4,0,10,0,0])]) (some [2,0]) [] [] []
noncomputable def Dq {R:Type} (lf n:Nat) (l0:LL) (v1 n2 n3:Int) (k0:Unit->Option R) (k1:Int->Option R):Option R:=match n with | 0=>none | n+1=>cond (ltI n3 n2) (cond (inR n3 l0.length) (cond (okE Iu l0 (Int.toNat n3) 0) (cond (A2 (List.length (gX l0 (Int.toNat n3) 0))) (vl (↑(X6 (Gi (gX l0 (Int.toNat n3) 0))):Int) λn'1=>cond (not (Option.isSome (Gi (gX l0 (Int.toNat n3) 0)))) (k0 ()) (vl (A4 ((l0.length:Int)-1)) λn'6=>cond (ltI n3 n'6) (cond (ltI 255 n'1) (k0 ()) (vl (bOr .i64 (Ju .i64 v1 (8:Int)) n'1) λn'7=>Dq lf n l0 n'7 n2 (A4 (n3+1)) k0 k1)) (vl (A4 ((5:Int)-(l0.length:Int))) λn'9=>cond (decide ((0:Int)<=(A4 ((8:Int)*n'9)))) (vl (Ju .i64 (1:Int) (A4 ((8:Int)*n'9))) λn'10=>cond (not (ltI n'1 n'10)) (k0 ()) (cond (decide ((0:Int)<=(A4 ((8:Int)*n'9)))) (vl (Ju .i64 v1 (A4 ((8:Int)*n'9))) λn'11=>Dq lf n l0 (bOr .i64 n'11 n'1) n2 (A4 (n3+1)) k0 k1) none)) none))) none) none) none) (k1 v1)
theorem QZ (n l0 v1 n2 n3):G9 0 ((Kx lf).keep 6) (bd (Kx lf) cl yh (cd [1,0,1,1,1,1,0,1,0,0] Ad4)) n ⟨gp [(4,.s (.sl false false 1 l0)),(0,pI v1),(10,.s (.sl false false 1 l0)),(0,pI n2),(0,pI n3)] 38,[],s⟩ k =
 Dq lf n l0 v1 n2 n3 (λ_=>k .ret ⟨gp [(2,p32 (0:Int)),(0,pB false)] 53,[],s⟩) (λv0=>k (.exit 0) ⟨gp [(5,pI v0)] 51,[],s⟩):=by
 induction n generalizing l0 v1 n2 n3 with
 | zero=>rfl
 | succ n ih=>rw [Dq];simp only [<-ih];kernel_rfl
noncomputable def A16 {R:Type} (lf:Nat) (s0:By) (k0:Int->Bool->Option R):Option R:=cond (A2 s0.length) (cond (ltI 4 (↑(List.length (D3 (D8 s0))):Int)) (k0 0 false) (Dq lf lf (D3 (D8 s0)) 0 (↑(List.length (D3 (D8 s0))):Int) 0 (λ_=>k0 0 false) (λv'12=>k0 (Ap3 v'12) true))) none
theorem A17 (d:Nat) (s0):evC (Kx lf) (d+1) σ yh 116 [pS s0] [] s=A16 lf s0 (λr0 r1=>some (.tup [p32 r0,pB r1],[],s)):=by
 refine (evE (fn:=Tryz.f116) (by kernel_rfl)).trans ?_
 generalize evC (Kx lf) d=cl
 unfold A16;exact (Eq.trans (by kernel_rfl) (A1 (A1 rfl ((QZ lf cl yh s (M3 0 (N1 (Kx lf) cl yh (cd [1,0,1,1,1,1,1] Ad4) (K9 (Kx lf) Tryz.f116))) lf (D3 (D8 s0)) 0 (↑(List.length (D3 (D8 s0))):Int) 0).trans (by kernel_rfl))) rfl))
noncomputable abbrev A66:Code:=F0 Tryz.f192
noncomputable def Ul (lf:Nat):Cfg:=D2 lf [192] (A3 [(6,[2,0,1,9,0,0])]) [(117,Lp),(129,BA),(200,Aa9)] (A3 [(13,[2,0]),(12,[5,9,0,0]),(11,[5,9,0,0]),(10,[2,0]),(9,[5,2,6,0,0,19]),(8,[5,1,0,0,5,0,0]),(7,[5,1,7,0,0]),(6,[5,9,0,0,0]),(5,[5,9,0,0]),(4,[4,0]),(3,[2,0]),(2,[4,9]),(1,[4]),(0,[0])]) [129,200] (A3 [(0,[5]),(1,[5,9,0,0])]) (some [2,0]) [] [] []
noncomputable def Lk {R:Type} (lf n:Nat) (v0:Int) (l1:LL) (n2 n3:Int) (k0:Unit->Option R) (k1:Int->Option R):Option R:=match n with | 0=>none | n+1=>cond (ltI n3 n2) (cond (inR n3 l1.length) (cond (okE Iu l1 (Int.toNat n3) 0) (cond (A2 (List.length (gX l1 (Int.toNat n3) 0))) (cond (ltN 10 17) (vl (↑(X6 (G3 10 0 (gX l1 (Int.toNat n3) 0))):Int) λn'3=>cond (not (Option.isSome (G3 10 0 (gX l1 (Int.toNat n3) 0)))) (k0 ()) (cond (ltI 255 n'3) (k0 ()) (cond (ltN n'3 4294967296) (vl (Lib.decDigits (Int.toNat n'3)) λs'4=>cond (not (s'4==(gX l1 (Int.toNat n3) 0))) (k0 ()) (vl (bOr .u32 (Ju .u32 v0 (8:Int)) (Ap3 n'3)) λn'5=>Lk lf n n'5 l1 n2 (A4 (n3+1)) k0 k1)) none))) none) none) none) none) (k1 v0)
theorem ZU (n v0 l1 n2 n3):G9 0 ((Ul lf).keep 6) (bd (Ul lf) cl yh (cd [1,1,1,1,0,1,0,0] A66)) n ⟨gp [(5,p32 v0),(9,.s (.sl false false 1 l1)),(0,pI n2),(0,pI n3)] 27,[],s⟩ k =
 Lk lf n v0 l1 n2 n3 (λ_=>k .ret ⟨gp [(2,p32 (0:Int)),(0,pB false)] 41,[],s⟩) (λv0=>k (.exit 0) ⟨gp [(5,p32 v0)] 39,[],s⟩):=by
 induction n generalizing v0 l1 n2 n3 with
 | zero=>rfl
 | succ n ih=>rw [Lk];simp only [<-ih];kernel_rfl
noncomputable def v4p {R:Type} (lf:Nat) (s0:By) (k0:Int->Bool->Option R):Option R:=cond (A2 s0.length) (cond (1==1) (vl (D3 (pcs (List.getD ([46]:List UInt8) 0 0) s0)) λl'1=>cond ((l'1.length:Int) != 4) (k0 0 false) (Lk lf lf 0 l'1 (l'1.length:Int) 0 (λ_=>k0 0 false) (λv'6=>k0 v'6 true))) none) none
theorem Bd2 (d:Nat) (s0):evC (Ul lf) (d+1) σ yh 192 [pS s0] [] s=v4p lf s0 (λr0 r1=>some (.tup [p32 r0,pB r1],[],s)):=by
 refine (evE (fn:=Tryz.f192) (by kernel_rfl)).trans ?_
 generalize evC (Ul lf) d=cl
 unfold v4p;exact (Eq.trans (by kernel_rfl) (A1 (A1 (C2 λl'1=>(A1 rfl ((ZU lf cl yh s (M3 0 (N1 (Ul lf) cl yh (cd [1,1,1,1,1] A66) (K9 (Ul lf) Tryz.f192))) lf 0 l'1 (l'1.length:Int) 0).trans (by kernel_rfl)))) rfl) rfl))
noncomputable def Io {R:Type} (lf n:Nat) (p0:LL) (v1 i2:Int) (k0:Unit->Option R) (k1:Int->Option R):Option R:=match n with | 0=>none | n+1=>cond (ltI i2 (p0.length:Int)) (cond (inR i2 p0.length) (cond (okE Iu p0 (Int.toNat i2) 0) (cond (A2 (List.length (gX p0 (Int.toNat i2) 0))) (vl (↑(X6 (Gi (gX p0 (Int.toNat i2) 0))):Int) λn'1=>cond (not (Option.isSome (Gi (gX p0 (Int.toNat i2) 0)))) (k0 ()) (vl (A4 ((p0.length:Int)-1)) λn'7=>cond (i2==n'7) (vl (A4 ((5:Int)-(p0.length:Int))) λn'8=>cond (decide ((0:Int)<=(A4 ((8:Int)*n'8)))) (vl (Ju .i64 (1:Int) (A4 ((8:Int)*n'8))) λn'9=>cond (not (ltI n'1 n'9)) (k0 ()) (Io lf n p0 (A4 (v1+n'1)) (A4 (i2+1)) k0 k1)) none) (cond (ltI 255 n'1) (k0 ()) (vl (A4 ((24:Int)-(A4 ((8:Int)*i2)))) λn'10=>cond (decide ((0:Int)<=n'10)) (vl (A4 (v1+(Ju .i64 n'1 n'10))) λn'11=>Io lf n p0 n'11 (A4 (i2+1)) k0 k1) none)))) none) none) none) (k1 v1)
noncomputable def Ph (lf:Nat):Cfg:=D2 lf [117] (A3 []) [(158,Oi)] (A3 [(1,[4]),(0,[0,0])]) [] (A3 []) (some [4]) [] [] []
noncomputable def Sz {R:Type} (lf:Nat) (s0 sep1:By) (k0:Nat->LL->Option R):Option R:=cond (A2 s0.length) (cond (sep1.length==1) (cond ((0:Int)==0) (cond (((-1):Int)==((-1):Int)) (vl (D3 (pcs (List.getD sep1 0 0) s0)) λl'0=>k0 (List.length (pcs (List.getD sep1 0 0) s0)) l'0) none) none) none) none
theorem RX (d:Nat) (s0 sep1):evC (Ph lf) (d+1) σ yh 117 [pS s0,pS sep1] [] s=Sz lf s0 sep1 (λr_m0 l1=>some (.vw 0 0 r_m0,[.arr false 9 1 l1],s)):=by
 refine (evE (fn:=Tryz.f117) (by kernel_rfl)).trans ?_
 generalize evC (Ph lf) d=cl
 unfold Sz;kernel_rfl
end
end
section
open Go
theorem Pn (b:UInt8):(48<=b.toNat/\b.toNat<=57/\dig b=b.toNat-48)\/(97<=b.toNat/\b.toNat<=102/\dig b=b.toNat-87)\/(65<=b.toNat/\b.toNat<=70/\dig b=b.toNat-55)\/(¬(48<=b.toNat/\b.toNat<=57)/\¬(97<=b.toNat/\b.toNat<=102)/\¬(65<=b.toNat/\b.toNat<=70)/\dig b=99):=by
 unfold dig
 split
 ·rename_i h;exact .inl ⟨h.1,h.2,rfl⟩
 ·split
  ·rename_i h;exact .inr (.inl ⟨h.1,h.2,rfl⟩)
  ·split
   ·rename_i h;exact .inr (.inr (.inl ⟨h.1,h.2,rfl⟩))
   ·exact .inr (.inr (.inr ⟨by assumption,by assumption,by assumption,rfl⟩))
theorem Bc3 (m:Nat):(if (1099511627776:Int)<(m:Int) then (1099511627776:Int) else (m:Int))=((min m Ef:Nat):Int):=by
 unfold Ef
 split<;>omega
theorem Uv {base:Nat}:∀ {s:By} {n v:Nat},n<=Ef->G3 base n s=some v->v<=Ef
 | [],n,v,h,e=>by simp only [G3,Option.some.injEq] at e;omega
 | b::r,n,v,h,e=>by
  simp only [G3] at e
  split at e
  ·exact Uv (by omega) e
  ·cases e
theorem UN {s:By} {v:Nat} (h:Gi s=some v):v<=Ef:=by
 unfold Gi at h
 repeat' split at h
 all_goals first | (cases h;done) | exact Uv (by unfold Ef;omega) h
theorem Yx (base:Nat):∀ (x y:By) (n:Nat),G3 base n (x++y)=(G3 base n x).bind λm=>G3 base m y
 | [],y,n=>rfl
 | b::r,y,n=>by
  simp only [List.cons_append,G3]
  split
  ·exact Yx base r y _
  ·rfl
theorem Xr (u:Nat) (h:¬ u<10):Lib.decDigits u=Lib.decDigits (u / 10)++[UInt8.ofNat (48+u % 10)]:=by
 rw [Lib.decDigits,dif_neg h]
theorem A69 (d:Nat) (h:d<10):dig (UInt8.ofNat (48+d))=d:=by
 unfold dig
 have:(UInt8.ofNat (48+d)).toNat=48+d:=by simp;omega
 rw [this,Gz]
 omega
theorem WE:∀ u:Nat,u<=Ef->G3 10 0 (Lib.decDigits u)=some u:=by
 intro u
 induction u using Nat.strongRecOn with
 | _ u ih=>
  intro hu
  by_cases h:u<10
  ·rw [Lib.decDigits_one h]
   simp only [G3,A69 u h]
   rw [if_pos h]
   unfold Ef
   simp
   omega
  ·rw [Xr u h,Yx,ih (u / 10) (by omega) (by omega)]
   simp only [Option.bind_some,G3,A69 (u % 10) (by omega)]
   rw [Gz]
   unfold Ef at *
   simp
   omega
theorem A00 {s:By} {n:Nat}:oct s=some n↔n<256/\Lib.decDigits n=s:=by
 unfold oct
 constructor
 ·intro h
  split at h
  ·rename_i m hm
   split at h
   ·rename_i hc
    cases h
    exact ⟨by omega,hc.2⟩
   ·cases h
  ·cases h
 ·rintro ⟨h1,rfl⟩
  rw [WE n (by unfold Ef;omega)]
  exact if_pos ⟨by omega,rfl⟩
theorem A64 (a b:Nat) (ha:a<9223372036854775808) (hb:b<9223372036854775808):bOr .i64 (a:Int) (b:Int)=((a ||| b:Nat):Int):=by
 unfold bOr
 rw [show IntKind.bits .i64=64 from rfl,A87 64 a b (by omega) (by omega)]
 have:a ||| b<2 ^ 63:=Nat.or_lt_two_pow (by omega) (by omega)
 exact A5
theorem Bh5 (a b:Nat) (ha:a<4294967296) (hb:b<4294967296):bOr .u32 (a:Int) (b:Int)=((a ||| b:Nat):Int):=by
 unfold bOr
 rw [show IntKind.bits .u32=32 from rfl,A87 32 a b (by omega) (by omega)]
 have:a ||| b<2 ^ 32:=Nat.or_lt_two_pow (by omega) (by omega)
 exact GD
theorem KG (a m:Nat) (h:a*2 ^ m<9223372036854775808) (hm:m<=64):Ju .i64 (a:Int) (m:Int)=((a*2 ^ m:Nat):Int):=by
 unfold Ju
 rw [Int.toNat_natCast,show IntKind.bits .i64=64 from rfl,Nat.min_eq_left hm]
 have:(a:Int)*2 ^ m=((a*2 ^ m:Nat):Int):=by simp
 rw [this]
 exact A5
theorem Bj2 (a m:Nat) (h:a*2 ^ m<4294967296) (hm:m<=32):Ju .u32 (a:Int) (m:Int)=((a*2 ^ m:Nat):Int):=by
 unfold Ju
 rw [Int.toNat_natCast,show IntKind.bits .u32=32 from rfl,Nat.min_eq_left hm]
 have:(a:Int)*2 ^ m=((a*2 ^ m:Nat):Int):=by simp
 rw [this]
 exact GD
theorem Ss (v n m:Nat) (h:n<2 ^ m):v*2 ^ m ||| n=v*2 ^ m+n:=by
 rw [Nat.or_comm,Bb5 n v m h,Nat.add_comm]
theorem Cu {c:UInt8} {s:By} (h:c∉s):pcs c s=[s]:=by
 unfold pcs;rw [Br c s [] h];rfl
theorem Jm {c:UInt8} {p r:By} (h:c∉p):pcs c (p++c::r)=p::pcs c r:=by
 unfold pcs;rw [Se c p [] r h];rfl
theorem Dm (c:UInt8) (s:By):(pcs c s).length=s.count c+1:=Du c s []
theorem FI (c:UInt8) (s:By):pcs c s≠[]:=RU c s []
theorem Z9 {c:UInt8} {s x:By} (h:x∈pcs c s):c∉x/\x.length<=s.length:=by
 have:=Iq c s [] (by simp) x h
 simpa using this
theorem Hv (c:UInt8) (s:By):s.count c<=s.length:=List.count_le_length
theorem Dv (c:UInt8):∀ s:By,c∉s\/∃ p r,s=p++c::r/\c∉p
 | []=>.inl (by simp)
 | b::s=>by
  by_cases h:b=c
  ·subst h;exact .inr ⟨[],s,rfl,by simp⟩
  ·rcases Dv c s with h1 | ⟨p,r,rfl,h2⟩
   ·exact .inl (by simp [h1,Ne.symm h])
   ·exact .inr ⟨b::p,r,rfl,by simp [h2,Ne.symm h]⟩
theorem Kz {c:UInt8} {s:By} (h:c∉s):Lib.index s [c] = -1:=by
 rcases Lib.index_spec s [c] with h1 | ⟨i,h1,h2,h3,h4⟩
 ·exact h1.1
 ·exfalso
  simp only [Lib.occAt,List.isPrefixOf_iff_prefix] at h3
  obtain ⟨t,ht⟩:=h3
  have:c∈s.drop i:=by rw [<-ht];simp
  exact h (List.mem_of_mem_drop this)
theorem Pz {c:UInt8} {p r:By} (h:c∉p):Lib.index (p++c::r) [c]=(p.length:Int):=by
 rcases Lib.index_spec (p++c::r) [c] with h1 | ⟨i,h1,h2,h3,h4⟩
 ·exfalso
  have:=h1.2 p.length (by simp)
  simp [Lib.occAt] at this
 ·rw [h1]
  have hi:¬ p.length<i:=by
   intro hlt
   have:=h4 p.length hlt
   simp [Lib.occAt] at this
  have hi2:¬ i<p.length:=by
   intro hlt
   simp only [Lib.occAt,List.isPrefixOf_iff_prefix] at h3
   obtain ⟨t,ht⟩:=h3
   have h5:(p++c::r).drop i=p.drop i++c::r:=by rw [List.drop_append_of_le_length (by omega)]
   rw [h5] at ht
   cases hd:p.drop i with
   | nil=>have:=List.length_drop (i:=i) (l:=p);rw [hd] at this;simp at this;omega
   | cons x y=>
    rw [hd] at ht
    simp at ht
    have:x∈p:=List.mem_of_mem_drop (i:=i) (by rw [hd];simp)
    rw [<-ht.1] at this
    exact h this
  omega
theorem YS (s:By):D8 s≠[]:=by
 unfold D8
 split
 ·rename_i h
  intro e
  have:=congrArg List.length e
  simp at this
  omega
 ·exact FI _ _
theorem Wk {s x:By} (h:x∈D8 s):x.length<=s.length:=by
 unfold D8 at h
 split at h
 ·exact (Z9 ((List.dropLast_sublist _).subset h)).2
 ·exact (Z9 h).2
theorem Gk (s:By):1<=(D8 s).length/\(D8 s).length<=s.length+1:=by
 have h1:=List.length_pos_iff.2 (YS s)
 have h2:=Dm 46 s
 have h3:=Hv 46 s
 refine ⟨h1,?_⟩
 unfold D8
 split
 ·rw [List.length_dropLast];omega
 ·omega
theorem Zr (s:By):(D8 s).getD ((D8 s).length-1) []=X7 s:=by
 unfold X7
 rw [List.getLastD_eq_getLast?,List.getLast?_eq_getElem?,List.getD_eq_getElem?_getD]
theorem XO (s:By):X7 s∈D8 s:=by
 have h:=(Gk s).1
 rw [<-Zr,List.getD_eq_getElem?_getD,List.getElem?_eq_getElem (by omega)]
 exact List.getElem_mem _
theorem Qb (s:By):Az s=true↔s.getD 0 0=48/\(s.getD 1 0=120\/s.getD 1 0=88):=by
 simp [Az]
theorem Zm {s:By} (h:Az s=true):2<=s.length:=by
 rw [Qb] at h
 match s with
 | []=>simp at h
 | [a]=>simp at h
 | a::b::r=>simp
end
section
open Go Go.Proofs
theorem YE {R:Type} {k0:Bool->Option R} (s p:By) (h0:A2 s.length=true):Ay5 LF s p k0=k0 (p.isPrefixOf s):=by
 have:=M9 h0
 unfold Ay5
 rw [Hd]
 by_cases h:p.length<=s.length
 ·simp_all
 ·simp (disch:=omega) [h]
theorem WZ {R:Type} {k0:Bool->Option R} (s p:By) (h0:A2 s.length=true):IV LF s p k0=k0 (p.isPrefixOf s):=by
 unfold IV;rw [h0];rfl
theorem YF {R:Type} {k0:Bool->Option R} (s p:By) (h0:A2 s.length=true):Ay7 LF s p k0=k0 (p.isSuffixOf s):=by
 have:=M9 h0
 unfold Ay7
 rw [He]
 by_cases h:p.length<=s.length
 ·have e:((s.length:Int)-(p.length:Int)).toNat=s.length-p.length:=by omega
  simp (disch:=omega) [h,e]
 ·simp (disch:=omega) [h]
theorem PO {R:Type} {k0:By->Option R} (s p:By) (h0:A2 s.length=true):UG LF s p k0=k0 (GA s p):=by
 have:=M9 h0
 unfold UG GA
 rw [h0]
 cases h:p.isSuffixOf s with
 | false=>simp
 | true=>
  have:p.length<=s.length:=by rw [He] at h;simp at h;exact h.1
  have e:((s.length:Int)-(p.length:Int)).toNat=s.length-p.length:=by omega
  simp (disch:=omega) [e]
theorem SD {R:Type} {k0:By->Option R} (s p:By) (h0:A2 s.length=true):VD LF s p k0=k0 (GA s p):=by
 unfold VD;rw [h0];rfl
theorem PC {R:Type} {k0:By->Bool->Option R} (s p:By) (h0:A2 s.length=true):UB LF s p k0=k0 (Ut s p) (p.isPrefixOf s):=by
 have:=M9 h0
 unfold UB Ut
 rw [h0]
 cases h:p.isPrefixOf s with
 | false=>simp
 | true=>
  have:p.length<=s.length:=by rw [Hd] at h;simp at h;exact h.1
  simp_all
theorem WB {R:Type} {k0:By->Bool->Option R} (s p:By) (h0:A2 s.length=true):As8 LF s p k0=k0 (Ut s p) (p.isPrefixOf s):=by
 unfold As8;rw [h0];rfl
theorem KN {R:Type} {k0:LL->Option R} (s p:By) (h0:A2 s.length=true) (h1:(p.length==1)=true):FT LF s p k0=k0 (D3 (pcs (p.getD 0 0) s)):=by
 unfold FT;rw [h0,h1];rfl
theorem YA {R:Type} {k0:LL->Option R} (s:By) (hs:s.length<=1000000000):∀ (r i n:Nat),i+r=s.length->r<n->Bm LF n s (s.length:Int) (i:Int) ((C5 (s.take i)).map G2) k0=k0 ((C5 s).map G2):=by
 intro r
 induction r with
 | zero=>
  intro i n hi hn
  obtain ⟨n,rfl⟩:∃ m,n=m+1:=⟨n-1,by omega⟩
  rw [Bm]
  rw [A6,List.take_of_length_le (by omega)]
  rfl
 | succ r ih=>
  intro i n hi hn
  obtain ⟨n,rfl⟩:∃ m,n=m+1:=⟨n-1,by omega⟩
  rw [Bm]
  have hl:(C5 (s.take i)).length=i:=by simp [C5];omega
  have ih:=ih (i+1) n (by omega) (by omega)
  rw [PJ s i (by omega)] at ih
  rw [N8]
  have hb:=(s.getD i 0).toNat_lt
  generalize s.getD i 0=b at *
  have hn1:((i:Int)+1)=((i+1:Nat):Int):=by omega
  simp (disch:=omega) only [E0,N7,cond_true,vl,List.length_map,hl,J3,J1]
  rw [hn1]
  rcases O4 b with ⟨h1,e⟩ | ⟨h1,e⟩ | ⟨h1,h2,e⟩
  ·simp (disch:=omega) only [E0,Bool.not_true,cond_false]
   rw [e] at ih;exact ih
  ·simp (disch:=omega) only [G4,E0,Bool.not_true,Bool.not_false,cond_false,cond_true]
   rw [e] at ih;exact ih
  ·have e2:wu8 ((b.toNat:Int)+32)=((Y8 b).toNat:Int):=by
    rw [Y0];omega
   simp (disch:=omega) only [G4,Bool.not_false,cond_true,e2]
   exact ih
theorem YB {R:Type} {k0:By->LL->Option R} (s:By) (h0:A2 s.length=true):Ay2 LF s k0=k0 (C5 s) ((C5 s).map G2):=by
 have hs:=M9 h0
 have:=I4
 unfold Ay2
 simp (disch:=omega) only [Int.toNat_natCast,J3,Bool.and_true]
 rw [show (decide ((0:Int)<=(s.length:Int)))=true by simp]
 have:=YA (k0:=λl'1=>cond (List.all l'1 Xt) (k0 (List.map Ux l'1) l'1) none) s hs s.length 0 LF (by omega) (by omega)
 simp only [List.take_zero,C5,List.map_nil] at this
 rw [cond_true]
 refine Eq.trans this ?_
 rw [show (List.map Y8 s).map G2=(C5 s).map G2 from rfl,Lr,Mx]
 rfl
theorem WW {R:Type} {k0:Bool->Option R} (s:By) (h0:A2 s.length=true):Av3 LF s k0=k0 (Az s):=by
 unfold Av3
 have key:Az s=(([48,120]:By).isPrefixOf s || ([48,88]:By).isPrefixOf s):=by
  match s with
  | []=>rfl
  | [a]=>simp [Az,List.isPrefixOf]
  | a::b::r=>
   simp only [Az,List.isPrefixOf,List.getD_cons_zero,List.getD_cons_succ,Bool.and_true]
   rw [BEq.comm (a:=(48:UInt8)),BEq.comm (a:=(120:UInt8)),BEq.comm (a:=(88:UInt8))]
   cases (a==48)<;>simp
 grind
theorem WF {R:Type} {k0:Unit->Option R} {k1:Int->Option R} (s:By) (hs:s.length<=1000000000) (base:Nat) (hb:base<=16):∀ (r i acc n:Nat),i+r=s.length->r<n->acc<=Ef->
  Df LF n s (base:Int) (acc:Int) (s.length:Int) (i:Int) k0 k1=match G3 base acc (s.drop i) with | some v=>k1 (v:Int) | none=>k0 ():=by
 intro r
 induction r with
 | zero=>
  intro i acc n hi hn ha
  obtain ⟨n,rfl⟩:∃ m,n=m+1:=⟨n-1,by omega⟩
  rw [Df]
  rw [A6,List.drop_of_length_le (by omega)]
  rfl
 | succ r ih=>
  intro i acc n hi hn ha
  obtain ⟨n,rfl⟩:∃ m,n=m+1:=⟨n-1,by omega⟩
  rw [Df,R1 s i (by omega)]
  rw [N8]
  have hbt:=(s.getD i 0).toNat_lt
  generalize s.getD i 0=b at *
  have hn1:((i:Int)+1)=((i+1:Nat):Int):=by omega
  have hsat:Ef=1099511627776:=rfl
  have step:∀ d:Nat,d<base->(acc*base+d<100000000000000/\A4 (A4 ((acc:Int)*(base:Int))+(d:Int))=((acc*base+d:Nat):Int)):=by
   intro d hd
   have h1:acc*base<=1099511627776*16:=Nat.mul_le_mul (by omega) (by omega)
   refine ⟨by omega,?_⟩
   have e1:A4 ((acc*base:Nat):Int)=((acc*base:Nat):Int):=A5
   rw [<-Int.natCast_mul,e1,A5]
   rfl
  simp (disch:=omega) only [E0,N7,cond_true,vl,J1,Ma,Lz,Ly]
  rw [hn1]
  simp only [G3]
  rcases Pn b with ⟨h1,h2,e⟩ | ⟨h1,h2,e⟩ | ⟨h1,h2,e⟩ | ⟨h1,h2,h3,e⟩
  ·have e2:wu8 ((b.toNat:Int)-48)=((dig b:Nat):Int):=by rw [Y0];omega
   simp (disch:=omega) only [E0,G4,Bool.not_true,Bool.not_false,cond_false,cond_true,e2,J1]
   by_cases hd:dig b<base
   ·rw [if_pos hd,C4,(step _ hd).2,Bc3]
    exact ih (i+1) _ n (by omega) (by omega) (by omega)
   ·rw [if_neg hd,A6];rfl
  ·have e2:wu8 ((b.toNat:Int)-97)+10=((dig b:Nat):Int):=by rw [Y0];omega
   have e3:wu8 ((b.toNat:Int)-97)=((b.toNat:Int)-97):=Y0
   rw [e3] at e2
   simp (disch:=omega) only [E0,G4,Bool.not_true,Bool.not_false,cond_false,cond_true,e3,J1,e2]
   by_cases hd:dig b<base
   ·rw [if_pos hd,C4,(step _ hd).2,Bc3]
    exact ih (i+1) _ n (by omega) (by omega) (by omega)
   ·rw [if_neg hd,A6];rfl
  ·have e2:wu8 ((b.toNat:Int)-65)+10=((dig b:Nat):Int):=by rw [Y0];omega
   have e3:wu8 ((b.toNat:Int)-65)=((b.toNat:Int)-65):=Y0
   rw [e3] at e2
   simp (disch:=omega) only [E0,G4,Bool.not_true,Bool.not_false,cond_false,cond_true,e3,J1,e2]
   by_cases hd:dig b<base
   ·rw [if_pos hd,C4,(step _ hd).2,Bc3]
    exact ih (i+1) _ n (by omega) (by omega) (by omega)
   ·rw [if_neg hd,A6];rfl
  ·rw [if_neg (show ¬ dig b<base by omega)]
   by_cases c1:b.toNat<48
   ·simp (disch:=omega) only [E0,G4,Bool.not_true,Bool.not_false,cond_false,cond_true]
   ·by_cases c2:b.toNat<65
    ·simp (disch:=omega) only [E0,G4,Bool.not_true,Bool.not_false,cond_false,cond_true]
    ·by_cases c3:b.toNat<97
     ·simp (disch:=omega) only [E0,G4,Bool.not_true,Bool.not_false,cond_false,cond_true]
     ·simp (disch:=omega) only [E0,G4,Bool.not_true,Bool.not_false,cond_false,cond_true]
theorem WG {R:Type} {k0:Int->Bool->Option R} (s:By) (base:Int) (h0:A2 s.length=true) (h1:ltN base 17=true):Af7 LF s base k0=k0 (X6 (G3 base.toNat 0 s):Int) (G3 base.toNat 0 s).isSome:=by
 have hs:=M9 h0
 have:=I4
 obtain ⟨hb0,hb1⟩:=O5.1 h1
 obtain ⟨bn,rfl⟩:=Int.eq_ofNat_of_zero_le hb0
 unfold Af7
 have:=WF (k0:=λ_=>k0 0 false) (k1:=λn=>k0 n true) s hs bn (by omega) s.length 0 0 LF (by omega) (by omega) (by unfold Ef;omega)
 refine Eq.trans this ?_
 rw [List.drop_zero,Int.toNat_natCast]
 cases G3 bn 0 s<;>rfl
theorem Ak8 {R:Type} {k0:Int->Bool->Option R} (s:By) (h0:A2 s.length=true):num LF s k0=k0 (X6 (Gi s):Int) (Gi s).isSome:=by
 have hs:=M9 h0
 unfold num Gi
 rw [h0]
 by_cases h1:s=[]
 ·subst h1;rfl
 have h1':(s==([]:By))=false:=by simpa using h1
 have hl:0<s.length:=List.length_pos_iff.2 h1
 rw [if_neg h1,h1']
 simp only [cond_true,cond_false,vl]
 cases hx:Az s with
 | true=>
  have:=Zm hx
  simp (disch:=first | omega | (simp;omega)) only [cond_true,if_true,El,Q9,G0,Zx]
  rfl
 | false=>
  simp only [cond_false,Bool.false_eq_true,if_false]
  have hd:(G3 10 0 s)=G3 10 0 s:=rfl
  by_cases h2:1<s.length
  ·simp (disch:=omega) only [E0,N7,cond_true,Uc,h2,true_and]
   have e:=Lj (s.getD 0 0) 48 (by omega)
   rw [show ((48:Nat):Int)=48 from rfl] at e
   rw [e]
   by_cases h3:s.getD 0 0=48
   ·rw [if_pos h3,h3,show ((48:UInt8)==UInt8.ofNat 48)=true from rfl]
    simp (disch:=first | omega | (simp;omega)) only [El,Q9,G0,Zx,cond_true]
    rfl
   ·rw [if_neg h3,show (s.getD 0 0==UInt8.ofNat 48)=false from beq_eq_false_iff_ne.2 h3]
    rfl
  ·rw [A6,R7]
   rfl
theorem EZ {R:Type} {k0:Bool->Option R} (s:By) (h0:A2 s.length=true):Sq LF s k0=k0 (I1 s):=by
 have hs:=M9 h0
 have hp:=Gk s
 have hm:=Wk (XO s)
 have hg:=Zr s
 have e1:((D8 s).length:Int)-1=(((D8 s).length-1:Nat):Int):=by omega
 unfold Sq I1
 rw [h0]
 simp (disch:=omega) only [cond_true,vl,I2,e1,J1,N7,Int.toNat_natCast,W3,Bj,hg,G0]
 cases hx:Az (X7 s) with
 | true=>
  have:=Zm hx
  have hn:Gi (X7 s)=G3 16 0 ((X7 s).drop 2):=by
   unfold Gi
   grind
  simp [hn]
 | false=>
  simp only [cond_false,Bool.false_eq_true,if_false]
  cases G3 10 0 (X7 s) with
  | none=>simp
  | some v=>cases X7 s<;>rfl
theorem Bh7 (s:By) (a b:Nat) (h:a<=b) (hb:b<s.length):cut s (a:Int) ((b+1:Nat):Int)=cut s (a:Int) (b:Int)++[s.getD b 0]:=by
 rw [Fv,Fv,AT s b hb,List.drop_append_of_le_length (by rw [List.length_take];omega)]
theorem Ur (s:By) (a:Nat):cut s (a:Int) (a:Int)=[]:=by
 rw [Fv]
 grind
theorem Am7 (d:List By) (x:By) (m:Nat):List.set (D3 (d++List.replicate (m+1) [])) d.length (E7 (List.getD (D3 (d++List.replicate (m+1) [])) d.length []) 0 [SV.str x])=D3 ((d++[x])++List.replicate m []):=by
 have hg:List.getD (D3 (d++List.replicate (m+1) [])) d.length []=[SV.str []]:=by
  unfold D3
  grind
 rw [hg]
 simp only [E7,List.set_cons_zero,Xc]
 rw [show d.length=(D3 d).length by simp,List.set_append_right _ _ (by omega),Nat.sub_self,List.replicate_succ]
 simp [D3]
theorem IR {R:Type} {k0:By->Int->LL->Option R} (c:UInt8):∀ (m n:Nat) (s:By) (d:List By),s.length<=1000000000->m=s.count c->d.length+m<=1000000000->m<n->
  ∃ (d':List By) (s':By),pcs c s=d'++[s']/\s'.length<=s.length/\V2 LF n s [c] 0 ((d.length+m:Nat):Int) (d.length:Int) (D3 (d++List.replicate (m+1) [])) k0=k0 s' ((d.length+m:Nat):Int) (D3 ((d++d')++[[]])):=by
 intro m
 induction m with
 | zero=>
  intro n s d hs hm hd hn
  obtain ⟨n,rfl⟩:∃ m,n=m+1:=⟨n-1,by omega⟩
  have hc:c∉s:=List.count_eq_zero.1 hm.symm
  refine ⟨[],s,Cu hc,Nat.le_refl _,?_⟩
  rw [V2]
  rw [A6]
  simp
 | succ m ih=>
  intro n s d hs hm hd hn
  obtain ⟨n,rfl⟩:∃ m,n=m+1:=⟨n-1,by omega⟩
  rcases Dv c s with hc | ⟨p,r,rfl,hc⟩
  ·rw [List.count_eq_zero.2 hc] at hm;omega
  ·have hm':m=r.count c:=by
    rw [List.count_append,List.count_cons,List.count_eq_zero.2 hc] at hm
    simp at hm
    omega
   simp only [List.length_append,List.length_cons] at hs
   obtain ⟨d',s',h1,h2,h3⟩:=ih n r (d++[p]) (by omega) hm' (by simp<;>omega) (by omega)
   refine ⟨p::d',s',by rw [Jm hc,h1];rfl,by simp<;>omega,?_⟩
   rw [V2]
   have e1:((p.length:Int)+1)=((p.length+1:Nat):Int):=by omega
   have e2:(d.length:Int)+1=((d.length+1:Nat):Int):=by omega
   have e3:((p.length+1:Nat):Int).toNat=p.length+1:=by omega
   have e4:(((p++c::r).length:Nat):Int)=((p.length+(r.length+1):Nat):Int):=by simp
   have e5:(p++c::r).take p.length=p:=List.take_left' rfl
   have e6:(p++c::r).drop (p.length+1)=r:=by
    rw [show p++c::r=(p++[c])++r by simp,List.drop_left' (by simp)]
   rw [Pz hc]
   have el:(D3 (d++List.replicate (m+1+1) [])).length=d.length+(m+2):=by simp<;>omega
   simp (disch:=first | omega | (simp;omega)) only [E0,G4,G0,cond_true,cond_false,vl,Int.add_zero,J1,El,N7,el,Int.toNat_natCast,List.length_singleton,Q9,Hw,e5,Am7]
   rw [decide_eq_true (show d.length<d.length+(m+2) by omega),cond_true,show ((1:Nat):Int)=1 from rfl,e1]
   simp (disch:=first | omega | (simp;omega)) only [J1,El,cond_true,Q9,e3,e6,e2]
   have h3':((((d++[p]).length+m:Nat):Int))=((d.length+(m+1):Nat):Int):=by simp<;>omega
   have h4':(((d++[p]).length:Nat):Int)=((d.length+1:Nat):Int):=by simp
   rw [h3',h4'] at h3
   rw [h3]
   simp
theorem Vj {R:Type} {k0:Unit->Option R} {k1:Nat->LL->Option R} (s p:By) (v n:Int) (h0:A2 s.length=true) (h1:(p.length==1)=true) (h2:(v==0)=true) (h3:(n==(-1))=true) :
  Vi LF s p v n k0 k1=k1 (pcs (p.getD 0 0) s).length (D3 (pcs (p.getD 0 0) s)):=by
 have hs:=M9 h0
 have:=I4
 obtain ⟨c,rfl⟩:∃ c,p=[c]:=by
  match p,h1 with
  | [c],_=>exact ⟨c,rfl⟩
 have:v=0:=by simpa using h2
 subst this
 have:n = -1:=by simpa using h3
 subst this
 have hc:=Hv c s
 have hpl:=Dm c s
 obtain ⟨d',s',g1,g2,g3⟩:=IR (R:=R) (k0:=λs'14 i'15 l'16=>cond (inR i'15 (List.length l'16))
     (cond (decide ((Int.toNat i'15)<(List.length l'16)))
      (vl (A4 (i'15+(1))) λn'17=>
      cond (Z4 (0) n'17 (List.length (List.set l'16 (Int.toNat i'15) (E7 (List.getD l'16 (Int.toNat i'15) []) 0 [(SV.str s'14)]))))
       (k1 ((Int.toNat n'17)-0) (List.set l'16 (Int.toNat i'15) (E7 (List.getD l'16 (Int.toNat i'15) []) 0 [(SV.str s'14)])))
       (none))
      (none))
     (none)) c (s.count c) LF s [] hs rfl (by simp<;>omega) (by omega)
 unfold Vi
 have e1:A4 ((s.count c:Int)+1)=((s.count c+1:Nat):Int):=A5
 have e2:A4 ((s.length:Int)+1)=((s.length+1:Nat):Int):=A5
 have e3:(if ((s.length+1:Nat):Int)<((s.count c+1:Nat):Int) then ((s.length+1:Nat):Int) else ((s.count c+1:Nat):Int))=((s.count c+1:Nat):Int):=R7
 have e4:((s.count c+1:Nat):Int)-1=(s.count c:Int):=by omega
 have e5:(List.replicate (s.count c+1) [SV.str ([]:By)])=D3 ([]++List.replicate (s.count c+1) []):=by simp [D3]
 simp only [List.getD_cons_zero,vl,List.length_singleton,e1,e2,e3,Int.toNat_natCast,e5]
 rw [show ((-1:Int)==0)=false from rfl,show ([c]==([]:By))=false from rfl,show ltI (-1) 0=true from rfl,decide_eq_true (show (0:Int)<=((s.count c+1:Nat):Int) by omega),decide_eq_true (show ((s.count c+1:Nat):Int)<=((s.count c+1:Nat):Int) by omega),J3 (by omega),e4,A5]
 simp only [cond_true,cond_false,beq_self_eq_true,Bool.and_self]
 simp only [List.length_nil,Nat.zero_add] at g3
 refine Eq.trans g3 ?_
 have e6:(D3 ((([]:List By)++d')++[[]]))=D3 (d'++List.replicate (0+1) []):=by simp
 have hd:d'.length=s.count c:=by grind
 have e7:=Am7 d' s' 0
 rw [<-hd,e6]
 have el:(D3 (d'++List.replicate (0+1) ([]:By))).length=d'.length+1:=by simp
 have e8:A4 ((d'.length:Int)+1)=((d'.length+1:Nat):Int):=A5
 simp only [Int.toNat_natCast,e7,el,vl,e8]
 rw [P8,decide_eq_true (show d'.length<d'.length+1 by omega),El (by omega) (by omega) (by simp),g1]
 simp
theorem IS (s p:By) (v n:Int) (h0:A2 s.length=true) (h1:(p.length==1)=true) (h2:(v==0)=true) (h3:(n==(-1))=true) :
  ∃ r H,Vi LF s p v n (λ_=>rv (.fl 0) [.arr true 9 1 []]) (λi l=>rv (.vw 0 0 i) [.arr false 9 1 l])=rv r H/\r.stab [1] H = .s (.sl false false 1 (D3 (pcs (p.getD 0 0) s))):=by
 refine ⟨_,_,Vj s p v n h0 h1 h2 h3,?_⟩
 simp [PV.stab,Mh,PV.snap,List.take_of_length_le]
theorem FU {R:Type} {k0:Nat->LL->Option R} (s p:By) (h0:A2 s.length=true) (h1:(p.length==1)=true):Sz LF s p k0=k0 (pcs (p.getD 0 0) s).length (D3 (pcs (p.getD 0 0) s)):=by
 unfold Sz;rw [h0,h1];rfl
theorem UQ {l:List By} {i:Nat} (h:i<l.length):l.getD i []∈l:=by grind
theorem QH {R:Type} {k0:LL->Option R} (s:By) (h0:A2 s.length=true):parts LF s k0=k0 (D3 (D8 s)):=by
 have hs:=M9 h0
 have hpl:=Dm 46 s
 have hc:=Hv 46 s
 unfold parts
 rw [h0]
 have e1:A4 (((pcs 46 s).length:Int)-1)=(((pcs 46 s).length-1:Nat):Int):=by rw [A5];omega
 simp only [cond_true,vl,List.getD_cons_zero,show ((1:Nat)==1)=true from rfl,I2,e1,Int.toNat_natCast]
 by_cases h1:1<(pcs 46 s).length
 ·rw [C4,P8,W3 (by omega),Bj]
  have hg:(pcs 46 s).getD ((pcs 46 s).length-1) []=(pcs 46 s).getLastD []:=by grind
  rw [hg]
  by_cases h2:(pcs 46 s).getLastD []=[]
  ·rw [h2,show (([]:By)==[])=true from rfl,T0]
   have:D8 s=(pcs 46 s).dropLast:=by unfold D8;rw [if_pos ⟨h1,h2⟩]
   rw [this,List.dropLast_eq_take,Hw,Int.toNat_natCast]
   simp [D3]
  ·rw [show ((pcs 46 s).getLastD []==[])=false from beq_eq_false_iff_ne.2 h2]
   have:D8 s=pcs 46 s:=by unfold D8;rw [if_neg (λh=>h2 h.2)]
   grind
 ·rw [A6]
  have:D8 s=pcs 46 s:=by unfold D8;rw [if_neg (λh=>h1 h.1)]
  grind
theorem Le (l:List By) (i:Nat) (h:i<l.length):l.drop i=l.getD i []::l.drop (i+1):=by simp_all
theorem YX {R:Type} {k0:Unit->Option R} {k1:Int->Option R} (l:List By) (hm1:1<=l.length) (hm:l.length<=4) (hl:∀ x∈l,x.length<=1000000000):∀ (r i v n:Nat),i+r=l.length->0<r->r<n->v<256 ^ i->
  Dq LF n (D3 l) (v:Int) (l.length:Int) (i:Int) k0 k1=match FL (8*(5-l.length)) v (l.drop i) with | some w=>k1 (w:Int) | none=>k0 ():=by
 intro r
 induction r with
 | zero=>intro i v n _ h;omega
 | succ r ih=>
  intro i v n hi _ hn hv
  obtain ⟨n,rfl⟩:∃ m,n=m+1:=⟨n-1,by omega⟩
  rw [Dq,Le l i (by omega)]
  have hx:=hl _ (UQ (show i<l.length by omega))
  have hsat:Ef=1099511627776:=rfl
  have hpw:256 ^ i<=16777216:=by
   have:i=0\/i=1\/i=2\/i=3:=by omega
   rcases this with rfl | rfl | rfl | rfl<;>decide
  simp (disch:=omega) only [E0,I2,N7,cond_true,Int.toNat_natCast,W3,Bj,G0,vl]
  simp only [FL]
  have hn1:((i:Int)+1)=((i+1:Nat):Int):=by omega
  cases hq:Gi (l.getD i []) with
  | none=>rfl
  | some q=>
   have hql:=UN hq
   have ep:A4 ((l.length:Int)-1)=((l.length-1:Nat):Int):=by rw [A5];omega
   simp only [Option.isSome_some,Bool.not_true,cond_false,X6,Option.getD_some,ep]
   by_cases hr:r=0
   ·subst hr
    have hd:l.drop (i+1)=[]:=List.drop_of_length_le (by omega)
    have ef:A4 (8*A4 (5-(l.length:Int)))=((8*(5-l.length):Nat):Int):=by
     rw [J1 (n:=5-(l.length:Int)) (by omega) (by omega),A5];omega
    have hfp:2 ^ (8*(5-l.length))*256 ^ i=4294967296:=by
     have:l.length=1\/l.length=2\/l.length=3\/l.length=4:=by omega
     grind
    have hf1:1*2 ^ (8*(5-l.length))<=4294967296:=by
     rw [<-hfp,Nat.one_mul]
     exact Nat.le_mul_of_pos_right _ (Nat.pow_pos (by omega))
    rw [hd,A6,ef,decide_eq_true (show (0:Int)<=((8*(5-l.length):Nat):Int) by omega)]
    simp only [cond_false,cond_true]
    have s1:=KG 1 (8*(5-l.length)) (by omega) (by omega)
    have hvf:v*2 ^ (8*(5-l.length))<4294967296:=by
     rw [<-hfp,Nat.mul_comm]
     exact Nat.mul_lt_mul_of_pos_left hv (Nat.pow_pos (by omega))
    have s2:=KG v (8*(5-l.length)) (by omega) (by omega)
    rw [show ((1:Nat):Int)=1 from rfl] at s1
    rw [s1,s2,Nat.one_mul]
    by_cases hc:q<2 ^ (8*(5-l.length))
    ·rw [C4,if_pos hc,A64 _ _ (by omega) (by omega),Ss v q _ hc]
     simp only [Bool.not_true,cond_false]
     obtain ⟨n,rfl⟩:∃ m,n=m+1:=⟨n-1,by omega⟩
     rw [Dq]
     rw [hn1,A5,A6]
     rfl
    ·rw [A6,if_neg hc];rfl
   ·obtain ⟨y,z,hyz⟩:∃ y z,l.drop (i+1)=y::z:=⟨_,_,Le l (i+1) (by omega)⟩
    rw [hyz,C4]
    simp only [cond_true]
    by_cases hc:q<=255
    ·have s2:=KG v 8 (by omega) (by omega)
     rw [show ((8:Nat):Int)=8 from rfl] at s2
     rw [A6,if_pos hc,s2,A64 _ _ (by omega) (by omega),Ss v q 8 (by omega),hn1,A5]
     rw [<-hyz]
     exact ih (i+1) _ n (by omega) (by omega) (by omega) (by rw [Nat.pow_succ];omega)
    ·rw [C4,if_neg hc];rfl
theorem UV (free m:Nat):∀ (l:List By) (v w:Nat),v<256 ^ m->FL free v l=some w->w<256 ^ (m+(l.length-1))*2 ^ free
 | [],v,w,hv,h=>by cases h
 | p::r,v,w,hv,h=>by
  simp only [FL] at h
  cases hq:Gi p with
  | none=>simp [hq] at h
  | some q=>
   simp only [hq] at h
   cases r with
   | nil=>
    simp only at h
    split at h
    ·rename_i hc
     cases h
     simp only [List.length_cons,List.length_nil,Nat.add_sub_cancel,Nat.add_zero]
     have:(v+1)*2 ^ free<=256 ^ m*2 ^ free:=Nat.mul_le_mul_right _ hv
     grind
    grind
   | cons y z=>
    simp only at h
    split at h
    ·rename_i hc
     have:=UV free (m+1) (y::z) (v*256+q) w (by rw [Nat.pow_succ];omega) h
     grind
    grind
theorem Bb7 {s:By} {w:Nat} (h:pnB s=some w):w<4294967296:=by
 unfold pnB at h
 split at h
 ·cases h
 ·rename_i hc
  have hp:=Gk s
  have:=UV _ 0 (D8 s) 0 w (by decide) h
  have e:(D8 s).length=1\/(D8 s).length=2\/(D8 s).length=3\/(D8 s).length=4:=by omega
  grind
theorem YY {R:Type} {k0:Int->Bool->Option R} (s:By) (h0:A2 s.length=true):A16 LF s k0=k0 (X6 (pnB s):Int) (pnB s).isSome:=by
 have hs:=M9 h0
 have:=I4
 have hp:=Gk s
 unfold A16
 rw [h0,I2]
 by_cases h:4<(D8 s).length
 ·rw [C4]
  unfold pnB
  rw [if_pos h]
  rfl
 ·rw [A6]
  simp only [cond_true,cond_false]
  refine Eq.trans (YX (D8 s) hp.1 (by omega) (λx hx=>Nat.le_trans (Wk hx) hs) (D8 s).length 0 0 LF (by omega) (by omega) (by omega) (by decide)) ?_
  have e:pnB s=FL (8*(5-(D8 s).length)) 0 (D8 s):=by unfold pnB;rw [if_neg h]
  rw [List.drop_zero,<-e]
  cases hq:pnB s with
  | none=>rfl
  | some w=>
   have:=Bb7 hq
   simp only [X6,Option.getD_some,Option.isSome_some]
   rw [GD]
theorem Bc2 {R:Type} {k0:Unit->Option R} {k1:Int->Option R} (l:List By) (hm1:1<=l.length) (hm:l.length<=4) (hl:∀ x∈l,x.length<=1000000000):∀ (r i v n:Nat),i+r=l.length->0<r->r<n->v<256 ^ i->
  Io LF n (D3 l) ((v*2 ^ (32-8*i):Nat):Int) (i:Int) k0 k1=match FL (8*(5-l.length)) v (l.drop i) with | some w=>k1 (w:Int) | none=>k0 ():=by
 intro r
 induction r with
 | zero=>intro i v n _ h;omega
 | succ r ih=>
  intro i v n hi _ hn hv
  obtain ⟨n,rfl⟩:∃ m,n=m+1:=⟨n-1,by omega⟩
  rw [Io,Le l i (by omega)]
  have hx:=hl _ (UQ (show i<l.length by omega))
  have hsat:Ef=1099511627776:=rfl
  have hvb:v*2 ^ (32-8*i)<4294967296:=by
   have:i=0\/i=1\/i=2\/i=3:=by omega
   rcases this with rfl | rfl | rfl | rfl
   all_goals omega
  simp (disch:=omega) only [E0,I2,N7,cond_true,Int.toNat_natCast,W3,Bj,G0,vl]
  simp only [FL]
  have hn1:((i:Int)+1)=((i+1:Nat):Int):=by omega
  cases hq:Gi (l.getD i []) with
  | none=>rfl
  | some q=>
   have hql:=UN hq
   have ep:A4 ((l.length:Int)-1)=((l.length-1:Nat):Int):=by rw [A5];omega
   simp only [Option.isSome_some,Bool.not_true,cond_false,X6,Option.getD_some,ep]
   by_cases hr:r=0
   ·subst hr
    have hd:l.drop (i+1)=[]:=List.drop_of_length_le (by omega)
    have ef:A4 (8*A4 (5-(l.length:Int)))=((8*(5-l.length):Nat):Int):=by
     rw [J1 (n:=5-(l.length:Int)) (by omega) (by omega),A5];omega
    have hfp:2 ^ (8*(5-l.length))*256 ^ i=4294967296:=by
     have:l.length=1\/l.length=2\/l.length=3\/l.length=4:=by omega
     grind
    have hf1:1*2 ^ (8*(5-l.length))<=4294967296:=by
     rw [<-hfp,Nat.one_mul]
     exact Nat.le_mul_of_pos_right _ (Nat.pow_pos (by omega))
    have he:((i:Int)==((l.length-1:Nat):Int))=true:=by rw [beq_iff_eq];omega
    rw [hd,he,ef,decide_eq_true (show (0:Int)<=((8*(5-l.length):Nat):Int) by omega)]
    simp only [cond_true]
    have s1:=KG 1 (8*(5-l.length)) (by omega) (by omega)
    rw [show ((1:Nat):Int)=1 from rfl] at s1
    rw [s1,Nat.one_mul]
    by_cases hc:q<2 ^ (8*(5-l.length))
    ·rw [C4,if_pos hc]
     simp only [Bool.not_true,cond_false]
     obtain ⟨n,rfl⟩:∃ m,n=m+1:=⟨n-1,by omega⟩
     rw [Io]
     rw [hn1,J1 (n:=((i+1:Nat):Int)) (by omega) (by omega),I2,A6]
     have:32-8*i=8*(5-l.length):=by omega
     rw [this] at hvb ⊢
     rw [cond_false,A5]
     rfl
    ·rw [A6,if_neg hc];rfl
   ·obtain ⟨y,z,hyz⟩:∃ y z,l.drop (i+1)=y::z:=⟨_,_,Le l (i+1) (by omega)⟩
    have he:((i:Int)==((l.length-1:Nat):Int))=false:=by rw [beq_eq_false_iff_ne];omega
    rw [hyz,he]
    simp only [cond_false]
    by_cases hc:q<=255
    ·have e1:A4 (24-A4 (8*(i:Int)))=((24-8*i:Nat):Int):=by
      rw [J1 (n:=8*(i:Int)) (by omega) (by omega),A5];omega
     have hqb:q*2 ^ (24-8*i)<4294967296:=by
      have:i=0\/i=1\/i=2:=by omega
      clear hvb
      rcases this with rfl | rfl | rfl
      ·show q*16777216<_;omega
      ·show q*65536<_;omega
      ·show q*256<_;omega
     have s2:=KG q (24-8*i) (by omega) (by omega)
     rw [A6,if_pos hc,e1,decide_eq_true (show (0:Int)<=((24-8*i:Nat):Int) by omega),s2,hn1,J1 (n:=((i+1:Nat):Int)) (by omega) (by omega)]
     have e2:A4 (((v*2 ^ (32-8*i):Nat):Int)+((q*2 ^ (24-8*i):Nat):Int))=(((v*256+q)*2 ^ (32-8*(i+1)):Nat):Int):=by
      rw [A5]
      have:i=0\/i=1\/i=2:=by omega
      clear hvb hqb s2 e1
      rcases this with rfl | rfl | rfl
      ·show ((v*4294967296:Nat):Int)+((q*16777216:Nat):Int)=(((v*256+q)*16777216:Nat):Int);omega
      ·show ((v*16777216:Nat):Int)+((q*65536:Nat):Int)=(((v*256+q)*65536:Nat):Int);omega
      ·show ((v*65536:Nat):Int)+((q*256:Nat):Int)=(((v*256+q)*256:Nat):Int);omega
     rw [e2,<-hyz]
     exact ih (i+1) _ n (by omega) (by omega) (by omega) (by rw [Nat.pow_succ];omega)
    ·rw [C4,if_neg hc];rfl
theorem UO:∀ (l:List By) (v w m:Nat),v<256 ^ m->JT v l=some w->w<256 ^ (m+l.length)
 | [],v,w,m,hv,h=>by simp only [JT,Option.some.injEq] at h;subst h;simpa using hv
 | p::r,v,w,m,hv,h=>by
  simp only [JT] at h
  cases hq:oct p with
  | none=>simp [hq] at h
  | some q=>
   simp only [hq] at h
   have hq1:=(A00.1 hq).1
   have:=UO r (v*256+q) w (m+1) (by rw [Nat.pow_succ];omega) h
   grind
theorem A01 (s:By):oct s=match G3 10 0 s with | some n=>(if n<=255 then (if Lib.decDigits n=s then some n else none) else none) | none=>none:=by
 unfold oct
 grind
theorem Ao2 {R:Type} {k0:Unit->Option R} {k1:Int->Option R} (l:List By) (hm:l.length=4) (hl:∀ x∈l,x.length<=1000000000):∀ (r i v n:Nat),i+r=4->r<n->v<256 ^ i->
  Lk LF n (v:Int) (D3 l) 4 (i:Int) k0 k1=match JT v (l.drop i) with | some w=>k1 (w:Int) | none=>k0 ():=by
 intro r
 induction r with
 | zero=>
  intro i v n hi hn hv
  obtain ⟨n,rfl⟩:∃ m,n=m+1:=⟨n-1,by omega⟩
  rw [Lk]
  rw [A6,List.drop_of_length_le (by omega)]
  rfl
 | succ r ih=>
  intro i v n hi hn hv
  obtain ⟨n,rfl⟩:∃ m,n=m+1:=⟨n-1,by omega⟩
  rw [Lk,Le l i (by omega)]
  have hx:=hl _ (UQ (show i<l.length by omega))
  have hpw:256 ^ i<=16777216:=by
   have:i=0\/i=1\/i=2\/i=3:=by omega
   grind
  simp (disch:=omega) only [E0,I2,N7,cond_true,Int.toNat_natCast,W3,Bj,G0,Zx,vl]
  simp only [JT]
  have hn1:((i:Int)+1)=((i+1:Nat):Int):=by omega
  rw [A01]
  cases hq:G3 10 0 (l.getD i []) with
  | none=>rfl
  | some q=>
   have hql:=Uv (by unfold Ef;omega) hq
   have hsat:Ef=1099511627776:=rfl
   simp only [Option.isSome_some,Bool.not_true,cond_false,X6,Option.getD_some,Int.toNat_natCast]
   by_cases hc:q<=255
   ·rw [A6,if_pos hc,Al]
    simp only [cond_false,cond_true]
    by_cases he:Lib.decDigits q=l.getD i []
    ·have s2:=Bj2 v 8 (by omega) (by omega)
     rw [show ((8:Nat):Int)=8 from rfl] at s2
     rw [show (Lib.decDigits q==l.getD i [])=true by simpa using he,if_pos he,s2,GD,Bh5 _ _ (by omega) (by omega),Ss v q 8 (by omega),hn1,A5]
     exact ih (i+1) _ n (by omega) (by omega) (by rw [Nat.pow_succ];omega)
    ·rw [show (Lib.decDigits q==l.getD i [])=false from beq_eq_false_iff_ne.2 he,if_neg he];rfl
   ·rw [C4,if_neg hc];rfl
theorem Ao3 {R:Type} {k0:Int->Bool->Option R} (s:By) (h0:A2 s.length=true):v4p LF s k0=k0 (X6 (v4B s):Int) (v4B s).isSome:=by
 have hs:=M9 h0
 have:=I4
 unfold v4p v4B
 rw [h0]
 simp only [cond_true,vl,List.getD_cons_zero,I2,show ((1:Nat)==1)=true from rfl]
 by_cases h:(pcs 46 s).length=4
 ·rw [if_pos h,h,show (((4:Nat):Int) != 4)=false from rfl,cond_false]
  refine Eq.trans (Ao2 (pcs 46 s) h (λx hx=>Nat.le_trans (Z9 hx).2 hs) 4 0 0 LF (by omega) (by omega) (by decide)) ?_
  rw [List.drop_zero]
  cases JT 0 (pcs 46 s)<;>rfl
 ·rw [if_neg h,show (((pcs 46 s).length:Int) != 4)=true by simp<;>omega]
  rfl
theorem Bh4 (a b:Nat) (ha:a<65536) (hb:b<65536):bOr .u16 (a:Int) (b:Int)=((a ||| b:Nat):Int):=by
 unfold bOr
 rw [show IntKind.bits .u16=16 from rfl,A87 16 a b (by omega) (by omega)]
 have:a ||| b<2 ^ 16:=Nat.or_lt_two_pow (by omega) (by omega)
 exact Qs
theorem Bj1 (a m:Nat) (h:a*2 ^ m<65536) (hm:m<=16):Ju .u16 (a:Int) (m:Int)=((a*2 ^ m:Nat):Int):=by
 unfold Ju
 rw [Int.toNat_natCast,show IntKind.bits .u16=16 from rfl,Nat.min_eq_left hm]
 have:(a:Int)*2 ^ m=((a*2 ^ m:Nat):Int):=by simp
 rw [this]
 exact Qs
theorem RY (v d:Nat) (hv:v<4096) (hd:d<16):bOr .u16 (Ju .u16 (v:Int) 4) (d:Int)=((v*16+d:Nat):Int):=by
 have:=Bj1 v 4 (by omega) (by omega)
 rw [show ((4:Nat):Int)=4 from rfl] at this
 rw [this,Bh4 _ _ (by omega) (by omega),Ss v d 4 (by omega)]
theorem Ah7 {R:Type} {k0:Unit->Option R} {k1:Int->Option R} (s:By) (hs:s.length<=4):∀ (r i v n:Nat),i+r=s.length->r<n->v<16 ^ i->
  Bk LF n s (v:Int) (s.length:Int) (i:Int) k0 k1=match Zf v (s.drop i) with | some w=>k1 (w:Int) | none=>k0 ():=by
 intro r
 induction r with
 | zero=>
  intro i v n hi hn hv
  obtain ⟨n,rfl⟩:∃ m,n=m+1:=⟨n-1,by omega⟩
  rw [Bk]
  rw [A6,List.drop_of_length_le (by omega)]
  rfl
 | succ r ih=>
  intro i v n hi hn hv
  obtain ⟨n,rfl⟩:∃ m,n=m+1:=⟨n-1,by omega⟩
  rw [Bk,R1 s i (by omega)]
  rw [N8]
  have hbt:=(s.getD i 0).toNat_lt
  generalize s.getD i 0=b at *
  have hn1:((i:Int)+1)=((i+1:Nat):Int):=by omega
  have hp:16 ^ i<=4096:=by
   have:i=0\/i=1\/i=2\/i=3:=by omega
   rcases this with rfl | rfl | rfl | rfl<;>decide
  simp (disch:=omega) only [E0,N7,cond_true,vl,J1,Mo,Mn,Mm]
  rw [hn1]
  simp only [Zf]
  have go:∀ d:Nat,d<16->Bk LF n s ((v*16+d:Nat):Int) (s.length:Int) ((i+1:Nat):Int) k0 k1=match Zf (v*16+d) (s.drop (i+1)) with | some w=>k1 (w:Int) | none=>k0 ():=
   λd hd=>ih (i+1) _ n (by omega) (by omega) (by rw [Nat.pow_succ];omega)
  rcases Pn b with ⟨h1,h2,e⟩ | ⟨h1,h2,e⟩ | ⟨h1,h2,e⟩ | ⟨h1,h2,h3,e⟩
  ·have e2:Od (wu8 ((b.toNat:Int)-48))=((dig b:Nat):Int):=by rw [Y0,Qs];omega
   simp (disch:=omega) only [E0,G4,Bool.not_true,Bool.not_false,cond_false,cond_true,e2,RY,if_pos (show dig b<16 by omega)]
   exact go _ (by omega)
  ·have e2:Od (wu8 (wu8 ((b.toNat:Int)-97)+10))=((dig b:Nat):Int):=by rw [GE (n:=(b.toNat:Int)-97) (by omega) (by omega),Y0,Qs];omega
   simp (disch:=omega) only [E0,G4,Bool.not_true,Bool.not_false,cond_false,cond_true,e2,RY,if_pos (show dig b<16 by omega)]
   exact go _ (by omega)
  ·have e2:Od (wu8 (wu8 ((b.toNat:Int)-65)+10))=((dig b:Nat):Int):=by rw [GE (n:=(b.toNat:Int)-65) (by omega) (by omega),Y0,Qs];omega
   simp (disch:=omega) only [E0,G4,Bool.not_true,Bool.not_false,cond_false,cond_true,e2,RY,if_pos (show dig b<16 by omega)]
   exact go _ (by omega)
  ·rw [if_neg (show ¬ dig b<16 by omega)]
   by_cases c1:b.toNat<48
   ·simp (disch:=omega) only [E0,G4,Bool.not_true,Bool.not_false,cond_false,cond_true]
   ·by_cases c2:b.toNat<65
    ·simp (disch:=omega) only [E0,G4,Bool.not_true,Bool.not_false,cond_false,cond_true]
    ·by_cases c3:b.toNat<97
     ·simp (disch:=omega) only [E0,G4,Bool.not_true,Bool.not_false,cond_false,cond_true]
     ·simp (disch:=omega) only [E0,G4,Bool.not_true,Bool.not_false,cond_false,cond_true]
theorem WS {R:Type} {k0:Int->Bool->Option R} (s:By) (h0:A2 s.length=true):Ah8 LF s k0=k0 (X6 (grp s):Int) (grp s).isSome:=by
 have:=I4
 unfold Ah8 grp
 by_cases h1:s=[]
 ·subst h1;rfl
 ·rw [show (s==([]:By))=false from beq_eq_false_iff_ne.2 h1]
  by_cases h2:4<s.length
  ·rw [C4,if_pos (.inr h2)];rfl
  ·rw [A6,if_neg (by intro h;rcases h with h | h;exact h1 h;exact h2 h)]
   refine Eq.trans (Ah7 s (by omega) s.length 0 0 LF (by omega) (by omega) (by decide)) ?_
   rw [List.drop_zero]
   cases Zf 0 s<;>rfl
theorem Ao (l:List Nat):(J0 l).length=l.length:=by simp [J0]
theorem Nx (a b:List Nat):J0 (a++b)=J0 a++J0 b:=by simp [J0]
theorem GB (l:List Nat):(J0 l).isEmpty=l.isEmpty:=by cases l<;>rfl
theorem Vh:∀ (last:Bool) (l:List By) (r:List Nat),Pv last l=some r->r.length<=2*l.length
 | last,[],r,h=>by simp only [Pv,Option.some.injEq] at h;subst h;simp
 | last,x::l,r,h=>by
  simp only [Pv] at h
  split at h
  ·cases hq:Pv last l with
   | none=>simp [hq] at h
   | some q=>
    simp only [hq,Option.map_some,Option.some.injEq] at h
    subst h
    have:=Vh last l q hq
    grind
  grind
theorem Bd1 {s:By} {v:Nat} (h:v4B s=some v):v<4294967296:=by
 unfold v4B at h
 split at h
 ·rename_i hc
  have:=UO (pcs 46 s) 0 v 0 (by decide) h
  grind
 ·cases h
theorem OJ {R:Type} {k0:LL->Option R} {k1:LL->Option R} (last:Bool) (l:List By) (hL:l.length<=1000000001) (hl:∀ x∈l,x.length<=1000000000):∀ (r i n:Nat) (d:List Nat),i+r=l.length->r<n->d.length<=2*i->
  (∀ q,Pv last (l.drop i)=some q->Ak LF n last (D3 l) (l.length:Int) (i:Int) (J0 d) k0 k1=k1 (J0 (d++q)))/\
  (Pv last (l.drop i)=none->∃ d',Ak LF n last (D3 l) (l.length:Int) (i:Int) (J0 d) k0 k1=k0 d'):=by
 intro r
 induction r with
 | zero=>
  intro i n d hi hn hd
  obtain ⟨n,rfl⟩:∃ m,n=m+1:=⟨n-1,by omega⟩
  rw [Ak,List.drop_of_length_le (by omega)]
  rw [A6]
  refine ⟨λq hq=>?_,λh=>(by cases h)⟩
  simp only [Pv,Option.some.injEq] at hq
  subst hq
  simp
 | succ r ih=>
  intro i n d hi hn hd
  obtain ⟨n,rfl⟩:∃ m,n=m+1:=⟨n-1,by omega⟩
  rw [Ak,Le l i (by omega)]
  have hx:=hl _ (UQ (show i<l.length by omega))
  have hn1:((i:Int)+1)=((i+1:Nat):Int):=by omega
  simp (disch:=omega) only [E0,I2,N7,cond_true,Int.toNat_natCast,W3,Bj,G0,vl,Ao,J3,J1]
  rw [hn1]
  simp only [Pv]
  cases hg:grp (l.getD i []) with
  | some v=>
   simp only [Option.isSome_some,cond_true,X6,Option.getD_some]
   have hrow:J0 d++[[SV.int .u16 (v:Int)]]=J0 (d++[v]):=by rw [Nx];rfl
   rw [hrow]
   have:=ih (i+1) n (d++[v]) (by omega) (by omega) (by simp<;>omega)
   refine ⟨λq hq=>?_,λh=>?_⟩
   ·cases hq':Pv last (l.drop (i+1)) with
    | none=>simp [hq'] at hq
    | some q'=>
     simp only [hq',Option.map_some,Option.some.injEq] at hq
     subst hq
     rw [this.1 q' hq']
     simp
   ·cases hq':Pv last (l.drop (i+1)) with
    | none=>exact this.2 hq'
    | some q'=>simp [hq'] at h
  | none=>
   simp only [Option.isSome_none,cond_false]
   cases hv:v4B (l.getD i []) with
   | none=>
    simp only [Option.isSome_none,Bool.not_false,cond_true]
    exact ⟨λq hq=>(by cases hq),λ_=>⟨_,rfl⟩⟩
   | some v=>
    have hvl:=Bd1 hv
    simp only [Option.isSome_some,Bool.not_true,cond_false,X6,Option.getD_some]
    cases last with
    | false=>
     simp only [Bool.not_false,cond_true,Bool.false_eq_true,false_and,if_false]
     exact ⟨λq hq=>(by cases hq),λ_=>⟨_,rfl⟩⟩
    | true=>
     simp only [Bool.not_true,cond_false,true_and]
     by_cases hr:r=0
     ·have hd':l.drop (i+1)=[]:=List.drop_of_length_le (by omega)
      rw [A6,hd',if_pos rfl,show (16:Int)=((16:Nat):Int) from rfl,VA .u32 v 16 (by decide)]
      refine ⟨λq hq=>?_,λh=>(by cases h)⟩
      simp only [Option.some.injEq] at hq
      subst hq
      have e1:Od ((v / 2 ^ 16:Nat):Int)=((v / 65536:Nat):Int):=Qs
      have e2:Od (v:Int)=((v % 65536:Nat):Int):=Ap2 v
      rw [e1,e2,Nx]
      rfl
     ·have hne:l.drop (i+1)≠[]:=by
       rw [Le l (i+1) (by omega)];simp
      rw [C4,if_neg hne]
      exact ⟨λq hq=>(by cases hq),λ_=>⟨_,rfl⟩⟩
theorem Jn (c:UInt8) {s:By} (hs:s.length<=1000000000):(pcs c s).length<=1000000001:=by
 have:=Dm c s
 grind
theorem OK (s:By) (last:Bool) (h0:A2 s.length=true):∃ r H,TU LF s last (λl=>rv (.tup [.fl 0,.s (.bool true)]) [.arr true 25 1 l]) (λl=>rv (.tup [.fl 1,.s (.bool false)]) [.arr true 25 1 l,.arr true 25 1 []])=rv r H/\
  r.stab [1,0] H = .tup [.s (.sl (gvs s last).isEmpty (gvs s last).isEmpty 1 (J0 (gvs s last))),.s (.bool (Co s last).isSome)]:=by
 have hs:=M9 h0
 have:=I4
 unfold TU gvs Co
 by_cases h1:s=[]
 ·subst h1
  exact ⟨_,_,rfl,rfl⟩
 ·rw [show (s==([]:By))=false from beq_eq_false_iff_ne.2 h1,h0,if_neg h1]
  simp only [cond_false,cond_true,vl,List.getD_cons_zero,I2,show ((1:Nat)==1)=true from rfl]
  obtain ⟨a,b⟩:=OJ (k0:=λl=>rv (.tup [.fl 1,.s (.bool false)]) [.arr true 25 1 l,.arr true 25 1 []]) (k1:=λl=>rv (.tup [.fl 0,.s (.bool true)]) [.arr true 25 1 l]) last (pcs 58 s) (Jn 58 hs) (λx hx=>Nat.le_trans (Z9 hx).2 hs) (pcs 58 s).length 0 LF [] (by omega) (by have:=Jn 58 hs;omega) (by simp)
  rw [List.drop_zero] at a b
  cases hq:Pv last (pcs 58 s) with
  | some q=>
   refine ⟨_,_,a q hq,?_⟩
   simp [PV.stab,Hj,Mh,PV.snap,I6,GB]
  | none=>
   obtain ⟨d',e⟩:=b hq
   refine ⟨_,_,e,?_⟩
   simp [PV.stab,Hj,Mh,PV.snap,I6,J0]
theorem Bi5 {α:Type} {W:List α} (h:W.length=8):∃ a b c d e f g i,W=[a,b,c,d,e,f,g,i]:=by
 match W,h with
 | [a,b,c,d,e,f,g,i],_=>exact ⟨a,b,c,d,e,f,g,i,rfl⟩
def r8 (n:Nat):LL:=List.replicate n [SV.int .u16 0]
theorem Bb9 (n:Nat):r8 n=J0 (List.replicate n 0):=by simp [r8,J0]
theorem Ai0 {s:By} {last:Bool} {q:List Nat} (h:Co s last=some q):gvs s last=q:=by unfold gvs;rw [h];rfl
theorem At0 (s:By):(Lib.cut s [58,58]).1.length<=s.length/\(Lib.cut s [58,58]).2.1.length<=s.length:=by
 unfold Lib.cut
 grind
theorem VF {R:Type} {K:LL->LL->Option R} (X Y:List Nat) (h:X.length+Y.length<=8) :
  Iv (J0 X) (J0 Y) (r8 8) K=K (J0 (X++List.replicate (8-X.length-Y.length) 0++Y)) (J0 (X++List.replicate (8-X.length-Y.length) 0++Y)):=by
 unfold Iv
 have l9:(List.take 0 (r8 8)++(List.take 8 (J0 X)++List.drop (0+min (J0 X).length 8) (r8 8)))=J0 (X++List.replicate (8-X.length) 0):=by
  rw [Ao,Nat.min_eq_left (show X.length<=8 by omega),List.take_of_length_le (l:=J0 X) (i:=8) (by rw [Ao];omega),Nx,Nat.zero_add,Bb9,List.take_zero,List.nil_append]
  unfold J0
  rw [<-List.map_drop,List.drop_replicate]
 have en:A4 (8-(Y.length:Int))=((8-Y.length:Nat):Int):=by rw [A5];omega
 have ll:(J0 (X++List.replicate (8-X.length) 0)).length=8:=by simp [Ao]<;>omega
 have l11:(List.take (8-Y.length) (J0 (X++List.replicate (8-X.length) 0))++(List.take (8-(8-Y.length)) (J0 Y)++List.drop (8-Y.length+min Y.length (8-(8-Y.length))) (J0 (X++List.replicate (8-X.length) 0))))=J0 (X++List.replicate (8-X.length-Y.length) 0++Y):=by
  rw [List.drop_of_length_le (by rw [ll];omega),List.take_of_length_le (l:=J0 Y) (by rw [Ao];omega),Nx (X++_) Y,List.append_nil]
  congr 1
  unfold J0
  rw [<-List.map_take,List.take_append,List.take_of_length_le (by omega),List.take_replicate]
  grind
 have hW:(X++List.replicate (8-X.length-Y.length) 0++Y).length=8:=by simp<;>omega
 simp only [vl]
 rw [l9]
 simp only [Ao,en,Int.toNat_natCast]
 rw [l11]
 simp only [Ao]
 rw [show (r8 8).length=8 from rfl,show List.length (X++List.replicate (8-X.length) (0:Nat))=8 by simp<;>omega,T0,decide_eq_true (show 8-Y.length+(8-(8-Y.length))<=8 by omega)]
 simp only [decide_true,cond_true,Nat.le_refl,hW]
 generalize (X++List.replicate (8-X.length-Y.length) 0++Y)=W at *
 obtain ⟨a,b,c,d,e,f,g,i,rfl⟩:=Bi5 hW
 rfl
theorem Ao4 {R:Type} {k0:Int->Int->Int->Int->Int->Int->Int->Int->Bool->LL->LL->Option R} (s:By) (h0:A2 s.length=true) :
  ∃ l l',v6p LF s k0=k0 (v6c 0 s) (v6c 1 s) (v6c 2 s) (v6c 3 s) (v6c 4 s) (v6c 5 s) (v6c 6 s) (v6c 7 s) (v6B s).isSome l l':=by
 have hs:=M9 h0
 have hcl:=At0 s
 unfold v6p v6c
 rw [h0]
 have bad:∀ (h:v6B s=none),k0 0 0 0 0 0 0 0 0 false (r8 8) (r8 8)=k0 ((((v6B s).getD z8).getD 0 0:Nat):Int) ((((v6B s).getD z8).getD 1 0:Nat):Int) ((((v6B s).getD z8).getD 2 0:Nat):Int) ((((v6B s).getD z8).getD 3 0:Nat):Int) ((((v6B s).getD z8).getD 4 0:Nat):Int) ((((v6B s).getD z8).getD 5 0:Nat):Int) ((((v6B s).getD z8).getD 6 0:Nat):Int) ((((v6B s).getD z8).getD 7 0:Nat):Int) (v6B s).isSome (r8 8) (r8 8):=by
  intro h;rw [h];rfl
 simp (disch:=omega) only [cond_true,vl,G0]
 have e6:v6B s=match Co (Lib.cut s [58,58]).1 (!(Lib.cut s [58,58]).2.2),Co (Lib.cut s [58,58]).2.1 true with
  | some x,some y=>if (Lib.cut s [58,58]).2.2 then (if x.length+y.length<=7 then some (x++List.replicate (8-x.length-y.length) 0++y) else none)
   else if x.length+y.length=8 then some (x++y) else none
  | _,_=>none:=rfl
 generalize (Lib.cut s [58,58]).1=A at *
 generalize (Lib.cut s [58,58]).2.1=B at *
 generalize (Lib.cut s [58,58]).2.2=gap at *
 cases hx:Co A (!gap) with
 | none=>exact ⟨_,_,bad (by rw [e6,hx])⟩
 | some X=>
  cases hy:Co B true with
  | none=>exact ⟨_,_,bad (by rw [e6,hx,hy])⟩
  | some Y=>
   have hXl:X.length<=2000000002:=by
    unfold Co at hx
    split at hx
    ·grind
    ·have:=Vh _ _ _ hx;have:=Jn 58 (s:=A) (by omega);omega
   have hYl:Y.length<=2000000002:=by
    unfold Co at hy
    split at hy
    ·grind
    ·have:=Vh _ _ _ hy;have:=Jn 58 (s:=B) (by omega);omega
   rw [hx,hy] at e6
   simp only [Ai0 hx,Ai0 hy,Ao,Option.isSome_some,Bool.not_true,cond_false]
   rw [A5]
   have fin:∀ (W:List Nat),W.length=8->v6B s=some W->∃ l l',(cond ((decide (8=(J0 W).length*1))&&(okS ⟨true,true,[.int .u16,.int .u16,.int .u16,.int .u16,.int .u16,.int .u16,.int .u16,.int .u16]⟩ (List.flatten (J0 W)) 0))
     (k0 (SV.gI (List.getD (List.flatten (J0 W)) 0 SV.nilp)) (SV.gI (List.getD (List.flatten (J0 W)) 1 SV.nilp)) (SV.gI (List.getD (List.flatten (J0 W)) 2 SV.nilp)) (SV.gI (List.getD (List.flatten (J0 W)) 3 SV.nilp)) (SV.gI (List.getD (List.flatten (J0 W)) 4 SV.nilp)) (SV.gI (List.getD (List.flatten (J0 W)) 5 SV.nilp)) (SV.gI (List.getD (List.flatten (J0 W)) 6 SV.nilp)) (SV.gI (List.getD (List.flatten (J0 W)) 7 SV.nilp)) true (J0 W) (J0 W)) none) =
     k0 ((((v6B s).getD z8).getD 0 0:Nat):Int) ((((v6B s).getD z8).getD 1 0:Nat):Int) ((((v6B s).getD z8).getD 2 0:Nat):Int) ((((v6B s).getD z8).getD 3 0:Nat):Int) ((((v6B s).getD z8).getD 4 0:Nat):Int) ((((v6B s).getD z8).getD 5 0:Nat):Int) ((((v6B s).getD z8).getD 6 0:Nat):Int) ((((v6B s).getD z8).getD 7 0:Nat):Int) (v6B s).isSome l l':=by
    intro W hW h
    rw [h]
    obtain ⟨a,b,c,d,e,f,g,i,rfl⟩:=Bi5 hW
    exact ⟨_,_,rfl⟩
   cases gap with
   | false=>
    simp only [Bool.not_false,cond_true,Bool.false_eq_true,if_false] at e6 ⊢
    by_cases h8:X.length+Y.length=8
    ·rw [if_pos h8] at e6
     rw [show ((X.length:Int)+(Y.length:Int) != 8)=false by simp;omega]
     simp only [cond_false]
     rw [show (List.replicate 8 [SV.int IntKind.u16 0])=r8 8 from rfl,VF X Y (by omega)]
     have hz:8-X.length-Y.length=0:=by omega
     rw [hz]
     simp only [List.replicate_zero,List.append_nil]
     exact fin (X++Y) (by simp<;>omega) e6
    ·rw [if_neg h8] at e6
     rw [show ((X.length:Int)+(Y.length:Int) != 8)=true by simp;omega]
     exact ⟨_,_,bad e6⟩
   | true=>
    simp only [Bool.not_true,cond_false,cond_true,if_true] at e6 ⊢
    by_cases h8:X.length+Y.length<=7
    ·rw [if_pos h8] at e6
     rw [A6]
     simp only [cond_false]
     rw [show (List.replicate 8 [SV.int IntKind.u16 0])=r8 8 from rfl,VF X Y (by omega)]
     exact fin _ (by simp<;>omega) e6
    ·rw [if_neg h8] at e6
     rw [C4]
     exact ⟨_,_,bad e6⟩
theorem Sv (n:Nat):ptI (n:Int)=Hk n:=rfl
theorem KB {R:Type} {k0:Bool->Option R} (n:Int):FM LF n k0=k0 (ptI n):=by
 unfold FM
 by_cases h:n<0
 ·rw [E0 h]
  have:ptI n=false:=by
   cases n with
   | ofNat m=>exact absurd h (by simp)
   | negSucc m=>rfl
  grind
 ·obtain ⟨m,rfl⟩:=Int.eq_ofNat_of_zero_le (show 0<=n by omega)
  rw [A6,Sv]
  unfold Hk
  by_cases h1:1114111<m
  ·rw [C4]
   have:Nat.ble m 1114111=false:=by rw [Bool.eq_false_iff,ne_eq,Nat.ble_eq];omega
   grind
  ·rw [A6]
   have:Nat.ble m 1114111=true:=by rw [Nat.ble_eq];omega
   rw [this]
   by_cases h2:m<55296
   ·rw [C4]
    have:Nat.blt m 55296=true:=by rw [Nat.blt_eq];omega
    grind
   ·rw [A6]
    have e:Nat.blt m 55296=false:=by rw [Bool.eq_false_iff,ne_eq,Nat.blt_eq];omega
    rw [e]
    simp only [Bool.not_false,cond_true,cond_false,Bool.false_or,Bool.true_and]
    congr 1
theorem GY {d k:Nat} (h:455<d):Tv d k=Tv (d / 35) (k+36):=by rw [Tv,dif_pos h]
theorem Tw {d k:Nat} (h:¬ 455<d):Tv d k=k+36*d / (d+38):=by rw [Tv,dif_neg h]
theorem JX {R:Type} {k0:Int->Int->Option R}:∀ (d n k:Nat),d<2305843009213693952->d<n->k+d<=4611686018427387904->
  ∃ d' k',d'<=455/\k'<=k+d/\Tv d k=k'+36*d' / (d'+38)/\Ca LF n (d:Int) (k:Int) k0=k0 (d':Int) (k':Int):=by
 intro d
 induction d using Nat.strongRecOn with
 | _ d ih=>
  intro n k hd hn hk
  obtain ⟨n,rfl⟩:∃ m,n=m+1:=⟨n-1,by omega⟩
  rw [Ca]
  by_cases h:455<d
  ·obtain ⟨d',k',h1,h2,h3,h4⟩:=ih (d / 35) (by omega) n (k+36) (by omega) (by omega) (by omega)
   refine ⟨d',k',h1,by omega,by rw [GY h];exact h3,?_⟩
   have e:Int.tdiv (d:Int) 35=((d / 35:Nat):Int):=X1 d 35
   have e1:A4 ((d / 35:Nat):Int)=((d / 35:Nat):Int):=A5
   have e2:A4 ((k:Int)+36)=((k+36:Nat):Int):=by rw [A5];rfl
   rw [C4]
   simp only [cond_true,vl,e,e1,e2]
   exact h4
  ·refine ⟨d,k,by omega,by omega,Tw h,?_⟩
   rw [A6]
   rfl
theorem JY {R:Type} {k0:Int->Option R} (d c:Int) (f:Bool) (h0:ltN d 1152921504606846976=true) (h1:ltN c 1000000=true) (h2:ltI 0 c=true):Wj LF d c f k0=k0 (Cf d.toNat c.toNat f:Nat):=by
 obtain ⟨hd0,hd1⟩:=O5.1 h0
 obtain ⟨hc0,hc1⟩:=O5.1 h1
 obtain ⟨d,rfl⟩:=Int.eq_ofNat_of_zero_le hd0
 obtain ⟨c,rfl⟩:=Int.eq_ofNat_of_zero_le hc0
 have hc:=Ay9.1 h2
 have hLF:=I4
 have key:∀ x:Nat,x<1152921504606846976->Bz LF (x:Int) (c:Int) k0=k0 ((Tv (x+x / c) 0:Nat):Int):=by
  intro x hx
  have hxc:x / c<=x:=Nat.div_le_self _ _
  unfold Bz
  have e1:Int.tdiv (x:Int) (c:Int)=((x / c:Nat):Int):=X1 x c
  generalize x / c=q at *
  have e2:A4 (q:Int)=(q:Int):=A5
  have e3:A4 ((x:Int)+(q:Int))=((x+q:Nat):Int):=by rw [A5];rfl
  rw [show ((c:Int) != 0)=true by simp;omega]
  simp only [cond_true,vl,e1,e2,e3]
  obtain ⟨d',k',g1,g2,g3,g4⟩:=JX (R:=R) (k0:=λdelta'7 k'8=>vl (A4 ((36)*delta'7)) λn'9=>vl (A4 (delta'7+(38))) λn'10=>cond (n'10 != (0)) (vl (A4 (Int.tdiv n'9 n'10)) λn'11=>k0 (A4 (k'8+n'11))) none) (x+q) LF 0 (by omega) (by omega) (by omega)
  refine Eq.trans g4 ?_
  have hq:36*d' / (d'+38)<=36*d':=Nat.div_le_self _ _
  have f1:A4 (36*(d':Int))=((36*d':Nat):Int):=by rw [A5];rfl
  have f2:A4 ((d':Int)+38)=((d'+38:Nat):Int):=by rw [A5];rfl
  have f3:Int.tdiv ((36*d':Nat):Int) ((d'+38:Nat):Int)=((36*d' / (d'+38):Nat):Int):=X1 _ _
  have f4:A4 ((36*d' / (d'+38):Nat):Int)=((36*d' / (d'+38):Nat):Int):=A5
  have f5:A4 ((k':Int)+((36*d' / (d'+38):Nat):Int))=((k'+36*d' / (d'+38):Nat):Int):=by rw [A5];rfl
  simp only [vl,f1,f2,f3,f4,f5]
  rw [show (((d'+38:Nat):Int) != 0)=true by simp;omega,g3]
  rfl
 unfold Wj Cf
 rw [Int.toNat_natCast,Int.toNat_natCast]
 cases f with
 | true=>
  have e1:Int.tdiv (d:Int) 700=((d / 700:Nat):Int):=X1 d 700
  have e2:A4 ((d / 700:Nat):Int)=((d / 700:Nat):Int):=A5
  simp only [cond_true,vl,e1,e2,if_true]
  exact key _ (by omega)
 | false=>
  have e1:Int.tdiv (d:Int) 2=((d / 2:Nat):Int):=X1 d 2
  have e2:A4 ((d / 2:Nat):Int)=((d / 2:Nat):Int):=A5
  simp only [cond_false,vl,e1,e2,Bool.false_eq_true,if_false]
  exact key _ (by omega)
theorem WD {d:Nat} (h:d<36):(Hy d).toNat=if d<26 then 97+d else 22+d:=by
 unfold Hy
 split<;>simp<;>omega
theorem YW {R:Type} {k0:Int->Option R} (d:Int) (h0:ltN d 36=true):A09 LF d k0=k0 ((Hy d.toNat).toNat:Nat):=by
 obtain ⟨hd0,hd1⟩:=O5.1 h0
 obtain ⟨d,rfl⟩:=Int.eq_ofNat_of_zero_le hd0
 unfold A09
 rw [Int.toNat_natCast,WD (by omega)]
 by_cases h:d<26
 ·rw [C4,if_pos h]
  simp only [cond_true,vl]
  congr 1
  rw [A5,Y0]
  rfl
 ·rw [A6,if_neg h]
  simp only [cond_false,vl]
  congr 1
  rw [J1 (n:=48+(d:Int)) (by omega) (by omega),A5,Y0]
  omega
theorem KY (b:UInt8):(97<=b.toNat/\b.toNat<=122/\Hi b=some (b.toNat-97))\/(65<=b.toNat/\b.toNat<=90/\Hi b=some (b.toNat-65))\/(48<=b.toNat/\b.toNat<=57/\Hi b=some (b.toNat-22))\/(¬(97<=b.toNat/\b.toNat<=122)/\¬(65<=b.toNat/\b.toNat<=90)/\¬(48<=b.toNat/\b.toNat<=57)/\Hi b=none):=by
 unfold Hi
 grind
theorem ZB {R:Type} {k0:Int->Option R} (b:Int) (h0:inR b 256=true):Am1 LF b k0=k0 (I5 (u8n b)):=by
 simp only [inR,Bool.and_eq_true,decide_eq_true_eq] at h0
 have hc:b=((u8n b).toNat:Int):=by
  unfold u8n
  simp
  omega
 generalize u8n b=c at *
 subst hc
 have hbt:=c.toNat_lt
 unfold Am1 I5
 simp only [Nj,Ni,vl]
 rcases KY c with ⟨h1,h2,e⟩ | ⟨h1,h2,e⟩ | ⟨h1,h2,e⟩ | ⟨h1,h2,h3,e⟩
 ·have e2:A4 (wu8 ((c.toNat:Int)-97))=((c.toNat-97:Nat):Int):=by
   rw [Y0,A5];omega
  simp (disch:=omega) only [E0,G4,Bool.not_true,Bool.not_false,cond_false,cond_true,e2,e]
 ·have e2:A4 (wu8 ((c.toNat:Int)-65))=((c.toNat-65:Nat):Int):=by
   rw [Y0,A5];omega
  simp (disch:=omega) only [E0,G4,Bool.not_true,Bool.not_false,cond_false,cond_true,e2,e]
 ·have e2:A4 (A4 (wu8 ((c.toNat:Int)-48))+26)=((c.toNat-22:Nat):Int):=by
   rw [Y0,J1 (n:=(c.toNat:Int)-48) (by omega) (by omega),A5];omega
  simp (disch:=omega) only [E0,G4,Bool.not_true,Bool.not_false,cond_false,cond_true,e2,e]
 ·rw [e]
  by_cases c1:c.toNat<48
  ·simp (disch:=omega) only [E0,G4,Bool.not_true,Bool.not_false,cond_false,cond_true]
  ·by_cases c2:c.toNat<65
   ·simp (disch:=omega) only [E0,G4,Bool.not_true,Bool.not_false,cond_false,cond_true]
   ·by_cases c3:c.toNat<97
    ·simp (disch:=omega) only [E0,G4,Bool.not_true,Bool.not_false,cond_false,cond_true]
    ·simp (disch:=omega) only [E0,G4,Bool.not_true,Bool.not_false,cond_false,cond_true]
theorem Bl1 {W:List Nat} (h:∀ x∈W,x<65536):(J0 W).all A71=true:=by
 rw [List.all_eq_true]
 intro x hx
 simp only [J0,List.mem_map] at hx
 obtain ⟨n,hn,rfl⟩:=hx
 have:=h n hn
 exact Zx (v:=(n:Int)) (n:=65536) (by omega) (by omega)
theorem Ag1 (l:List By):(D3 l).map elS=l:=by
 unfold D3
 rw [List.map_map]
 conv=>rhs;rw [<-List.map_id l]
 apply List.map_congr_left
 intro x _
 simp [elS,SV.gS]
theorem An1 (l:List By):(D3 l).all isS=true:=by
 rw [List.all_eq_true]
 intro x hx
 simp only [D3,List.mem_map] at hx
 obtain ⟨n,hn,rfl⟩:=hx
 rfl
end
section
open Go
theorem Y5 (x y:By) (r:List By) (p:By):Lib.join (x::y::r) p=x++(p++Lib.join (y::r) p):=by
 simp [Lib.join,List.intercalate]
theorem Wl (c:UInt8):∀ l:List By,l≠[]->(∀ x∈l,c∉x)->pcs c (Lib.join l [c])=l
 | [],h,_=>absurd rfl h
 | [x],_,h=>by rw [Lib.join_one,Cu (h x (by simp))]
 | x::y::r,_,h=>by
  rw [Y5,List.singleton_append,Jm (h x (by simp)),Wl c (y::r) (by simp) (λz hz=>h z (by simp [hz]))]
theorem JF (c:UInt8):∀ (n:Nat) (s:By),s.length<=n->Lib.join (pcs c s) [c]=s
 | n,s,hn=>by
  rcases Dv c s with h | ⟨p,r,rfl,h⟩
  ·rw [Cu h,Lib.join_one]
  ·rw [Jm h]
   cases n with
   | zero=>simp at hn
   | succ n=>
    have ih:=JF c n r (by simp at hn;omega)
    cases hp:pcs c r with
    | nil=>exact absurd hp (FI c r)
    | cons y q=>
     rw [Y5,<-hp,ih]
     rfl
theorem Bx (c:UInt8) (s:By):Lib.join (pcs c s) [c]=s:=JF c _ s (Nat.le_refl _)
theorem JQ {c b:UInt8}:∀ l:List By,b∈Lib.join l [c]->b=c\/∃ x∈l,b∈x
 | [],h=>by simp [Lib.join_nil] at h
 | [x],h=>by rw [Lib.join_one] at h;exact .inr ⟨x,by simp,h⟩
 | x::y::r,h=>by
  rw [Y5] at h
  simp only [List.mem_append,List.mem_singleton] at h
  rcases h with h | h | h
  ·grind
  ·grind
  ·rcases JQ (y::r) h with h | ⟨z,hz,h⟩
   all_goals grind
theorem Az2 {c b:UInt8} {s:By} (h:b∈s):b=c\/∃ x∈pcs c s,b∈x:=by
 rw [<-Bx c s] at h
 exact JQ _ h
theorem UE (b:UInt8):Y8 b=46↔b=46:=by
 rcases O4 b with ⟨h,e⟩ | ⟨h,e⟩ | ⟨h,h2,e⟩
 ·rw [e]
 ·rw [e]
 ·constructor
  ·intro h3;rw [h3] at e;simp at e;omega
  ·intro h3;subst h3;simp at h
theorem YC (a b:By):C5 (a++b)=C5 a++C5 b:=List.map_append
theorem Fc (s:By):(C5 s).length=s.length:=List.length_map _
theorem Ej:∀ (s acc:By),G8 46 (C5 acc) (C5 s)=(G8 46 acc s).map C5
 | [],acc=>rfl
 | b::r,acc=>by
  show (if Y8 b=46 then _ else _)=_
  simp only [G8]
  by_cases h:b=46
  ·rw [if_pos ((UE b).2 h),if_pos h,List.map_cons]
   have:=Ej r []
   rw [<-this]
   rfl
  ·rw [if_neg (λe=>h ((UE b).1 e)),if_neg h,<-Ej r (acc++[b]),YC]
   rfl
theorem Qg (s:By):pcs 46 (C5 s)=(pcs 46 s).map C5:=Ej s []
theorem At5 (b:UInt8):dig (Y8 b)=dig b:=by
 rcases O4 b with ⟨h,e⟩ | ⟨h,e⟩ | ⟨h,h2,e⟩
 ·rw [e]
 ·rw [e]
 ·unfold dig
  grind
theorem Pl (base:Nat):∀ (s:By) (n:Nat),G3 base n (C5 s)=G3 base n s
 | [],n=>rfl
 | b::r,n=>by
  show (if dig (Y8 b)<base then _ else _)=_
  simp only [G3,At5]
  split
  ·exact Pl base r _
  ·rfl
theorem Ay1 (b:UInt8):Y8 b=48↔b=48:=by
 rcases O4 b with ⟨h,e⟩ | ⟨h,e⟩ | ⟨h,h2,e⟩
 ·rw [e]
 ·rw [e]
 ·constructor
  ·intro h3;rw [h3] at e;simp at e;omega
  ·intro h3;subst h3;simp at h
theorem Bb0 (b:UInt8):(Y8 b=120\/Y8 b=88)↔(b=120\/b=88):=by
 rcases O4 b with ⟨h,e⟩ | ⟨h,e⟩ | ⟨h,h2,e⟩
 ·rw [e]
 ·rw [e]
 ·constructor
  ·rintro (h3 | h3)
   ·rw [h3] at e
    right
    apply UInt8.toNat_inj.1
    grind
   simp_all
  ·rintro (h3 | h3)
   ·simp_all
   ·subst h3;left;apply UInt8.toNat_inj.1;rw [e];rfl
theorem Y9 (s:By) (i:Nat):(C5 s).getD i 0=Y8 (s.getD i 0):=by
 unfold C5
 simp only [List.getD_eq_getElem?_getD,List.getElem?_map]
 cases s[i]?<;>rfl
theorem XI (s:By):Az (C5 s)=Az s:=by
 rw [Bool.eq_iff_iff,Qb,Qb,Y9,Y9,Ay1,Bb0]
theorem Zw {s:By}:C5 s=[]↔s=[]:=by unfold C5;simp
theorem Ml (l:List By):(l.map C5).getLastD []=C5 (l.getLastD []):=by
 rw [List.getLastD_eq_getLast?,List.getLastD_eq_getLast?,List.getLast?_map]
 cases l.getLast?<;>rfl
theorem QG (s:By):D8 (C5 s)=(D8 s).map C5:=by
 unfold D8
 rw [Qg,Ml]
 simp only [List.length_map,Zw]
 grind
theorem XN (s:By):X7 (C5 s)=C5 (X7 s):=by
 unfold X7
 rw [QG,Ml]
theorem Vy (s:By) (i:Nat):(C5 s).drop i=C5 (s.drop i):=by unfold C5;rw [List.map_drop]
theorem Xx (s:By):(C5 s).isEmpty=s.isEmpty:=by cases s<;>rfl
theorem EY (s:By):I1 (C5 s)=I1 s:=by
 unfold I1
 rw [XN,XI,Vy,Pl,Pl,Xx]
theorem Ry:∀ (n:Nat) (s:By),s.length<=n->(∀ b∈s,b.toNat<128)->W6 n s=some (s.map (·.toNat))
 | 0,s,h,_=>by
  have:s=[]:=List.length_eq_zero_iff.1 (by omega)
  subst this;rfl
 | n+1,[],_,_=>by simp [W6]
 | n+1,b::r,h,hs=>by
  simp only [W6]
  rw [if_neg (by simp),Lib.decodeL_ascii b r (hs b (by simp))]
  have hb:=hs b (by simp)
  rw [if_neg (by simp;omega)]
  simp only [List.drop_succ_cons,List.drop_zero]
  rw [Ry n r (by simp at h;omega) (λc hc=>hs c (by simp [hc]))]
  rfl
theorem RD (s:By) (h:∀ b∈s,b.toNat<128):Qi s=some (s.map (·.toNat)):=Ry _ s (Nat.le_refl _) h
theorem Rs (b:UInt8):O2 b=true↔(97<=b.toNat/\b.toNat<=122)\/(48<=b.toNat/\b.toNat<=57)\/b=45\/b=95:=by
 simp [O2,or_assoc]
theorem Vt {b:UInt8} (h:O2 b=true):b.toNat<128/\(b.toNat<65\/90<b.toNat)/\b≠46/\b≠37/\b≠91:=by
 rw [Rs] at h
 have key:∀ c:UInt8,b=c->b.toNat=c.toNat:=λc e=>by rw [e]
 rcases h with h | h | h | h
 ·refine ⟨by omega,by omega,?_,?_,?_⟩<;>intro e<;>have:=key _ e<;>simp at this<;>omega
 ·refine ⟨by omega,by omega,?_,?_,?_⟩<;>intro e<;>have:=key _ e<;>simp at this<;>omega
 all_goals simp_all
structure VL (s:By):Prop where
 ne:s≠[]
 le:s.length<=63
 byt:∀ b∈s,O2 b=true
theorem Cd {s:By} (h:L1 s=true):VL s:=by
 unfold L1 at h
 simp only [Bool.and_eq_true,Bool.not_eq_true',List.all_eq_true] at h
 obtain ⟨⟨⟨⟨⟨h1,h2⟩,h3⟩,h4⟩,h5⟩,h6⟩:=h
 refine ⟨by intro e;subst e;simp at h1,Nat.le_of_ble_eq_true h2,λb hb=>h5 b hb⟩
theorem Bb1 {s:By} (h:∀ b∈s,b.toNat<65\/90<b.toNat):C5 s=s:=by
 unfold C5
 conv=>rhs;rw [<-List.map_id s]
 apply List.map_congr_left
 intro b hb
 rcases O4 b with ⟨_,e⟩ | ⟨_,e⟩ | ⟨h1,h2,e⟩
 all_goals grind
theorem XZ {s:By} (h:∀ b∈C5 s,b.toNat<128):∀ b∈s,b.toNat<128:=by
 intro b hb
 have:=h (Y8 b) (List.mem_map_of_mem hb)
 rcases O4 b with ⟨_,e⟩ | ⟨_,e⟩ | ⟨h1,h2,e⟩
 all_goals grind
theorem ZR {s:By} (h:L1 (C5 s)=true):N2 s=(C5 s,0):=by
 have v:=Cd h
 have ha:=XZ (λb hb=>(Vt (v.byt b hb)).1)
 have hl:=Fc s
 have h63:=v.le
 unfold N2
 rw [RD s ha]
 grind
theorem Ub:∀ l:List By,(l.map C5).all L1=true->I9 l=(l.map C5,0)
 | [],_=>rfl
 | x::r,h=>by
  simp only [List.map_cons,List.all_cons,Bool.and_eq_true] at h
  unfold I9
  rw [ZR h.1,Ub r h.2]
  rfl
structure VN (s:By):Prop where
 le:s.length<=253
 num:I1 s=false
 all:∀ x∈pcs 46 s,L1 x=true
theorem Gr {s:By}:F7 s=true↔VN s:=by
 unfold F7
 simp only [Bool.and_eq_true,Bool.not_eq_true',List.all_eq_true]
 exact ⟨λh=>⟨Nat.le_of_ble_eq_true h.1.1,h.1.2,h.2⟩,λh=>⟨⟨Nat.ble_eq_true_of_le h.le,h.num⟩,h.all⟩⟩
theorem VN.byt {s:By} (h:VN s):∀ b∈s,b=46\/O2 b=true:=by
 intro b hb
 rcases Az2 (c:=46) hb with h1 | ⟨x,hx,h1⟩
 ·grind
 ·exact .inr ((Cd (h.all x hx)).byt b h1)
theorem VN.byt' {s:By} (h:VN s) {b:UInt8} (hb:b∈s):b.toNat<128/\(b.toNat<65\/90<b.toNat)/\b≠37/\b≠91:=by
 rcases h.byt b hb with h1 | h1
 ·simp_all
 ·have:=Vt h1
  grind
theorem Zo (c:UInt8):∀ (l:List By),(∀ x∈l,x≠[]/\c∉x)->(Lib.join l [c]).getLast?≠some c
 | [],_=>by simp [Lib.join_nil]
 | [x],h=>by
  rw [Lib.join_one]
  intro e
  have:=List.mem_of_getLast? e
  grind
 | x::y::r,h=>by
  have ih:=Zo c (y::r) (λz hz=>h z (by simp [hz]))
  have hne:Lib.join (y::r) [c]≠[]:=by
   intro e
   have:pcs c (Lib.join (y::r) [c])=y::r:=Wl c _ (by simp) (λz hz=>(h z (by simp [hz])).2)
   rw [e] at this
   have h2:pcs c []=[[]]:=rfl
   grind
  rw [Y5,List.getLast?_append,List.getLast?_append]
  cases hq:(Lib.join (y::r) [c]).getLast? with
  | none=>rw [List.getLast?_eq_none_iff] at hq;exact absurd hq hne
  | some z=>
   grind
theorem VN.last {s:By} (h:VN s):s.getLast?≠some 46:=by
 have:=Zo 46 (pcs 46 s) (λx hx=>⟨(Cd (h.all x hx)).ne,(Z9 hx).1⟩)
 rwa [Bx] at this
theorem VN.head {s:By} (h:VN s):s.head?≠some 91:=by
 intro e
 exact (h.byt' (List.mem_of_head? e)).2.2.2 rfl
theorem VN.low {s:By} (h:VN s):C5 s=s:=Bb1 λb hb=>(h.byt' hb).2.1
theorem US:∀ s:By,(∀ b∈s,b≠37)->T4 s=some s
 | [],_=>by unfold T4;rfl
 | b::r,h=>by
  unfold T4
  rw [if_neg (h b (by simp)),US r (λc hc=>h c (by simp [hc]))]
  rfl
theorem Xz {raw t' t name:By} (h1:raw.length<=1024) (h2:raw.head?≠some 91) (h3:T4 raw=some t') (h4:M8 t'=t) (h5:C5 t=name) (hn:VN name):D9 raw=(⟨1,name,0,z8⟩,0):=by
 subst h5
 have hnum:I1 t=false:=by rw [<-EY];exact hn.num
 have hal:((pcs 46 t).map C5).all L1=true:=by
  rw [<-Qg,List.all_eq_true]
  exact hn.all
 unfold D9
 rw [R7,if_neg h2,h3]
 simp only [h4,hnum]
 rw [Ub _ hal]
 simp only [Bool.false_eq_true,if_false,if_true]
 rw [<-Qg,Bx,if_neg (by have:=hn.le;omega),hn.num]
 simp
theorem QE {s:By} (h:VN s):D9 s=(⟨1,s,0,z8⟩,0):=
 Xz (by have:=h.le;omega) h.head (US s λb hb=>(h.byt' hb).2.2.1) (by unfold M8;rw [if_neg h.last]) h.low h
theorem Rx {s:By} (h:∀ x∈pcs 46 s,x≠[]):D8 s=pcs 46 s:=by
 unfold D8
 grind
theorem VN.pne {s:By} (h:VN s):∀ x∈pcs 46 s,x≠[]:=λx hx=>(Cd (h.all x hx)).ne
theorem VN.super {s x y:By} {r:List By} (h:VN s) (hp:pcs 46 s=x::y::r):s=x++46::Lib.join (y::r) [46]/\VN (Lib.join (y::r) [46])/\pcs 46 (Lib.join (y::r) [46])=y::r:=by
 have hs:=Bx 46 s
 rw [hp,Y5] at hs
 have hpc:pcs 46 (Lib.join (y::r) [46])=y::r:=Wl 46 _ (by simp) (λz hz=>(Z9 (s:=s) (by rw [hp];simp [hz])).1)
 have hall:∀ z∈y::r,L1 z=true:=λz hz=>h.all z (by rw [hp];exact List.mem_cons_of_mem _ hz)
 refine ⟨hs.symm,⟨?_,?_,by rw [hpc];exact hall⟩,hpc⟩
 ·have:=congrArg List.length hs
  have:=h.le
  grind
 ·have h1:=h.num
  unfold I1 at h1 ⊢
  have e:X7 (Lib.join (y::r) [46])=X7 s:=by
   unfold X7
   rw [Rx h.pne,Rx (by rw [hpc];exact λz hz=>(Cd (hall z hz)).ne),hpc,hp]
   rfl
  grind
def sh (n:Nat) (i:Int):Int:=if i = -1 then -1 else i+n
theorem An6 {s:By} (h:(N2 s).2=0):L1 (N2 s).1=true:=by
 unfold N2 at h ⊢
 grind
theorem Yn:∀ l:List By,(I9 l).2=0->(∀ x∈(I9 l).1,L1 x=true)/\(I9 l).1.length=l.length
 | [],_=>⟨by simp [I9],rfl⟩
 | x::r,h=>by
  unfold I9 at h ⊢
  by_cases hx:(N2 x).2=0
  ·rw [if_pos hx] at h ⊢
   obtain ⟨h1,h2⟩:=Yn r h
   refine ⟨λy hy=>?_,by simp [h2]⟩
   rcases List.mem_cons.1 hy with rfl | hy
   ·exact An6 hx
   grind
  grind
end
section
open Go Go.Op
abbrev Ent:=By × Bool
abbrev A78:=By × Bool × Int
def Md (e:Ent):List SV:=[.str e.1,.bool e.2]
def Bl9 (p:A78):List SV:=[.str p.1,.bool p.2.1,.int .i64 p.2.2]
def D7 (l:List Ent):LL:=l.map Md
def Bm0 (l:List A78):LL:=l.map Bl9
def F1:List SV->Bool | [.str _,.bool _]=>true | _=>false
def C3 (el:List SV):Ent:=((el.getD 0 .nilp).gS,(el.getD 1 .nilp).gB)
theorem Zz {α β:Type} (f:β->α) (g:α->β):∀ l:List α,(∀ x∈l,f (g x)=x)->l=(l.map g).map f
 | [],_=>rfl
 | a::r,h=>by
  rw [List.map_cons,List.map_cons,h a (by simp),<-Zz f g r λx hx=>h x (by simp [hx])]
theorem Bi {l:LL} (h:l.all F1=true):l=D7 (l.map C3):=Zz Md C3 l λx hx=>by
 have:=List.all_eq_true.1 h x hx
 unfold F1 at this
 split at this
 ·rfl
 ·cases this
theorem Me (l:List Ent):(D7 l).map C3=l:=by
 unfold D7
 rw [List.map_map]
 exact List.map_id'' (λ_=>rfl) l
@[simp] theorem C9 (l:List Ent):(D7 l).length=l.length:=List.length_map ..
@[simp] theorem Bj0 (l:List A78):(Bm0 l).length=l.length:=List.length_map ..
def noE:Ent:=([],false)
theorem Hz {l:List Ent} {i:Nat} (h:i<l.length):(D7 l).getD i []=Md (l.getD i noE):=by
 unfold D7
 simp [List.getD_eq_getElem?_getD,List.getElem?_eq_getElem h]
theorem Q7:∀ x y:By,bytesLess x y=decide (x<y)
 | [],[]=>by simp [bytesLess]
 | _::_,[]=>by simp [bytesLess]
 | [],_::_=>by simp [bytesLess]
 | a::x,b::y=>by
  rw [bytesLess,Q7 x y]
  simp only [List.cons_lt_cons_iff]
  by_cases h1:a<b<;>by_cases h2:a=b<;>by_cases h3:x<y<;>simp [h1,h2,h3]
def rl (s:By):List By:=(pcs 46 s).reverse
def Vz:List By->List By->Bool
 | _,[]=>false
 | [],_::_=>true
 | x::r,y::q=>bytesLess x y || (x==y&&Vz r q)
theorem Sp:∀ x y:List By,Vz x y=decide (x<y)
 | [],[]=>by simp [Vz]
 | _::_,[]=>by simp [Vz]
 | [],_::_=>by simp [Vz]
 | a::x,b::y=>by
  rw [Vz,Sp x y,Q7]
  simp only [List.cons_lt_cons_iff]
  by_cases h1:a<b<;>by_cases h2:a=b<;>by_cases h3:x<y<;>simp [h1,h2,h3]
def T3 (a b:By):Bool:=Vz (rl a) (rl b)
def T1 (a b:By):Int:=cond (bytesLess a b) (-1) (cond (bytesLess b a) 1 0)
def EC (a b:Int):Int:=cond (ltI a b) (-1) (cond (ltI b a) 1 0)
def Q1 (a b:By):Int:=cond (T3 a b) (-1) (cond (T3 b a) 1 0)
theorem Bc1 {a b:By} (h:rl a=rl b):a=b:=by
 rw [<-Bx 46 a,<-Bx 46 b,List.reverse_inj.1 h]
theorem Am (a:By):T3 a a=false:=by
 unfold T3
 rw [Sp]
 simp
theorem Lb {a b c:By} (h:T3 a b=true) (g:T3 b c=true):T3 a c=true:=by
 unfold T3 at *
 rw [Sp] at *
 exact decide_eq_true (List.lt_trans (of_decide_eq_true h) (of_decide_eq_true g))
theorem Ij {a b:By} (h:T3 a b=false) (g:T3 b a=false):a=b:=by
 unfold T3 at *
 rw [Sp] at *
 exact Bc1 (List.le_antisymm (List.not_lt.1 (of_decide_eq_false g)) (List.not_lt.1 (of_decide_eq_false h)))
theorem PX {a b:By} (h:T3 a b=true):T3 b a=false:=by
 cases e:T3 b a with
 | false=>rfl
 | true=>exact absurd (Lb h e) (by rw [Am];simp)
theorem Rv {a b c:By} (h:T3 a b=false) (g:T3 b c=false):T3 a c=false:=by
 cases e:T3 a c with
 | false=>rfl
 | true=>
  cases e1:T3 b a with
  | true=>rw [Lb e1 e] at g;cases g
  | false=>
   obtain rfl:=Ij h e1
   rw [e] at g;cases g
theorem Lx (a b:By):decide (Q1 a b<0)=T3 a b:=by
 unfold Q1
 cases T3 a b with
 | true=>rfl
 | false=>cases T3 b a<;>rfl
theorem WA (a b:By):(Q1 a b==0)=(a==b):=by
 unfold Q1
 cases h:T3 a b with
 | true=>
  have:a≠b:=λe=>by rw [e,Am] at h;cases h
  simp [this]
 | false=>
  cases g:T3 b a with
  | true=>
   have:a≠b:=λe=>by rw [e,Am] at g;cases g
   simp [this]
  | false=>
   obtain rfl:=Ij h g
   simp
theorem KQ {α:Type} [Inhabited α] (f:α->By):Sort.SWO (Go.Proofs.ltOf λx y:α=>Q1 (f x) (f y)) where
 irrefl x:=by unfold Go.Proofs.ltOf;rw [Lx,Am]
 trans x y z h g:=by unfold Go.Proofs.ltOf at *;rw [Lx] at *;exact Lb h g
 ntrans x y z h g:=by unfold Go.Proofs.ltOf at *;rw [Lx] at *;exact Rv h g
def Uh (f:Nat->Int):Nat->Nat->Nat->Nat
 | 0,lo,_=>lo
 | n+1,lo,hi=>if lo<hi then (if f ((lo+hi) / 2)<0 then Uh f n ((lo+hi) / 2+1) hi else Uh f n lo ((lo+hi) / 2)) else lo
theorem DM (f:Nat->Int):∀ n lo hi,lo<=hi->lo<=Uh f n lo hi/\Uh f n lo hi<=hi
 | 0,lo,hi,h=>⟨Nat.le_refl _,h⟩
 | n+1,lo,hi,h=>by
  unfold Uh
  split
  ·split
   ·have:=DM f n ((lo+hi) / 2+1) hi (by omega);omega
   ·have:=DM f n lo ((lo+hi) / 2) (by omega);omega
  ·omega
def bsI (h:List By) (s:By):Nat:=Uh (λi=>Q1 (h.getD i []) s) (h.length+1) 0 h.length
def bsB (h:List By) (s:By):Bool:=Nat.blt (bsI h s) h.length&&h.getD (bsI h s) []==s
def asc (h:List By):Bool:=match h with
 | []=>true
 | [_]=>true
 | a::b::r=>T3 a b&&asc (b::r)
theorem TO {a b:Nat}:Nat.blt a b=true↔a<b:=by rw [Nat.blt_eq]
theorem Gp (c:UInt8):∀ (p acc s:By),G8 c acc (p++c::s)=G8 c acc p++G8 c [] s
 | [],acc,s=>by simp [G8]
 | b::r,acc,s=>by
  simp only [List.cons_append,G8]
  split
  ·rw [Gp c r [] s];rfl
  ·exact Gp c r _ s
def As6 (s:By) (e:Ent):Bool:=F7 s&&(e.1==s || e.2&&As7 e.1 s)
def smE (el:List SV):Bool:=A2 (elS el).length
def L8 (z:Bool) (l:LL):Bool:=!z || l.isEmpty
def Bl8 (h:By) (e:Int):Bool:=F7 h&&(!ltI e 0 && !ltI 1099511627776 e)
def ixE (l:List Ent):Int:=match l.findIdx? (λe=>!F7 e.1) with | some j=>(j:Int) | none=>-1
def Xn (l:List Ent):Bool:=l.any λe=>!F7 e.1
def Mb:List By->Bool
 | []=>false
 | a::r=>r.contains a || Mb r
def Xs (e:Ent):List Ent->List Ent
 | []=>[e]
 | a::r=>if T3 a.1 e.1 then a::Xs e r else e::a::r
def isE (l:List Ent):List Ent:=l.foldl (λacc e=>Xs e acc) []
def P0 (l:List Ent):Nat:=if 1000<l.length then 3 else if Xn l then 14 else if Mb (l.map Prod.fst) then 17 else 0
def Bi6 (h:By) (b:Bool):Ent:=(h,b)
def Eh (n:Int) (l:LL):Bool:=!ltI n l.length&&l.all λel=>!ltI 300 (elS el).length
abbrev Ke:={e:Ent // e.1.length<=1000000000}
instance:Inhabited Ke:=⟨⟨noE,by decide⟩⟩
def mkS (e:Ent):Ke:=if h:e.1.length<=1000000000 then ⟨e,h⟩ else default
def Ek (d:Array Ke):Array Ke:=Sort.pdq (Go.Proofs.ltOf λx y:Ke=>Q1 x.1.1 y.1.1) d 0 d.size (Lib.bitLen d.size) true true
def Q4 (l:List Ent):List Ent:=(Ek (l.map mkS).toArray).toList.map (·.1)
theorem Gb {l:List Ent} {i:Nat} (h:i<l.length):gX (D7 l) i 0=(l.getD i noE).1:=by unfold gX gC;rw [Hz h];rfl
theorem OB {l:List Ent} {i:Nat} (h:i<l.length):gY (D7 l) i 1=(l.getD i noE).2:=by unfold gY gC;rw [Hz h];rfl
theorem Ji {l:List Ent} {i:Nat} (h:i<l.length):okE ⟨true,true,[.str,.bool]⟩ (D7 l) i 0=true:=by unfold okE;rw [Hz h];simp [h,okS,Md,SV.has]
theorem Sy {l:List Ent} (h:(D7 l).all smE=true) {i:Nat} (hi:i<l.length):A2 (l.getD i noE).1.length=true:=by
 have:=List.all_eq_true.1 h ((D7 l).getD i []) (by
  rw [List.getD_eq_getElem?_getD,List.getElem?_eq_getElem (by simpa using hi)]
  exact List.getElem_mem _)
 rw [Hz hi] at this
 exact this
theorem TZ {α:Type} (f:α->By) {d:α} {l:List α} {i:Nat} (h:i<l.length):(l.map f).getD i []=f (l.getD i d):=by
 simp [List.getD_eq_getElem?_getD,h]
abbrev leE (a b:Ent):Prop:=T3 b.1 a.1=false
theorem Xa (d:Array Ke):(Ek d).toList.Perm d.toList/\(Ek d).size=d.size/\∀ i j,i<j->j<d.size->T3 ((Ek d)[j]!).1.1 ((Ek d)[i]!).1.1=false:=by
 obtain ⟨⟨h1,_,h3⟩,h4⟩:=Sort.pdq_sorts (Go.Proofs.ltOf λx y:Ke=>Q1 x.1.1 y.1.1) (KQ λx:Ke=>x.1.1) d 0 d.size (Lib.bitLen d.size) true true (Nat.zero_le _) (Nat.le_refl _) (.inl rfl)
 have hs:(Ek d).size=d.size:=h1
 refine ⟨?_,hs,λi j hij hj=>?_⟩
 ·have h3:((Ek d).extract 0 d.size).toList.Perm (d.extract 0 d.size).toList:=h3
  rw [<-hs] at h3
  rw [Array.extract_size,hs,Array.extract_size] at h3
  exact h3
 ·have:=h4 i j (Nat.zero_le _) hij hj
  unfold Go.Proofs.ltOf at this
  rw [Lx] at this
  exact this
theorem UK {e:Ent} (h:e.1.length<=1000000000):(mkS e).1=e:=by unfold mkS;rw [dif_pos h]
theorem Cz {l:List Ent} (hl:∀ e∈l,e.1.length<=1000000000):(Q4 l).Perm l:=by
 have h:=((Xa (l.map mkS).toArray).1).map (·.1)
 unfold Q4
 refine h.trans ?_
 simp only [List.map_map]
 rw [show List.map ((λx:Ke=>x.1) ∘ mkS) l=l from (List.map_congr_left (g:=id) λe he=>UK (hl e he)).trans (List.map_id l)]
theorem Ns (l:List Ent):(Q4 l).Pairwise leE:=by
 obtain ⟨_,h2,h3⟩:=Xa (l.map mkS).toArray
 unfold Q4
 rw [List.pairwise_map,List.pairwise_iff_getElem]
 intro i j hi hj hij
 have hj':j<(Ek (l.map mkS).toArray).size:=by simpa using hj
 have hi':i<(Ek (l.map mkS).toArray).size:=by simpa using hi
 have:=h3 i j hij (by omega)
 simp only [getElem!_pos,hi',hj'] at this
 simpa using this
theorem Qa (e:Ent):∀ l:List Ent,(Xs e l).Perm (e::l)
 | []=>.refl _
 | a::r=>by
  unfold Xs
  split
  ·exact ((Qa e r).cons a).trans (.swap e a r)
  ·exact .refl _
theorem Rn (e:Ent):∀ {l:List Ent},l.Pairwise leE->(Xs e l).Pairwise leE
 | [],_=>by simp [Xs]
 | a::r,h=>by
  rw [List.pairwise_cons] at h
  unfold Xs
  split
  ·rename_i hlt
   rw [List.pairwise_cons]
   refine ⟨λb hb=>?_,Rn e h.2⟩
   rcases List.mem_cons.1 ((Qa e r).mem_iff.1 hb) with rfl | hb
   ·exact PX hlt
   ·exact h.1 b hb
  ·rename_i hlt
   have hlt:T3 a.1 e.1=false:=by simpa using hlt
   rw [List.pairwise_cons]
   refine ⟨λb hb=>?_,List.pairwise_cons.2 h⟩
   rcases List.mem_cons.1 hb with rfl | hb
   ·exact hlt
   ·exact Rv (h.1 b hb) hlt
theorem OS:∀ (l acc:List Ent),(l.foldl (λacc e=>Xs e acc) acc).Perm (l++acc)/\(acc.Pairwise leE->(l.foldl (λacc e=>Xs e acc) acc).Pairwise leE)
 | [],acc=>⟨.refl _,id⟩
 | e::r,acc=>by
  obtain ⟨h1,h2⟩:=OS r (Xs e acc)
  exact ⟨h1.trans (((Qa e acc).append_left r).trans List.perm_middle),λh=>h2 (Rn e h)⟩
theorem T2 (l:List Ent):(isE l).Perm l:=by simpa [isE] using (OS l []).1
theorem La (l:List Ent):(isE l).Pairwise leE:=(OS l []).2 .nil
theorem Ag:∀ {l:List By},Mb l=false↔l.Nodup
 | []=>by simp [Mb]
 | a::r=>by
  unfold Mb
  rw [Bool.or_eq_false_iff,Ag,List.nodup_cons]
  simp
theorem ZK {l:List Ent} (hl:∀ e∈l,e.1.length<=1000000000) (hd:Mb (l.map Prod.fst)=false):Q4 l=isE l:=by
 have hn:=Ag.1 hd
 have key:∀ a b:Ent,a∈l->b∈l->a.1=b.1->a=b:=by
  clear hl hd
  induction l with
  | nil=>intro a b ha;cases ha
  | cons x r ih=>
   rw [List.map_cons,List.nodup_cons] at hn
   intro a b ha hb e
   rcases List.mem_cons.1 ha with ha | ha<;>rcases List.mem_cons.1 hb with hb | hb
   ·rw [ha,hb]
   ·exact absurd (List.mem_map.2 ⟨b,hb,by rw [<-e,ha]⟩) hn.1
   ·exact absurd (List.mem_map.2 ⟨a,ha,by rw [e,hb]⟩) hn.1
   ·exact ih hn.2 a b ha hb e
 refine List.Perm.eq_of_pairwise (le:=leE) (λa b ha hb h1 h2=>key a b ((Cz hl).mem_iff.1 ha) ((T2 l).mem_iff.1 hb) (Ij h2 h1)) (Ns l) (La l) ((Cz hl).trans (T2 l).symm)
def DI:List Ent->Bool
 | a::b::r=>(b.1==a.1) || DI (b::r)
 | _=>false
theorem Ac0:∀ {l:List Ent},l.Pairwise leE->DI l=false->(l.map Prod.fst).Nodup
 | [],_,_=>.nil
 | [a],_,_=>by simp
 | a::b::r,hp,h=>by
  unfold DI at h
  rw [Bool.or_eq_false_iff] at h
  rw [List.pairwise_cons] at hp
  have ih:=Ac0 hp.2 h.2
  rw [List.map_cons,List.nodup_cons]
  refine ⟨λhm=>?_,ih⟩
  obtain ⟨c,hc,e⟩:=List.mem_map.1 hm
  have hab:T3 a.1 b.1=true:=by
   cases q:T3 a.1 b.1 with
   | true=>rfl
   | false=>
    have:=Ij (hp.1 b (by simp)) q
    rw [this] at h
    simp at h
  rcases List.mem_cons.1 hc with rfl | hc
  ·rw [e,Am] at hab;cases hab
  ·have:=(List.pairwise_cons.1 hp.2).1 c hc
   have this:T3 c.1 b.1=false:=this
   rw [e,hab] at this;cases this
theorem TH:∀ {l:List Ent},DI l=true->Mb (l.map Prod.fst)=true
 | a::b::r,h=>by
  unfold DI at h
  rw [Bool.or_eq_true] at h
  rw [List.map_cons]
  unfold Mb
  rw [Bool.or_eq_true]
  rcases h with h | h
  ·exact .inl (by simp [eq_of_beq h])
  ·exact .inr (TH h)
theorem Ac1 {l:List Ent} (hl:∀ e∈l,e.1.length<=1000000000):DI (Q4 l)=Mb (l.map Prod.fst):=by
 have hp:=(Cz hl).map Prod.fst
 cases h:DI (Q4 l) with
 | true=>
  have:=TH h
  cases hd:Mb (l.map Prod.fst) with
  | true=>rfl
  | false=>
   rw [Ag.2 (hp.nodup_iff.2 (Ag.1 hd))] at this
   cases this
 | false=>exact (Ag.2 (hp.nodup_iff.1 (Ac0 (Ns l) h))).symm
theorem Gd {E:List Ent} {e:Ent}:e∈isE E↔e∈E:=(T2 E).mem_iff
end
section
open Go Go.Proofs
set_option maxRecDepth 100000
section
variable {σ R : Type} (lf : Nat) (cl : E1) (yh : Yh σ) (s : σ) (k : Out -> St σ -> Option R)
noncomputable def DU (lf:Nat):Cfg:=D2 lf [81] (A3 []) [] (A3 [(1,[6]),(0,[3,0,0])]) [] (A3 []) (some [6]) [] [] []
noncomputable def Aj9 {R:Type} (lf:Nat) (s0 sep1:By) (sepSave2:Int) (k0:By->By->Int->Option R):Option R:=k0 s0 sep1 sepSave2
theorem Ak0 (d:Nat) (s0 sep1 sepSave2):evC (DU lf) (d+1) σ yh 81 [pS s0,pS sep1,pI sepSave2] [] s=Aj9 lf s0 sep1 sepSave2 (λs0 s1 n2=>some (.fnr (Fn.func 106) [] [.ptr 1 0 0,.ptr 0 0 0,.ptr 2 0 0],[.box [pS s0],.box [pS s1],.box [pI n2]],s)):=by
 refine (evE (fn:=Tryz.f81) (by kernel_rfl)).trans ?_
 generalize evC (DU lf) d=cl
 unfold Aj9;kernel_rfl
noncomputable def NI (lf:Nat):Cfg:=D2 lf [49] (A3 []) [(81,CD)] (A3 [(1,[4]),(0,[0,0])]) [] (A3 []) (some [4]) [] [] []
noncomputable def Bc4 {R:Type} (lf:Nat) (s0 sep1:By) (k0:By->By->Option R):Option R:=k0 s0 sep1
theorem A31 (d:Nat) (s0 sep1):evC (NI lf) (d+1) σ yh 49 [pS s0,pS sep1] [] s=Bc4 lf s0 sep1 (λs0 s1=>some (.fnr (Fn.func 106) [] [.ptr 1 0 0,.ptr 0 0 0,.ptr 2 0 0],[.box [pS s0],.box [pS s1],.box [pI (0:Int)]],s)):=by
 refine (evE (fn:=Tryz.f49) (by kernel_rfl)).trans ?_
 generalize evC (NI lf) d=cl
 unfold Bc4;kernel_rfl
noncomputable abbrev Yo:Code:=F0 Tryz.f59
noncomputable def Hp (lf:Nat):Cfg:=D2 lf [59] (A3 []) [(93,Ep),(49,On),(94,CF)] (A3 [(7,[2]),(6,[2]),(5,[2,13]),(4,[2,0]),(3,[2,9]),(2,[2]),(1,[0,1,7]),(0,[0,1])]) [93,94] (A3 [(0,[2]),(1,[2])]) (some [2]) [] [(106,Fm)] []
noncomputable def Sn {R:Type} (lf:Nat) (x'0:By) (xs:List By) (self:Unit->Option R) (k0:Unit->Option R) (k1:Unit->Option R):Option R:=cond (A2 x'0.length) (cond (not (L1 x'0)) (k1 ()) (self ())) none
noncomputable def Vl {R:Type} (lf:Nat) (L:List By) (k0:Unit->Option R) (k1:Unit->Option R):Option R:=Bc0 (α:=Unit->Option R) (λ_=>k0 ()) (λx'0 xs self _=>Sn lf x'0 xs self  k0 k1) L ()
theorem IZ {R:Type} (lf:Nat) (x'0:By) (xs:List By) (k0:Unit->Option R) (k1:Unit->Option R):Vl lf (x'0::xs)  k0 k1=Sn lf x'0 xs (λ_=>Vl lf xs  k0 k1)  k0 k1:=rfl
theorem XC (L:List By):R4 #[13] (gp [(2,.ptr 0 0 0),(9,.fnr (Fn.func 106) [] [.bad,.bad,.bad])] 4) (bd (Hp lf) cl yh (cd [1,1,0,1,0,0] Yo)) (bd (Hp lf) cl yh (cd [1,1,0,1,0,1] Yo)) (L.map (λ(x'0:By)=>([pS x'0]:List PV))) [.box [pB false],.dead,.dead,.dead] s (rgK (gp [(2,.ptr 0 0 0),(9,.fnr (Fn.func 106) [] [.bad,.bad,.bad])] 4) (λH=>S9 H [2,1,3] [.box [.bad],.box [.bad],.box [.bad]]) k) =
 Vl lf L  (λ_=>k .normal ⟨gp [(2,.ptr 0 0 0),(9,.fnr (Fn.func 106) [] [.bad,.bad,.bad])] 4,[.box [pB false],.box [.bad],.box [.bad],.box [.bad]],s⟩) (λ_=>k .ret ⟨gp [(2,.ptr 0 0 0),(9,.fnr (Fn.func 106) [] [.bad,.bad,.bad])] 4,[.box [pB false],.box [.bad],.box [.bad],.box [.bad]],s⟩):=by
 induction L with
 | nil=>rfl
 | cons x'0 xs ih=>rw [IZ];unfold Sn;exact (Eq.trans (by kernel_rfl) (A1 (A1 rfl ih) rfl))
noncomputable def EJ {R:Type} (lf:Nat) (s0:By) (k0:Unit->Option R) (k1:Unit->Option R):Option R:=cond ((A2 s0.length)&&((1==1)&&((0:Int)==0))) (Vl lf (pcs (List.getD ([46]:List UInt8) 0 0) s0)  k0 k1) none
abbrev IY (b:Code):Prop:=∀ (k:Out->St σ->Option R) s0,A8 (Hp lf) cl yh b ⟨gp [(2,.ptr 0 0 0),(9,.fnr (Fn.func 106) [] [.ptr 2 0 0,.ptr 1 0 0,.ptr 3 0 0])] 4,[.box [pB false],.box [pS s0],.box [pS ([46]:List UInt8)],.box [pI (0:Int)]],s⟩ k=EJ lf s0 (λ_=>k .normal ⟨gp [(2,.ptr 0 0 0),(9,.fnr (Fn.func 106) [] [.bad,.bad,.bad])] 4,[.box [pB false],.box [.bad],.box [.bad],.box [.bad]],s⟩) (λ_=>k .ret ⟨gp [(2,.ptr 0 0 0),(9,.fnr (Fn.func 106) [] [.bad,.bad,.bad])] 4,[.box [pB false],.box [.bad],.box [.bad],.box [.bad]],s⟩)
theorem XB:IY (R:=R) lf cl yh s (cd [1,1,0,1,0] Yo):=by
 intro k s0;unfold EJ;exact ((A70 [1,1,0,1,0] (by kernel_rfl)).trans (by kernel_rfl)).trans (Wb (XC lf cl yh s k (pcs (List.getD ([46]:List UInt8) 0 0) s0) ))
noncomputable def hvn {R:Type} (lf:Nat) (name0:By) (k0:Unit->Option R) (k1:Bool->Bool->Option R):Option R:=cond (ltI 253 (name0.length:Int)) (k0 ()) (cond (A2 name0.length) (cond (I1 name0) (k0 ()) (EJ lf name0 (λ_=>k1 true true) (λ_=>k1 false false))) none)
theorem Ba0 (b_11010:Code) (h_hvn_e1:IY (R:=PV × List Blk × σ) lf cl yh s b_11010) (name0:By):A8 (Hp lf) cl yh (cd [] (S7 [1,1,0,1,0] b_11010 Yo)) ⟨[pS name0]++tps 16,[],s⟩ (K9 (Hp lf) Tryz.f59)=hvn lf name0 (λ_=>some (pB false,[.box [pB false]],s)) (λr0 b1=>some (pB r0,[.box [pB b1],.box [.bad],.box [.bad],.box [.bad]],s)):=by
 unfold hvn;exact (Eq.trans (by kernel_rfl) (A1 rfl (A1 (A1 rfl ((h_hvn_e1 (M3 0 (N1 (Hp lf) cl yh (cd [1,1,1] Yo) (K9 (Hp lf) Tryz.f59))) name0).trans (by kernel_rfl))) rfl)))
theorem Ba1 (d:Nat) (name0):evC (Hp lf) (d+1) σ yh 59 [pS name0] [] s=hvn lf name0 (λ_=>some (pB false,[.box [pB false]],s)) (λr0 b1=>some (pB r0,[.box [pB b1],.box [.bad],.box [.bad],.box [.bad]],s)):=
 (evE (fn:=Tryz.f59) (by kernel_rfl)).trans (Eq.trans (by kernel_rfl) (Ba0 lf (evC (Hp lf) d) yh s (cd [1,1,0,1,0] Yo) (XB lf (evC (Hp lf) d) yh s) name0))
noncomputable def MW (lf:Nat):Cfg:=D2 lf [41] (A3 []) [] (A3 [(1,[2]),(0,[1])]) [] (A3 []) (some [2]) [] [] []
noncomputable def A99 {R:Type} (lf:Nat) (name0:By) (k0:By->Option R):Option R:=k0 name0
theorem Av6 (d:Nat) (name0):evC (MW lf) (d+1) σ yh 41 [pS name0] [] s=A99 lf name0 (λs0=>some (.fnr (Fn.func 76) [] [.ptr 0 0 0],[.box [pS s0]],s)):=by
 refine (evE (fn:=Tryz.f41) (by kernel_rfl)).trans ?_
 generalize evC (MW lf) d=cl
 unfold A99;kernel_rfl
noncomputable abbrev Ls:Code:=F0 Tryz.f106
noncomputable def T6 (lf:Nat):Cfg:=D2 lf [106] (A3 [(5,[0,0,0,0]),(1,[0,1])]) [(107,Ln),(108,Tp)] (A3 [(10,[]),(9,[0,0,0,0]),(8,[0,0,0,0,3,34]),(7,[0,0,0,0,3,0]),(6,[0,0,0,0,3,25]),(5,[0,0,0,0,3]),(4,[0,1]),(3,[0,1,3,18]),(2,[0,1,3]),(1,[0,1,11]),(0,[0,0,0,0,7])]) [108] (A3 [(2,[0,1]),(3,[0,0,0,0]),(0,[]),(1,[0,1])]) (some []) [] [] []
noncomputable def Xb {σ R:Type} (yh:Yh σ) (lf n:Nat) (s0 s1:By) (n2:Int) (s:σ) (k0:By->By->Int->σ->Option R):Option R:=match n with | 0=>none | n+1=>cond (ltI 0 (s1.length:Int)) none (k0 s0 s1 n2 s)
theorem KL (n:Nat) (s0 s1:By) (n2:Int) (s:σ):G9 3 ((T6 lf).keep 1) (bd (T6 lf) cl yh (cd [0,1,0,0,0,0] Ls)) n ⟨gp [(0,.yd),(1,.ptr 1 0 0)] 49,[.box [pS s0],.box [pS s1],.box [pI n2]],s⟩ k =
 Xb yh lf n s0 s1 n2 s (λs0 s1 n2 s=>k (.exit 0) ⟨gp [] 52,[.box [pS s0],.box [pS s1],.box [pI n2]],s⟩):=by
 induction n generalizing s0 s1 n2 s with
 | zero=>rfl
 | succ n ih=>rw [Xb];kernel_rfl
noncomputable def N6 {σ R:Type} (yh:Yh σ) (lf n:Nat) (s0 s1:By) (n2:Int) (s:σ) (k0:By->By->Int->σ->Option R) (k1:By->By->Int->σ->Option R):Option R:=match n with
 | 0=>none
 | n+1=>
  cond (A2 s1.length)
   (cond (ltI (Lib.index s1 s0) (0:Int))
   (k0 s0 s1 n2 s)
   (vl (A4 ((Lib.index s1 s0)+n2)) λn'5=>
    cond (Z4 0 n'5 s1.length)
    (ydK (yh [pS (cut s1 0 n'5)] s) λby'6 s'y6=>
     (cond (not by'6)
     (k1 s0 s1 n2 s'y6)
     (vl (A4 ((Lib.index s1 s0)+(s0.length:Int))) λn'7=>
      cond (Z4 n'7 (s1.length:Int) s1.length)
      (vl (cut s1 n'7 (s1.length:Int)) λs'8=>
       N6 yh lf n s0 s'8 n2 s'y6 k0 k1)
      none)))
    none))
   none
theorem KM (n:Nat) (s0 s1:By) (n2:Int) (s:σ):G9 3 ((T6 lf).keep 5) (bd (T6 lf) cl yh (cd [1,0,0,0] Ls)) n ⟨gp [(0,.yd),(0,.ptr 0 0 0),(0,.ptr 1 0 0),(0,.ptr 2 0 0)] 48,[.box [pS s0],.box [pS s1],.box [pI n2]],s⟩ k =
 N6 yh lf n s0 s1 n2 s (λs0 s1 n2 s=>k (.exit 2) ⟨gp [(0,.yd),(1,.ptr 1 0 0)] 49,[.box [pS s0],.box [pS s1],.box [pI n2]],s⟩) (λs0 s1 n2 s=>k .ret ⟨gp [] 52,[.box [pS s0],.box [pS s1],.box [pI n2]],s⟩):=by
 induction n generalizing s0 s1 n2 s with
 | zero=>rfl
 | succ n ih=>rw [N6];simp only [<-ih];kernel_rfl
noncomputable def KK {σ R:Type} (yh:Yh σ) (lf:Nat) (p t:By) (n:Int) (s:σ) (k0:By->By->Int->σ->Option R):Option R:=
 cond ((p.length:Int)==0)
 (Xb yh lf lf p t n s (λs'0 s'1 n'2 s'3=>k0 s'0 s'1 n'2 s'3))
 (N6 yh lf lf p t n s (λs'9 s'10 n'11 s'12=>ydK (yh [pS s'10] s'12) λby'17 s'y17=>
  (k0 s'9 s'10 n'11 s'y17)) (λs'13 s'14 n'15 s'16=>k0 s'13 s'14 n'15 s'16))
theorem Am9 (d:Nat) (p t n s):evC (T6 lf) (d+1) σ yh 106 [.yd,.ptr 0 0 0,.ptr 1 0 0,.ptr 2 0 0] [.box [pS p],.box [pS t],.box [pI n]] s=KK yh lf p t n s (λs0 s1 n2 s=>some (.tup [],[.box [pS s0],.box [pS s1],.box [pI n2]],s)):=by
 refine (evE (fn:=Tryz.f106) (by kernel_rfl)).trans ?_
 generalize evC (T6 lf) d=cl
 unfold KK;exact (Eq.trans (by kernel_rfl) (A1 ((KL lf cl yh (M3 0 (N1 (T6 lf) cl yh (cd [0,1,0,1] Ls) (N1 (T6 lf) cl yh (cd [1] Ls) (K9 (T6 lf) Tryz.f106)))) lf p t n s).trans (by kernel_rfl)) ((KM lf cl yh (M3 2 (N1 (T6 lf) cl yh (cd [1,1] Ls) (K9 (T6 lf) Tryz.f106))) lf p t n s).trans (by kernel_rfl))))
noncomputable abbrev As0:Code:=F0 Tryz.f76
noncomputable def Iz (lf:Nat):Cfg:=D2 lf [76] (A3 [(1,[0,0])]) [(59,TC),(50,Kk)] (A3 [(3,[0,0]),(2,[0,0,2,17]),(1,[0,0,2,0]),(0,[0,0,6])]) [59,50] (A3 [(0,[]),(1,[0,0])]) (some []) [] [] []
noncomputable def V9 {σ R:Type} (yh:Yh σ) (lf n:Nat) (s0:By) (s:σ) (k0:By->σ->Option R):Option R:=match n with
 | 0=>none
 | n+1=>
  cond (A2 s0.length)
   (vl ((Lib.cut s0 ([46]:List UInt8))).1 λs'2=>
   vl (((Lib.cut s0 ([46]:List UInt8))).2).1 λs'3=>
    cond (not (((Lib.cut s0 ([46]:List UInt8))).2).2)
    (k0 s0 s)
    (ydK (yh [pS s'3] s) λby'4 s'y4=>
     (cond (not by'4)
     (k0 s0 s'y4)
     (V9 yh lf n s'3 s'y4 k0))))
   none
theorem IX (n:Nat) (s0:By) (s:σ):G9 1 ((Iz lf).keep 1) (bd (Iz lf) cl yh (cd [1,0,0] As0)) n ⟨gp [(0,.yd),(0,.ptr 0 0 0)] 22,[.box [pS s0]],s⟩ k =
 V9 yh lf n s0 s (λs0 s=>k .ret ⟨gp [] 24,[.box [pS s0]],s⟩):=by
 induction n generalizing s0 s with
 | zero=>rfl
 | succ n ih=>rw [V9];simp only [<-ih];kernel_rfl
noncomputable def IW {σ R:Type} (yh:Yh σ) (lf:Nat) (t:By) (s:σ) (k0:By->σ->Option R):Option R:=cond (A2 t.length) (cond (not (F7 t)) (k0 t s) (V9 yh lf lf t s (λs'5 s'6=>k0 s'5 s'6))) none
theorem Ai5 (d:Nat) (t s):evC (Iz lf) (d+1) σ yh 76 [.yd,.ptr 0 0 0] [.box [pS t]] s=IW yh lf t s (λs0 s=>some (.tup [],[.box [pS s0]],s)):=by
 refine (evE (fn:=Tryz.f76) (by kernel_rfl)).trans ?_
 generalize evC (Iz lf) d=cl
 unfold IW;exact (Eq.trans (by kernel_rfl) (A1 (A1 rfl ((IX lf cl yh (M3 0 (K9 (Iz lf) Tryz.f76)) lf t s).trans (by kernel_rfl))) rfl))
end
end
end Go.Proofs.YtelhbgonncceeaaGreatDoor.E
