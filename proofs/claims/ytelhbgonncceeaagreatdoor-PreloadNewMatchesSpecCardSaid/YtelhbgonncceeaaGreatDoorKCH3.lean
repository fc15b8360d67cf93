/-
  Parts of the proof, merged by a program of the prover's own; no condition.
-/
import Derived.Test.YtelhbgonncceeaaGreatDoorKCH2
import Derived.Deep.Draws
import Derived.JoinedCond
import Derived.KernelRfl
import Derived.LaidMore
import Derived.LaidSub
import Derived.Laws.RangeString
import Derived.Lay
import Derived.Lib.IndexMore
import Derived.Lib.ItoaNum
import Derived.Lib.Join
import Derived.Lib.JoinLaws
import Derived.Lib.LaidTab
import Derived.Lib.LaidU8
import Derived.Lib.LastIndexLaws
import Derived.Lib.RuneCount
import Derived.Lib.TrailingZeros
import Derived.Lib.TrimAscii
import Derived.Lib.ValidU
import Derived.OpenShut
import Derived.ProofKit
import Derived.Shelf.LaysM
import Derived.Shelf.SlSortCmp.Insertion
import Derived.Shelf.Small.Strs
import Derived.Shelf.Spec.SlicesInsert
import Derived.Shelf.Spec.SlicesInsertGrow
import Derived.Shelf.Spec.TrailingZeros
import Derived.Shelf.Strconv.Itoa3
import Derived.Shelf.Strings.Count
import Derived.Shelf.Strings.Cut
import Derived.Shelf.Strings.IndexAnyAll
import Derived.Shelf.Strings.LastIndex
import Derived.Shelf.Strings.OnBuilder
import Derived.Shelf.Strings.Search3
import Derived.Shelf.Unicode.ValidAny
import Derived.Shelf.Utf8.RuneCount
import Derived.Shelf.Vars
import Derived.Sort.AssemblyPlain
import Derived.Sort.Grow
import Derived.Test.YtelhbgonncceeaaGreatDoorChecked
import Derived.Test.YtelhbgonncceeaaGreatDoorProg
import Derived.Test.YtelhbgonncceeaaGreatDoorRows
import Derived.WalkKit
namespace Go.Proofs.YtelhbgonncceeaaGreatDoor.E
set_option linter.all false
section
open Go Go.ChangeShapes Go.RowKit Go.WideShapes
inductive Ty where
 | bool
 | int (k:IntKind)
 | str
 | slice (e:List Ty)
 deriving Inhabited
def Av2 (P:Program) (f:Nat->Option (List Ty)):List Field->Nat->Option (List Ty)
 | [],_=>some []
 | x::r,off=>if x.offset==off then match f x.type with
   | some a=>if P.cellsOf x.type==a.length then match Av2 P f r (off+a.length) with
    | some b=>some (a++b)
    | none=>none else none
   | none=>none else none
def Gn (P:Program):Nat->Nat->Option (List Ty)
 | 0,_=>none
 | d+1,t=>match P.underlying t with
  | some .bool=>some [.bool]
  | some (.int k)=>some [.int k]
  | some .string=>some [.str]
  | some (.slice e)=>match Gn P d e with
   | some a=>if P.cellsOf e==a.length&&decide (0<a.length) then some [.slice a] else none
   | none=>none
  | some (.struct fs)=>match Av2 P (Gn P d) fs.toList 0 with
   | some r=>if P.cellsOf t==r.length then some r else none
   | none=>none
  | some (.array n e)=>match Gn P d e with
   | some a=>if P.cellsOf e==a.length&&P.cellsOf t==n*a.length then some (List.replicate n a).flatten else none
   | none=>none
  | _=>none
mutual
def Ty.of:Ty->SV->Prop
 | .bool,v=>∃ b,v = .bool b
 | .int k,v=>∃ n,v = .int k n/\k.min<=n/\n<=k.max
 | .str,v=>∃ l,v = .str l/\l.length<=maxLen
 | .slice e,v=>v = .sl true false e.length []\/∃ els,v = .sl false false e.length els/\els.length<=maxLen/\∀ el∈els,Ty.ofL e el
def Ty.ofL:List Ty->List SV->Prop
 | [],l=>l=[]
 | t::r,l=>∃ v q,l=v::q/\t.of v/\Ty.ofL r q
end
theorem Ty.ofL_len:∀ {ts:List Ty} {l:List SV},Ty.ofL ts l->l.length=ts.length
 | [],l,h=>by simp only [Ty.ofL] at h;subst h;rfl
 | t::r,l,h=>by
  simp only [Ty.ofL] at h
  obtain ⟨v,q,rfl,_,hq⟩:=h
  simp [Ty.ofL_len hq]
theorem Ty.ofL_append:∀ {a b:List Ty} {x y:List SV},Ty.ofL a x->Ty.ofL b y->Ty.ofL (a++b) (x++y)
 | [],b,x,y,h,k=>by simp only [Ty.ofL] at h;subst h;exact k
 | t::r,b,x,y,h,k=>by
  simp only [Ty.ofL] at h
  obtain ⟨v,q,rfl,hv,hq⟩:=h
  simp only [List.cons_append,Ty.ofL]
  exact ⟨v,q++y,rfl,hv,Ty.ofL_append hq k⟩
def CVS (St:Nat->Prop) (w:World) (l:List SV) (A:List Value):Prop:=A.length=l.length/\∀ j (h:j<l.length),∃ U,A[j]? = some U/\VS St w (l[j]) U
theorem CVS.append {St:Nat->Prop} {w:World} {x y:List SV} {X Y:List Value} (hx:CVS St w x X) (hy:CVS St w y Y):CVS St w (x++y) (X++Y):=by
 refine ⟨by simp [hx.1,hy.1],λj hj=>?_⟩
 by_cases h:j<x.length
 ·obtain ⟨U,e,k⟩:=hx.2 j h
  exact ⟨U,by rw [List.getElem?_append_left (by rw [hx.1];exact h)];exact e,by rw [List.getElem_append_left h];exact k⟩
 ·obtain ⟨U,e,k⟩:=hy.2 (j-x.length) (by simp at hj;omega)
  exact ⟨U,by rw [List.getElem?_append_right (by rw [hx.1];omega),hx.1];exact e,by rw [List.getElem_append_right (by omega)];exact k⟩
theorem CVS.one {St:Nat->Prop} {w:World} {v:SV} {V:Value} (h:VS St w v V):CVS St w [v] [V]:=⟨rfl,λj hj=>by
 have:j=0:=by simpa using hj
 subst this
 exact ⟨V,rfl,h⟩⟩
theorem Af8 {w:World} {a:Addr} {V:Value} (h:w.cell? a=some V):a.spot=none/\a.block<w.heap.size:=by
 unfold World.cell? at h
 split at h
 ·rename_i c t fr hb
  refine ⟨?_,(Array.getElem?_eq_some_iff.1 hb).1⟩
  cases hs:a.spot with
  | none=>rfl
  | some x=>rw [hs] at h;simp at h
 ·cases h
theorem IS {a:Addr} (h:a.spot=none) (n:Nat):a.add n=⟨a.block,a.off+n,none⟩:=by
 unfold Addr.add
 split
 ·rename_i hn;subst hn;cases a;simp_all
 ·rfl
theorem Ay8 {a:Addr} {m n:Nat} (h:a.spot=none):(a.add m).add n=⟨a.block,a.off+m+n,none⟩:=by
 rw [IS h,IS rfl]
theorem CM {H:Type} {enc:TypeId × Value->H} {P:Program} {w:World} {base:Nat} {sp:Nat->Bool} {held:Bool} {f:Nat->Option (List Ty)} {m:Nat}
  (ih:∀ t tys cs x,f t=some tys->DataW.trod enc P w base sp held m t cs=some x->∃ svs,Ty.ofL tys svs/\CVS (· < w.heap.size) w svs cs) (cs:List Value) :
  ∀ (fs:List Field) (off:Nat) (tys:List Ty),Av2 P f fs off=some tys->(∀ (i:Nat) (fl:Field),fs[i]? = some fl->∃ y,DataW.trod enc P w base sp held m fl.type ((cs.drop fl.offset).take (P.cellsOf fl.type))=some y)->
   ∃ svs,Ty.ofL tys svs/\CVS (· < w.heap.size) w svs ((cs.drop off).take tys.length)
 | [],off,tys,h,_=>by
  simp only [Av2,Option.some.injEq] at h
  subst h
  exact ⟨[],rfl,by simp,λj hj=>by simp at hj⟩
 | x::r,off,tys,h,hall=>by
  simp only [Av2] at h
  split at h
  ·rename_i hoff
   simp only [beq_iff_eq] at hoff
   split at h
   ·rename_i a ha
    split at h
    ·rename_i hc
     simp only [beq_iff_eq] at hc
     split at h
     ·rename_i b hb
      simp only [Option.some.injEq] at h
      subst h
      obtain ⟨y,hy⟩:=hall 0 x rfl
      rw [hoff,hc] at hy
      obtain ⟨s1,h1,h2⟩:=ih _ _ _ _ ha hy
      obtain ⟨s2,h3,h4⟩:=CM ih cs r _ b hb (λi fl hi=>hall (i+1) fl (by simpa using hi))
      refine ⟨s1++s2,Ty.ofL_append h1 h3,?_⟩
      have:=h2.append h4
      have e:(cs.drop off).take (a++b).length=(cs.drop off).take a.length++(cs.drop (off+a.length)).take b.length:=by
       rw [List.length_append,List.take_add,List.drop_drop]
      rw [e];exact this
     ·cases h
    ·cases h
   ·cases h
  ·cases h
theorem IU {H:Type} {enc:TypeId × Value->H} {P:Program} {w:World} {base:Nat} {sp:Nat->Bool} {held:Bool} {e m:Nat} {a:List Ty} (cs:List Value)
  (ih:∀ cs x,DataW.trod enc P w base sp held m e cs=some x->∃ svs,Ty.ofL a svs/\CVS (· < w.heap.size) w svs cs) (hc:P.cellsOf e=a.length) :
  ∀ (n k:Nat),(∀ i,k<=i->i<k+n->∃ y,DataW.trod enc P w base sp held m e ((cs.drop (i*P.cellsOf e)).take (P.cellsOf e))=some y)->
   ∃ svs,Ty.ofL (List.replicate n a).flatten svs/\CVS (· < w.heap.size) w svs ((cs.drop (k*a.length)).take (n*a.length))
 | 0,k,_=>⟨[],by simp [Ty.ofL],by simp,λj hj=>by simp at hj⟩
 | n+1,k,hall=>by
  obtain ⟨y,hy⟩:=hall k (Nat.le_refl _) (by omega)
  obtain ⟨s1,h1,h2⟩:=ih _ _ hy
  obtain ⟨s2,h3,h4⟩:=IU cs ih hc n (k+1) (λi hi1 hi2=>hall i (by omega) (by omega))
  rw [hc] at h2
  refine ⟨s1++s2,?_,?_⟩
  ·rw [List.replicate_succ,List.flatten_cons];exact Ty.ofL_append h1 h3
  ·have:=h2.append h4
   have e:(cs.drop (k*a.length)).take ((n+1)*a.length)=(cs.drop (k*a.length)).take a.length++(cs.drop ((k+1)*a.length)).take (n*a.length):=by
    rw [show (n+1)*a.length=a.length+n*a.length by rw [Nat.add_mul,Nat.one_mul,Nat.add_comm],List.take_add,List.drop_drop,show k*a.length+a.length=(k+1)*a.length by rw [Nat.add_mul,Nat.one_mul]]
   rw [e];exact this
theorem Ur {H:Type} {enc:TypeId × Value->H} {P:Program} {w:World} {base:Nat} {sp:Nat->Bool} {held:Bool}:∀ (n t:Nat) (tys:List Ty) (m:Nat) (cs:List Value) (x:DataW H × List MemPlace),Gn P n t=some tys->
  DataW.trod enc P w base sp held m t cs=some x->∃ svs,Ty.ofL tys svs/\CVS (· < w.heap.size) w svs cs
 | 0,t,tys,m,cs,x,h,_=>by simp [Gn] at h
 | n+1,t,tys,m,cs,x,h,hd=>by
  simp only [Gn] at h
  split at h
  ·rename_i ht
   simp only [Option.some.injEq] at h;subst h
   obtain ⟨b,rfl,_⟩:=DataW.trod_bool ht hd
   exact ⟨[.bool b],by simp [Ty.ofL,Ty.of],CVS.one (.bool b)⟩
  ·rename_i k ht
   simp only [Option.some.injEq] at h;subst h
   obtain ⟨b,rfl,_,hw⟩:=DataW.trod_int ht hd
   simp only [Lit.wf,Bool.and_eq_true,decide_eq_true_eq] at hw
   exact ⟨[.int k b],by simp [Ty.ofL,Ty.of,hw],CVS.one (.int k b)⟩
  ·rename_i ht
   simp only [Option.some.injEq] at h;subst h
   obtain ⟨b,rfl,_,hw⟩:=DataW.trod_string ht hd
   exact ⟨[.str b.data.toList],by simpa [Ty.ofL,Ty.of] using hw,CVS.one (.str b)⟩
  ·rename_i e ht
   split at h
   ·rename_i a ha
    split at h
    ·rename_i hc
     simp only [Bool.and_eq_true,beq_iff_eq,decide_eq_true_eq] at hc
     simp only [Option.some.injEq] at h;subst h
     rcases DataW.trod_slice ht hd with ⟨rfl,_⟩ | ⟨ad,len,cap,elems,rest,m',_,rfl,_,hb,hl,hm,hlen,hel,_,_⟩
     ·exact ⟨[.sl true false a.length []],by simp [Ty.ofL,Ty.of],CVS.one (.nil _ _)⟩
     ·have each:∀ i,i<len->∃ el cs',w.cells? base (ad.add (i*a.length)) a.length=some cs'/\Ty.ofL a el/\CVS (· < w.heap.size) w el cs':=λi hi=>by
       have h1:=hel i hi
       rw [List.getElem?_eq_getElem (by omega),hc.1,Option.bind_eq_some_iff] at h1
       obtain ⟨cs',h2,h3⟩:=h1
       obtain ⟨el,h4,h5⟩:=Ur n e a m' cs' _ ha h3
       exact ⟨el,cs',h2,h4,h5⟩
      by_cases h0:len=0
      ·subst h0
       exact ⟨[.sl false false a.length []],by simp [Ty.ofL,Ty.of],CVS.one (.emp _ _ _ _ (by simp) hm)⟩
      ·let els:List (List SV):=(List.range len).attach.map λi=>Classical.choose (each i.1 (List.mem_range.1 i.2))
       have hels:els.length=len:=by simp [els]
       have hget:∀ i (hi:i<els.length),∃ cs',w.cells? base (ad.add (i*a.length)) a.length=some cs'/\Ty.ofL a (els[i])/\CVS (· < w.heap.size) w (els[i]) cs':=λi hi=>by
        have hi':i<len:=by omega
        have e:els[i]=Classical.choose (each i hi'):=by simp [els]
        rw [e]
        exact Classical.choose_spec (each i hi')
       have hspot:ad.spot=none/\ad.block<w.heap.size:=by
        obtain ⟨cs',h1,h2,h3⟩:=hget 0 (by omega)
        obtain ⟨_,hl1,hl2⟩:=World.cells?_some h1
        have:=hl2 0 hc.2
        rw [List.getElem?_eq_getElem (by omega)] at this
        simp only [Nat.zero_mul,Addr.add,if_true] at this
        exact Af8 this
       have hel:∀ i (hi:i<els.length),(els[i]).length=a.length:=λi hi=>by
        obtain ⟨cs',h1,h2,h3⟩:=hget i hi
        exact Ty.ofL_len h2
       have hcell:∀ i (hi:i<els.length) j (hj:j<(els[i]).length),∃ U,w.cell? ⟨ad.block,ad.off+i*a.length+j,none⟩=some U/\VS (· < w.heap.size) w (els[i][j]) U:=λi hi j hj=>by
        obtain ⟨cs',h1,h2,h3⟩:=hget i hi
        obtain ⟨_,hl1,hl2⟩:=World.cells?_some h1
        have hj':j<a.length:=by rw [<-hel i hi];exact hj
        obtain ⟨U,e1,e2⟩:=h3.2 j hj
        refine ⟨U,?_,e2⟩
        rw [<-e1,<-hl2 j hj',Ay8 hspot.1]
       refine ⟨[.sl false false a.length els],?_,CVS.one ?_⟩
       ·simp only [Ty.ofL,Ty.of]
        refine ⟨_,[],rfl,.inr ⟨els,rfl,by omega,λel hm'=>?_⟩,rfl⟩
        obtain ⟨i,hi,rfl⟩:=List.getElem_of_mem hm'
        obtain ⟨cs',h1,h2,h3⟩:=hget i hi
        exact h2
       ·have e:ad=⟨ad.block,ad.off,none⟩:=by cases ad;simp_all
        rw [e]
        refine .sl false els ad.block ad.off len cap a.length (λi j=>(w.cell? ⟨ad.block,ad.off+i*a.length+j,none⟩).getD undef) hels.symm hl hm (by simp) hspot.2 hel (λi hi j hj=>?_) (λi hi j hj=>?_)
        ·obtain ⟨U,e1,e2⟩:=hcell i hi j hj
         rw [e1];rfl
        ·obtain ⟨U,e1,e2⟩:=hcell i hi j hj
         rw [e1];exact e2
    ·cases h
   ·cases h
  ·rename_i fs ht
   split at h
   ·rename_i r hr
    split at h
    ·rename_i hc
     simp only [beq_iff_eq] at hc
     simp only [Option.some.injEq] at h;subst h
     obtain ⟨xs,m',_,_,hlen,hxs,hf⟩:=DataW.trod_struct ht hd
     obtain ⟨svs,h1,h2⟩:=CM (λt tys cs x=>Ur n t tys m' cs x) cs fs.toList 0 r hr (λi fl hi=>by
      have hi':fs[i]? = some fl:=by simpa using hi
      have:=hf i fl hi'
      have hlt:i<xs.length:=by rw [hxs];exact (Array.getElem?_eq_some_iff.1 hi').1
      rw [List.getElem?_eq_getElem hlt] at this
      exact ⟨_,this⟩)
     refine ⟨svs,h1,?_⟩
     rw [List.drop_zero,List.take_of_length_le (by omega)] at h2
     exact h2
    ·cases h
   ·cases h
  ·rename_i k e ht
   split at h
   ·rename_i a ha
    split at h
    ·rename_i hc
     simp only [Bool.and_eq_true,beq_iff_eq] at hc
     simp only [Option.some.injEq] at h;subst h
     obtain ⟨xs,m',_,_,hlen,hxs,hf⟩:=DataW.trod_array ht hd
     obtain ⟨svs,h1,h2⟩:=IU cs (λcs x=>Ur n e a m' cs x ha) hc.1 k 0 (λi _ hi=>by
      have:=hf i (by omega)
      rw [List.getElem?_eq_getElem (by omega)] at this
      exact ⟨_,this⟩)
     refine ⟨svs,h1,?_⟩
     rw [Nat.zero_mul,List.drop_zero,List.take_of_length_le (by omega)] at h2
     exact h2
    ·cases h
   ·cases h
  ·cases h
def Sq (P:Program) (t:Nat):Bool:=match P.underlying t with
 | some (.struct _)=>true
 | some (.array _ _)=>true
 | _=>false
def AC (P:Program) (t:Nat) (v:PV):Prop:=∃ tys l,Gn P 20 t=some tys/\Ty.ofL tys l/\((Sq P t=true/\v = .agg (l.map .s))\/(Sq P t=false/\∃ x,l=[x]/\v = .s x))
def Gp (P:Program):List Nat->List PV->Prop
 | [],l=>l=[]
 | t::r,l=>∃ v q,l=v::q/\AC P t v/\Gp P r q
theorem AC.nms {P:Program} {t:Nat} {v:PV} (h:AC P t v):v.nms=[]:=by
 obtain ⟨tys,l,_,_,h⟩:=h
 rcases h with ⟨_,rfl⟩ | ⟨_,x,_,rfl⟩
 ·simp only [PV.nms]
  rw [List.eq_nil_iff_forall_not_mem]
  intro c hc
  obtain ⟨j,hj,hc⟩:=B6.1 hc
  simp [PV.nms] at hc
 ·rfl
theorem Gp.nms {P:Program}:∀ {ts:List Nat} {l:List PV},Gp P ts l->B8 l=[]
 | [],l,h=>by simp only [Gp] at h;subst h;rfl
 | t::r,l,h=>by
  simp only [Gp] at h
  obtain ⟨v,q,rfl,h1,h2⟩:=h
  simp [B8,h1.nms,h2.nms]
section
variable {H : Type} {enc : TypeId × Value -> H} {P : Program} {w : World}
theorem A58 {v:Value} {r:Reach} {b:Nat} {t:Nat} (ha:Sq P t=false) (Oj:Value.okWide P w r b t v):∀ cs,v = .agg cs->False:=by
 rintro cs rfl
 simp only [Value.okWide,Cell.okWide] at Oj
 unfold Sq at ha
 split at Oj
 ·grind
 ·grind
 ·revert Oj
  cases hu:P.underlying t with
  | none=>simp [Cell.ok,hu]
  | some d=>cases d<;>simp [Cell.ok,hu]
theorem As6 {Γ:Ctx} {sh:Nat->Option Shp} {sp:Nat->Bool} {held:Bool} {r:Reach} {b b' t:Nat} {v:Value} {d:DataW H} {ps:List MemPlace} (hΓ:∀ g,g<w.heap.size->Γ.St g) (htys:(Gn P 20 t).isSome=true) (Oj:Value.okWide P w r b t v) (hd:DataW.Trod enc P w b' sp held t v d ps) :
  ∃ pv,AC P t pv/\VP Γ sh w pv v:=by
 obtain ⟨tys,ht⟩:=Option.isSome_iff_exists.1 htys
 obtain ⟨m,hm⟩:=hd
 obtain ⟨svs,h1,h2⟩:=Ur 20 t tys m _ _ ht hm
 have lift:∀ {x:SV} {V:Value},VS (· < w.heap.size) w x V->VS Γ.St w x V:=λh=>h.mono (λ_ _=>rfl) hΓ
 cases ha:Sq P t with
 | true=>
  refine ⟨.agg (svs.map .s),⟨tys,svs,ht,h1,.inl ⟨ha,rfl⟩⟩,?_⟩
  have:∃ cs,v = .agg cs:=by
   unfold Sq at ha
   simp only [Value.okWide] at Oj
   grind
  obtain ⟨cs,rfl⟩:=this
  simp only [Value.cells] at h2
  refine VP.mk_agg (by simpa using h2.1) λj hj=>?_
  have hj':j<svs.length:=by simpa using hj
  obtain ⟨U,e,k⟩:=h2.2 j hj'
  exact ⟨U,by simpa using e,by rw [List.getElem_map];exact .s _ _ (lift k)⟩
 | false=>
  have hc:v.cells = #[v]:=by
   have:=A58 ha Oj
   cases v with
   | agg cs=>exact (this cs rfl).elim
   | _=>rfl
  rw [hc] at h2
  have hl:svs.length=1:=by have:=h2.1;simpa using this.symm
  obtain ⟨x,rfl⟩:∃ x,svs=[x]:=by
   match svs,hl with
   | [x],_=>exact ⟨x,rfl⟩
  obtain ⟨U,e,k⟩:=h2.2 0 (by simp)
  simp only [List.getElem?_cons_zero,Option.some.injEq] at e
  subst e
  exact ⟨.s x,⟨tys,[x],ht,h1,.inr ⟨ha,x,rfl,rfl⟩⟩,.s _ _ (lift k)⟩
theorem BW {Γ:Ctx} {sh:Nat->Option Shp} {sp:Nat->Bool} {held:Bool} {r:Reach} {b b':Nat} (hΓ:∀ g,g<w.heap.size->Γ.St g):∀ (ts:List Nat) (vs:List Value) (ds:List (DataW H)) (ps:List MemPlace),(∀ t∈ts,(Gn P 20 t).isSome=true)->(∀ (j:Nat) t v,ts[j]? = some t->vs[j]? = some v->Value.okWide P w r b t v)->DataW.TrodAll enc P w b' sp held ts vs ds ps->
  ∃ pvs,Gp P ts pvs/\vs.length=pvs.length/\ds.length=ts.length/\∀ j (h:j<pvs.length),∃ U,vs[j]? = some U/\VP Γ sh w (pvs[j]) U
 | [],vs,ds,ps,_,_,h=>by
  obtain ⟨rfl,rfl,_⟩:=trodAll_nil h
  exact ⟨[],rfl,rfl,rfl,λj hj=>by simp at hj⟩
 | t::ts,vs,ds,ps,htys,Oj,h=>by
  obtain ⟨v,vs',d,ds',p,q,rfl,rfl,rfl,h1,h2⟩:=trodAll_cons h
  obtain ⟨pv,k1,k2⟩:=As6 (Γ:=Γ) (sh:=sh) hΓ (htys t (by simp)) (Oj 0 t v rfl rfl) h1
  obtain ⟨pvs,g1,g2,g3,g4⟩:=BW (Γ:=Γ) (sh:=sh) hΓ ts vs' ds' q (λt ht=>htys t (by simp [ht])) (λj t v hj hv=>Oj (j+1) t v (by simpa using hj) (by simpa using hv)) h2
  refine ⟨pv::pvs,⟨pv,pvs,rfl,k1,g1⟩,by simp [g2],by simp [g3],λj hj=>?_⟩
  cases j with
  | zero=>exact ⟨v,rfl,k2⟩
  | succ j=>
   obtain ⟨U,e,k⟩:=g4 j (by simpa using hj)
   grind
theorem Wb (hl:laidOutB P=true) {w':World} {ts:List Nat} {vs:List Value} {ds:List (DataW H)} {ps:List MemPlace}:∀ {ts:List Nat} {vs:List Value} {ds:List (DataW H)} {ps:List MemPlace},(∀ t∈ts,P.readableRec t=true/\t<P.types.size)->DataW.TrodAll enc P w 0 (λ_=>true) true ts vs ds ps->(∀ x∈ps,w.sameAt w' x)->∀ sp:Nat->Bool,(∀ x∈ps,sp x.block=true)->
  DataW.TrodAll enc P w' 0 sp true ts vs ds ps
 | [],vs,ds,ps,_,h,_,sp,_=>by
  obtain ⟨rfl,rfl,rfl⟩:=trodAll_nil h
  exact trodAll_mk0
 | t::ts,vs,ds,ps,hr,h,hs,sp,hsp=>by
  obtain ⟨v,vs',d,ds',p,q,rfl,rfl,rfl,h1,h2⟩:=trodAll_cons h
  refine ⟨p,q,WideElems.Trod_stays hl (hr t (by simp)).1 (hr t (by simp)).2 h1 (λx hx=>hs x (by simp [hx])) (λx hx=>hsp x (by simp [hx])),Wb hl (w':=w') (ts:=ts) (vs:=vs') (ds:=ds') (ps:=q) (λt ht=>hr t (by simp [ht])) h2 (λx hx=>hs x (by simp [hx])) sp (λx hx=>hsp x (by simp [hx])),rfl⟩
theorem Zs {f:Func} {s:ChangeSpec} {apart fresh handsOn again:Bool} {W W':World} {args:Array Value} {v:Value} {ds gs:List (DataW H)} {before pa pv:List MemPlace}
  (hW:DataW.Whole enc P f.params.toList s.vars apart W args.toList ds gs before)
  (hres:∀ (b:Nat) (sp:Nat->Bool) (hd:Bool),DataW.TrodAll enc P W' b sp hd f.resultTypes.toList (v.resultList f.resultTypes.size) (s.fn H (ds++gs)).results [])
  (hargs:∀ sp:Nat->Bool,(∀ p∈before,sp p.block=true)->DataW.TrodAll enc P W' 0 sp true f.params.toList args.toList (s.fn H (ds++gs)).args pa)
  (hvars:∀ sp:Nat->Bool,(∀ p∈before,sp p.block=true)->DataW.TrodVars enc P W' sp s.vars (s.fn H (ds++gs)).vars pv)
  (hps:before=pa++pv) (hb:Below W.heap.size W W')
  (hok:∀ (j:Nat) (t:TypeId) (r:Value),f.resultTypes[j]? = some t->(v.resultList f.resultTypes.size)[j]? = some r->Value.okWide P W' .any 0 t r) :
  s.post enc P f apart fresh handsOn again W args v W':=by
 have hold:∀ p∈before,(λb=>decide (b<W.heap.size)) p.block=true:=λp hp=>by simpa using hW.lt p hp
 refine ⟨ds,gs,before,[],pa,pv,hW,hres _ _ _,hargs _ hold,hvars _ hold,hb.frame _,λ_=>?_⟩
 have hlt:=hW.lt
 obtain ⟨_,_,_,_,_,hz,hn⟩:=hW
 refine ⟨hok,_,_,([]++pa)++pv,⟨[]++pa,pv,trodAll_append (hargs _ (λ_ _=>rfl)) (hres _ _ _),hvars _ (λ_ _=>rfl),rfl,?_,?_⟩,?_⟩
 ·intro b off hp
  have hp':MemPlace.cell b off∈before:=by rw [hps];simpa using hp
  rw [hb.frozen (hlt _ hp')]
  exact hz b off hp'
 ·intro ha
  have:=hn ha
  rw [hps] at this
  simpa using this
 ·intro p hp _
  rw [hps]
  simpa using hp
end
theorem VD {P:Program} {f:Nat} {Vs:Array Value} {w:World} {R:Value->World->Prop} (hrun:(callFunc f Vs).run P w = .ok (.enter f Vs) w) (h:K8 P ((callFunc f Vs).run P w) R):Calls P f Vs w λe w'=>∃ V,e = .returned V/\R V w':=by
 rw [hrun] at h
 have:=h none 1 { op:=.move (.const undef),dst:=some 0,guard:=none,type:=0,after:=#[],pos:=default } { tmps:=#[undef],defers:=[] } (λa' w'=>∃ V,a'.tmps[0]? = some V/\R V w') (λ_ _ _=>False) (λV w' hR=>⟨V,by simp [Act.put],hR⟩)
 rw [Oper.uponIn_enter] at this
 have h2:CallsIn Fence.wide 0 P f Vs w _:=this.2
 refine (callsIn_wide.1 h2).mono λe w' he=>?_
 cases e with
 | returned v=>
  obtain ⟨V,e1,e2⟩:=he
  simp [Act.put] at e1
  grind
 | panicked c=>exact he.elim
 | outgrown=>obtain ⟨_,_,h⟩:=he;exact h.elim
def noY:Yh Unit:=λ_ _=>none
theorem Am3 {H:Type} {enc:TypeId × Value->H} {C:Cfg} {f tb:Nat} {fn:Func} {c:Code} {s:ChangeSpec} {apart fresh handsOn again:Bool} (hX:XOK C) (hO:Bl C) (hm:C.P.follows .mixedOrders=true) (hl:laidOutB C.P=true) (hfn:C.P.funcs[f]? = some fn) (hb:fn.body=some c) (hname:(fn.name == "runtime.NumGoroutine")=false)
  (hp:∀ t∈fn.params.toList,(C.P.readableRec t=true/\t<C.P.types.size)/\(Gn C.P 20 t).isSome=true) (hres:fn.resultTypes = #[tb]) (hbool:C.P.underlying tb=some .bool) (hvars:s.vars=[])
  (hspec:∀ ds:List (DataW H),ds.length=fn.params.toList.length->s.fn H ds = { results:=[.lit (.bool true)],args:=ds })
  (hev:∀ args,Gp C.P fn.params.toList args->∃ d Hc,evC C d Unit noY f args [] ()=some (.s (.bool true),Hc,()))
  (W:World) (hG:GOK C (· < W.heap.size) W) (base:Nat) (args:Array Value) (ds gs:List (DataW H)) (before:List MemPlace)
  (Oj:∀ (j:Nat) t v,fn.params[j]? = some t->args[j]? = some v->Value.okWide C.P W .any base t v)
  (hW:DataW.Whole enc C.P fn.params.toList s.vars apart W args.toList ds gs before) :
  Calls C.P f args W λe W'=>∃ v,e = .returned v/\s.post enc C.P fn apart fresh handsOn again W args v W':=by
 have hW':=hW
 obtain ⟨p,q,hA,hV,rfl,hfz,hnd⟩:=hW
 rw [hvars] at hV
 obtain ⟨rfl,rfl⟩:=trodVars_none hV
 let Γ:Ctx:={ St:=(· < W.heap.size),nm:=λ_=>none,yv:=.nilFunc,yv1:=rfl }
 obtain ⟨pvs,h1,h2,h3,h4⟩:=BW (Γ:=Γ) (sh:=A2 []) (λ_ h=>h) fn.params.toList args.toList ds p (λt ht=>(hp t ht).2) (λj t v hj hv=>Oj j t v (by simpa using hj) (by simpa using hv)) hA
 obtain ⟨d,Hc,hd⟩:=hev pvs h1
 have hS:=Fw hX hO hm d Unit I0 noY .nilFunc Ah4 Ah5 f pvs [] () _ Hc () hd Γ noΦ W args rfl (Ea (λ_=>rfl) (λ_ h=>h)) hG (λ_ h=>h) (λb g h=>by cases h)
  ⟨by rw [<-Array.length_toList];exact h2,λj hj=>by obtain ⟨U,e,k⟩:=h4 j hj;exact ⟨U,by simpa using e,k⟩⟩ (by rw [h1.nms];simp)
 refine (VD (Jd hfn hb hname) hS).mono ?_
 rintro e W' ⟨V,rfl,Γ',Φ',hs,hH,hv,_⟩
 have hV:=hv.inv_bool
 subst hV
 have hbel:Below W.heap.size W W':=⟨hs.os,hs.tape,hs.output,hs.size,λk hk=>hs.frame k hk (λb=>by simp [Γ]) (λx=>x)⟩
 simp only [List.append_nil] at hW'
 refine ⟨_,rfl,?_⟩
 have hsp:=hspec ds h3
 have hlt:=hW'.lt
 refine Zs (pa:=p) (pv:=[]) hW' (λb sp hd=>?_) (λsp hsp'=>?_) (λsp _=>?_) (by simp) hbel ?_
 ·rw [List.append_nil,hsp,hres]
  exact trodAll_cons_mk (shut_bool hbool _) trodAll_mk0
 ·rw [List.append_nil,hsp]
  exact Wb hl (w:=W) (ts:=fn.params.toList) (vs:=args.toList) (ds:=ds) (ps:=p) (λt ht=>(hp t ht).1) hA (λx hx=>hbel.same (hlt x hx)) sp hsp'
 ·rw [List.append_nil,hsp,hvars]
  rfl
 ·exact ok_one hres rfl (okWide_bool_mk hbool _)
end
section
open Go
def B4 (P:Program) (G:GT) (g:Nat) (pf:List PV->Tr):Prop:=
 ∀ args ret Hc,G1 (pf args)=some (ret,Hc)->∀ C:Cfg,C.P=P->C.G=G->∀ Γ w Vs,(∀ b,Γ.nm b=none)->HR Γ [] w->GOK C Γ.St w->CR Γ (A2 []) w args Vs->
  K8 P ((callFunc g Vs).run P w) (X7 C I0 Γ [] w noΦ ret Hc ())
theorem Bg {C₀:Cfg} {g:Nat} {pf:List PV->Tr} (hX:XOK C₀) (hO:Bl C₀) (hm:C₀.P.follows .mixedOrders=true)
  (h:∀ args ret Hc,G1 (pf args)=some (ret,Hc)->B8 args=[]/\∃ d,evC C₀ d Unit noY g args [] ()=some (ret,Hc,())):B4 C₀.P C₀.G g pf:=by
 intro args ret Hc hpf C hP hGe Γ w Vs hnm hH hG hc
 obtain ⟨hna,d,hev⟩:=h args ret Hc hpf
 have hG0:GOK C₀ Γ.St w:=hG.congr hGe.symm
 refine (Fw hX hO hm d Unit I0 noY Γ.yv Ah4 Ah5 g args [] () ret Hc () hev Γ noΦ w Vs rfl hH hG0 (λ_ h=>h) (λb g h=>by rw [hnm] at h;cases h) hc (by rw [hna];simp)).mono ?_
 rintro V w' ⟨Γ1,Φ1,hs,hH1,hv,hvn,hi1,hd1⟩
 exact ⟨Γ1,Φ1,⟨hs.os,hs.tape,hs.output,hs.size,hs.sub,hs.stnew,hs.own,hs.foot,hs.frame,hs.yv,hs.len,λb hb=>by simp at hb⟩,hH1,hv,hvn,hi1,hd1⟩
def Tr.snap:Tr->Tr
 | .ret v H=>cond (v.snap H).nms.isEmpty (.ret (v.snap H) []) .fail
 | .need c t=>.need c t.snap
 | .split c a b=>.split c a.snap b.snap
 | .fail=>.fail
theorem Tr.snap_res:∀ {t:Tr} {v:PV} {H:List Blk},G1 t.snap=some (v,H)->∃ v' H',G1 t=some (v',H')/\v=v'.snap H'/\H=[]/\v.nms=[]
 | .ret v' H',v,H,h=>by
  simp only [Tr.snap] at h
  cases he:(v'.snap H').nms.isEmpty with
  | false=>rw [he] at h;cases h
  | true=>
   rw [he] at h
   simp only [cond_true,G1,Z9,Option.some.injEq,Prod.mk.injEq] at h
   obtain ⟨rfl,rfl⟩:=h
   exact ⟨v',H',rfl,rfl,rfl,List.isEmpty_iff.1 he⟩
 | .need c t,v,H,h=>by
  cases c with
  | true=>exact Tr.snap_res (t:=t) h
  | false=>cases h
 | .split c a b,v,H,h=>by
  cases c with
  | true=>exact Tr.snap_res (t:=a) h
  | false=>exact Tr.snap_res (t:=b) h
 | .fail,_,_,h=>by cases h
theorem B4.snap {P:Program} {G:GT} {g:Nat} {pf:List PV->Tr} (h:B4 P G g pf):B4 P G g (λargs=>(pf args).snap):=by
 intro args ret Hc hpf C hP hGe Γ w Vs hnm hH hG hc
 obtain ⟨ret',Hc',hpf',rfl,rfl,hnr⟩:=Tr.snap_res hpf
 refine (h args ret' Hc' hpf' C hP hGe Γ w Vs hnm hH hG hc).mono ?_
 rintro V w' ⟨Γ1,Φ1,hs,hH1,hv,hvn,hi1,hd1⟩
 let Γ2:Ctx:={ Γ1.all with nm:=λ_=>none }
 have hlt:∀ g,Γ2.St g->g<w'.heap.size:=λg hg=>by
  rcases hg with hg | ⟨b,hb⟩
  ·exact hH1.stlt g hg
  ·exact (hH1.lt b g hb).2.1
 refine ⟨Γ2,Φ1,⟨hs.os,hs.tape,hs.output,hs.size,λg hg=>.inl (hs.sub g hg),λg hg=>?_,λb g h=>by simp [Γ2] at h,hs.foot,hs.frame,hs.yv,Nat.le_refl _,λb hb=>by simp at hb⟩,
  Ea (λ_=>rfl) hlt,?_,by rw [hnr];simp,hi1,λb g h=>by simp [Γ2] at h⟩
 ·rcases hg with hg | ⟨b,hb⟩
  ·exact hs.stnew g hg
  ·rcases hs.own b g hb with ⟨h',_⟩ | h'
   all_goals grind
 ·exact VP.mono (Γ:=Γ1.all) (Γ':=Γ2) (w:=w') (w':=w') (sh:=A2 Hc') (ok:=λ_=>False) ⟨λ_ _=>rfl,λ_ h=>h,λ_ h=>h.elim,λ_ h=>h.elim,λ_ _ h=>h.elim,rfl⟩ (hv.snap hH1) (by rw [hnr];simp)
def IA:List (Nat × (List PV->Tr))->Nat->Option (List PV->Tr)
 | [],_=>none
 | (g,pf)::r,n=>cond (Nat.beq n g) (some pf) (IA r n)
def K3 (P:Program) (G:GT):List (Nat × (List PV->Tr))->Prop
 | []=>True
 | (g,pf)::r=>B4 P G g pf/\K3 P G r
theorem K3.x1 {C:Cfg} {l:List (Nat × (List PV->Tr))} (hl:C.X=IA l) (h:K3 C.P C.G l):Bm7 C:=by
 intro g pf args ret Hc hg hpf Γ w Vs hnm hH hG hc
 rw [hl] at hg
 have key:∀ l:List (Nat × (List PV->Tr)),K3 C.P C.G l->IA l g=some pf->B4 C.P C.G g pf:=by
  intro l
  induction l with
  | nil=>intro _ h;cases h
  | cons e r ih=>
   intro h1 h2
   obtain ⟨n,q⟩:=e
   simp only [IA] at h2
   cases hb:Nat.beq g n with
   | true=>
    rw [hb] at h2
    simp only [cond_true,Option.some.injEq] at h2
    have:=Nat.eq_of_beq_eq_true hb
    subst this;subst h2
    exact h1.1
   | false=>
    rw [hb] at h2
    exact ih h1.2 h2
 exact key l h hg args ret Hc hpf C rfl rfl Γ w Vs hnm hH hG hc
theorem Xa {C C':Cfg} (h:C.P=C'.P):Fc C=Fc C':=by
 funext s
 unfold Fc
 split
 ·simp only [Hd,Cfg.sh,h]
 ·rfl
 ·rfl
theorem Stp.congr {C C':Cfg} (h:C.P=C'.P) {Γ Γ':Ctx} {H H':List Blk} {w w':World} {Φ Φ':Nat->Prop} (s:Stp C Γ H w Φ Γ' H' w' Φ'):Stp C' Γ H w Φ Γ' H' w' Φ':=
 ⟨s.os,s.tape,s.output,s.size,s.sub,s.stnew,s.own,s.foot,s.frame,s.yv,s.len,λb hb hf=>s.keep b hb (by rw [Xa h];exact hf)⟩
def Lj (P:Program) (G:GT) (g:Nat) (pf:List PV->List Blk->Tr):Prop:=
 ∀ C:Cfg,C.P=P->C.G=G->∀ (σ:Type) (I:σ->(Nat->Prop)->(Nat->Prop)->World->Prop) (yh:Yh σ) (yv:Value),HI I->OF P I yh yv->
  ∀ args H s ret Hc,G1 (pf args H)=some (ret,Hc)->∀ Γ Φ w Vs,Γ.yv=yv->HR Γ H w->GOK C Γ.St w->I s Γ.St Φ w->(∀ b g,Γ.nm b=some g->¬ Φ g)->CR Γ (A2 H) w args Vs->(∀ c∈B8 args,c<H.length)->
   K8 P ((callFunc g Vs).run P w) (X7 C I Γ H w Φ ret Hc s)
def IJ (P:Program) (G:GT) (g:Nat) (pf:List PV->List Blk->Option (Bool × List (List PV))):Prop:=
 ∀ C:Cfg,C.P=P->C.G=G->∀ (σ:Type) (I:σ->(Nat->Prop)->(Nat->Prop)->World->Prop) (yh:Yh σ) (yv:Value),HI I->OF P I yh yv->
  ∀ args H L s s',pf args H=some (true,L)->H.all Jl=true->Q3 yh L s=some s'->∀ Γ Φ w Vs,Γ.yv=yv->HR Γ H w->GOK C Γ.St w->I s Γ.St Φ w->(∀ b g,Γ.nm b=some g->¬ Φ g)->CR Γ (A2 H) w args Vs->(∀ c∈B8 args,c<H.length)->
   K8 P ((callFunc g Vs).run P w) (X7 C I Γ H w Φ (.tup []) (H.map Fs) s')
theorem Al2 {C C₀:Cfg} {σ:Type} {I:σ->(Nat->Prop)->(Nat->Prop)->World->Prop} {Γ:Ctx} {H Hc:List Blk} {w w':World} {Φ:Nat->Prop} {s':σ} {V:Value} (hP:C₀.P=C.P) (hb:H.all Jl=true) (hH:HR Γ H w) (h:X7 C₀ I Γ H w Φ (.tup []) Hc s' V w'):X7 C I Γ H w Φ (.tup []) (H.map Fs) s' V w':=by
 obtain ⟨Γ1,Φ1,hs,k1,k2,k3,k4,k5⟩:=h
 have hn:∀ b g,(if b<H.length then Γ1.nm b else none)=some g->b<H.length/\Γ1.nm b=some g:=λb g h=>by grind
 have hlen:(H.map Fs).length=H.length:=List.length_map _
 refine ⟨{ Γ1 with nm:=λb=>if b<H.length then Γ1.nm b else none },Φ1,⟨hs.os,hs.tape,hs.output,hs.size,hs.sub,hs.stnew,λb g hg=>hs.own b g (hn b g hg).2,hs.foot,hs.frame,hs.yv,by rw [hlen];exact Nat.le_refl _,λb hbl hf=>?_⟩,
  ⟨λb b' g h1 h2=>k1.inj b b' g (hn b g h1).2 (hn b' g h2).2,λb g hg=>?_,k1.stlt,λb hbl c hc=>?_,λb hbl=>?_⟩,?_,by simp [PV.nms,B8],k4,λb g hg=>k5 b g (hn b g hg).2⟩
 ·obtain ⟨m1,m2,m3⟩:=hs.keep b hbl (by rw [Xa hP];exact hf)
  refine ⟨by simp only;rw [if_pos hbl];exact m1,?_,m3⟩
  simp only [A2,List.getElem?_map]
  cases H[b]? with
  | none=>rfl
  | some x=>exact congrArg some (AM x)
 ·obtain ⟨q1,q2⟩:=hn b g hg
  have:=k1.lt b g q2
  grind
 ·rw [List.getElem_map,AL] at hc
  simp at hc
 ·rw [hlen] at hbl
  rw [List.getElem_map]
  have hbx:=List.all_eq_true.1 hb _ (List.getElem_mem hbl)
  have hB:=hH.blk b hbl
  cases hx:H[b] with
  | box cells=>
   rw [hx] at hB
   obtain ⟨g,cur,e,h1,h2,h3,_⟩:=hB
   obtain ⟨m1,m2,m3⟩:=hs.keep b hbl (by simp only [A2,List.getElem?_eq_getElem hbl,hx];exact trivial)
   have hl2:b<Hc.length:=Nat.lt_of_lt_of_le hbl hs.len
   have hB2:=k1.blk b hl2
   have hshp:(Hc[b]).shp = .box:=by
    simp only [A2,List.getElem?_eq_getElem hbl,List.getElem?_eq_getElem hl2,Option.map_some,Option.some.injEq] at m2
    rw [m2,hx];rfl
   cases hy:Hc[b] with
   | box cells'=>
    rw [hy] at hB2
    obtain ⟨g',cur',e',h1',h2',h3',h4'⟩:=hB2
    have hgg:g'=g:=by grind
    subst hgg
    have hsz:=m3 g' h1
    simp only [World.shape?,h2,h2',Option.some.injEq,Prod.mk.injEq] at hsz
    refine ⟨g',cur',e',by simp only;rw [if_pos hbl];exact h1',h2',by rw [hsz.2,h3];simp,λj hj=>?_⟩
    have hj':j<cur'.size:=by rw [hsz.2,h3];simpa using hj
    exact ⟨cur'[j],Array.getElem?_eq_getElem hj',by rw [List.getElem_map];exact .bad _⟩
   | arr a b c d=>rw [hy] at hshp;cases hshp
   | iter a b=>rw [hy] at hshp;cases hshp
   | dead=>rw [hy] at hshp;cases hshp
  | arr a b c d=>rw [hx] at hbx;cases hbx
  | iter a b=>rw [hx] at hbx;cases hbx
  | dead=>rw [hx] at hbx;cases hbx
 ·obtain ⟨A,rfl,hA,hcA⟩:=k2.inv_tup
  exact VP.mk_tup hA λj hj=>by simp at hj
theorem Tv {C₀:Cfg} {g:Nat} {pf:List PV->List Blk->Option (Bool × List (List PV))} (hX:XOK C₀) (hO:Bl C₀) (hm:C₀.P.follows .mixedOrders=true)
  (h:∀ args H L,pf args H=some (true,L)->∀ (σ:Type) (yh:Yh σ) (s s':σ),Q3 yh L s=some s'->∃ d Hc,evC C₀ d σ yh g args H s=some (.tup [],Hc,s')):IJ C₀.P C₀.G g pf:=by
 intro C hP hG σ I yh yv hI hy args H L s s' hpf hb hrun Γ Φ w Vs hyv hH hg hi hdis hc hn
 obtain ⟨d,Hc,hev⟩:=h args H L hpf σ yh s s' hrun
 exact (Fw hX hO hm d σ I yh yv hI hy g args H s _ Hc s' hev Γ Φ w Vs hyv hH (hg.congr hG.symm) hi hdis hc hn).mono λV w' hr=>Al2 hP.symm hb hH hr
def Gl {α:Type}:List (Nat × α)->Nat->Option α
 | [],_=>none
 | (g,pf)::r,n=>cond (Nat.beq n g) (some pf) (Gl r n)
theorem Pv {α:Type}:∀ {l:List (Nat × α)} {g:Nat} {pf:α},Gl l g=some pf->(g,pf)∈l
 | [],_,_,h=>by cases h
 | (n,q)::r,g,pf,h=>by
  simp only [Gl] at h
  cases hb:Nat.beq g n with
  | true=>
   simp_all
  | false=>
   rw [hb] at h
   exact List.mem_cons_of_mem _ (Pv h)
def Eu (P:Program) (G:GT):List (Nat × (List PV->List Blk->Tr))->Prop
 | []=>True
 | (g,pf)::r=>Lj P G g pf/\Eu P G r
def Et (P:Program) (G:GT):List (Nat × (List PV->List Blk->Option (Bool × List (List PV))))->Prop
 | []=>True
 | (g,pf)::r=>IJ P G g pf/\Et P G r
theorem Eu.mem {P:Program} {G:GT}:∀ {l:List (Nat × (List PV->List Blk->Tr))} {g:Nat} {pf:List PV->List Blk->Tr},Eu P G l->(g,pf)∈l->Lj P G g pf
 | [],_,_,_,hm=>by simp at hm
 | (n,q)::r,g,pf,h,hm=>by
  rcases List.mem_cons.1 hm with e | hm
  ·cases e;exact h.1
  ·exact Eu.mem h.2 hm
theorem Et.mem {P:Program} {G:GT}:∀ {l:List (Nat × (List PV->List Blk->Option (Bool × List (List PV))))} {g:Nat} {pf:List PV->List Blk->Option (Bool × List (List PV))},Et P G l->(g,pf)∈l->IJ P G g pf
 | [],_,_,_,hm=>by simp at hm
 | (n,q)::r,g,pf,h,hm=>by
  rcases List.mem_cons.1 hm with e | hm
  ·cases e;exact h.1
  ·exact Et.mem h.2 hm
theorem Eu.ok {C:Cfg} {l:List (Nat × (List PV->List Blk->Tr))} (hl:C.Y=Gl l) (h:Eu C.P C.G l):X8 C (clY C):=by
 intro σ I yh yv hI hy g args H s ret Hc s' hcl Γ Φ w Vs hyv hH hg hi hd hc hn
 simp only [clY,hl] at hcl
 split at hcl
 ·rename_i pf hpf
  split at hcl
  ·rename_i r' h' hr
   simp only [Option.some.injEq,Prod.mk.injEq] at hcl
   obtain ⟨rfl,rfl,rfl⟩:=hcl
   exact h.mem (Pv hpf) C rfl rfl σ I yh yv hI hy args H s _ _ hr Γ Φ w Vs hyv hH hg hi hd hc hn
  grind
 ·cases hcl
theorem Et.ok {C:Cfg} {l:List (Nat × (List PV->List Blk->Option (Bool × List (List PV))))} (hl:C.S=Gl l) (h:Et C.P C.G l):X8 C (clS C):=by
 intro σ I yh yv hI hy g args H s ret Hc s' hcl Γ Φ w Vs hyv hH hg hi hd hc hn
 simp only [clS,hl] at hcl
 split at hcl
 ·rename_i pf hpf
  split at hcl
  ·rename_i hb
   split at hcl
   ·rename_i L hL
    split at hcl
    ·rename_i s2 hr
     simp only [Option.some.injEq,Prod.mk.injEq] at hcl
     obtain ⟨rfl,rfl,rfl⟩:=hcl
     exact h.mem (Pv hpf) C rfl rfl σ I yh yv hI hy args H L s _ hL hb hr Γ Φ w Vs hyv hH hg hi hd hc hn
    grind
   grind
  grind
 ·cases hcl
theorem Ib {C:Cfg} {lx:List (Nat × (List PV->Tr))} {ly:List (Nat × (List PV->List Blk->Tr))} {ls:List (Nat × (List PV->List Blk->Option (Bool × List (List PV))))} (h1:C.X=IA lx) (h2:C.Y=Gl ly) (h3:C.S=Gl ls) (x:K3 C.P C.G lx) (y:Eu C.P C.G ly) (s:Et C.P C.G ls) (h4:C.Z=Gl []:=by rfl):XOK C:=
 ⟨K3.x1 h1 x,Eu.ok h2 y,Et.ok h3 s,λg pf h=>by rw [h4] at h;cases h⟩
theorem K3.ok {C:Cfg} {l:List (Nat × (List PV->Tr))} (hl:C.X=IA l) (h:K3 C.P C.G l) (h2:C.Y=Gl []:=by rfl) (h3:C.S=Gl []:=by rfl) (h4:C.Z=Gl []:=by rfl):XOK C:=
 Ib hl h2 h3 h trivial trivial h4
def okL:List Nat->Nat->Bool
 | [],_=>false
 | a::r,n=>Nat.beq n a || okL r n
def RR (C:Cfg) (l:List Nat):Bool:=l.all λf=>match C.P.funcs[f]? with
 | some fn=>match fn.body with
  | some c=>Am2 C c && !(fn.name == "runtime.NumGoroutine")
  | none=>true
 | none=>true
theorem F5 {C:Cfg} {l:List Nat} (hl:C.okf=okL l) (h:RR C l=true):Bl C:=by
 intro f fn c hok hf hb
 have key:∀ l:List Nat,okL l f=true->f∈l:=by
  intro l
  induction l with
  | nil=>intro h;cases h
  | cons a r ih=>
   intro h
   simp only [okL,Bool.or_eq_true] at h
   rcases h with h | h
   all_goals simp_all
 have hm:f∈l:=key l (by rw [<-hl];exact hok)
 simp only [RR,List.all_eq_true] at h
 grind
def cd:List Nat->Code->Code
 | [],c=>c
 | 0::p,.seq a _=>cd p a
 | 1::p,.seq _ b=>cd p b
 | 0::p,.cond _ a _=>cd p a
 | 1::p,.cond _ _ b=>cd p b
 | 0::p,.block _ a=>cd p a
 | 0::p,.loop a=>cd p a
 | 0::p,.scope a=>cd p a
 | 0::p,.rangeFunc _ _ a _=>cd p a
 | 1::p,.rangeFunc _ _ _ b=>cd p b
 | _,_=>.skip
def P5:List Nat->Code->Code->Code
 | [],b,_=>b
 | 0::p,b,.seq x y=>.seq (P5 p b x) y
 | 1::p,b,.seq x y=>.seq x (P5 p b y)
 | 0::p,b,.cond c x y=>.cond c (P5 p b x) y
 | 1::p,b,.cond c x y=>.cond c x (P5 p b y)
 | 0::p,b,.block id x=>.block id (P5 p b x)
 | 0::p,b,.loop x=>.loop (P5 p b x)
 | 0::p,b,.scope x=>.scope (P5 p b x)
 | 0::p,b,.rangeFunc g ps x y=>.rangeFunc g ps (P5 p b x) y
 | 1::p,b,.rangeFunc g ps x y=>.rangeFunc g ps x (P5 p b y)
 | _,_,c=>c
def E1 (f:Func):Code:=f.body.getD .skip
section
variable {σ R : Type}
def bd (C:Cfg) (cl:D5) (yh:Yh σ) (c:Code):St σ->(Out->St σ->Option R)->Option R:=λst k=>B2 C cl yh c st k
def G9 (C:Cfg) (cl:D5) (yh:Yh σ) (b:Code) (k:Out->St σ->Option R):Out->St σ->Option R:=λo st'=>match o with
 | .normal=>B2 C cl yh b st' k
 | o=>k o st'
def G3 (id:Nat) (k:Out->St σ->Option R):Out->St σ->Option R:=λo st'=>match o with
 | .exit j=>if j=id then k .normal st' else k (.exit j) st'
 | o=>k o st'
def I8 (C:Cfg) (fn:Func):Out->St σ->Option (PV × List Blk × σ):=λo st=>match o with
 | .normal=>Ud C st.sl st.hp fn.results.toList λvs=>some (Y6 vs,st.hp,st.s)
 | .ret=>Ud C st.sl st.hp fn.results.toList λvs=>some (Y6 vs,st.hp,st.s)
 | _=>none
def lpK (L:Nat) (ds:Option (List Nat)) (body:St σ->(Out->St σ->Option R)->Option R) (n:Nat) (k:Out->St σ->Option R):Out->St σ->Option R:=λo st'=>match o with
 | .normal=>D6 L ds body n (Hf ds (R7 L st')) k
 | o=>k o (Hf ds st')
end
theorem Bg4 {C:Cfg} {d f:Nat} {fn:Func} {σ:Type} {yh:Yh σ} {args:List PV} {H:List Blk} {s:σ} (h2:C.P.funcs[f]? = some fn) (h1:C.okf f=true) (h3:fn.body=some (E1 fn)) :
  evC C (d+1) σ yh f args H s=B2 C (evC C d) yh (E1 fn) { sl:=args++List.replicate (fn.ntmps-args.length) (.tup []),hp:=H,s:=s } (I8 C fn):=by
 simp only [evC,h1,h2]
 split
 ·rename_i c hc
  rw [hc] at h3
  simp only [Option.some.injEq] at h3
  rw [<-h3]
  rfl
 ·rename_i hc
  rw [hc] at h3
  cases h3
theorem evE {C:Cfg} {d f:Nat} {fn:Func} {σ:Type} {yh:Yh σ} {args:List PV} {H:List Blk} {s:σ} (h:(C.P.funcs[f]?,C.okf f,fn.body)=(some fn,true,some (E1 fn))) :
  evC C (d+1) σ yh f args H s=B2 C (evC C d) yh (E1 fn) { sl:=args++List.replicate (fn.ntmps-args.length) (.tup []),hp:=H,s:=s } (I8 C fn):=by
 simp only [Prod.mk.injEq] at h
 exact Bg4 h.1 h.2.1 h.2.2
def Fa:List Nat->List Blk->List Blk
 | [],H=>H
 | i::r,H=>Fa r (H.set i .dead)
def PK (idx:List Nat) (ret:PV) (H:List Blk):Bool:=idx.all λi=>!(ret.nms.contains i)&&(Fa idx H).all λb=>!(b.nms.contains i)
theorem Sz:∀ (idx:List Nat) (H:List Blk),(Fa idx H).length=H.length/\∀ i (h:i<(Fa idx H).length) (h':i<H.length),(i∈idx/\(Fa idx H)[i] = .dead)\/(i∉idx/\(Fa idx H)[i]=H[i])
 | [],H=>⟨rfl,λi h h'=>.inr ⟨by simp,rfl⟩⟩
 | a::r,H=>by
  obtain ⟨h1,h2⟩:=Sz r (H.set a .dead)
  simp only [Fa]
  grind
theorem X7.dead {C:Cfg} {Γ:Ctx} {w w':World} {ret:PV} {Hc:List Blk} {V:Value} {idx:List Nat} (h:X7 C I0 Γ [] w noΦ ret Hc () V w') (hok:PK idx ret Hc=true):X7 C I0 Γ [] w noΦ ret (Fa idx Hc) () V w':=by
 obtain ⟨Γ1,Φ1,hs,hH1,hv,hvn,hi1,hd1⟩:=h
 obtain ⟨hl,hsp⟩:=Sz idx Hc
 simp only [PK,List.all_eq_true,Bool.and_eq_true,Bool.not_eq_true',List.contains_iff_mem,<-Bool.not_eq_true] at hok
 let Γ2:Ctx:={ Γ1 with nm:=λb=>if b∈idx then none else Γ1.nm b }
 have hnm:∀ b g,Γ2.nm b=some g->b∉idx/\Γ1.nm b=some g:=λb g h=>by
  simp only [Γ2] at h
  split at h
  ·cases h
  ·exact ⟨‹_›,h⟩
 have M:T7 Γ1 (A2 Hc) w' Γ2 (A2 (Fa idx Hc)) w' (·∉idx):=⟨λ_ _=>rfl,λ_ h=>h,λb hb=>by simp only [Γ2];rw [if_neg hb],λb hb=>by
  simp only [A2]
  by_cases hlt:b<Hc.length
  ·rcases hsp b (by omega) hlt with ⟨q,_⟩ | ⟨_,q⟩
   ·exact absurd q hb
   ·rw [List.getElem?_eq_getElem (by omega),List.getElem?_eq_getElem hlt,q]
  ·rw [List.getElem?_eq_none (by omega),List.getElem?_eq_none (by omega)],λ_ _ _ _=>rfl,rfl⟩
 refine ⟨Γ2,Φ1,⟨hs.os,hs.tape,hs.output,hs.size,hs.sub,hs.stnew,λb g h=>hs.own b g (hnm b g h).2,hs.foot,hs.frame,hs.yv,Nat.zero_le _,λb hb=>by simp at hb⟩,
  ⟨λb b' g h1 h2=>hH1.inj b b' g (hnm b g h1).2 (hnm b' g h2).2,λb g h=>by have:=hH1.lt b g (hnm b g h).2;rw [hl];exact this,hH1.stlt,λb hb c hc=>?_,λb hb=>?_⟩,
  hv.mono M (λb hb hi=>by have:=(hok b hi).1;exact this hb),λc hc=>by rw [hl];exact hvn c hc,hi1,λb g h=>hd1 b g (hnm b g h).2⟩
 ·have hlt:b<Hc.length:=by omega
  rcases hsp b hb hlt with ⟨_,q⟩ | ⟨_,q⟩
  ·rw [q] at hc;simp [Blk.nms] at hc
  ·rw [q] at hc;rw [hl];exact hH1.nms b hlt c hc
 ·have hlt:b<Hc.length:=by omega
  rcases hsp b hb hlt with ⟨_,q⟩ | ⟨q0,q⟩
  ·rw [q];trivial
  ·rw [q]
   refine (hH1.blk b hlt).mono M (M.nm b q0) (λ_ _=>rfl) (λc hc hi=>?_)
   have:=(hok c hi).2 _ (List.getElem_mem hb)
   rw [q] at this
   exact this hc
theorem N5 {C₀:Cfg} {g:Nat} {pf:List PV->Tr} (hX:XOK C₀) (hO:Bl C₀) (hm:C₀.P.follows .mixedOrders=true)
  (h:∀ args ret Hc,G1 (pf args)=some (ret,Hc)->B8 args=[]/\∃ d H0 idx,evC C₀ d Unit noY g args [] ()=some (ret,H0,())/\PK idx ret H0=true/\Fa idx H0=Hc):B4 C₀.P C₀.G g pf:=by
 intro args ret Hc hpf C hP hGe Γ w Vs hnm hH hG hc
 obtain ⟨hna,d,H0,idx,hev,hd,rfl⟩:=h args ret Hc hpf
 have h0:=Bg (C₀:=C₀) (g:=g) (pf:=λa=>match G1 (pf a) with | some _=>(match evC C₀ d Unit noY g a [] () with | some (r,H,_)=>cond (B8 a).isEmpty (.ret r H) .fail | none=>.fail) | none=>.fail) hX hO hm (λa r H hr=>by
  split at hr
  ·split at hr
   ·rename_i r' H' _ he
    cases hn:(B8 a).isEmpty with
    | true=>
     rw [hn] at hr
     simp only [cond_true,G1,Z9,Option.some.injEq,Prod.mk.injEq] at hr
     grind
    | false=>rw [hn] at hr;cases hr
   ·cases hr
  ·cases hr)
 refine (h0 args ret H0 ?_ C hP hGe Γ w Vs hnm hH hG hc).mono λV w' hR=>hR.dead hd
 dsimp only
 rw [hpf]
 dsimp only
 rw [hev]
 dsimp only
 rw [hna]
 rfl
theorem ID {C₀:Cfg} {g:Nat} {pf:List PV->Tr} (hX:XOK C₀) (hO:Bl C₀) (hm:C₀.P.follows .mixedOrders=true)
  (h:∀ args ret Hc,G1 (pf args)=some (ret,Hc)->B8 args=[]/\Hc=[]/\ret.nms=[]/\∃ d ret' H0,evC C₀ d Unit noY g args [] ()=some (ret',H0,())/\ret'.snap H0=ret):B4 C₀.P C₀.G g pf:=by
 intro args ret Hc hpf C hP hGe Γ w Vs hnm hH hG hc
 obtain ⟨hna,rfl,hnr,d,ret',H0,hev,rfl⟩:=h args ret Hc hpf
 have h0:=Bg (C₀:=C₀) (g:=g) (pf:=λa=>match evC C₀ d Unit noY g a [] () with | some (r,H,_)=>cond (B8 a).isEmpty (.ret r H) .fail | none=>.fail) hX hO hm (λa r H hr=>by
  split at hr
  ·rename_i r' H' _ he
   cases hn:(B8 a).isEmpty with
   | true=>
    rw [hn] at hr
    simp only [cond_true,G1,Z9,Option.some.injEq,Prod.mk.injEq] at hr
    grind
   | false=>rw [hn] at hr;cases hr
  ·cases hr)
 refine h0.snap args (ret'.snap H0) [] ?_ C hP hGe Γ w Vs hnm hH hG hc
 dsimp only
 rw [hev]
 dsimp only
 rw [hna]
 simp only [List.isEmpty_nil,cond_true,Tr.snap,hnr]
 rfl
section
variable {σ R : Type} {C : Cfg} {cl : D5} {yh : Yh σ} {c a b : Code} {st : St σ} {k : Out -> St σ -> Option R} {id : Nat}
theorem A0 {b:Bool} {x y x' y':Option R} (hx:x=x') (hy:y=y'):cond b x y=cond b x' y':=by rw [hx,hy]
end
def A5 {α:Type}:List (Nat × α)->Nat->Option α
 | [],_=>none
 | (a,l)::r,n=>cond (Nat.beq n a) (some l) (A5 r n)
def bds (n:Nat):List PV:=List.replicate n .bad
def tps (n:Nat):List PV:=List.replicate n (.tup [])
def gp:List (Nat × PV)->Nat->List PV
 | [],n=>bds n
 | (m,v)::r,n=>bds m++v::gp r n
abbrev LL:=List (List SV)
abbrev By:=List UInt8
def A1 (n:Int):Int:=IntKind.wrap .i64 n
def Av9 (n:Int):Int:=IntKind.wrap .u64 n
def Bp2 (n:Int):Int:=IntKind.wrap .u32 n
def Av8 (n:Int):Int:=IntKind.wrap .u16 n
def wu8 (n:Int):Int:=IntKind.wrap .u8 n
def bOr (k:IntKind) (a b:Int):Int:=k.wrap (BitVec.ofInt k.bits a ||| BitVec.ofInt k.bits b).toNat
def US (k:IntKind) (a b:Int):Int:=k.wrap (a*2 ^ min b.toNat k.bits)
def Au2 (k:IntKind) (a b:Int):Int:=a.fdiv (2 ^ min b.toNat k.bits)
def inR (n:Int) (m:Nat):Bool:=decide (0<=n)&&decide (n<m)
def Gk:TI:=⟨true,false,[.int .i64]⟩
def Dx:TI:=⟨true,false,[.str]⟩
def okE (t:TI) (l:LL) (i o:Nat):Bool:=decide (i<l.length)&&okS t (l.getD i []) o
def gC (l:LL) (i j:Nat):SV:=(l.getD i []).getD j .nilp
def gE (l:LL) (i j:Nat):Int:=(gC l i j).gI
def gX (l:LL) (i j:Nat):By:=(gC l i j).gS
def gY (l:LL) (i j:Nat):Bool:=(gC l i j).gB
def bAt (s:By) (n:Int):Int:=((s.getD n.toNat 0).toNat:Int)
def N7 (l h:Int) (n:Nat):Bool:=decide (0<=l)&&decide (l<=h)&&decide (h<=n)
def cut {α:Type} (s:List α) (l h:Int):List α:=(s.take h.toNat).drop l.toNat
def Bq9:Code->Bool | .rangeFunc _ _ _ _=>true | _=>false
def rgX:Code->Operand | .rangeFunc x _ _ _=>x | _=>.tmp 0
def rgP:Code->Array Tmp | .rangeFunc _ p _ _=>p | _=>#[]
theorem FQ:∀ (p:List Nat),cd p .skip = .skip
 | []=>rfl
 | 0::_=>rfl
 | 1::_=>rfl
 | (_+2)::_=>rfl
theorem Cy:∀ (p q:List Nat) (c:Code),cd (p++q) c=cd q (cd p c)
 | [],q,c=>rfl
 | i::p,q,c=>by
  rw [List.cons_append]
  match i,c with
  | 0,.seq a b=>exact Cy p q a
  | 1,.seq a b=>exact Cy p q b
  | 0,.cond _ a b=>exact Cy p q a
  | 1,.cond _ a b=>exact Cy p q b
  | 0,.block _ a=>exact Cy p q a
  | 0,.loop a=>exact Cy p q a
  | 0,.scope a=>exact Cy p q a
  | 0,.rangeFunc _ _ a b=>exact Cy p q a
  | 1,.rangeFunc _ _ a b=>exact Cy p q b
  | 0,.skip | 0,.region _ _ _ | 0,.exit _ | 0,.label _ | 0,.goto _ | 0,.ret | 0,.refuse _=>exact (FQ q).symm
  | 1,.skip | 1,.region _ _ _ | 1,.exit _ | 1,.scope _ | 1,.label _ | 1,.goto _ | 1,.ret | 1,.refuse _ | 1,.block _ _ | 1,.loop _=>exact (FQ q).symm
  | _+2,.skip | _+2,.region _ _ _ | _+2,.exit _ | _+2,.scope _ | _+2,.label _ | _+2,.goto _ | _+2,.ret | _+2,.refuse _ | _+2,.block _ _ | _+2,.loop _ | _+2,.seq _ _ | _+2,.cond _ _ _ | _+2,.rangeFunc _ _ _ _=>exact (FQ q).symm
section
variable {σ R : Type} {C : Cfg} {cl : D5} {yh : Yh σ} {B : Code} {st : St σ} {k : Out -> St σ -> Option R}
theorem Bn4 (p:List Nat) (h:Bq9 (cd p B)=true):B2 C cl yh (cd p B) st k=Nb C cl (opnd C st.sl (rgX (cd p B))) st (λsl0=>Ff (rgP (cd p B)) sl0 (bd C cl yh (cd (p++[0]) B)) (bd C cl yh (cd (p++[1]) B))) (λsl0=>V3 (rgP (cd p B)) sl0 (bd C cl yh (cd (p++[0]) B)) (bd C cl yh (cd (p++[1]) B))) k:=by
 rw [Cy,Cy]
 cases hc:cd p B<;>rw [hc] at h<;>first | rfl | cases h
theorem RK {c:Bool} {x y:Option R} (h:x=y):need c x=cond c y none:=by rw [h];rfl
end
abbrev pS (l:List UInt8):PV:=.s (.str l)
abbrev pB (b:Bool):PV:=.s (.bool b)
abbrev pI (n:Int):PV:=.s (.int .i64 n)
abbrev p8 (n:Int):PV:=.s (.int .u8 n)
abbrev vl {α β:Type} (e:α) (f:α->β):β:=f e
theorem A7 {α R:Type} {e:α} {f g:α->Option R} (h:∀ x,f x=g x):vl e f=vl e g:=h e
def Nr (m n:Nat):Bool:=decide (m+n<4611686018427387904)
theorem fx1 {A R:Type} {f g:A->R} (h0:∀ a,f a=g a):f=g:=funext h0
theorem fx2 {A B R:Type} {f g:A->B->R} (h0:∀ a b,f a b=g a b):f=g:=funext λa=>fx1 (h0 a)
theorem fx3 {A B C R:Type} {f g:A->B->C->R} (h0:∀ a b c,f a b c=g a b c):f=g:=funext λa=>fx2 (h0 a)
theorem fx4 {A B C D R:Type} {f g:A->B->C->D->R} (h0:∀ a b c d,f a b c d=g a b c d):f=g:=funext λa=>fx3 (h0 a)
theorem fx5 {A B C D E R:Type} {f g:A->B->C->D->E->R} (h0:∀ a b c d e,f a b c d e=g a b c d e):f=g:=funext λa=>fx4 (h0 a)
theorem fx6 {A B C D E H R:Type} {f g:A->B->C->D->E->H->R} (h0:∀ a b c d e h,f a b c d e h=g a b c d e h):f=g:=funext λa=>fx5 (h0 a)
theorem fx7 {A B C D E H I R:Type} {f g:A->B->C->D->E->H->I->R} (h0:∀ a b c d e h i,f a b c d e h i=g a b c d e h i):f=g:=funext λa=>fx6 (h0 a)
theorem fx8 {A B C D E H I J R:Type} {f g:A->B->C->D->E->H->I->J->R} (h0:∀ a b c d e h i j,f a b c d e h i j=g a b c d e h i j):f=g:=funext λa=>fx7 (h0 a)
theorem fx9 {A B C D E H I J K R:Type} {f g:A->B->C->D->E->H->I->J->K->R} (h0:∀ a b c d e h i j k,f a b c d e h i j k=g a b c d e h i j k):f=g:=funext λa=>fx8 (h0 a)
theorem A12 {A B C D E H I J K L R:Type} {f g:A->B->C->D->E->H->I->J->K->L->R} (h0:∀ a b c d e h i j k l,f a b c d e h i j k l=g a b c d e h i j k l):f=g:=funext λa=>fx9 (h0 a)
def Bo7 {α β:Type} (z:α) (f:β->List β->α->α):List β->α
 | []=>z
 | x::xs=>f x xs (Bo7 z f xs)
def Ro (n:Nat):PV->PV
 | .s (.sl z t k els)=>if n=0 then .s (.sl z t k els) else if k=n then .s (.sl z t k els) else .s (.sl z t (cond z n k) els)
 | v=>v
def Ji:List Nat->List PV->List PV
 | n::r,v::l=>Ro n v::Ji r l
 | _,l=>l
def Bg5 (szs:List Nat):PV->PV
 | .agg l=>.agg (Ji szs l)
 | v=>Ro (szs.headD 0) v
def D8:List (List Nat)->List PV->List PV
 | s::r,v::l=>Bg5 s v::D8 r l
 | _,l=>l
section
variable {Γ : Ctx} {sh : Nat -> Option Shp} {w : World}
theorem Ha {n:Nat} {v:PV} {V:Value} (h:VP Γ sh w v V):VP Γ sh w (Ro n v) V:=by
 unfold Ro
 split
 ·rename_i z t k els
  split
  ·exact h
  ·split
   ·exact h
   ·cases z with
    | false=>exact h
    | true=>
     have hs:=h.inv_s
     cases hs with
     | nil=>exact .s _ _ (.nil _ _)
 ·exact h
theorem Fy:∀ (szs:List Nat) (l:List PV),(Ji szs l).length=l.length
 | [],_=>rfl
 | _::_,[]=>rfl
 | n::r,v::l=>by simp [Ji,Fy r l]
theorem Jj:∀ (szs:List Nat) (l:List PV) (j:Nat) (h:j<l.length) (h':j<(Ji szs l).length),∃ n,(Ji szs l)[j]=Ro n l[j]
 | [],l,j,h,h'=>⟨0,by
  have e:Ji [] l=l:=by cases l<;>rfl
  simp only [e]
  unfold Ro
  split
  ·rename_i he;rw [he];simp
  ·rfl⟩
 | n::r,v::l,0,h,h'=>⟨n,rfl⟩
 | n::r,v::l,j+1,h,h'=>by
  obtain ⟨m,e⟩:=Jj r l j (by simpa using h) (by simpa [Ji] using h')
  exact ⟨m,by simpa [Ji] using e⟩
theorem A09 {szs:List Nat} {v:PV} {V:Value} (h:VP Γ sh w v V):VP Γ sh w (Bg5 szs v) V:=by
 unfold Bg5
 split
 ·rename_i l
  obtain ⟨A,rfl,hA,hc⟩:=h.inv_agg
  refine VP.mk_agg (by rw [Fy];exact hA) λj hj=>?_
  have hj':j<l.length:=by rw [Fy] at hj;exact hj
  obtain ⟨U,e,k⟩:=hc j hj'
  obtain ⟨m,e2⟩:=Jj szs l j hj' hj
  exact ⟨U,e,by rw [e2];exact Ha k⟩
 ·exact Ha h
theorem JR:∀ (szs:List (List Nat)) (l:List PV),(D8 szs l).length=l.length
 | [],_=>rfl
 | _::_,[]=>rfl
 | n::r,v::l=>by simp [D8,JR r l]
theorem A10:∀ (szs:List (List Nat)) (l:List PV) (V:Array Value),CR Γ sh w l V->CR Γ sh w (D8 szs l) V:=by
 intro szs l V h
 refine ⟨by rw [JR];exact h.1,?_⟩
 have key:∀ (szs:List (List Nat)) (l:List PV) (As:Nat->Option Value),(∀ j (h:j<l.length),∃ U,As j=some U/\VP Γ sh w (l[j]) U)->∀ j (h:j<(D8 szs l).length),∃ U,As j=some U/\VP Γ sh w ((D8 szs l)[j]) U:=by
  intro szs
  induction szs with
  | nil=>intro l As hl j hj;exact hl j (by cases l<;>exact hj)
  | cons s r ih=>
   intro l As hl j hj
   cases l with
   | nil=>simp [D8] at hj
   | cons v l=>
    cases j with
    | zero=>
     obtain ⟨U,e,k⟩:=hl 0 (by simp)
     exact ⟨U,e,A09 k⟩
    | succ j=>
     have:=ih l (λj=>As (j+1)) (λj h=>hl (j+1) (by simpa using h)) j (by simpa [D8] using hj)
     simpa [D8] using this
 exact key szs l (λj=>V[j]?) h.2
end
theorem B4.fix {P:Program} {G:GT} {g:Nat} {pf:List PV->Tr} (szs:List (List Nat)) (h:B4 P G g pf):B4 P G g (λargs=>pf (D8 szs args)):=
 λargs ret Hc hpf C hP hGe Γ w Vs hnm hH hG hc=>h (D8 szs args) ret Hc hpf C hP hGe Γ w Vs hnm hH hG (A10 szs args Vs hc)
def plE (els:LL):Bool:=els.all λel=>el.all SV.plain
theorem G7 {v:PV} {H:List Blk} {ret:PV} {Hc:List Blk} (h:G1 (.ret v H)=some (ret,Hc)):ret=v/\Hc=H:=by
 simp only [G1,Z9,Option.some.injEq,Prod.mk.injEq] at h
 grind
theorem C0 {c:Bool} {t:Tr} {ret:PV} {Hc:List Blk} (h:G1 (.need c t)=some (ret,Hc)):c=true/\G1 t=some (ret,Hc):=by
 cases c with
 | true=>exact ⟨rfl,h⟩
 | false=>cases h
theorem Px {c:Bool} {a b:Tr} {ret:PV} {Hc:List Blk} (h:G1 (.split c a b)=some (ret,Hc)):(c=true/\G1 a=some (ret,Hc))\/(c=false/\G1 b=some (ret,Hc)):=by
 cases c with
 | true=>exact .inl ⟨rfl,h⟩
 | false=>exact .inr ⟨rfl,h⟩
theorem Bc7:∃ n:Nat,100000000000000000000<=n:=⟨_,Nat.le_refl _⟩
noncomputable def LF:Nat:=Classical.choose Bc7
theorem D7:100000000000000000000<=LF:=Classical.choose_spec Bc7
attribute [irreducible] LF
theorem ZD (b:UInt8):Rj (D4 b)=b:=by
 simp [Rj,D4,SV.gI]
theorem Gc (l:List UInt8):(l.map D4).map Rj=l:=by
 rw [List.map_map]
 have:Rj ∘ D4=id:=by funext b;exact ZD b
 rw [this,List.map_id]
theorem ZU (b:UInt8):Uc (D4 b)=true:=by
 have:=b.toNat_lt
 simp only [Uc,D4,Bool.and_eq_true,decide_eq_true_eq]
 omega
theorem Fq (l:List UInt8):(l.map D4).all Uc=true:=by
 rw [List.all_map]
 simp [Function.comp_def,ZU]
theorem Bj6 (n:Nat):IntKind.wrap .u8 (n:Int)=((n % 256:Nat):Int):=by simp [IntKind.wrap,IntKind.bits,IntKind.signed]
theorem Ba3 (n:Nat):IntKind.wrap .u16 (n:Int)=((n % 65536:Nat):Int):=by simp [IntKind.wrap,IntKind.bits,IntKind.signed]
theorem Ba4 (n:Nat):IntKind.wrap .u32 (n:Int)=((n % 4294967296:Nat):Int):=by simp [IntKind.wrap,IntKind.bits,IntKind.signed]
theorem Ba5 (n:Nat):IntKind.wrap .u64 (n:Int)=((n % 18446744073709551616:Nat):Int):=by simp [IntKind.wrap,IntKind.bits,IntKind.signed]
theorem Ba2 (n:Int) (h0:-9223372036854775808<=n) (h1:n<9223372036854775808):IntKind.wrap .i64 n=n:=by
 simp [IntKind.wrap,IntKind.bits,IntKind.signed]
 split<;>omega
theorem An9 (n m:Nat):Int.fdiv (n:Int) (m:Int)=((n / m:Nat):Int):=by
 rw [Int.fdiv_eq_ediv_of_nonneg _ (by omega)]
 rfl
theorem K6 (n m:Nat):Int.tdiv (n:Int) (m:Int)=((n / m:Nat):Int):=by
 rw [Int.tdiv_eq_ediv_of_nonneg (by omega)]
 rfl
theorem Gm (n m:Nat):Int.tmod (n:Int) (m:Int)=((n % m:Nat):Int):=by
 rw [Int.tmod_eq_emod_of_nonneg (by omega)]
 rfl
end
section
open Go Go.ChangeShapes Go.RowKit Go.Sort Go.WideShapes
theorem Ar {P:Program} {f:Nat} {fn:Func} {Vs:Array Value} {w:World} {R:Value->World->Prop} (hf:P.funcs[f]? = some fn) (hb:fn.body.isSome=true) (hn:(fn.name == "runtime.NumGoroutine")=false)
  (h:Calls P f Vs w λe w'=>∃ V,e = .returned V/\R V w'):K8 P ((callFunc f Vs).run P w) R:=by
 obtain ⟨c,hb⟩:=Option.isSome_iff_exists.1 hb
 intro ro n o a next Q hnext
 have hrun:(callFunc f Vs).run P w = .ok (.enter f Vs) w:=by
  have hn':¬ fn.name = "runtime.NumGoroutine":=by simpa using hn
  simp [callFunc,hf,hb,hn',Result.andThen]
 rw [hrun]
 simp only [Oper.uponIn_enter]
 refine ⟨λh=>(by simp [E5,Fence.wide] at h),?_⟩
 have key:CallsIn Fence.wide (n-1) P f Vs w λe w'=>∃ V,e = .returned V/\R V w':=callsIn_wide.2 h
 have key':CallsIn (E5 ro) (n-1) P f Vs w λe w'=>∃ V,e = .returned V/\R V w':=key
 refine key'.mono ?_
 rintro e w' ⟨V,rfl,hR⟩
 exact hnext V w' hR
theorem Am4 {C:Cfg} {Γ:Ctx} {w w':World} {ret:PV} {V:Value} (hnm:∀ b,Γ.nm b=none) (hH:HR Γ [] w) (hb:Below w.heap.size w w') (hv:VP Γ (A2 []) w' ret V) (hr:ret.nms=[]):X7 C I0 Γ [] w noΦ ret [] () V w':=by
 refine ⟨Γ,noΦ,⟨hb.os,hb.tape,hb.output,hb.size,λ_ h=>h,λ_ h=>.inl h,λb g h=>(by rw [hnm] at h;cases h),λ_ h=>h.elim,λg hg _ _=>hb.block g hg,rfl,Nat.le_refl _,λb h=>(by simp at h)⟩,
  ⟨λb b' g h=>(by rw [hnm] at h;cases h),λb g h=>(by rw [hnm] at h;cases h),λg hg=>Nat.lt_of_lt_of_le (hH.stlt g hg) hb.size,λb h=>(by simp at h),λb h=>(by simp at h)⟩,hv,by rw [hr];simp,λ_ h=>h,λb g h=>(by rw [hnm] at h;cases h)⟩
theorem IZ (w:World) (n:Nat):Below w.heap.size w (w.drewN n):=⟨rfl,rfl,rfl,Nat.le_refl _,λ_ _=>rfl⟩
theorem OK (w:World) (s:ByteArray) (pos:Nat):Below w.heap.size w (w.iter s pos):=(Below.refl _ w).alloc (Nat.le_refl _) _
section
variable {Γ : Ctx} {sh : Nat -> Option Shp} {w : World}
theorem CR.arr1 {a:PV} {A:Array Value} (h:CR Γ sh w [a] A):∃ U,A = #[U]/\VP Γ sh w a U:=by
 obtain ⟨U,e,k⟩:=h.2 0 (by simp)
 refine ⟨U,?_,k⟩
 have hs:A.size=1:=h.1
 grind
theorem CR.arr2 {a b:PV} {A:Array Value} (h:CR Γ sh w [a,b] A):∃ U V,A = #[U,V]/\VP Γ sh w a U/\VP Γ sh w b V:=by
 obtain ⟨U,e,k⟩:=h.2 0 (by simp)
 obtain ⟨V,e',k'⟩:=h.2 1 (by simp)
 refine ⟨U,V,?_,k,k'⟩
 have hs:A.size=2:=h.1
 grind
theorem CR.arr3 {a b c:PV} {A:Array Value} (h:CR Γ sh w [a,b,c] A):∃ U V W,A = #[U,V,W]/\VP Γ sh w a U/\VP Γ sh w b V/\VP Γ sh w c W:=by
 obtain ⟨U,e,k⟩:=h.2 0 (by simp)
 obtain ⟨V,e',k'⟩:=h.2 1 (by simp)
 obtain ⟨W,e'',k''⟩:=h.2 2 (by simp)
 refine ⟨U,V,W,?_,k,k',k''⟩
 have hs:A.size=3:=h.1
 grind
theorem VP.mk_str (l:List UInt8):VP Γ sh w (.s (.str l)) (.string ⟨l.toArray⟩):=by
 have:=VP.s (Γ:=Γ) (sh:=sh) (w:=w) _ _ (VS.str (St:=Γ.St) (w:=w) ⟨l.toArray⟩)
 omega
theorem VP.mk_int (k:IntKind) (n:Int):VP Γ sh w (.s (.int k n)) (.int k n):=.s _ _ (.int k n)
theorem VP.mk_bool (b:Bool):VP Γ sh w (.s (.bool b)) (.bool b):=.s _ _ (.bool b)
theorem VP.mk_tup2 {a b:PV} {U V:Value} (h:VP Γ sh w a U) (k:VP Γ sh w b V):VP Γ sh w (.tup [a,b]) (.tuple #[U,V]):=
 VP.mk_tup rfl λj hj=>by grind
theorem VP.mk_tup3 {a b c:PV} {U V W:Value} (h:VP Γ sh w a U) (k:VP Γ sh w b V) (l:VP Γ sh w c W):VP Γ sh w (.tup [a,b,c]) (.tuple #[U,V,W]):=
 VP.mk_tup rfl λj hj=>by grind
end
theorem M8 {P:Program} {G:GT} {g:Nat} {fn:Func} {pf:List PV->Tr} (hf:P.funcs[g]? = some fn) (hb:fn.body.isSome=true) (hn:(fn.name == "runtime.NumGoroutine")=false)
  (h:∀ args ret Hc,G1 (pf args)=some (ret,Hc)->Hc=[]/\ret.nms=[]/\∀ C:Cfg,C.P=P->C.G=G->∀ Γ w Vs,GOK C Γ.St w->(∀ g,Γ.St g->g<w.heap.size)->CR Γ (A2 []) w args Vs->
   Calls P g Vs w λe w'=>∃ V,e = .returned V/\Below w.heap.size w w'/\VP Γ (A2 []) w' ret V):B4 P G g pf:=by
 intro args ret Hc hpf C hP hG Γ w Vs hnm hH hg hc
 obtain ⟨rfl,hr,h1⟩:=h args ret Hc hpf
 exact Ar hf hb hn ((h1 C hP hG Γ w Vs hg hH.stlt hc).mono λe w' ⟨V,he,hb,hv⟩=>⟨V,he,Am4 hnm hH hb hv hr⟩)
def PV.stab (szs:List Nat) (H:List Blk):PV->PV
 | .tup l=>.tup (Ji szs (I9 H l))
 | v=>Ro (szs.headD 0) (v.snap H)
theorem VP.stab {Γ:Ctx} {H:List Blk} {w:World} (szs:List Nat) (hH:HR Γ H w) {v:PV} {V:Value} (h:VP Γ (A2 H) w v V):VP Γ.all (A2 H) w (v.stab szs H) V:=by
 by_cases ht:∃ l,v = .tup l
 ·obtain ⟨l,rfl⟩:=ht
  obtain ⟨A,rfl,hA,hc⟩:=h.inv_tup
  simp only [PV.stab]
  have hl:(Ji szs (I9 H l)).length=l.length:=by rw [Fy,U6,List.length_map]
  refine VP.mk_tup (by rw [hl];exact hA) λj hj=>?_
  obtain ⟨U,e,k⟩:=hc j (by omega)
  refine ⟨U,e,?_⟩
  have hj':j<(I9 H l).length:=by rw [U6,List.length_map];omega
  obtain ⟨n,en⟩:=Jj szs (I9 H l) j hj' hj
  rw [en]
  have e2:(I9 H l)[j]=(l[j]'(by omega)).snap H:=by
   simp only [U6,List.getElem_map]
  rw [e2]
  exact Ha (k.snap hH)
 ·have e:v.stab szs H=Ro (szs.headD 0) (v.snap H):=by
   cases v with
   | tup l=>exact absurd ⟨l,rfl⟩ ht
   | _=>rfl
  rw [e]
  exact Ha (h.snap hH)
theorem Zi (f:List Blk->PV->PV) (hf:∀ {Γ:Ctx} {H:List Blk} {w:World},HR Γ H w->∀ {v:PV} {V:Value},VP Γ (A2 H) w v V->VP Γ.all (A2 H) w (f H v) V) {C₀:Cfg} {g:Nat} {pf:List PV->Tr} (hX:XOK C₀) (hO:Bl C₀) (hm:C₀.P.follows .mixedOrders=true)
  (h:∀ args ret Hc,G1 (pf args)=some (ret,Hc)->B8 args=[]/\Hc=[]/\ret.nms=[]/\∃ d ret' H0,evC C₀ d Unit noY g args [] ()=some (ret',H0,())/\f H0 ret'=ret):B4 C₀.P C₀.G g pf:=by
 intro args ret Hc hpf C hP hGe Γ w Vs hnm hH hG hc
 obtain ⟨hna,rfl,hnr,d,ret',H0,hev,rfl⟩:=h args ret Hc hpf
 have h0:=Bg (C₀:=C₀) (g:=g) (pf:=λa=>match evC C₀ d Unit noY g a [] () with | some (r,H,_)=>cond (B8 a).isEmpty (.ret r H) .fail | none=>.fail) hX hO hm (λa r H hr=>by
  split at hr
  ·rename_i r' H' _ he
   cases hn:(B8 a).isEmpty with
   | true=>
    rw [hn] at hr
    simp only [cond_true,G1,Z9,Option.some.injEq,Prod.mk.injEq] at hr
    grind
   | false=>rw [hn] at hr;cases hr
  ·cases hr)
 refine (h0 args ret' H0 (by dsimp only;rw [hev];dsimp only;rw [hna];rfl) C hP hGe Γ w Vs hnm hH hG hc).mono ?_
 rintro V w' ⟨Γ1,Φ1,hs,hH1,hv,hvn,hi1,hd1⟩
 let Γ2:Ctx:={ Γ1.all with nm:=λ_=>none }
 have hlt:∀ g,Γ2.St g->g<w'.heap.size:=λg hg=>by
  rcases hg with hg | ⟨b,hb⟩
  ·exact hH1.stlt g hg
  ·exact (hH1.lt b g hb).2.1
 refine ⟨Γ2,Φ1,⟨hs.os,hs.tape,hs.output,hs.size,λg hg=>.inl (hs.sub g hg),λg hg=>?_,λb g h=>by simp [Γ2] at h,hs.foot,hs.frame,hs.yv,Nat.le_refl _,λb hb=>by simp at hb⟩,
  Ea (λ_=>rfl) hlt,?_,by rw [hnr];simp,hi1,λb g h=>by simp [Γ2] at h⟩
 ·rcases hg with hg | ⟨b,hb⟩
  ·exact hs.stnew g hg
  ·rcases hs.own b g hb with ⟨h',_⟩ | h'
   ·simp at h'
   ·exact .inr h'
 ·exact VP.mono (Γ:=Γ1.all) (Γ':=Γ2) (w:=w') (w':=w') (sh:=A2 H0) (ok:=λ_=>False) ⟨λ_ _=>rfl,λ_ h=>h,λ_ h=>h.elim,λ_ h=>h.elim,λ_ _ h=>h.elim,rfl⟩ (hf hH1 hv) (by rw [hnr];simp)
theorem U7 (szs:List Nat) {C₀:Cfg} {g:Nat} {pf:List PV->Tr} (hX:XOK C₀) (hO:Bl C₀) (hm:C₀.P.follows .mixedOrders=true)
  (h:∀ args ret Hc,G1 (pf args)=some (ret,Hc)->B8 args=[]/\Hc=[]/\ret.nms=[]/\∃ d ret' H0,evC C₀ d Unit noY g args [] ()=some (ret',H0,())/\ret'.stab szs H0=ret):B4 C₀.P C₀.G g pf:=
 Zi (λH v=>v.stab szs H) (λhH _ _ h=>h.stab szs hH) hX hO hm h
def Tr.Good (szs:List Nat) (args:List PV) (e:Option (PV × List Blk × Unit)):Tr->Prop
 | .ret v H=>B8 args=[]/\H=[]/\v.nms=[]/\∃ r H0,e=some (r,H0,())/\r.stab szs H0=v
 | .need c t=>c=true->Good szs args e t
 | .split c a b=>(c=true->Good szs args e a)/\(c=false->Good szs args e b)
 | .fail=>True
theorem Tr.Good.res {szs:List Nat} {args:List PV} {e:Option (PV × List Blk × Unit)} {ret:PV} {Hc:List Blk}:∀ {t:Tr},t.Good szs args e->G1 t=some (ret,Hc)->B8 args=[]/\Hc=[]/\ret.nms=[]/\∃ r H0,e=some (r,H0,())/\r.stab szs H0=ret
 | .ret v H,h,hr=>by
  obtain ⟨rfl,rfl⟩:=G7 hr
  exact h
 | .need c t,h,hr=>by
  obtain ⟨h0,hr⟩:=C0 hr
  exact res (h h0) hr
 | .split c a b,h,hr=>by
  rcases Px hr with ⟨h0,hr⟩ | ⟨h0,hr⟩
  ·exact res (h.1 h0) hr
  ·exact res (h.2 h0) hr
theorem xf (szs:List Nat) (C₀:Cfg) {g:Nat} (pf:List PV->Tr) {ss:List (List Nat)} {l:List (Nat × (List PV->Tr))} {lo:List Nat} (hl:C₀.X=IA l) (hx:K3 C₀.P C₀.G l) (ho:C₀.okf=okL lo) (hb:RR C₀ lo=true) (hm:C₀.P.follows .mixedOrders=true)
  (h:∀ args,(pf args).Good szs args (evC C₀ 1 Unit noY g args [] ())) (h2:C₀.Y=Gl []:=by rfl) (h3:C₀.S=Gl []:=by rfl) (h4:C₀.Z=Gl []:=by rfl):B4 C₀.P C₀.G g (λargs=>pf (D8 ss args)):=
 B4.fix ss (U7 szs (K3.ok hl hx h2 h3 h4) (F5 ho hb) hm λargs ret Hc hr=>by
  obtain ⟨q1,q2,q3,r,H0,q4,q5⟩:=(h args).res hr
  exact ⟨q1,q2,q3,1,r,H0,q4,q5⟩)
end
section
open Go
def QG (n:Nat) (ret:PV) (H:List Blk):Bool:=ret.nms.all (Nat.blt · n)&&H.all λb=>b.nms.all (Nat.blt · n)
theorem X7.head {C:Cfg} {σ:Type} {I:σ->(Nat->Prop)->(Nat->Prop)->World->Prop} {Γ:Ctx} {H Hc T:List Blk} {w w':World} {Φ:Nat->Prop} {s':σ} {ret:PV} {V:Value}
  (h:X7 C I Γ H w Φ ret (Hc++T) s' V w') (hl:H.length<=Hc.length) (hok:QG Hc.length ret Hc=true):X7 C I Γ H w Φ ret Hc s' V w':=by
 obtain ⟨Γ1,Φ1,hs,hH1,hv,hvn,hi1,hd1⟩:=h
 simp only [QG,Bool.and_eq_true,List.all_eq_true,Nat.blt_eq] at hok
 let Γ2:Ctx:={ Γ1 with nm:=λb=>if b<Hc.length then Γ1.nm b else none }
 have hnm:∀ b g,Γ2.nm b=some g->b<Hc.length/\Γ1.nm b=some g:=λb g h=>by grind
 have get:∀ b (h:b<Hc.length) (h':b<(Hc++T).length),(Hc++T)[b]=Hc[b]:=λb h h'=>List.getElem_append_left h
 have shp:∀ b,b<Hc.length->A2 Hc b=A2 (Hc++T) b:=λb hb=>by
  simp only [A2]
  grind
 have M:T7 Γ1 (A2 (Hc++T)) w' Γ2 (A2 Hc) w' (· < Hc.length):=⟨λ_ _=>rfl,λ_ h=>h,λb hb=>by simp only [Γ2];rw [if_pos hb],λb hb=>shp b hb,λ_ _ _ _=>rfl,rfl⟩
 refine ⟨Γ2,Φ1,⟨hs.os,hs.tape,hs.output,hs.size,hs.sub,hs.stnew,λb g h=>hs.own b g (hnm b g h).2,hs.foot,hs.frame,hs.yv,hl,λb hb hf=>?_⟩,
  ⟨λb b' g h1 h2=>hH1.inj b b' g (hnm b g h1).2 (hnm b' g h2).2,λb g h=>by have:=hH1.lt b g (hnm b g h).2;exact ⟨(hnm b g h).1,this.2⟩,hH1.stlt,λb hb c hc=>hok.2 _ (List.getElem_mem hb) c hc,λb hb=>?_⟩,
  hv.mono M (λb hb=>hok.1 b hb),λc hc=>hok.1 c hc,hi1,λb g h=>hd1 b g (hnm b g h).2⟩
 ·obtain ⟨m1,m2,m3⟩:=hs.keep b hb hf
  have hb2:b<Hc.length:=Nat.lt_of_lt_of_le hb hl
  exact ⟨by simp only [Γ2];rw [if_pos hb2];exact m1,by rw [shp b hb2];exact m2,m3⟩
 ·have hb':b<(Hc++T).length:=by rw [List.length_append];omega
  have:=hH1.blk b hb'
  rw [get b hb hb'] at this
  exact this.mono M (M.nm b hb) (λ_ _=>rfl) (λc hc=>hok.2 _ (List.getElem_mem hb) c hc)
theorem T5 {C₀:Cfg} {g:Nat} {pf:List PV->List Blk->Tr} (hX:XOK C₀) (hO:Bl C₀) (hm:C₀.P.follows .mixedOrders=true)
  (h:∀ args H ret Hc,G1 (pf args H)=some (ret,Hc)->Nat.ble H.length Hc.length=true/\QG Hc.length ret Hc=true/\∀ (σ:Type) (yh:Yh σ) (s:σ),∃ d H0,evC C₀ d σ yh g args H s=some (ret,H0,s)/\H0.take Hc.length=Hc):Lj C₀.P C₀.G g pf:=by
 intro C hP hG σ I yh yv hI hy args H s ret Hc hpf Γ Φ w Vs hyv hH hg hi hd hc hn
 obtain ⟨hl,hok,h1⟩:=h args H ret Hc hpf
 obtain ⟨d,H0,hev,ht⟩:=h1 σ yh s
 rw [<-List.take_append_drop Hc.length H0,ht] at hev
 refine (Fw hX hO hm d σ I yh yv hI hy g args H s ret (Hc++H0.drop Hc.length) s hev Γ Φ w Vs hyv hH (hg.congr hG.symm) hi hd hc hn).mono ?_
 rintro V w' hr
 obtain ⟨Γ1,Φ1,hs,k1,k2,k3,k4,k5⟩:=hr.head (Nat.le_of_ble_eq_true hl) hok
 exact ⟨Γ1,Φ1,hs.congr hP.symm,k1,k2,k3,k4,k5⟩
def PV.snapQ (szc:List Nat) (H:List Blk):PV->PV
 | .ptr b 0 0=>match H[b]? with
  | some (.box cells)=>match Kd (Ji szc (I9 H cells)) with
   | some vs=>.s (.sp [vs] 0 0)
   | none=>.bad
  | _=>.bad
 | v=>v.snap H
def PV.stabQ (szs szc:List Nat) (H:List Blk):PV->PV
 | .tup l=>.tup (Ji szs (l.map (PV.snapQ szc H)))
 | v=>Ro (szs.headD 0) (v.snapQ szc H)
theorem VP.snapQ {Γ:Ctx} {H:List Blk} {w:World} (szc:List Nat) (hH:HR Γ H w) {v:PV} {V:Value} (h:VP Γ (A2 H) w v V):VP Γ.all (A2 H) w (v.snapQ szc H) V:=by
 unfold PV.snapQ
 split
 ·rename_i b
  split
  ·rename_i cells hb
   split
   ·rename_i vs hvs
    obtain ⟨g,cur,e,hg,hh,hcur,hcells,_⟩:=hH.box' hb
    have hV:V = .pointer (some ⟨g,0,none⟩):=by
     cases h with
     | ptrA _ _ _ g' v e sz n h' hg'=>simp [A2,hb,Blk.shp] at h'
     | ptrB _ _ g' h' hg'=>rw [hg] at hg';cases hg';rfl
    subst hV
    have hl:(Ji szc (I9 H cells)).length=cells.length:=by rw [Fy,U6,List.length_map]
    obtain ⟨f1,f2⟩:=T4 (Γ:=Γ.all) (w:=w) (sh:=A2 H) (As:=cur.toList) hvs (by rw [hl];simpa using hcur.symm) (λj hj=>by
     obtain ⟨U,e1,k⟩:=hcells j (by omega)
     have hj':j<(I9 H cells).length:=by rw [U6,List.length_map];omega
     obtain ⟨n,en⟩:=Jj szc (I9 H cells) j hj' hj
     refine ⟨U,by simpa using e1,?_⟩
     rw [en]
     have e2:(I9 H cells)[j]=(cells[j]'(by omega)).snap H:=by simp only [U6,List.getElem_map]
     rw [e2]
     exact Ha (k.snap hH))
    refine .s _ _ ?_
    have hvl:vs.length=cells.length:=by rw [f1];simpa using hcur
    have:=VS.sp (St:=Γ.all.St) (w:=w) [vs] 0 0 g 0 vs.length (λ_ j=>cur.getD j undef) (.inr ⟨b,hg⟩) (λi hi=>by
      have:i=0:=by simpa using hi
      subst this;rfl) (λi hi j hj=>?_) (λi hi j hj=>?_)
    ·simpa using this
    ·have:i=0:=by simpa using hi
     subst this
     have hj':j<cur.size:=by rw [hcur,<-hvl];exact hj
     simp [World.cell?,hh,hj']
    ·have:i=0:=by simpa using hi
     subst this
     have hj1:j<vs.length:=hj
     obtain ⟨U,e1,k⟩:=f2 j hj1
     have e3:cur.getD j undef=U:=by rw [Array.getD_eq_getD_getElem?,<-Array.getElem?_toList,e1];rfl
     rw [e3]
     exact k
   ·exact .bad _
  ·exact .bad _
 ·exact h.snap hH
theorem VP.stabQ {Γ:Ctx} {H:List Blk} {w:World} (szs szc:List Nat) (hH:HR Γ H w) {v:PV} {V:Value} (h:VP Γ (A2 H) w v V):VP Γ.all (A2 H) w (v.stabQ szs szc H) V:=by
 unfold PV.stabQ
 split
 ·rename_i l
  obtain ⟨A,rfl,hA,hc⟩:=h.inv_tup
  have hl:(Ji szs (l.map (PV.snapQ szc H))).length=l.length:=by rw [Fy,List.length_map]
  refine VP.mk_tup (by rw [hl];exact hA) λj hj=>?_
  obtain ⟨U,e,k⟩:=hc j (by omega)
  refine ⟨U,e,?_⟩
  obtain ⟨n,en⟩:=Jj szs (l.map (PV.snapQ szc H)) j (by rw [List.length_map];omega) hj
  rw [en,List.getElem_map]
  exact Ha (k.snapQ szc hH)
 ·exact Ha (h.snapQ szc hH)
theorem Zj (szs szc:List Nat) {C₀:Cfg} {g:Nat} {pf:List PV->Tr} (hX:XOK C₀) (hO:Bl C₀) (hm:C₀.P.follows .mixedOrders=true)
  (h:∀ args ret Hc,G1 (pf args)=some (ret,Hc)->B8 args=[]/\Hc=[]/\ret.nms=[]/\∃ d ret' H0,evC C₀ d Unit noY g args [] ()=some (ret',H0,())/\ret'.stabQ szs szc H0=ret):B4 C₀.P C₀.G g pf:=
 Zi (λH v=>v.stabQ szs szc H) (λhH _ _ h=>h.stabQ szs szc hH) hX hO hm h
def Vy (P:Program):List (Nat × (SV->List (List SV)->Bool × List (List SV)))->Prop
 | []=>True
 | (g,pf)::r=>IR P g pf/\Vy P r
theorem Vy.mem {P:Program}:∀ {l:List (Nat × (SV->List (List SV)->Bool × List (List SV)))} {g:Nat} {pf:SV->List (List SV)->Bool × List (List SV)},Vy P l->(g,pf)∈l->IR P g pf
 | [],_,_,_,hm=>by simp at hm
 | (n,q)::r,g,pf,h,hm=>by
  rcases List.mem_cons.1 hm with e | hm
  ·cases e;exact h.1
  ·exact Vy.mem h.2 hm
theorem Ay0 {C:Cfg} {lx:List (Nat × (List PV->Tr))} {ly:List (Nat × (List PV->List Blk->Tr))} {ls:List (Nat × (List PV->List Blk->Option (Bool × List (List PV))))} {lz:List (Nat × (SV->List (List SV)->Bool × List (List SV)))} (h1:C.X=IA lx) (h2:C.Y=Gl ly) (h3:C.S=Gl ls) (h4:C.Z=Gl lz) (x:K3 C.P C.G lx) (y:Eu C.P C.G ly) (s:Et C.P C.G ls) (z:Vy C.P lz):XOK C:=
 ⟨K3.x1 h1 x,Eu.ok h2 y,Et.ok h3 s,λg pf h=>by rw [h4] at h;exact z.mem (Pv h)⟩
def Cv:List Int:=(List.range 32).map λi=>((if i % 2=0 then Lib.accLo (i / 2) else Lib.accHi (i / 2):Nat):Int)
def GX:GT:=⟨λg=>cond (Nat.beq g 1) (some (.u8,Lib.firstTab)) (cond (Nat.beq g 2) (some (.u8,Cv)) (cond (Nat.beq g 3) (some (.u64,Lib.pow10Tab)) (cond (Nat.beq g 5) (some (.u8,Lib.deBruijn64tab.map λn:Nat=>(n:Int))) none))),λg=>Nat.beq g 0⟩
def Bo3:List (Nat × Nat × Nat × Nat)->Nat->Nat->Nat × Nat
 | [],_,_=>(0,0)
 | (t,j,e,k)::r,t',j'=>cond (Nat.beq t t'&&Nat.beq j j') (e,k) (Bo3 r t' j')
def Be2:List (Nat × Nat)->Nat->Option Nat
 | [],_=>none
 | (a,b)::r,i=>cond (Nat.beq a i) (some b) (Be2 r i)
noncomputable def C6 (lf:Nat) (okf:List Nat) (keep:Nat->Option (List Nat)) (X:List (Nat × (List PV->Tr))) (keepR:Nat->Option (List Nat):=λ_=>none) (xp:List Nat:=[]) (keepE:Nat->Option (List Nat):=λ_=>none) (keepT:Option (List Nat):=none) (Y:List (Nat × (List PV->List Blk->Tr)):=[]) (S:List (Nat × (List PV->List Blk->Option (Bool × List (List PV)))):=[]) (lend:List Nat:=[]) (nt:List (Nat × Nat × Nat × Nat):=[]) (rw:List (Nat × Nat):=[]) (Z:List (Nat × (SV->List (List SV)->Bool × List (List SV))):=[]) (fr:List (Nat × List Nat × List Nat):=[]):Cfg:=
 { P:=Tryz.prog,G:=GX,X:=IA X,lend:=okL lend,okf:=okL okf,lf:=lf,keep:=keep,keepR:=keepR,xp:=okL xp,keepE:=keepE,keepT:=keepT,Y:=Gl Y,S:=Gl S,nilT:=Bo3 nt,rowR:=Be2 rw,Z:=Gl Z,farR:=A5 fr }
theorem follows:Tryz.prog.follows .mixedOrders=true:=by kernel_rfl
theorem Ae5 {n:Nat}:D9 n=true↔n<=68719476736:=by simp [D9]
theorem D3 {n:Nat} (h:n<=68719476736):D9 n=true:=Ae5.2 h
theorem B9 {a b:Int} (h:a<b):ltI a b=true:=by rw [Y5];simpa using h
theorem C9 {a b:Int} (h:b<=a):ltI a b=false:=by rw [Y5];simpa using h
theorem XK {a b:Int}:ltI a b=true↔a<b:=by rw [Y5];simp
theorem E3 {n:Int} (h0:-9223372036854775808<=n) (h1:n<9223372036854775808):A1 n=n:=Ba2 n h0 h1
theorem YI {n:Int} (h0:0<=n) (h1:n<18446744073709551616):Av9 n=n:=by
 obtain ⟨m,rfl⟩:=Int.eq_ofNat_of_zero_le h0
 unfold Av9;rw [Ba5,Nat.mod_eq_of_lt (by omega)]
theorem Ba7 {n:Int} (h0:0<=n) (h1:n<4294967296):Bp2 n=n:=by
 obtain ⟨m,rfl⟩:=Int.eq_ofNat_of_zero_le h0
 unfold Bp2;rw [Ba4,Nat.mod_eq_of_lt (by omega)]
theorem Ba6 {n:Int} (h0:0<=n) (h1:n<65536):Av8 n=n:=by
 obtain ⟨m,rfl⟩:=Int.eq_ofNat_of_zero_le h0
 unfold Av8;rw [Ba3,Nat.mod_eq_of_lt (by omega)]
theorem Aw0 {n:Int} (h0:0<=n) (h1:n<256):wu8 n=n:=by
 obtain ⟨m,rfl⟩:=Int.eq_ofNat_of_zero_le h0
 unfold wu8;rw [Bj6,Nat.mod_eq_of_lt (by omega)]
theorem A9 {a b:Int} (h:a<b:=by omega):ltI a b=true:=B9 h
theorem A8 {a b:Int} (h:b<=a:=by omega):ltI a b=false:=C9 h
theorem A4 {n:Int} (h:-9223372036854775808<=n:=by omega) (g:n<9223372036854775808:=by omega):A1 n=n:=E3 h g
theorem R8 {n:Int} (h:0<=n:=by omega) (g:n<256:=by omega):wu8 n=n:=Aw0 h g
theorem Bn {α:Sort _} {c:Prop} [Decidable c] {a b:α} (h:c:=by omega):(if c then a else b)=a:=if_pos h
theorem H7 {α:Sort _} {c:Prop} [Decidable c] {a b:α} (h:¬c:=by omega):(if c then a else b)=b:=if_neg h
theorem A94 (k:IntKind) (a m:Nat) (h:m<=k.bits):Au2 k (a:Int) (m:Int)=((a / 2 ^ m:Nat):Int):=by
 unfold Au2
 rw [Int.toNat_natCast,Nat.min_eq_left h]
 have:(2:Int) ^ m=((2 ^ m:Nat):Int):=by simp
 rw [this,An9]
theorem R6 {l h:Int} {n:Nat} (h0:0<=l) (h1:l<=h) (h2:h<=n):N7 l h n=true:=by simp [N7,h0,h1,h2]
theorem I6 {i:Int} {n:Nat} (h0:0<=i) (h1:i<n):inR i n=true:=by simp [inR,h0,h1]
theorem R5 {l h:Int} {n:Nat} (h0:0<=l:=by omega) (h1:l<=h:=by omega) (h2:h<=n:=by omega):N7 l h n=true:=R6 h0 h1 h2
theorem J3 {i:Int} {n:Nat} (h0:0<=i:=by omega) (h1:i<n:=by omega):inR i n=true:=I6 h0 h1
end
section
open Go Go.Proofs
def Ut (r:Option (PV × List Blk × Unit)):Bool:=match r with
 | some (.s (.bool true),_,_)=>true
 | _=>false
theorem HH {r:Option (PV × List Blk × Unit)} (h:Ut r=true):∃ H,r=some (.s (.bool true),H,()):=by
 unfold Ut at h
 split at h
 ·exact ⟨_,rfl⟩
 ·cases h
theorem VM {C₀:Cfg} {g d:Nat} (hX:XOK C₀) (hO:Bl C₀) (hm:C₀.P.follows .mixedOrders=true) (h:Ut (evC C₀ d Unit noY g [] [] ())=true):B4 C₀.P C₀.G g (λargs=>match args with | []=>.ret (.s (.bool true)) [] | _=>.fail):=
 ID hX hO hm λargs ret Hc hr=>by
  cases args with
  | nil=>
   obtain ⟨rfl,rfl⟩:=G7 hr
   obtain ⟨H,e⟩:=HH h
   exact ⟨rfl,rfl,rfl,d,_,H,e,rfl⟩
  | cons a r=>cases hr
theorem Ay9 {P:Program} {t:Nat} {v:PV} {ty:Ty} (h:AC P t v) (e:Gn P 20 t=some [ty]) (ha:Sq P t=false):∃ x,v = .s x/\ty.of x:=by
 obtain ⟨tys,l,h1,h2,h3⟩:=h
 rw [e] at h1
 simp only [Option.some.injEq] at h1
 subst h1
 rcases h3 with ⟨h3,_⟩ | ⟨_,x,rfl,rfl⟩
 ·rw [ha] at h3;cases h3
 ·simp only [Ty.ofL] at h2
  obtain ⟨v,q,h4,h5,rfl⟩:=h2
  simp only [List.cons.injEq,and_true] at h4
  subst h4
  exact ⟨_,rfl,h5⟩
end
section
open Go
def H6 (l:List By):LL:=l.map λs=>[SV.str s]
def Br4 (l:List Nat):LL:=l.map λn=>[SV.int .u16 (Int.ofNat n)]
def G6 (c:UInt8):By->By->List By
 | acc,[]=>[acc]
 | acc,b::r=>if b=c then acc::G6 c [] r else G6 c (acc++[b]) r
def pcs (c:UInt8) (s:By):List By:=G6 c [] s
theorem Er (c:UInt8):∀ (s acc:By),(G6 c acc s).length=s.count c+1
 | [],acc=>rfl
 | b::r,acc=>by
  simp only [G6,List.count_cons]
  by_cases h:b=c
  ·simp [h,Er c r]
  ·simp [h,Er c r]
theorem Cj (c:UInt8):∀ (s acc:By),c∉s->G6 c acc s=[acc++s]
 | [],acc,_=>by simp [G6]
 | b::r,acc,h=>by
  simp only [List.mem_cons,not_or] at h
  simp only [G6]
  rw [if_neg (λe=>h.1 e.symm),Cj c r _ h.2]
  simp
theorem Tw (c:UInt8):∀ (p acc s:By),c∉p->G6 c acc (p++c::s)=(acc++p)::G6 c [] s
 | [],acc,s,_=>by simp [G6]
 | b::r,acc,s,h=>by
  simp only [List.mem_cons,not_or] at h
  simp only [List.cons_append,G6]
  rw [if_neg (λe=>h.1 e.symm),Tw c r _ s h.2]
  simp
theorem UU (c:UInt8) (s acc:By):G6 c acc s≠[]:=by
 intro h
 have:=Er c s acc
 rw [h] at this
 simp at this
theorem Kb (c:UInt8):∀ (s acc:By),c∉acc->∀ x∈G6 c acc s,c∉x/\x.length<=acc.length+s.length
 | [],acc,h,x,hx=>by
  simp only [G6,List.mem_singleton] at hx
  subst hx
  exact ⟨h,by simp⟩
 | b::r,acc,h,x,hx=>by
  simp only [G6] at hx
  split at hx
  ·rcases List.mem_cons.1 hx with rfl | hx
   ·exact ⟨h,by simp⟩
   ·have:=Kb c r [] (by simp) x hx
    refine ⟨this.1,?_⟩
    have:=this.2
    simp at this ⊢
    omega
  ·rename_i hb
   have:=Kb c r (acc++[b]) (by simp [h,Ne.symm hb]) x hx
   refine ⟨this.1,?_⟩
   have:=this.2
   simp at this ⊢
   omega
def Fd (b:UInt8):UInt8:=if 65<=b/\b<=90 then b+32 else b
def E8 (s:By):By:=s.map Fd
def dig (b:UInt8):Nat:=
 if 48<=b.toNat/\b.toNat<=57 then b.toNat-48 else if 97<=b.toNat/\b.toNat<=102 then b.toNat-87 else if 65<=b.toNat/\b.toNat<=70 then b.toNat-55 else 99
def Fh:Nat:=1099511627776
def E4 (base:Nat):Nat->By->Option Nat
 | n,[]=>some n
 | n,b::r=>if dig b<base then E4 base (min (n*base+dig b) Fh) r else none
def Y3 (s:By):Bool:=s.getD 0 0==48&&(s.getD 1 0==120 || s.getD 1 0==88)
def Z7 (s:By):Option Nat:=
 if s=[] then none else if Y3 s then E4 16 0 (s.drop 2) else if 1<s.length/\s.getD 0 0=48 then E4 8 0 (s.drop 1) else E4 10 0 s
def E2 (s:By):List By:=if 1<(pcs 46 s).length/\(pcs 46 s).getLastD []=[] then (pcs 46 s).dropLast else pcs 46 s
def Bp (s:By):By:=(E2 s).getLastD []
def O0 (s:By):Bool:=if Y3 (Bp s) then (E4 16 0 ((Bp s).drop 2)).isSome else !(Bp s).isEmpty&&(E4 10 0 (Bp s)).isSome
def Bi3 (free:Nat):Nat->List By->Option Nat
 | _,[]=>none
 | v,p::r=>match Z7 p with
  | none=>none
  | some n=>match r with
   | []=>if n<2 ^ free then some (v*2 ^ free+n) else none
   | r=>if n<=255 then Bi3 free (v*256+n) r else none
def oct (s:By):Option Nat:=match E4 10 0 s with
 | some n=>if n<=255/\Lib.decDigits n=s then some n else none
 | none=>none
def Bo4:Nat->List By->Option Nat
 | v,[]=>some v
 | v,p::r=>match oct p with
  | some n=>Bo4 (v*256+n) r
  | none=>none
def v4B (s:By):Option Nat:=if (pcs 46 s).length=4 then Bo4 0 (pcs 46 s) else none
def Bd9:Nat->By->Option Nat
 | n,[]=>some n
 | n,b::r=>if dig b<16 then Bd9 (n*16+dig b) r else none
def grp (s:By):Option Nat:=if s=[]\/4<s.length then none else Bd9 0 s
def Bn5 (last:Bool):List By->Option (List Nat)
 | []=>some []
 | x::r=>match grp x with
  | some v=>(Bn5 last r).map (v::·)
  | none=>match v4B x with
   | some v=>if last=true/\r=[] then some [v / 65536,v % 65536] else none
   | none=>none
def Be0 (s:By) (last:Bool):Option (List Nat):=if s=[] then some [] else Bn5 last (pcs 58 s)
def Bn6 (n:Nat):UInt8:=if n<10 then UInt8.ofNat (48+n) else UInt8.ofNat (87+n)
def Bg6 (v:Nat):By:=if h:v<16 then [Bn6 v] else Bg6 (v / 16)++[Bn6 (v % 16)]
 termination_by v
 decreasing_by omega
def Bn9 (l:List Nat):By:=Lib.join (l.map Bg6) [58]
def P4 (n:Nat):Bool:=Nat.ble n 1114111&&(Nat.blt n 55296 || Nat.blt 57343 n)
def Qu (d k:Nat):Nat:=if h:455<d then Qu (d / 35) (k+36) else k+36*d / (d+38)
 termination_by d
 decreasing_by omega
def M5 (delta count:Nat) (first:Bool):Nat:=
 let d:=if first then delta / 700 else delta / 2
 Qu (d+d / count) 0
def thr (k bias:Nat):Nat:=max 1 (min 26 (36*(k+1)-bias))
theorem P9 (k bias:Nat):1<=thr k bias/\thr k bias<=26:=by unfold thr;omega
def U4 (d:Nat):UInt8:=if d<26 then UInt8.ofNat (97+d) else UInt8.ofNat (22+d)
def Ip (b:UInt8):Option Nat:=
 if 97<=b.toNat/\b.toNat<=122 then some (b.toNat-97) else if 65<=b.toNat/\b.toNat<=90 then some (b.toNat-65) else if 48<=b.toNat/\b.toNat<=57 then some (b.toNat-22) else none
def L9 (q k bias:Nat):By:=
 if h:q<thr k bias then [U4 q] else U4 (thr k bias+(q-thr k bias) % (36-thr k bias))::L9 ((q-thr k bias) / (36-thr k bias)) (k+1) bias
 termination_by q
 decreasing_by
  have:=P9 k bias
  exact Nat.lt_of_le_of_lt (Nat.div_le_self _ _) (by omega)
structure CT where
 delta:Nat
 bias:Nat
 done:Nat
 out:By
def F4 (n basic:Nat):List Nat->CT->CT
 | [],s=>s
 | p::r,s=>if p<n then F4 n basic r { s with delta:=s.delta+1 }
  else if p=n then F4 n basic r { delta:=0,bias:=M5 s.delta (s.done+1) (s.done==basic),done:=s.done+1,out:=s.out++L9 s.delta 0 s.bias }
  else F4 n basic r s
def F3 (n:Nat):List Nat->Nat->Nat
 | [],m=>m
 | p::r,m=>F3 n r (if n<=p then min m p else m)
def N1 (pts:List Nat) (basic:Nat):Nat->Nat->CT->CT
 | 0,_,s=>s
 | f+1,n,s=>if s.done<pts.length then
   let m:=F3 n pts 1114112
   let s':=F4 m basic pts { s with delta:=s.delta+(m-n)*(s.done+1) }
   N1 pts basic f (m+1) { s' with delta:=s'.delta+1 }
  else s
def F8 (pts:List Nat):By:=(pts.filter (· < 128)).map UInt8.ofNat
def Bw (pts:List Nat):By × Nat:=
 if 256<pts.length then ([],3) else if !(pts.all P4) then ([],2)
 else ((N1 pts (F8 pts).length 256 128 { delta:=0,bias:=72,done:=(F8 pts).length,out:=if (F8 pts).isEmpty then [] else F8 pts++[45] }).out,0)
def C5 (bias:Nat):By->Nat->Nat->Nat->Nat × By × Nat
 | [],i,w,k=>(0,[],4)
 | b::r,i,w,k=>match Ip b with
  | none=>(0,[],4)
  | some x=>if Fh<i+x*w then (0,[],19) else if x<thr k bias then (i+x*w,r,0)
   else if Fh<w*(36-thr k bias) then (0,[],19) else C5 bias r (i+x*w) (w*(36-thr k bias)) (k+1)
theorem Km (bias:Nat):∀ (s:By) (i w k:Nat),(C5 bias s i w k).2.2=0->(C5 bias s i w k).2.1.length<s.length
 | [],i,w,k,h=>by simp [C5] at h
 | b::r,i,w,k,h=>by
  unfold C5 at h ⊢
  cases hv:Ip b with
  | none=>simp [hv] at h
  | some x=>
   simp only [hv] at h ⊢
   split at h
   ·simp at h
   ·rename_i h1
    rw [if_neg h1]
    split at h
    ·rename_i h2
     rw [if_pos h2]
     simp
    ·rename_i h2
     rw [if_neg h2]
     split at h
     ·simp at h
     ·rename_i h3
      rw [if_neg h3]
      have:=Km bias r _ _ _ h
      simp only [List.length_cons]
      omega
def P3 (l:List Nat) (i n:Nat):List Nat:=l.take i++n::l.drop i
def F2 (s:By) (pts:List Nat) (n i bias:Nat) (first:Bool):List Nat × Nat:=
 if hs:s=[] then (pts,0) else
  let q:=C5 bias s i 1 0
  if hq:q.2.2=0 then
   let count:=pts.length+1
   let n':=n+q.1 / count
   if P4 n' then (if 256<count then ([],3) else F2 q.2.1 (P3 pts (q.1 % count) n') n' (q.1 % count+1) (M5 (q.1-i) count first) false)
   else ([],2)
  else ([],q.2.2)
 termination_by s.length
 decreasing_by exact Km bias s i 1 0 hq
def E7:By->Nat
 | []=>0
 | b::r=>if 45∈r then E7 r+1 else 0
def J8 (s:By):List Nat × Nat:=
 if 1024<s.length then ([],3) else if s.any (λb=>Nat.ble 128 b.toNat) then ([],4)
 else if 256<E7 s then ([],3)
 else F2 (if E7 s=0 then s else s.drop (E7 s+1)) ((s.take (E7 s)).map (·.toNat)) 128 0 72 true
def T6:Nat->By->Option (List Nat)
 | 0,_=>some []
 | f+1,l=>if l=[] then some [] else if (Lib.decodeL l).1=65533/\(Lib.decodeL l).2=1 then none else (T6 f (l.drop (Lib.decodeL l).2)).map ((Lib.decodeL l).1::·)
def Dl (s:By):Option (List Nat):=T6 s.length s
def Ap (s:By):Bool:=
 (J8 s).2==0 && !((J8 s).1.any λp=>Nat.ble 65 p&&Nat.ble p 90)&&((J8 s).1.any λp=>Nat.ble 128 p)&&(Bw (J8 s).1).2==0&&(Bw (J8 s).1).1==s
def Q7 (b:UInt8):Bool:=(Nat.ble 97 b.toNat&&Nat.ble b.toNat 122) || (Nat.ble 48 b.toNat&&Nat.ble b.toNat 57) || b==45 || b==95
def xnB:By:=[120,110,45,45]
def L1 (s:By):Bool:=
 !s.isEmpty&&Nat.ble s.length 63&&s.getD 0 0 != 45&&s.getD (s.length-1) 0 != 45&&s.all Q7&&(!(xnB.isPrefixOf s) || Ap (s.drop 4))
def Ke (s:By):By × Nat:=match Dl s with
 | none=>([],4)
 | some p=>if 256<p.length then ([],3)
  else if p.length<s.length then (match Dl (E8 s) with
   | none=>([],14)
   | some q=>if (Bw q).2=0 then (if L1 (xnB++(Bw q).1) then (xnB++(Bw q).1,0) else ([],14)) else ([],14))
  else if L1 (E8 s) then (E8 s,0) else ([],14)
def Fe:By->Option By
 | []=>some []
 | b::r=>if b=37 then (match r with
   | x::y::r'=>if dig x<16/\dig y<16 then (Fe r').map (UInt8.ofNat (16*dig x+dig y)::·) else none
   | _=>none)
  else (Fe r).map (b::·)
def J0 (s:By):Bool:=Nat.ble s.length 253 && !(O0 s)&&(pcs 46 s).all L1
def Kc:List By->List By
 | []=>[]
 | [_]=>[]
 | _::r=>Lib.join r [46]::Kc r
def HX (s:By):List By:=if J0 s then Kc (pcs 46 s) else []
def Az6 (a b:By):Bool:=J0 a&&J0 b&&(a==b || (46::a).isSuffixOf b)
def A3 (n:Nat):Bool:=decide (n<=1000000000)
theorem CG {n:Nat}:A3 n=true↔n<=1000000000:=by simp [A3]
def isS:List SV->Bool | [.str _]=>true | _=>false
def elS (el:List SV):By:=(el.getD 0 .nilp).gS
def Ju (o:Option Nat):Nat:=o.getD 0
def u8n (c:Int):UInt8:=UInt8.ofNat c.toNat
def Ag5 (s p:By):By:=if p.isSuffixOf s then s.take (s.length-p.length) else s
def Wr (s p:By):By:=if p.isPrefixOf s then s.drop p.length else s
def ltN (v:Int) (n:Nat):Bool:=match v with
 | .ofNat m=>Nat.ble (m+1) n
 | .negSucc _=>false
theorem M0 {v:Int} {n:Nat}:ltN v n=true↔0<=v/\v<(n:Int):=by
 cases v with
 | ofNat m=>
  simp only [ltN,Nat.ble_eq,Int.ofNat_eq_natCast]
  omega
 | negSucc m=>
  refine ⟨λh=>(by cases h),λh=>?_⟩
  have:=Int.negSucc_lt_zero m
  omega
def Bd1 (b:Nat):List PV->Tr
 | [.s (.int .i64 n)]=>.need (ltN n b) (.ret (.s (.str (Lib.decDigits (Int.toNat n)))) [])
 | _=>.fail
def gvs (s:By) (last:Bool):List Nat:=(Be0 s last).getD []
def Bn8:List SV->Bool | [.int .u16 n]=>ltN n 65536 | _=>false
def elN (el:List SV):Nat:=(el.getD 0 .nilp).gI.toNat
def ptI (n:Int):Bool:=match n with | .ofNat m=>P4 m | .negSucc _=>false
def C7 (b:UInt8):Int:=match Ip b with | some n=>n | none=>-1
def I4 (k b:Int):Int:=max 1 (min 26 (k+36-b))
def Jm:List SV->Bool | [.int .i64 _]=>true | _=>false
def elI (el:List SV):Int:=(el.getD 0 .nilp).gI
def R0 (l:List Int):By × Nat:=if 256<l.length then ([],3) else if l.all ptI then Bw (l.map Int.toNat) else ([],2)
def O4 (b:Int):By->Int->Int->Int->Int × By × Int
 | [],i,w,k=>(4,[],i)
 | c::r,i,w,k=>if C7 c<0 then (4,c::r,i) else if 1099511627776<i+C7 c*w then (19,r,i+C7 c*w)
  else if C7 c<I4 k b then (0,r,i+C7 c*w) else if 1099511627776<w*(36-I4 k b) then (19,r,i+C7 c*w)
  else O4 b r (i+C7 c*w) (w*(36-I4 k b)) (k+36)
def Xv (b:Int) (s:By) (i:Int):Int:=(O4 b s i 1 0).1
def Xw (b:Int) (s:By) (i:Int):By:=(O4 b s i 1 0).2.1
def My (b:Int) (s:By) (i:Int):Int:=(O4 b s i 1 0).2.2
def Hg (l:List (List SV)) (i:Nat) (n:Int):List (List SV):=l.take i++[SV.int .i64 n]::l.drop i
structure DS where
 rest:By
 n:Int
 i:Int
 b:Int
 st:Bool
 l:List (List SV)
def D2 (s:DS):Int × DS:=
 if Xv s.b s.rest s.i=0 then
  let c:Int:=s.l.length+1
  let x:=My s.b s.rest s.i
  let d:DS:={ rest:=Xw s.b s.rest s.i,n:=s.n+Int.tdiv x c,i:=Int.tmod x c,b:=M5 (x-s.i).toNat c.toNat (!s.st),st:=true,l:=s.l }
  if ptI d.n then (if 256<c then (3,d) else (0,{ d with i:=d.i+1,l:=Hg s.l d.i.toNat d.n })) else (2,d)
 else (Xv s.b s.rest s.i,{ s with rest:=Xw s.b s.rest s.i,i:=My s.b s.rest s.i })
def G4 (c:UInt8):By->Int
 | []=>-1
 | b::r=>if G4 c r<0 then (if b=c then 0 else -1) else G4 c r+1
def Sc (l:List Nat):List (List SV):=l.map λx:Nat=>[SV.int .i64 (x:Int)]
def A73 (s:By):List Nat:=(Dl s).getD []
def Jg (b:UInt8):Int:=if dig b<16 then dig b else -1
def Bi2 (s:By):By:=(Fe s).getD []
attribute [simp] B9 C9 E3 YI Ba7 Ba6 Aw0 R6 I6 D3
attribute [simp] vl
@[simp] theorem K2 {n:Nat} (h:n<=1000000000):A3 n=true:=CG.2 h
@[simp] theorem XL {v:Int} {n:Nat} (h:0<=v) (h1:v<n):ltN v n=true:=M0.2 ⟨h,h1⟩
theorem A95 {n:Nat} (h:n<=1000000000:=by omega):A3 n=true:=K2 h
theorem M3 {v:Int} {n:Nat} (h:0<=v:=by omega) (g:v<n:=by omega):ltN v n=true:=XL h g
@[simp] theorem WR {m n:Nat} (h:m+n<4611686018427387904):Nr m n=true:=by simp [Nr,h]
abbrev rv (v:PV) (H:List Blk):Option (PV × List Blk × Unit):=some (v,H,())
theorem M7 {n:Nat} (h:A3 n=true):n<=1000000000:=CG.1 h
theorem J1 (s:By) (i:Nat) (h:i<s.length):s.drop i=s.getD i 0::s.drop (i+1):=by
 rw [List.getD_eq_getElem?_getD,List.getElem?_eq_getElem h,Option.getD_some,List.getElem_cons_drop]
theorem CL (s:By) (i:Nat) (h:i<s.length):s.take (i+1)=s.take i++[s.getD i 0]:=by
 rw [List.take_add_one,List.getD_eq_getElem?_getD,List.getElem?_eq_getElem h]
 rfl
theorem QZ (s:By) (i:Nat) (h:i<s.length):(E8 (s.take (i+1))).map D4=(E8 (s.take i)).map D4++[D4 (Fd (s.getD i 0))]:=by
 unfold E8
 rw [CL s i h,List.map_append,List.map_append]
 rfl
theorem Hk (b:UInt8):(b.toNat<65/\Fd b=b)\/(90<b.toNat/\Fd b=b)\/(65<=b.toNat/\b.toNat<=90/\((Fd b).toNat=b.toNat+32)):=by
 unfold Fd
 by_cases h1:b.toNat<65
 ·refine .inl ⟨h1,if_neg ?_⟩
  intro h
  have:=UInt8.le_iff_toNat_le.1 h.1
  simp at this
  omega
 ·by_cases h2:90<b.toNat
  ·refine .inr (.inl ⟨h2,if_neg ?_⟩)
   intro h
   have:=UInt8.le_iff_toNat_le.1 h.2
   simp at this
   omega
  ·refine .inr (.inr ⟨by omega,by omega,?_⟩)
   rw [if_pos (by constructor<;>(rw [UInt8.le_iff_toNat_le];simp;omega)),UInt8.toNat_add]
   simp
   omega
@[simp] theorem I2 (s:By) (i:Nat):bAt s (i:Int)=((s.getD i 0).toNat:Int):=by simp [bAt]
@[simp] theorem Iw (s:By):bAt s 0=((s.getD 0 0).toNat:Int):=by simp [bAt]
@[simp] theorem WI (s:By):bAt s 1=((s.getD 1 0).toNat:Int):=by simp [bAt]
theorem Nv {α:Type} (s:List α) (a b:Nat):cut s (a:Int) (b:Int)=(s.take b).drop a:=by simp [cut]
@[simp] theorem N3 {α:Type} (s:List α) (a:Int):cut s a (s.length:Int)=s.drop a.toNat:=by simp [cut]
@[simp] theorem Y0 {α:Type} (s:List α) (b:Int):cut s 0 b=s.take b.toNat:=by simp [cut]
@[simp] theorem L4 (l:List By):(H6 l).length=l.length:=by simp [H6]
@[simp] theorem Ef (l:List By) (i:Nat):gX (H6 l) i 0=l.getD i []:=by
 unfold gX gC H6
 by_cases h:i<l.length
 ·simp [List.getD_eq_getElem?_getD,List.getElem?_eq_getElem h,SV.gS]
 ·simp [List.getD_eq_getElem?_getD,List.getElem?_eq_none (show l.length<=i by omega),SV.gS]
@[simp] theorem Bd {l:List By} {i:Nat} (h:i<l.length):okE Dx (H6 l) i 0=true:=by
 unfold okE H6
 simp [List.getD_eq_getElem?_getD,List.getElem?_eq_getElem h,h,Dx,okS,SV.has]
theorem Zd (a b:List By):H6 (a++b)=H6 a++H6 b:=by simp [H6]
theorem Pz (b:UInt8):u8n (b.toNat:Int)=b:=by simp [u8n]
theorem VC (b:UInt8):inR (b.toNat:Int) 256=true:=by
 have:=b.toNat_lt
 exact J3
theorem Be5 {a b:UInt8}:((a.toNat:Int)==(b.toNat:Int))=(a==b):=by
 rw [Bool.eq_iff_iff]
 simp only [beq_iff_eq]
 constructor
 ·intro h;exact UInt8.toNat_inj.1 (by omega)
 ·intro h;rw [h]
theorem U3 (a:UInt8) (n:Nat) (h:n<256):((a.toNat:Int)==(n:Int))=(a==UInt8.ofNat n):=by
 rw [<-Be5]
 simp [Nat.mod_eq_of_lt h]
theorem Ij (p s:By):p.isPrefixOf s=(decide (p.length<=s.length)&&(s.take p.length==p)):=by
 rw [Bool.eq_iff_iff]
 simp only [List.isPrefixOf_iff_prefix,Bool.and_eq_true,decide_eq_true_eq,beq_iff_eq]
 constructor
 ·intro h;exact ⟨h.length_le,(List.prefix_iff_eq_take.1 h).symm⟩
 ·rintro ⟨_,h⟩;exact List.prefix_iff_eq_take.2 h.symm
theorem Ik (p s:By):p.isSuffixOf s=(decide (p.length<=s.length)&&(s.drop (s.length-p.length)==p)):=by
 rw [Bool.eq_iff_iff]
 simp only [List.isSuffixOf_iff_suffix,Bool.and_eq_true,decide_eq_true_eq,beq_iff_eq]
 constructor
 ·intro h;exact ⟨h.length_le,(List.suffix_iff_eq_drop.1 h).symm⟩
 ·rintro ⟨_,h⟩;exact List.suffix_iff_eq_drop.2 h.symm
end
section
open Go Go.ChangeAt Go.ChangeShapes Go.Proofs Go.RowKit Go.WideShapes
set_option maxRecDepth 100000
theorem own:ownKnob Tryz.prog.godebug=none:=by kernel_rfl
theorem A26:laidOutB Tryz.prog=true:=by kernel_rfl
noncomputable def gTy (g:Nat):Nat:=match Tryz.prog.globals[g]? with | some x=>x.type | none=>0
noncomputable def dbT:Nat:=gTy 5
noncomputable def A71:Nat:=gTy 3
noncomputable def EW:Nat:=gTy 2
noncomputable def A08:Nat:=gTy 1
noncomputable def EV:Nat:=match Tryz.prog.underlying EW with | some (.array _ e)=>e | _=>0
noncomputable def Qt:Array Field:=match Tryz.prog.underlying EV with | some (.struct fs)=>fs | _=>#[]
noncomputable def AF:Field:=match Qt.toList with | a::_=>a | _=>default
noncomputable def AG:Field:=match Qt.toList with | _::a::_=>a | _=>default
theorem Bf1:Qt[0]? = some AF:=by unfold AF Qt EV EW gTy;kernel_rfl
theorem Bf2:Qt[1]? = some AG:=by unfold AG Qt EV EW gTy;kernel_rfl
def Bo:List (String × DataW Unit):=[("math/bits.deBruijn32tab", Rows.laid_math_bits_deBruijn32tab), ("math/bits.deBruijn64tab", Rows.laid_math_bits_deBruijn64tab), ("internal/strconv.uint64pow10", Rows.laid_internal_strconv_uint64pow10), ("unicode/utf8.acceptRanges", Rows.laid_unicode_utf8_acceptRanges), ("unicode/utf8.first", Rows.laid_unicode_utf8_first)]
theorem CO {W:World} {n:String} {g:Nat} {cs:Array Value} (hg:Tryz.prog.globalNamed n=some g) (h:W.var? Tryz.prog n=some cs):∃ e x,W.heap[g]? = some (.cells cs e x):=by
 unfold World.var? at h
 rw [hg,Option.bind_some] at h
 split at h
 ·rename_i c e x hh
  simp only [Option.some.injEq] at h
  subst h
  exact ⟨e,x,hh⟩
 ·cases h
theorem Sm {W:World} {n:String} {g t e m:Nat} {k:IntKind} {zs:List Int} (hg:Tryz.prog.globalNamed n=some g) (hty:(Tryz.prog.globals[g]?).map (·.type)=some t) (ht:Tryz.prog.underlying t=some (.array m e)) (he:Tryz.prog.underlying e=some (.int k)) (hce:Tryz.prog.cellsOf e=1) (hct:Tryz.prog.cellsOf t=m)
  (h:Lib.VarReads Tryz.prog W n (Lib.tabData k zs)):∃ e x,W.heap[g]? = some (.cells (zs.map λz=>Value.int k z).toArray e x):=by
 obtain ⟨g',t',cs,fuel,p,h1,h2,h3,h4⟩:=h
 obtain rfl:=Option.some.inj (hg.symm.trans h1)
 obtain rfl:=Option.some.inj (hty.symm.trans h2)
 have hcs:=Lib.cells_of_tab ht he hce hct h4
 have:cs=(zs.map λz=>Value.int k z).toArray:=by rw [<-hcs]
 rw [this] at h3
 exact CO hg h3
theorem Ze {H:Type} {enc:TypeId × Value->H} {P:Program} {w:World} {base:Nat} {sp:Nat->Bool} {held:Bool} {fuel:Nat} {t e:TypeId} {n:Nat} {cs:List Value} {d:DataW H} {p:List MemPlace} (ht:P.underlying t=some (.array n e))
  (h:DataW.trod enc P w base sp held fuel t cs=some (d,p)):cs.length=P.cellsOf t:=by
 cases fuel with
 | zero=>simp [DataW.trod] at h
 | succ fuel=>
  simp only [DataW.trod,ht] at h
  split at h
  ·rename_i hl
   simpa using hl
  ·cases h
theorem YN {W:World} (hg : Tryz.prog.globalNamed "unicode/utf8.acceptRanges" = some 2) (h:Lib.VarReads Tryz.prog W "unicode/utf8.acceptRanges" Lib.acceptData) :
  ∃ e x,W.heap[2]? = some (.cells (Cv.map λz=>Value.int .u8 z).toArray e x):=by
 obtain ⟨g',t,cs,fuel,p,h1,h2,h3,h4⟩:=h
 obtain rfl:=Option.some.inj (hg.symm.trans h1)
 have hty:(Tryz.prog.globals[2]?).map (·.type)=some EW:=by unfold EW;kernel_rfl
 obtain rfl:=Option.some.inj (hty.symm.trans h2)
 have ht:Tryz.prog.underlying EW=some (.array 16 EV):=by unfold EW EV;kernel_rfl
 have hl:=Ze ht h4
 have hct:Tryz.prog.cellsOf EW=32:=by unfold EW;kernel_rfl
 have hce:Tryz.prog.cellsOf EV=2:=by unfold EV;kernel_rfl
 have hu:∃ fs,Tryz.prog.underlying EV=some (.struct fs)/\fs.size=2/\∀ (i:Nat) (f:Field),fs[i]? = some f->Tryz.prog.underlying f.type=some (.int .u8)/\f.offset=i/\Tryz.prog.cellsOf f.type=1:=by
  refine ⟨Qt,by unfold EV Qt;kernel_rfl,by unfold Qt;kernel_rfl,λi f hf=>?_⟩
  have:i<2:=by
   have:=(Array.getElem?_eq_some_iff.1 hf).1
   rwa [show Qt.size=2 by unfold Qt;kernel_rfl] at this
  match i,this with
  | 0,_=>
   obtain rfl:=Option.some.inj (hf.symm.trans (show Qt[0]? = some AF from Bf1))
   exact ⟨by unfold AF;kernel_rfl,by unfold AF;kernel_rfl,by unfold AF;kernel_rfl⟩
  | 1,_=>
   obtain rfl:=Option.some.inj (hf.symm.trans (show Qt[1]? = some AG from Bf2))
   exact ⟨by unfold AG;kernel_rfl,by unfold AG;kernel_rfl,by unfold AG;kernel_rfl⟩
 obtain ⟨fs,hu1,hu2,hu3⟩:=hu
 have hcs:cs.toList=Cv.map λz=>Value.int .u8 z:=by
  have hlen:(Cv.map λz=>Value.int .u8 z).length=32:=by rw [List.length_map];rfl
  apply List.ext_getElem?
  intro q
  by_cases hq:q<32
  ·obtain ⟨fuel',d,q',hdi,he⟩:=Lib.array_elem ht h4 (q / 2) (by omega)
   simp only [List.getElem?_map,List.getElem?_range (show q / 2<16 by omega),Option.map_some,Option.some.injEq] at hdi
   subst hdi
   rw [hce] at he
   have hz:=Lib.ints_of_struct hu1 hu3 (by rw [hce,hu2]) he
   have e0:=congrArg (·[q % 2]?) hz
   simp only [List.getElem?_take,List.getElem?_drop] at e0
   rw [Bn,show q / 2*2+q % 2=q by omega] at e0
   rw [e0]
   unfold Cv
   have er:∀ g:Nat->Value,(List.map g (List.range 32))[q]? = some (g q):=λg=>by
    rw [List.getElem?_map,List.getElem?_range hq]
    rfl
   rw [List.map_map,er]
   rcases Nat.mod_two_eq_zero_or_one q with h2 | h2
   ·simp [h2]
   ·simp [h2]
  ·rw [List.getElem?_eq_none (by omega),List.getElem?_eq_none (by omega)]
 have:cs=(Cv.map λz=>Value.int .u8 z).toArray:=by rw [<-hcs]
 rw [this] at h3
 exact CO hg h3
theorem QA {C:Cfg} (hC:C.G=GX) {W:World} (hL:laidMet Tryz.prog Bo W) (hsh:W.ShapedOpen Tryz.prog):GOK C (· < W.heap.size) W:=by
 have lt:∀ {g:Nat} {o:Obj},W.heap[g]? = some o->g<W.heap.size:=λh=>(Array.getElem?_eq_some_iff.1 h).1
 have r1:Lib.VarReads Tryz.prog W "math/bits.deBruijn64tab" (Lib.tabData .u8 (Lib.deBruijn64tab.map λn:Nat=>(n:Int))):=Lib.laidMet.reads hL (by rw [show (Lib.tabData .u8 (Lib.deBruijn64tab.map λn:Nat=>(n:Int)):DataW Unit)=Rows.laid_math_bits_deBruijn64tab by kernel_rfl];simp [Bo])
 have r2:Lib.VarReads Tryz.prog W "internal/strconv.uint64pow10" (Lib.tabData .u64 Lib.pow10Tab):=Lib.laidMet.reads hL (by rw [show (Lib.tabData .u64 Lib.pow10Tab:DataW Unit)=Rows.laid_internal_strconv_uint64pow10 by kernel_rfl];simp [Bo])
 have r3:Lib.VarReads Tryz.prog W "unicode/utf8.acceptRanges" Lib.acceptData:=Lib.laidMet.reads hL (by rw [show Lib.acceptData=Rows.laid_unicode_utf8_acceptRanges by kernel_rfl];simp [Bo])
 have r4:Lib.VarReads Tryz.prog W "unicode/utf8.first" (Lib.tabData .u8 Lib.firstTab):=Lib.laidMet.reads hL (by rw [show (Lib.tabData .u8 Lib.firstTab:DataW Unit)=Rows.laid_unicode_utf8_first by kernel_rfl];simp [Bo])
 have c1:=Sm (g:=5) (t:=dbT) (e:=5) (m:=64) (by kernel_rfl) (by unfold dbT;kernel_rfl) (by unfold dbT;kernel_rfl) (by kernel_rfl) (by kernel_rfl) (by unfold dbT;kernel_rfl) r1
 have c2:=Sm (g:=3) (t:=A71) (e:=168) (m:=20) (by kernel_rfl) (by unfold A71;kernel_rfl) (by unfold A71;kernel_rfl) (by kernel_rfl) (by kernel_rfl) (by unfold A71;kernel_rfl) r2
 have c3:=YN (by kernel_rfl) r3
 have c4:=Sm (g:=1) (t:=A08) (e:=5) (m:=256) (by kernel_rfl) (by unfold A08;kernel_rfl) (by unfold A08;kernel_rfl) (by kernel_rfl) (by kernel_rfl) (by unfold A08;kernel_rfl) r4
 have c5:=cell_of_shapedOpen_int (k:=.i64) (g:=0) (t:=3) (zero:=#[.int .i64 0]) hsh (of_decide_eq_true (by kernel_rfl)) (by kernel_rfl) rfl (by kernel_rfl) (by kernel_rfl) (by kernel_rfl)
 refine ⟨λg k zs h=>?_,λg h=>?_⟩
 ·rw [hC] at h
  simp only [GX] at h
  have key:∀ {g0:Nat} {k0:IntKind} {zs0:List Int},(∃ e x,W.heap[g0]? = some (.cells (zs0.map λz=>Value.int k0 z).toArray e x))->g=g0->(k0,zs0)=(k,zs)->g<W.heap.size/\∃ e x,W.heap[g]? = some (.cells (zs.map λz=>Value.int k z).toArray e x):=λhx e1 e2=>by
   subst e1
   cases e2
   obtain ⟨e,x,hx⟩:=hx
   exact ⟨lt hx,e,x,hx⟩
  cases b1:Nat.beq g 1 with
  | true=>rw [b1,cond_true] at h;exact key c4 (Nat.eq_of_beq_eq_true b1) (Option.some.inj h)
  | false=>
   rw [b1,cond_false] at h
   cases b2:Nat.beq g 2 with
   | true=>rw [b2,cond_true] at h;exact key c3 (Nat.eq_of_beq_eq_true b2) (Option.some.inj h)
   | false=>
    rw [b2,cond_false] at h
    cases b3:Nat.beq g 3 with
    | true=>rw [b3,cond_true] at h;exact key c2 (Nat.eq_of_beq_eq_true b3) (Option.some.inj h)
    | false=>
     rw [b3,cond_false] at h
     cases b4:Nat.beq g 5 with
     | true=>rw [b4,cond_true] at h;exact key c1 (Nat.eq_of_beq_eq_true b4) (Option.some.inj h)
     | false=>rw [b4,cond_false] at h;cases h
 ·rw [hC] at h
  have e:=Nat.eq_of_beq_eq_true h
  subst e
  obtain ⟨m,hm⟩:=c5
  refine ⟨?_,m,hm⟩
  apply Classical.byContradiction
  intro hge
  simp [World.cell?,Array.getElem?_eq_none (Nat.le_of_not_lt hge)] at hm
theorem Rz (os:Os) (args:Array Value):((World.laidAll Tryz.prog os Bo).forCall (λ_ _=>0) ⟨#[],args,[]⟩).Shaped Tryz.prog:=
 World.shaped_of_ZipB (by kernel_rfl) (by kernel_rfl)
theorem Zp (os:Os) (args:Array Value):laidMetH Tryz.prog Bo ((World.laidAll Tryz.prog os Bo).forCall (λ_ _=>0) ⟨#[],args,[]⟩).memory:=by
 rw [MakeChecks.laidMetH_plain _ _ _ (by kernel_rfl)]
 exact laidMet_laidAll _ (by kernel_rfl) (by kernel_rfl)
theorem QO {H:Type} {enc:TypeId × Value->H} {os:Os} (started:os.Started) {C:Cfg} (hCP:C.P=Tryz.prog) (hCG:C.G=GX) (hX:XOK C) (hO:Bl C) {f tb:Nat} {fn:Func} {c:Code} {s:ChangeSpec} {conds:List PathCond} {apart fresh handsOn again:Bool} (noInit:Tryz.prog.inits.idxOf? f=none) (hfn:Tryz.prog.funcs[f]? = some fn) (hb:fn.body=some c) (hname:(fn.name == "runtime.NumGoroutine")=false)
  (hp:∀ t∈fn.params.toList,(Tryz.prog.readableRec t=true/\t<Tryz.prog.types.size)/\(Gn Tryz.prog 20 t).isSome=true) (hres:fn.resultTypes = #[tb]) (hbool:Tryz.prog.underlying tb=some .bool) (hvars:s.vars=[])
  (hspec:∀ ds:List (DataW H),ds.length=fn.params.toList.length->s.fn H ds = { results:=[.lit (.bool true)],args:=ds })
  (wit:Array Value) (fuel:Nat) (hok:Input.okWideB Tryz.prog ((World.laidAll Tryz.prog os Bo).forCall (λ_ _=>0) ⟨#[],wit,[]⟩) f ⟨#[],wit,[]⟩=true)
  (JX:s.preB enc Tryz.prog fn conds apart ((World.laidAll Tryz.prog os Bo).forCall (λ_ _=>0) ⟨#[],wit,[]⟩).memory wit fuel=true)
  (hsz:s.sizedB enc Tryz.prog fn apart ((World.laidAll Tryz.prog os Bo).forCall (λ_ _=>0) ⟨#[],wit,[]⟩).memory wit fuel=true)
  (hev:∀ args,Gp Tryz.prog fn.params.toList args->∃ d Hc,evC C d Unit noY f args [] ()=some (.s (.bool true),Hc,())) :
  ReturnsInHanded {} Tryz.checked os f .any (λw args=>(s.pre enc Tryz.prog fn conds apart w args/\laidMetH Tryz.prog Bo w)/\sizedMet enc Tryz.prog fn (OpenSpec.ofChange s) apart w args) (s.post enc Tryz.prog fn apart fresh handsOn again):=by
 obtain ⟨P,G,X,lend,okf,lf,keep,keepR,xp,keepE,keepT,Y,S,nt,rw0⟩:=C
 simp only at hCP hCG
 subst hCP
 refine returnsInHanded_of_calls (C:=Tryz.checked) own started noInit
  (ChangeSpec.witness_shaped (enc:=enc) (C:=Tryz.checked) (os:=os) (X:=λw _=>laidMetH Tryz.prog Bo w) false (World.laidAll Tryz.prog os Bo) wit fuel (World.laidAll_os _ _ _) (Rz os wit) hok JX hsz (Zp os wit)) ?_
 intro w tape i _ hsh _ hok JX hholds
 obtain ⟨_,_,_,fn',hfn',_,_,_,_,Oj⟩:=hok
 have e:fn'=fn:=Option.some.inj (hfn'.symm.trans hfn)
 subst e
 obtain ⟨⟨⟨ds,gs,before,hw,hc⟩,hx⟩,hz⟩:=JX
 have hw':=DataW.Whole.of_heap (w':=w.forCall tape i) (by rfl) hw
 have hL:laidMet Tryz.prog Bo (w.forCall tape i):=by
  rw [MakeChecks.laidMetH_plain _ _ _ (by kernel_rfl)] at hx
  exact laidMet.of_heap (w':=w.forCall tape i) (by rfl) hx
 refine (Am3 (apart:=apart) (fresh:=fresh) (handsOn:=handsOn) (again:=again) hX hO follows A26 hfn hb hname hp hres hbool hvars hspec hev (w.forCall tape i) (QA hCG hL hsh) w.heap.size i.args ds gs before Oj hw').mono λe W' ⟨v,he,hp⟩=>?_
 subst he
 exact ChangeSpec.post_blind hp
end
section
open Go Go.Proofs
set_option maxRecDepth 100000
section
def Lu:List PV->Tr
 | [.s (.str s),.s (.str p),.s (.int .i64 v),.s (.int .i64 n)]=>.need (A3 (List.length s)) (.need ((List.length p)==1) (.need (v==(0:Int)) (.need (n==((-1):Int)) (.ret (.vw 0 0 (List.length (pcs (List.getD p 0 0) s))) [.arr false 9 1 (H6 (pcs (List.getD p 0 0) s))]))))
 | _=>.fail
def Qh (args:List PV):Tr:=Lu (D8 [[0],[0],[0],[0]] args)
def Lz:List PV->Tr
 | [.s (.str s),.s (.str p)]=>.need (A3 (List.length s)) (.need ((List.length p)==1) (.ret (.vw 0 0 (List.length (pcs (List.getD p 0 0) s))) [.arr false 9 1 (H6 (pcs (List.getD p 0 0) s))]))
 | _=>.fail
def AE (args:List PV):Tr:=Lz (D8 [[0],[0]] args)
def DR:List PV->Tr
 | [.s (.str s),.s (.str p)]=>.need (A3 (List.length s)) (.ret (.s (.bool (List.isPrefixOf p s))) [])
 | _=>.fail
def NY (args:List PV):Tr:=DR (D8 [[0],[0]] args)
def DA:List PV->Tr
 | [.s (.str s),.s (.str p)]=>.need (A3 (List.length s)) (.ret (.s (.bool (List.isPrefixOf p s))) [])
 | _=>.fail
def NR (args:List PV):Tr:=DA (D8 [[0],[0]] args)
def DU:List PV->Tr
 | [.s (.str s),.s (.str p)]=>.need (A3 (List.length s)) (.ret (.s (.bool (List.isSuffixOf p s))) [])
 | _=>.fail
def Ai5 (args:List PV):Tr:=DU (D8 [[0],[0]] args)
def Vh:List PV->Tr
 | [.s (.str s),.s (.str p)]=>.need (A3 (List.length s)) (.ret (.s (.str (Ag5 s p))) [])
 | _=>.fail
def VV (args:List PV):Tr:=Vh (D8 [[0],[0]] args)
def Vx:List PV->Tr
 | [.s (.str s),.s (.str p)]=>.need (A3 (List.length s)) (.ret (.s (.str (Ag5 s p))) [])
 | _=>.fail
def WD (args:List PV):Tr:=Vx (D8 [[0],[0]] args)
def Vd:List PV->Tr
 | [.s (.str s),.s (.str p)]=>.need (A3 (List.length s)) (.ret (.tup [.s (.str (Wr s p)),.s (.bool (List.isPrefixOf p s))]) [])
 | _=>.fail
def VT (args:List PV):Tr:=Vd (D8 [[0],[0]] args)
def CU:List PV->Tr
 | [.s (.str s),.s (.str p)]=>.need (A3 (List.length s)) (.ret (.tup [.s (.str (Wr s p)),.s (.bool (List.isPrefixOf p s))]) [])
 | _=>.fail
def Ah7 (args:List PV):Tr:=CU (D8 [[0],[0]] args)
def ER:List PV->Tr
 | [.s (.str s),.s (.str p)]=>.need (A3 (List.length s)) (.ret (.s (.int .i64 (Lib.index s p))) [])
 | _=>.fail
def Vv (args:List PV):Tr:=ER (D8 [[0],[0]] args)
def EO:List PV->Tr
 | [.s (.str s),.s (.str p)]=>.need ((List.length p)==1) (.ret (.s (.int .i64 (↑(List.count (List.getD p 0 0) s):Int))) [])
 | _=>.fail
def OE (args:List PV):Tr:=EO (D8 [[0],[0]] args)
def Uy:List PV->Tr
 | [.s (.str s),.s (.int .i64 n)]=>.fail
 | _=>.fail
def Fp (args:List PV):Tr:=Uy (D8 [[0],[0]] args)
def Qg:List PV->Tr
 | [.s (.str s),.s (.str p),.s (.int .i64 v),.s (.int .i64 n)]=>.need (A3 (List.length s)) (.need ((List.length p)==1) (.need (v==(0:Int)) (.need (n==((-1):Int)) (.ret (.s (.sl false false 1 (H6 (pcs (List.getD p 0 0) s)))) []))))
 | _=>.fail
def IL (args:List PV):Tr:=Qg (D8 [[0],[0],[0],[0]] args)
def Qq:List PV->Tr
 | [.s (.str s),.s (.str p)]=>.need (A3 (List.length s)) (.need ((List.length p)==1) (.ret (.s (.sl false false 1 (H6 (pcs (List.getD p 0 0) s)))) []))
 | _=>.fail
def IO (args:List PV):Tr:=Qq (D8 [[0],[0]] args)
def Bq0:List PV->Tr
 | [.s (.int .i64 n)]=>.need (ltN n 4294967296) (.ret (.s (.str (Lib.decDigits (Int.toNat n)))) [])
 | _=>.fail
def DQ:List PV->Tr
 | [.s (.str s)]=>.need (A3 (List.length s)) (.ret (.s (.str (E8 s))) [])
 | _=>.fail
def NX (args:List PV):Tr:=DQ (D8 [[0]] args)
def CZ:List PV->Tr
 | [.s (.str s)]=>.need (A3 (List.length s)) (.ret (.s (.bool (Y3 s))) [])
 | _=>.fail
def NQ (args:List PV):Tr:=CZ (D8 [[0]] args)
def CV:List PV->Tr
 | [.s (.str s),.s (.int .i64 base)]=>.need (A3 (List.length s)) (.need (ltN base 17) (.ret (.tup [.s (.int .i64 (↑(Ju (E4 (Int.toNat base) 0 s)):Int)),.s (.bool (Option.isSome (E4 (Int.toNat base) 0 s)))]) []))
 | _=>.fail
def NP (args:List PV):Tr:=CV (D8 [[0],[0]] args)
def NZ:List PV->Tr
 | [.s (.str s)]=>.need (A3 (List.length s)) (.ret (.tup [.s (.int .i64 (↑(Ju (Z7 s)):Int)),.s (.bool (Option.isSome (Z7 s)))]) [])
 | _=>.fail
def Bd4 (args:List PV):Tr:=NZ (D8 [[0]] args)
def Vi:List PV->Tr
 | [.s (.str s)]=>.need (A3 (List.length s)) (.ret (.s (.sl false false 1 (H6 (E2 s)))) [])
 | _=>.fail
def VW (args:List PV):Tr:=Vi (D8 [[0]] args)
def Lx:List PV->Tr
 | [.s (.str s)]=>.need (A3 (List.length s)) (.ret (.s (.bool (O0 s))) [])
 | _=>.fail
def Kh (args:List PV):Tr:=Lx (D8 [[0]] args)
def Ly:List PV->Tr
 | [.s (.str s)]=>.need (A3 (List.length s)) (.ret (.s (.bool ((not (List.isEmpty s))&&(Option.isSome (E4 10 0 s))))) [])
 | _=>.fail
def AD (args:List PV):Tr:=Ly (D8 [[0]] args)
def Qp:List PV->Tr
 | [.s (.str s),.s (.int .u8 c)]=>.need (A3 (List.length s)) (.need (inR c 256) (.ret (.s (.sl false false 1 (H6 (pcs (u8n c) s)))) []))
 | _=>.fail
def Nk (args:List PV):Tr:=Qp (D8 [[0],[0]] args)
def EH:List PV->Tr
 | [.s (.int .u8 b)]=>.need (inR b 256) (.ret (.s (.int .i64 (↑(dig (u8n b)):Int))) [])
 | _=>.fail
def Aj0 (args:List PV):Tr:=EH (D8 [[0]] args)
def EL:List PV->Tr
 | [.s (.str s)]=>.need (A3 (List.length s)) (.ret (.tup [.s (.int .i64 (↑(Ju (Z7 s)):Int)),.s (.bool (Option.isSome (Z7 s)))]) [])
 | _=>.fail
def Aj3 (args:List PV):Tr:=EL (D8 [[0]] args)
def Qm:List PV->Tr
 | [.s (.str s)]=>.need (A3 (List.length s)) (.ret (.s (.sl false false 1 (H6 (E2 s)))) [])
 | _=>.fail
def IN (args:List PV):Tr:=Qm (D8 [[0]] args)
def Iu:List PV->Tr
 | [.s (.str s)]=>.need (A3 (List.length s)) (.ret (.s (.bool (O0 s))) [])
 | _=>.fail
def Vp (args:List PV):Tr:=Iu (D8 [[0]] args)
def Bm9:List PV->Tr
 | [.s (.str s),.s (.bool last)]=>.need (A3 (List.length s)) (.ret (.tup [.s (.sl (List.isEmpty (gvs s last)) (List.isEmpty (gvs s last)) 1 (Br4 (gvs s last))),.s (.bool (Option.isSome (Be0 s last)))]) [])
 | _=>.fail
def Bm8:List PV->Tr
 | [.s (.sl ds_z ds_t 0 ds),.s (.int .u64 v),.s (.int .i64 b),.s (.bool neg),.s (.bool app)]=>.need (ltN v 65536) (.need (b==(16:Int)) (.need (not neg) (.need (not app) (.ret (.tup [.s (.sl true true 1 List.nil),.s (.str (Bg6 (Int.toNat v)))]) []))))
 | _=>.fail
def Vw:List PV->Tr
 | [.s (.sl l_z l_t 1 l),.s (.str p)]=>.need (List.all l isS) (.need (A3 (List.length (Lib.join (List.map elS l) p))) (.need (A3 (List.length l)) (.ret (.s (.str (Lib.join (List.map elS l) p))) [])))
 | _=>.fail
def WC (args:List PV):Tr:=Vw (D8 [[1],[0]] args)
def EQ:List PV->Tr
 | [.s (.str s),.s (.str p)]=>.need (A3 (List.length s)) (.ret (.tup [.s (.str ((Lib.cut s p)).1),.s (.str (((Lib.cut s p)).2).1),.s (.bool (((Lib.cut s p)).2).2)]) [])
 | _=>.fail
def EP (args:List PV):Tr:=EQ (D8 [[0],[0]] args)
def Bq3:List PV->Tr
 | [.s (.sl l_z l_t 1 l)]=>.need (List.all l Bn8) (.need (Nat.ble (List.length l) 8) (.ret (.s (.str (Bn9 (List.map elN l)))) []))
 | _=>.fail
def Qk:List PV->Tr
 | [.s (.int .i64 n)]=>.ret (.s (.bool (ptI n))) []
 | _=>.fail
def It (args:List PV):Tr:=Qk (D8 [[0]] args)
def Qj:List PV->Tr
 | [.s (.int .i64 d),.s (.int .i64 c),.s (.bool f)]=>.need (ltN d 1152921504606846976) (.need (ltN c 1000000) (.need (ltI (0:Int) c) (.ret (.s (.int .i64 (↑(M5 (Int.toNat d) (Int.toNat c) f):Int))) [])))
 | _=>.fail
def Ir (args:List PV):Tr:=Qj (D8 [[0],[0],[0]] args)
def ED:List PV->Tr
 | [.s (.int .i64 d)]=>.need (ltN d 36) (.ret (.s (.int .u8 (↑(UInt8.toNat (U4 (Int.toNat d))):Int))) [])
 | _=>.fail
def OA (args:List PV):Tr:=ED (D8 [[0]] args)
def EG:List PV->Tr
 | [.s (.int .u8 b)]=>.need (inR b 256) (.ret (.s (.int .i64 (C7 (u8n b)))) [])
 | _=>.fail
def OC (args:List PV):Tr:=EG (D8 [[0]] args)
def EF:List PV->Tr
 | [.s (.int .i64 b)]=>.ret (.fnr (Fn.func 201) [] [.ptr 1 0 0,.ptr 0 0 0]) [.box [.s (.int .i64 b)],.box [.s (.int .i64 (0:Int))]]
 | _=>.fail
def Vj (args:List PV):Tr:=EF (D8 [[0]] args)
def Ki:List PV->List Blk->Tr
 | [.ptr 0 0 0,.ptr 1 0 0],[.box [.s (.int .i64 k)],.box [.s (.int .i64 b)]]=>.need (ltN k 1000000000000) (.need (ltN b 1000000) (.ret (.s (.int .i64 (I4 k b))) [.box [.s (.int .i64 (Int.add k (36:Int)))],.box [.s (.int .i64 b)]]))
 | _,_=>.fail
def EA:List PV->List Blk->Tr
 | [.fl 0,.s (.int .i64 q),.s (.int .i64 b)],[.arr z 5 1 l]=>.need (ltN q 1152921504606846976) (.need (ltN b 1000000) (.need (Nat.ble (List.length l) 100000) (.ret (.fl 0) [.arr z 5 1 (List.append l (List.map D4 (L9 (Int.toNat q) 0 (Int.toNat b))))])))
 | _,_=>.fail
def EE:List PV->Tr
 | [.s (.sl p_z p_t 1 p)]=>.need (List.all p Jm) (.ret (.tup [.s (.str ((R0 (List.map elI p))).1),.s (.int .i64 (↑((R0 (List.map elI p))).2:Int))]) [])
 | _=>.fail
def OB (args:List PV):Tr:=EE (D8 [[1]] args)
def ES:List PV->List Blk->Tr
 | [.fl 0,.s (.int .i64 i),.fl 1],[.arr z 3 1 l,.arr false 3 1 [[.int .i64 n]]]=>.need (ltN i (Nat.add (List.length l) 1)) (.need (Nat.ble (List.length l) 100000) (.ret (.fl 0) [.arr z 3 1 (Hg l (Int.toNat i) n),.arr false 3 1 [[.int .i64 n]]]))
 | _,_=>.fail
def CW:List PV->List Blk->Tr
 | [.ptr 0 0 0],[.box [.s (.str rest),.fl 1,.s (.int .i64 n),.s (.int .i64 i),.s (.int .i64 b),.s (.bool st)],.arr z 3 1 l]=>.need (A3 (List.length rest)) (.need (ltN b 1000000) (.need (ltN i 1099511627777) (.ret (.s (.int .i64 (Xv b rest i))) [.box [.s (.str (Xw b rest i)),.fl 1,.s (.int .i64 n),.s (.int .i64 (My b rest i)),.s (.int .i64 b),.s (.bool st)],.arr z 3 1 l])))
 | _,_=>.fail
def Uf:List PV->List Blk->Tr
 | [.ptr 0 0 0],[.box [.s (.str rest),.fl 1,.s (.int .i64 n),.s (.int .i64 i),.s (.int .i64 b),.s (.bool st)],.arr z 3 1 l]=>.need (A3 (List.length rest)) (.need (ltN b 1000000) (.need (ltN i 1099511627777) (.need (ltN n 1152921504606846976) (.need (Nat.ble (List.length l) 100000) (.ret (.s (.int .i64 ((D2 (DS.mk rest n i b st l))).1)) [.box [.s (.str (DS.rest ((D2 (DS.mk rest n i b st l))).2)),.fl 1,.s (.int .i64 (DS.n ((D2 (DS.mk rest n i b st l))).2)),.s (.int .i64 (DS.i ((D2 (DS.mk rest n i b st l))).2)),.s (.int .i64 (DS.b ((D2 (DS.mk rest n i b st l))).2)),.s (.bool (DS.st ((D2 (DS.mk rest n i b st l))).2))],.arr z 3 1 (DS.l ((D2 (DS.mk rest n i b st l))).2)])))))
 | _,_=>.fail
def Qi:List PV->Tr
 | [.s (.str s),.s (.int .u8 c)]=>.need (A3 (List.length s)) (.need (inR c 256) (.ret (.s (.int .i64 (G4 (u8n c) s))) []))
 | _=>.fail
def IM (args:List PV):Tr:=Qi (D8 [[0],[0]] args)
def Va:List PV->Tr
 | [.s (.str s),.s (.int .u8 c)]=>.need (A3 (List.length s)) (.need (inR c 256) (.ret (.s (.int .i64 (G4 (u8n c) s))) []))
 | _=>.fail
def Ug (args:List PV):Tr:=Va (D8 [[0],[0]] args)
def EC:List PV->Tr
 | [.s (.str s)]=>.need (A3 (List.length s)) (.ret (.tup [.s (.sl (List.isEmpty ((J8 s)).1) (List.isEmpty ((J8 s)).1) 1 (Sc ((J8 s)).1)),.s (.int .i64 (↑((J8 s)).2:Int))]) [])
 | _=>.fail
def Ai9 (args:List PV):Tr:=EC (D8 [[0]] args)
def IK:List PV->Tr
 | [.s (.str t)]=>.fail
 | _=>.fail
def Ni (args:List PV):Tr:=IK (D8 [[0]] args)
def Vg:List PV->Tr
 | [.s (.str t),.s (.str p),.s (.int .i64 n)]=>.ret (.fnr (Fn.func 106) [] [.ptr 1 0 0,.ptr 0 0 0,.ptr 2 0 0]) [.box [.s (.str t)],.box [.s (.str p)],.box [.s (.int .i64 n)]]
 | _=>.fail
def DT (args:List PV):Tr:=Vg (D8 [[0],[0],[0]] args)
def EU:List PV->Tr
 | [.s (.str t),.s (.str p)]=>.ret (.fnr (Fn.func 106) [] [.ptr 1 0 0,.ptr 0 0 0,.ptr 2 0 0]) [.box [.s (.str t)],.box [.s (.str p)],.box [.s (.int .i64 (0:Int))]]
 | _=>.fail
def ET (args:List PV):Tr:=EU (D8 [[0],[0]] args)
def Nl:List PV->List Blk->Option (Bool × List (List PV))
 | [.yd,.ptr 0 0 0,.ptr 1 0 0,.ptr 2 0 0],[.box [.s (.str p)],.box [.s (.str t)],.box [.s (.int .i64 n)]]=>some (((A3 (List.length t))&&(((List.length p)==1)&&(n==(0:Int)))),List.map (λ(x:By)=>([.s (.str x)]:List PV)) (pcs (List.getD p 0 0) t))
 | _,_=>none
def DB:List PV->Tr
 | [.s (.str t)]=>.ret (.fnr (Fn.func 76) [] [.ptr 0 0 0]) [.box [.s (.str t)]]
 | _=>.fail
def Ai0 (args:List PV):Tr:=DB (D8 [[0]] args)
def DD:List PV->List Blk->Option (Bool × List (List PV))
 | [.yd,.ptr 0 0 0],[.box [.s (.str t)]]=>some ((A3 (List.length t)),List.map (λ(x:By)=>([.s (.str x)]:List PV)) (HX t))
 | _,_=>none
def Qo:List PV->Tr
 | [.s (.int .i64 n)]=>.ret (.s (.bool (ptI n))) []
 | _=>.fail
def Vt (args:List PV):Tr:=Qo (D8 [[0]] args)
def Ql:List PV->Tr
 | [.s (.int .i64 d),.s (.int .i64 c),.s (.bool f)]=>.need (ltN d 1152921504606846976) (.need (ltN c 1000000) (.need (ltI (0:Int) c) (.ret (.s (.int .i64 (↑(M5 (Int.toNat d) (Int.toNat c) f):Int))) [])))
 | _=>.fail
def Vk (args:List PV):Tr:=Ql (D8 [[0],[0],[0]] args)
def EM:List PV->Tr
 | [.s (.int .i64 k),.s (.int .i64 b)]=>.need (ltN k 10000000000) (.need (ltN b 1000000) (.ret (.s (.int .i64 (I4 (Int.mul (36:Int) k) b))) []))
 | _=>.fail
def OD (args:List PV):Tr:=EM (D8 [[0],[0]] args)
def Vl:List PV->Tr
 | [.s (.int .i64 d)]=>.need (ltN d 36) (.ret (.s (.int .u8 (↑(UInt8.toNat (U4 (Int.toNat d))):Int))) [])
 | _=>.fail
def VX (args:List PV):Tr:=Vl (D8 [[0]] args)
def EN:List PV->Tr
 | [.s (.int .u8 b)]=>.need (inR b 256) (.ret (.s (.int .i64 (C7 (u8n b)))) [])
 | _=>.fail
def Aj4 (args:List PV):Tr:=EN (D8 [[0]] args)
def EI:List PV->Tr
 | [.s (.sl p_z p_t 1 p)]=>.need (List.all p Jm) (.ret (.tup [.s (.str ((R0 (List.map elI p))).1),.s (.int .i64 (↑((R0 (List.map elI p))).2:Int))]) [])
 | _=>.fail
def Aj1 (args:List PV):Tr:=EI (D8 [[1]] args)
def Vr:List PV->Tr
 | [.s (.str s)]=>.need (A3 (List.length s)) (.ret (.tup [.s (.sl (List.isEmpty ((J8 s)).1) (List.isEmpty ((J8 s)).1) 1 (Sc ((J8 s)).1)),.s (.int .i64 (↑((J8 s)).2:Int))]) [])
 | _=>.fail
def WA (args:List PV):Tr:=Vr (D8 [[0]] args)
def Vf:List PV->Tr
 | [.s (.str s)]=>.need (A3 (List.length s)) (.ret (.s (.bool (Ap s))) [])
 | _=>.fail
def VU (args:List PV):Tr:=Vf (D8 [[0]] args)
def DW:List PV->Tr
 | [.s (.str s)]=>.need (A3 (List.length s)) (.ret (.s (.bool (L1 s))) [])
 | _=>.fail
def DV (args:List PV):Tr:=DW (D8 [[0]] args)
def Qs:List PV->Tr
 | [.s (.str s)]=>.need (A3 (List.length s)) (.ret (.s (.bool (Option.isSome (Dl s)))) [])
 | _=>.fail
def IQ (args:List PV):Tr:=Qs (D8 [[0]] args)
def Qr:List PV->Tr
 | [.s (.str s)]=>.need (A3 (List.length s)) (.ret (.s (.int .i64 (↑(Lib.runeCountL s):Int))) [])
 | _=>.fail
def IP (args:List PV):Tr:=Qr (D8 [[0]] args)
def DH:List PV->Tr
 | [.s (.str s)]=>.need (A3 (List.length s)) (.ret (.tup [.s (.str ((Ke s)).1),.s (.int .i64 (↑((Ke s)).2:Int))]) [])
 | _=>.fail
def Ai1 (args:List PV):Tr:=DH (D8 [[0]] args)
def Vu:List PV->Tr
 | [.s (.str s)]=>.need (A3 (List.length s)) (.ret (.s (.bool (Ap s))) [])
 | _=>.fail
def WB (args:List PV):Tr:=Vu (D8 [[0]] args)
def Vo:List PV->Tr
 | [.s (.str s)]=>.need (A3 (List.length s)) (.ret (.s (.bool (L1 s))) [])
 | _=>.fail
def VY (args:List PV):Tr:=Vo (D8 [[0]] args)
def CY:List PV->Tr
 | [.s (.int .u8 b)]=>.need (inR b 256) (.ret (.s (.int .i64 (Jg (u8n b)))) [])
 | _=>.fail
def Ah9 (args:List PV):Tr:=CY (D8 [[0]] args)
def CX:List PV->Tr
 | [.s (.str s)]=>.need (A3 (List.length s)) (.ret (.tup [.s (.str (Bi2 s)),.s (.bool (Option.isSome (Fe s)))]) [])
 | _=>.fail
def Ah8 (args:List PV):Tr:=CX (D8 [[0]] args)
def NS:List PV->Tr
 | [.s (.str s)]=>.need (A3 (List.length s)) (.ret (.s (.bool (J0 s))) [])
 | _=>.fail
def VR (args:List PV):Tr:=NS (D8 [[0]] args)
def EJ:List PV->Tr
 | [.s (.str s)]=>.need (A3 (List.length s)) (.ret (.s (.bool (J0 s))) [])
 | _=>.fail
def Aj2 (args:List PV):Tr:=EJ (D8 [[0]] args)
end
section
variable {σ R : Type} (lf : Nat) (cl : D5) (yh : Yh σ) (s : σ) (k : Out -> St σ -> Option R)
noncomputable def WW {R:Type} (s0:By) (v1 b2 n3 n4:Int) (b5:Bool) (k0:By->Int->Int->Int->Option R) (k1:Unit->Option R):Option R:=cond b5 (vl (wu8 ((wu8 (b2-65))+10)) λn'4=>vl (bOr .u16 (US .u16 v1 (4:Int)) (Av8 n'4)) λn'5=>k0 s0 n'5 n3 n4) (k1 ())
noncomputable def WX {R:Type} (s0:By) (v1 b2 n3 n4:Int) (b5:Bool) (k0:By->Int->Int->Int->Option R) (k1:Unit->Option R):Option R:=cond b5 (vl (wu8 ((wu8 (b2-97))+10)) λn'2=>vl (bOr .u16 (US .u16 v1 (4:Int)) (Av8 n'2)) λn'3=>k0 s0 n'3 n3 n4) (cond (not (ltI b2 65)) (WW s0 v1 b2 n3 n4 (not (ltI 70 b2)) (λs'6 v'7 n'8 n'9=>k0 s'6 v'7 n'8 n'9) (λ_=>k1 ())) (WW s0 v1 b2 n3 n4 false (λs'10 v'11 n'12 n'13=>k0 s'10 v'11 n'12 n'13) (λ_=>k1 ())))
noncomputable def WY {R:Type} (s0:By) (v1 b2 n3 n4:Int) (b5:Bool) (k0:By->Int->Int->Int->Option R) (k1:Unit->Option R):Option R:=cond b5 (vl (Av8 (wu8 (b2-48))) λn'0=>vl (bOr .u16 (US .u16 v1 (4:Int)) n'0) λn'1=>k0 s0 n'1 n3 n4) (cond (not (ltI b2 97)) (WX s0 v1 b2 n3 n4 (not (ltI 102 b2)) (λs'14 v'15 n'16 n'17=>k0 s'14 v'15 n'16 n'17) (λ_=>k1 ())) (WX s0 v1 b2 n3 n4 false (λs'18 v'19 n'20 n'21=>k0 s'18 v'19 n'20 n'21) (λ_=>k1 ())))
noncomputable def WZ {R:Type} (lf n:Nat) (s0:By) (v1 n2 n3:Int) (k0:Unit->Option R) (k1:Int->Option R):Option R:=match n with | 0=>none | n+1=>cond (ltI n3 n2) (cond (inR n3 s0.length) (cond (not (ltI (bAt s0 n3) (48:Int))) (WY s0 v1 (bAt s0 n3) n2 n3 (not (ltI 57 (bAt s0 n3))) (λs'22 v'23 n'24 n'25=>vl (A1 (n'25+1)) λn'26=>WZ lf n s'22 v'23 n'24 n'26 k0 k1) (λ_=>k0 ())) (WY s0 v1 (bAt s0 n3) n2 n3 false (λs'27 v'28 n'29 n'30=>vl (A1 (n'30+1)) λn'31=>WZ lf n s'27 v'28 n'29 n'31 k0 k1) (λ_=>k0 ()))) none) (k1 v1)
noncomputable def Wj (lf:Nat):Cfg:=C6 lf [184] (A5 []) [] (A5 [(1,[2]),(0,[0])]) [] (A5 []) (some [2]) [] [] []
noncomputable def GV {R:Type} (lf:Nat) (n0:Int) (k0:Bool->Option R):Option R:=cond (not (ltI n0 0)) (cond (not (ltI 1114111 n0)) (cond (ltI n0 55296) (k0 true) (k0 (ltI 57343 n0))) (k0 false)) (k0 false)
theorem Ad0 (d:Nat) (n0):evC (Wj lf) (d+1) σ yh 184 [pI n0] [] s=GV lf n0 (λr0=>some (pB r0,[],s)):=by
 refine (evE (fn:=Tryz.f184) (by kernel_rfl)).trans ?_
 generalize evC (Wj lf) d=cl
 unfold GV;kernel_rfl
noncomputable abbrev Ix:Code:=E1 Tryz.f186
noncomputable def Q8 (lf:Nat):Cfg:=C6 lf [186] (A5 [(6,[0,5,0])]) [] (A5 [(9,[6]),(8,[0,6]),(7,[0,6]),(6,[0,6,11]),(5,[0,6]),(4,[0]),(2,[0,0]),(3,[0,0]),(1,[0,0,6]),(0,[0,0,0])]) [] (A5 [(0,[0,6]),(1,[0,6])]) (some [6]) [] [] []
noncomputable def Cq {R:Type} (lf n:Nat) (delta0 kk1:Int) (k0:Int->Int->Option R):Option R:=match n with | 0=>none | n+1=>cond (ltI 455 delta0) (vl (A1 (Int.tdiv delta0 (35:Int))) λn'6=>vl (A1 (kk1+36)) λn'7=>Cq lf n n'6 n'7 k0) (k0 delta0 kk1)
theorem GS (n delta0 kk1):D6 0 ((Q8 lf).keep 6) (bd (Q8 lf) cl yh (cd [1,1,1,1,0,0,0] Ix)) n ⟨gp [(0,pI delta0),(6,pI kk1)] 23,[],s⟩ k =
 Cq lf n delta0 kk1 (λdelta0 kk1=>k (.exit 0) ⟨gp [(0,pI delta0),(6,pI kk1)] 23,[],s⟩):=by
 induction n generalizing delta0 kk1 with
 | zero=>rfl
 | succ n ih=>rw [Cq];simp only [<-ih];kernel_rfl
noncomputable def Cp {R:Type} (lf:Nat) (delta0 count1:Int) (k0:Int->Option R):Option R:=cond (count1 != 0) (vl (A1 (Int.tdiv delta0 count1)) λn'5=>Cq lf lf (A1 (delta0+n'5)) 0 (λdelta'8 kk'9=>vl (A1 ((36:Int)*delta'8)) λn'10=>vl (A1 (delta'8+38)) λn'11=>cond (n'11 != 0) (vl (A1 (Int.tdiv n'10 n'11)) λn'12=>k0 (A1 (kk'9+n'12))) none)) none
abbrev Tk (b:Code):Prop:=∀ (k:Out->St σ->Option R) delta0 count1,B2 (Q8 lf) cl yh b ⟨gp [(0,pI delta0),(0,pI count1)] 29,[],s⟩ k=Cp lf delta0 count1 (λn0=>k .ret ⟨gp [(6,pI n0)] 24,[],s⟩)
theorem GR:Tk (R:=R) lf cl yh s (cd [1,1] Ix):=by
 intro k delta0 count1;unfold Cp;exact (Eq.trans (by kernel_rfl) (A0 (A7 λn'5=>((GS lf cl yh s (G3 0 (G9 (Q8 lf) cl yh (cd [1,1,1,1,1] Ix) k)) lf (A1 (delta0+n'5)) 0).trans (by kernel_rfl))) rfl))
noncomputable def Yb {R:Type} (lf:Nat) (delta0 count1:Int) (first2:Bool) (k0:Int->Option R):Option R:=cond first2 (vl (A1 (Int.tdiv delta0 (700:Int))) λn'2=>Cp lf n'2 count1 (λn'13=>k0 n'13)) (vl (A1 (Int.tdiv delta0 (2:Int))) λn'3=>Cp lf n'3 count1 (λn'14=>k0 n'14))
theorem Ac0 (b_11:Code) (h_padapt_j0:Tk (R:=PV × List Blk × σ) lf cl yh s b_11) (delta0 count1:Int) (first2:Bool):B2 (Q8 lf) cl yh (cd [] (P5 [1,1] b_11 Ix)) ⟨[pI delta0,pI count1,pB first2]++tps 28,[],s⟩ (I8 (Q8 lf) Tryz.f186)=Yb lf delta0 count1 first2 (λr0=>some (pI r0,[],s)):=by
 unfold Yb;exact let K0:=(I8 (Q8 lf) Tryz.f186);(Eq.trans (by kernel_rfl) (A0 (A7 λn'2=>((h_padapt_j0 K0 n'2 count1).trans (by kernel_rfl))) (A7 λn'3=>((h_padapt_j0 K0 n'3 count1).trans (by kernel_rfl)))))
theorem Ac1 (d:Nat) (delta0 count1 first2):evC (Q8 lf) (d+1) σ yh 186 [pI delta0,pI count1,pB first2] [] s=Yb lf delta0 count1 first2 (λr0=>some (pI r0,[],s)):=
 (evE (fn:=Tryz.f186) (by kernel_rfl)).trans (Eq.trans (by kernel_rfl) (Ac0 lf (evC (Q8 lf) d) yh s (cd [1,1] Ix) (GR lf (evC (Q8 lf) d) yh s) delta0 count1 first2))
noncomputable def PB (lf:Nat):Cfg:=C6 lf [195] (A5 []) [] (A5 [(3,[2]),(2,[2]),(1,[0,3]),(0,[0])]) [] (A5 []) (some [2]) [] [] []
noncomputable def A67 {R:Type} (lf:Nat) (d0:Int) (k0:Int->Option R):Option R:=cond (ltI d0 26) (vl (wu8 (A1 ((97:Int)+d0))) λn'0=>k0 n'0) (vl (A1 ((A1 ((48:Int)+d0))-26)) λn'1=>k0 (wu8 n'1))
theorem A68 (d:Nat) (d0):evC (PB lf) (d+1) σ yh 195 [pI d0] [] s=A67 lf d0 (λr0=>some (p8 r0,[],s)):=by
 refine (evE (fn:=Tryz.f195) (by kernel_rfl)).trans ?_
 generalize evC (PB lf) d=cl
 unfold A67;kernel_rfl
noncomputable abbrev Me:Code:=E1 Tryz.f202
noncomputable def Ex (lf:Nat):Cfg:=C6 lf [202] (A5 []) [] (A5 [(7,[2]),(2,[2]),(4,[2]),(6,[2]),(5,[0,22]),(3,[0,12]),(1,[0,2]),(0,[0])]) [] (A5 [(0,[])]) (some [2]) [] [] []
noncomputable def Oz {R:Type} (b0:Int) (b1:Bool) (k0:Int->Option R) (k1:Int->Bool->Option R):Option R:=cond b1 (vl (A1 (wu8 (b0-65))) λn'1=>k0 n'1) (cond (not (ltI b0 48)) (cond (not (ltI 57 b0)) (vl (A1 (wu8 (b0-48))) λn'2=>vl (A1 (n'2+26)) λn'3=>k0 n'3) (k1 b0 (not (ltI 57 b0)))) (k1 b0 false))
abbrev BQ (b:Code):Prop:=∀ (k:Out->St σ->Option R) b0 b1,B2 (Ex lf) cl yh b ⟨gp [(0,p8 b0),(12,pB b1)] 20,[],s⟩ k=Oz b0 b1 (λn0=>k .ret ⟨gp [(2,pI n0)] 31,[],s⟩) (λb0 b1=>k .normal ⟨gp [(0,p8 b0),(22,pB b1)] 10,[],s⟩)
theorem SO:BQ (R:=R) lf cl yh s (cd [1,0,0,1,1,1] Me):=by
 intro k b0 b1;unfold Oz;kernel_rfl
noncomputable def Pa {R:Type} (b0:Int) (b1:Bool) (k0:Int->Option R) (k1:Int->Bool->Option R):Option R:=cond b1 (vl (A1 (wu8 (b0-97))) λn'0=>k0 n'0) (cond (not (ltI b0 65)) (Oz b0 (not (ltI 90 b0)) (λn'4=>k0 n'4) (λb'5 b'6=>k1 b'5 b'6)) (Oz b0 false (λn'7=>k0 n'7) (λb'8 b'9=>k1 b'8 b'9)))
abbrev Se (b:Code):Prop:=∀ (k:Out->St σ->Option R) b0 b1,B2 (Ex lf) cl yh b ⟨gp [(0,p8 b0),(2,pB b1)] 30,[],s⟩ k=Pa b0 b1 (λn0=>k .ret ⟨gp [(2,pI n0)] 31,[],s⟩) (λb0 b1=>k .normal ⟨gp [(0,p8 b0),(22,pB b1)] 10,[],s⟩)
theorem SP (b_100111:Code) (h_pval_j0:BQ (R:=R) lf cl yh s b_100111):Se (R:=R) lf cl yh s (cd [1,0,0,1] (P5 [1,0,0,1,1,1] b_100111 Me)):=by
 intro k b0 b1;unfold Pa;simp only [<-h_pval_j0 k];kernel_rfl
theorem SQ:Se (R:=R) lf cl yh s (cd [1,0,0,1] Me):=by
 intro k b0 b1;exact Eq.trans (by kernel_rfl) (SP lf cl yh s (cd [1,0,0,1,1,1] Me) (SO lf cl yh s) k b0 b1)
noncomputable def As2 {R:Type} (lf:Nat) (b0:Int) (k0:Int->Option R):Option R:=cond (not (ltI b0 97)) (Pa b0 (not (ltI 122 b0)) (λn'10=>k0 n'10) (λb'11 b'12=>k0 (-1))) (Pa b0 false (λn'13=>k0 n'13) (λb'14 b'15=>k0 (-1)))
theorem A76 (b_1001:Code) (h_pval_j1:Se (R:=PV × List Blk × σ) lf cl yh s b_1001) (b0:Int):B2 (Ex lf) cl yh (cd [] (P5 [1,0,0,1] b_1001 Me)) ⟨[p8 b0]++tps 33,[],s⟩ (I8 (Ex lf) Tryz.f202)=As2 lf b0 (λr0=>some (pI r0,[],s)):=by
 unfold As2;exact let K0:=(G3 0 (G9 (Ex lf) cl yh (cd [1,1] Me) (I8 (Ex lf) Tryz.f202)));(Eq.trans (by kernel_rfl) (A0 ((h_pval_j1 K0 b0 (not (ltI 122 b0))).trans (by kernel_rfl)) ((h_pval_j1 K0 b0 false).trans (by kernel_rfl))))
theorem A77 (d:Nat) (b0):evC (Ex lf) (d+1) σ yh 202 [p8 b0] [] s=As2 lf b0 (λr0=>some (pI r0,[],s)):=
 (evE (fn:=Tryz.f202) (by kernel_rfl)).trans (Eq.trans (by kernel_rfl) (A76 lf (evC (Ex lf) d) yh s (cd [1,0,0,1] Me) (SQ lf (evC (Ex lf) d) yh s) b0))
end
section
variable {σ R : Type} (lf : Nat) (cl : D5) (yh : Yh σ) (s : σ) (k : Out -> St σ -> Option R)
noncomputable def OX (lf:Nat):Cfg:=C6 lf [154] (A5 []) [] (A5 [(1,[4]),(0,[0,0])]) [] (A5 []) (some [4]) [] [] []
noncomputable def A46 {R:Type} (lf:Nat) (s0 prefix1:By) (k0:Bool->Option R):Option R:=cond (not (ltI (s0.length:Int) (prefix1.length:Int))) (cond (N7 0 (prefix1.length:Int) s0.length) (vl (cut s0 0 (prefix1.length:Int)) λs'0=>k0 (s'0==prefix1)) none) (k0 false)
theorem A47 (d:Nat) (s0 prefix1):evC (OX lf) (d+1) σ yh 154 [pS s0,pS prefix1] [] s=A46 lf s0 prefix1 (λr0=>some (pB r0,[],s)):=by
 refine (evE (fn:=Tryz.f154) (by kernel_rfl)).trans ?_
 generalize evC (OX lf) d=cl
 unfold A46;kernel_rfl
noncomputable def OQ (lf:Nat):Cfg:=C6 lf [112] (A5 []) [(154,NY)] (A5 [(1,[4]),(0,[0,0])]) [154] (A5 []) (some [4]) [] [] []
noncomputable def JX {R:Type} (lf:Nat) (s0 prefix1:By) (k0:Bool->Option R):Option R:=cond (A3 s0.length) (k0 (List.isPrefixOf prefix1 s0)) none
theorem A20 (d:Nat) (s0 prefix1):evC (OQ lf) (d+1) σ yh 112 [pS s0,pS prefix1] [] s=JX lf s0 prefix1 (λr0=>some (pB r0,[],s)):=by
 refine (evE (fn:=Tryz.f112) (by kernel_rfl)).trans ?_
 generalize evC (OQ lf) d=cl
 unfold JX;kernel_rfl
noncomputable def OY (lf:Nat):Cfg:=C6 lf [180] (A5 []) [] (A5 [(1,[4]),(0,[0,0])]) [] (A5 []) (some [4]) [] [] []
noncomputable def A48 {R:Type} (lf:Nat) (s0 suffix1:By) (k0:Bool->Option R):Option R:=cond (not (ltI (s0.length:Int) (suffix1.length:Int))) (vl (A1 ((s0.length:Int)-(suffix1.length:Int))) λn'0=>cond (N7 n'0 (s0.length:Int) s0.length) (vl (cut s0 n'0 (s0.length:Int)) λs'1=>k0 (s'1==suffix1)) none) (k0 false)
theorem A49 (d:Nat) (s0 suffix1):evC (OY lf) (d+1) σ yh 180 [pS s0,pS suffix1] [] s=A48 lf s0 suffix1 (λr0=>some (pB r0,[],s)):=by
 refine (evE (fn:=Tryz.f180) (by kernel_rfl)).trans ?_
 generalize evC (OY lf) d=cl
 unfold A48;kernel_rfl
noncomputable def FK (lf:Nat):Cfg:=C6 lf [157] (A5 []) [(180,Ai5)] (A5 [(3,[4]),(2,[4]),(1,[0,0,5]),(0,[0,0])]) [180] (A5 []) (some [4]) [] [] []
noncomputable def XM {R:Type} (lf:Nat) (s0 suffix1:By) (k0:By->Option R):Option R:=cond (A3 s0.length) (cond (List.isSuffixOf suffix1 s0) (vl (A1 ((s0.length:Int)-(suffix1.length:Int))) λn'0=>cond (N7 0 n'0 s0.length) (k0 (cut s0 0 n'0)) none) (k0 s0)) none
theorem Aq5 (d:Nat) (s0 suffix1):evC (FK lf) (d+1) σ yh 157 [pS s0,pS suffix1] [] s=XM lf s0 suffix1 (λr0=>some (pS r0,[],s)):=by
 refine (evE (fn:=Tryz.f157) (by kernel_rfl)).trans ?_
 generalize evC (FK lf) d=cl
 unfold XM;kernel_rfl
noncomputable def FO (lf:Nat):Cfg:=C6 lf [115] (A5 []) [(157,VV)] (A5 [(1,[4]),(0,[0,0])]) [157] (A5 []) (some [4]) [] [] []
noncomputable def YH {R:Type} (lf:Nat) (s0 suffix1:By) (k0:By->Option R):Option R:=cond (A3 s0.length) (k0 (Ag5 s0 suffix1)) none
theorem Av1 (d:Nat) (s0 suffix1):evC (FO lf) (d+1) σ yh 115 [pS s0,pS suffix1] [] s=YH lf s0 suffix1 (λr0=>some (pS r0,[],s)):=by
 refine (evE (fn:=Tryz.f115) (by kernel_rfl)).trans ?_
 generalize evC (FO lf) d=cl
 unfold YH;kernel_rfl
noncomputable def FH (lf:Nat):Cfg:=C6 lf [169] (A5 []) [(154,NY)] (A5 [(3,[4,0]),(2,[4,0]),(1,[0,0,7]),(0,[0,0])]) [154] (A5 []) (some [4,0]) [] [] []
noncomputable def XF {R:Type} (lf:Nat) (s0 prefix1:By) (k0:By->Bool->Option R):Option R:=cond (A3 s0.length) (cond (not (List.isPrefixOf prefix1 s0)) (k0 s0 false) (cond (N7 (prefix1.length:Int) (s0.length:Int) s0.length) (vl (cut s0 (prefix1.length:Int) (s0.length:Int)) λs'0=>k0 s'0 true) none)) none
theorem Ap6 (d:Nat) (s0 prefix1):evC (FH lf) (d+1) σ yh 169 [pS s0,pS prefix1] [] s=XF lf s0 prefix1 (λr0 r1=>some (.tup [pS r0,pB r1],[],s)):=by
 refine (evE (fn:=Tryz.f169) (by kernel_rfl)).trans ?_
 generalize evC (FH lf) d=cl
 unfold XF;kernel_rfl
noncomputable def OO (lf:Nat):Cfg:=C6 lf [130] (A5 []) [(169,VT)] (A5 [(1,[4,0]),(0,[0,0])]) [169] (A5 []) (some [4,0]) [] [] []
noncomputable def Az7 {R:Type} (lf:Nat) (s0 prefix1:By) (k0:By->Bool->Option R):Option R:=cond (A3 s0.length) (k0 (Wr s0 prefix1) (List.isPrefixOf prefix1 s0)) none
theorem Az8 (d:Nat) (s0 prefix1):evC (OO lf) (d+1) σ yh 130 [pS s0,pS prefix1] [] s=Az7 lf s0 prefix1 (λr0 r1=>some (.tup [pS r0,pB r1],[],s)):=by
 refine (evE (fn:=Tryz.f130) (by kernel_rfl)).trans ?_
 generalize evC (OO lf) d=cl
 unfold Az7;kernel_rfl
noncomputable abbrev IV:Code:=E1 Tryz.f158
noncomputable def Av (lf:Nat):Cfg:=C6 lf [158] (A5 [(11,[0,0,0,0,4,0,0])]) [(181,Fp),(182,OE),(108,Vv)] (A5 [(18,[8]),(17,[9,0]),(16,[0,0,0,0,5,0]),(15,[0,0,0,0,5,0]),(14,[0,0,0,0,5,0,0]),(13,[0,0,0,0,5,0,0,29]),(12,[0,0,0,0,5,0,0]),(11,[0,0,0,0,5,0,25]),(10,[0,0,0,0,5,0]),(9,[0,0,0,0,5]),(8,[0,0,0,0,5]),(7,[0,0,0,0]),(6,[0,0,0,0]),(5,[0,0,0,0,16]),(4,[8]),(3,[0,0,0,0,11]),(2,[8]),(1,[0,0,0,0,9]),(0,[0,0,0,0])]) [182,108] (A5 [(0,[0,8,0]),(1,[0,0,0,0,5,0])]) (some [8]) [] [] []
noncomputable def W7 {R:Type} (lf n:Nat) (s0 sep1:By) (sepSave2 n3 i4:Int) (l5:LL) (k0:By->Int->LL->Option R):Option R:=match n with | 0=>none | n+1=>cond (ltI i4 n3) (cond (A3 s0.length) (cond (ltI (Lib.index s0 sep1) (0:Int)) (k0 s0 i4 l5) (vl (A1 ((Lib.index s0 sep1)+sepSave2)) λn'12=>cond (N7 0 n'12 s0.length) (cond (inR i4 l5.length) (cond (decide ((Int.toNat i4)<l5.length)) (vl (List.set l5 (Int.toNat i4) (F1 (List.getD l5 (Int.toNat i4) []) 0 [(SV.str (cut s0 0 n'12))])) λl'13=>vl (A1 ((Lib.index s0 sep1)+(sep1.length:Int))) λn'14=>cond (N7 n'14 (s0.length:Int) s0.length) (vl (cut s0 n'14 (s0.length:Int)) λs'15=>W7 lf n s'15 sep1 sepSave2 n3 (A1 (i4+1)) l'13 k0) none) none) none) none)) none) (k0 s0 i4 l5)
theorem Og (n s0 sep1 sepSave2 n3 i4 l5):D6 1 ((Av lf).keep 11) (bd (Av lf) cl yh (cd [1,1,1,1,1,1,1,1,0,0,0] IV)) n ⟨gp [(0,pS s0),(0,pS sep1),(0,pI sepSave2),(0,pI n3),(5,.fl 0),(0,pI i4)] 55,[.arr false 9 1 l5],s⟩ k =
 W7 lf n s0 sep1 sepSave2 n3 i4 l5 (λs0 i1 l2=>k (.exit 0) ⟨gp [(0,pS s0),(8,.fl 0),(0,pI i1)] 55,[.arr false 9 1 l2],s⟩):=by
 induction n generalizing s0 sep1 sepSave2 n3 i4 l5 with
 | zero=>rfl
 | succ n ih=>rw [W7];simp only [<-ih];kernel_rfl
noncomputable def Xd {R:Type} (lf:Nat) (s0 sep1:By) (sepSave2 n3:Int) (k0:Unit->Option R) (k1:Nat->LL->Option R):Option R:=cond (n3==0) (k0 ()) (cond (sep1==[]) none (cond (ltI n3 0) (cond (sep1.length==1) (vl (↑(List.count (List.getD sep1 0 0) s0):Int) λn'1=>vl (A1 ((s0.length:Int)+1)) λn'4=>vl (if (n'4<(A1 (n'1+1))) then n'4 else (A1 (n'1+1))) λn'5=>cond (((decide ((0:Int)<=n'5))&&(decide (n'5<=n'5)))&&(D9 (Int.toNat n'5))) (W7 lf lf s0 sep1 sepSave2 (A1 (n'5-1)) 0 (List.replicate (Int.toNat n'5) [(SV.str ([]:List UInt8))]) (λs'16 i'17 l'18=>cond (inR i'17 l'18.length) (cond (decide ((Int.toNat i'17)<l'18.length)) (vl (List.set l'18 (Int.toNat i'17) (F1 (List.getD l'18 (Int.toNat i'17) []) 0 [(SV.str s'16)])) λl'19=>vl (A1 (i'17+1)) λn'20=>cond (N7 0 n'20 l'19.length) (k1 ((Int.toNat n'20)-0) l'19) none) none) none)) none) none) (vl (A1 ((s0.length:Int)+1)) λn'8=>vl (if (n'8<n3) then n'8 else n3) λn'9=>cond (((decide ((0:Int)<=n'9))&&(decide (n'9<=n'9)))&&(D9 (Int.toNat n'9))) (W7 lf lf s0 sep1 sepSave2 (A1 (n'9-1)) 0 (List.replicate (Int.toNat n'9) [(SV.str ([]:List UInt8))]) (λs'21 i'22 l'23=>cond (inR i'22 l'23.length) (cond (decide ((Int.toNat i'22)<l'23.length)) (vl (List.set l'23 (Int.toNat i'22) (F1 (List.getD l'23 (Int.toNat i'22) []) 0 [(SV.str s'21)])) λl'24=>vl (A1 (i'22+1)) λn'25=>cond (N7 0 n'25 l'24.length) (k1 ((Int.toNat n'25)-0) l'24) none) none) none)) none)))
theorem AX (d:Nat) (s0 sep1 sepSave2 n3):evC (Av lf) (d+1) σ yh 158 [pS s0,pS sep1,pI sepSave2,pI n3] [] s=Xd lf s0 sep1 sepSave2 n3 (λ_=>some (.fl 0,[.arr true 9 1 []],s)) (λr_m0 l1=>some (.vw 0 0 r_m0,[.arr false 9 1 l1],s)):=by
 refine (evE (fn:=Tryz.f158) (by kernel_rfl)).trans ?_
 generalize evC (Av lf) d=cl
 unfold Xd;exact let K0:=(G3 0 (G9 (Av lf) cl yh (cd [1,1,1,1,1,1,1,1,1] IV) (I8 (Av lf) Tryz.f158)));(Eq.trans (by kernel_rfl) (A0 rfl (A0 rfl (A0 (A0 (A7 λn'1=>(A7 λn'4=>(A7 λn'5=>(A0 ((Og lf cl yh s K0 lf s0 sep1 sepSave2 (A1 (n'5-1)) 0 (List.replicate (Int.toNat n'5) [(SV.str ([]:List UInt8))])).trans (by kernel_rfl)) rfl)))) rfl) (A7 λn'8=>(A7 λn'9=>(A0 ((Og lf cl yh s K0 lf s0 sep1 sepSave2 (A1 (n'9-1)) 0 (List.replicate (Int.toNat n'9) [(SV.str ([]:List UInt8))])).trans (by kernel_rfl)) rfl)))))))
noncomputable def Wm (lf:Nat):Cfg:=C6 lf [117] (A5 []) [(158,IL)] (A5 [(1,[4]),(0,[0,0])]) [] (A5 []) (some [4]) [] [] []
noncomputable def HT {R:Type} (lf:Nat) (s0 sep1:By) (k0:LL->Option R):Option R:=cond (A3 s0.length) (cond (sep1.length==1) (cond ((0:Int)==0) (cond (((-1):Int)==((-1):Int)) (vl (H6 (pcs (List.getD sep1 0 0) s0)) λl'0=>k0 l'0) none) none) none) none
theorem Ag2 (d:Nat) (s0 sep1):evC (Wm lf) (d+1) σ yh 117 [pS s0,pS sep1] [] s=HT lf s0 sep1 (λr0=>some (.s (.sl false false 1 r0),[],s)):=by
 refine (evE (fn:=Tryz.f117) (by kernel_rfl)).trans ?_
 generalize evC (Wm lf) d=cl
 unfold HT;kernel_rfl
noncomputable abbrev Ak6:Code:=E1 Tryz.f111
noncomputable def Mo (lf:Nat):Cfg:=C6 lf [111] (A5 [(3,[0,1,0,6,0])]) [] (A5 [(10,[2]),(9,[0,2,6,0]),(8,[0,2,6,0]),(7,[0,2,1,4,0]),(6,[0,2,1,4,0,10]),(5,[0,2,1,4,0]),(4,[0,2,0,5,0]),(3,[0,2,6,0,0]),(2,[0,2,6,0]),(1,[0,2]),(0,[0])]) [] (A5 [(0,[3]),(1,[0,2,6,0])]) (some [2]) [] [] []
noncomputable def Ca {R:Type} (lf n:Nat) (s0:By) (n1 n2:Int) (l3:LL) (k0:LL->Option R):Option R:=match n with | 0=>none | n+1=>cond (ltI n2 n1) (cond (inR n2 s0.length) (cond (not (ltI (bAt s0 n2) (65:Int))) (cond (not (ltI 90 (bAt s0 n2))) (vl (wu8 ((bAt s0 n2)+32)) λn'0=>cond (D9 (l3.length+1)) (Ca lf n s0 n1 (A1 (n2+1)) (l3++[[(SV.int .u8 n'0)]]) k0) none) (cond (D9 (l3.length+1)) (Ca lf n s0 n1 (A1 (n2+1)) (l3++[[(SV.int .u8 (bAt s0 n2))]]) k0) none)) (cond (D9 (l3.length+1)) (Ca lf n s0 n1 (A1 (n2+1)) (l3++[[(SV.int .u8 (bAt s0 n2))]]) k0) none)) none) (k0 l3)
theorem QX (n s0 n1 n2 l3):D6 1 ((Mo lf).keep 3) (bd (Mo lf) cl yh (cd [1,1,0,1,0,0] Ak6)) n ⟨gp [(0,pS s0),(2,.fl 0),(6,pI n1),(0,pI n2)] 20,[.arr false 5 1 l3],s⟩ k =
 Ca lf n s0 n1 n2 l3 (λl0=>k (.exit 0) ⟨gp [(3,.fl 0)] 28,[.arr false 5 1 l0],s⟩):=by
 induction n generalizing s0 n1 n2 l3 with
 | zero=>rfl
 | succ n ih=>rw [Ca];simp only [<-ih];kernel_rfl
noncomputable def A43 {R:Type} (lf:Nat) (s0:By) (k0:By->LL->Option R):Option R:=cond ((decide ((0:Int)<=(s0.length:Int)))&&(D9 (Int.toNat (s0.length:Int)))) (Ca lf lf s0 (s0.length:Int) 0 [] (λl'1=>cond (List.all l'1 Uc) (k0 (List.map Rj l'1) l'1) none)) none
theorem A44 (d:Nat) (s0):evC (Mo lf) (d+1) σ yh 111 [pS s0] [] s=A43 lf s0 (λr0 l1=>some (pS r0,[.arr false 5 1 l1],s)):=by
 refine (evE (fn:=Tryz.f111) (by kernel_rfl)).trans ?_
 generalize evC (Mo lf) d=cl
 unfold A43;exact (Eq.trans (by kernel_rfl) (A0 ((QX lf cl yh s (G3 0 (G9 (Mo lf) cl yh (cd [1,1,1] Ak6) (I8 (Mo lf) Tryz.f111))) lf s0 (s0.length:Int) 0 []).trans (by kernel_rfl)) rfl))
noncomputable def OP (lf:Nat):Cfg:=C6 lf [127] (A5 []) [(112,NR)] (A5 [(1,[2]),(0,[0])]) [112] (A5 []) (some [2]) [] [] []
noncomputable def A18 {R:Type} (lf:Nat) (s0:By) (k0:Bool->Option R):Option R:=cond (A3 s0.length) (cond (List.isPrefixOf ([48,120]:List UInt8) s0) (k0 true) (cond (A3 s0.length) (k0 (List.isPrefixOf ([48,88]:List UInt8) s0)) none)) none
theorem A19 (d:Nat) (s0):evC (OP lf) (d+1) σ yh 127 [pS s0] [] s=A18 lf s0 (λr0=>some (pB r0,[],s)):=by
 refine (evE (fn:=Tryz.f127) (by kernel_rfl)).trans ?_
 generalize evC (OP lf) d=cl
 unfold A18;kernel_rfl
noncomputable abbrev Bi:Code:=E1 Tryz.f129
noncomputable def Q1 (lf:Nat):Cfg:=C6 lf [129] (A5 [(3,[0,0,2,0,0,4,0])]) [] (A5 [(18,[4,0]),(17,[0,0,4,4,0]),(16,[0,0,4,4,0]),(15,[4,0]),(14,[0,0,4,1,2,0,39]),(9,[0,0,4,1,2,0]),(11,[0,0,4,1,2,0]),(13,[0,0,4,1,2,0]),(7,[4,0]),(12,[0,0,4,2,1,0,26]),(10,[0,0,4,2,1,0,15]),(8,[0,0,4,2,1,0,5]),(6,[0,0,4,2,1,0]),(5,[0,0,4,0,3,0]),(4,[0,0,4,0,3,0]),(3,[0,0,4,4,0,0]),(2,[0,0,4,4,0]),(1,[0,0,4]),(0,[0,0])]) [] (A5 [(0,[6]),(1,[0,0,4,4,0]),(2,[0,0,4,1,2,0])]) (some [4,0]) [] [] []
noncomputable def Nw {R:Type} (s0:By) (base1 n2 b3 n4 n5:Int) (b6:Bool) (k0:By->Int->Int->Int->Int->Int->Option R) (k1:Unit->Option R):Option R:=cond b6 (vl (A1 (wu8 (b3-97))) λn'1=>vl (A1 (n'1+10)) λn'2=>k0 s0 base1 n2 n'2 n4 n5) (cond (not (ltI b3 65)) (cond (not (ltI 70 b3)) (vl (A1 (wu8 (b3-65))) λn'3=>vl (A1 (n'3+10)) λn'4=>k0 s0 base1 n2 n'4 n4 n5) (k1 ())) (k1 ()))
abbrev AS (b:Code):Prop:=∀ (k:Out->St σ->Option R) s0 base1 n2 b3 n4 n5 b6,B2 (Q1 lf) cl yh b ⟨gp [(0,pS s0),(0,pI base1),(4,pI n2),(2,p8 b3),(1,pI n4),(0,pI n5),(15,pB b6)] 32,[],s⟩ k=Nw s0 base1 n2 b3 n4 n5 b6 (λs0 base1 n2 d3 n4 n5=>k .normal ⟨gp [(0,pS s0),(0,pI base1),(4,pI n2),(1,pI d3),(2,pI n4),(0,pI n5)] 48,[],s⟩) (λ_=>k .ret ⟨gp [(4,pI (0:Int)),(0,pB false)] 55,[],s⟩)
theorem PM:AS (R:=R) lf cl yh s (cd [1,1,0,1,0,0,1,1,0,0,1,1,0,1,0,1,1,1] Bi):=by
 intro k s0 base1 n2 b3 n4 n5 b6;unfold Nw;kernel_rfl
noncomputable def Nx {R:Type} (s0:By) (base1 n2 b3 n4 n5:Int) (b6:Bool) (k0:By->Int->Int->Int->Int->Int->Option R) (k1:Unit->Option R):Option R:=cond b6 (vl (A1 (wu8 (b3-48))) λn'0=>k0 s0 base1 n2 n'0 n4 n5) (cond (not (ltI b3 97)) (Nw s0 base1 n2 b3 n4 n5 (not (ltI 102 b3)) (λs'5 base'6 n'7 d'8 n'9 n'10=>k0 s'5 base'6 n'7 d'8 n'9 n'10) (λ_=>k1 ())) (Nw s0 base1 n2 b3 n4 n5 false (λs'11 base'12 n'13 d'14 n'15 n'16=>k0 s'11 base'12 n'13 d'14 n'15 n'16) (λ_=>k1 ())))
abbrev Ko (b:Code):Prop:=∀ (k:Out->St σ->Option R) s0 base1 n2 b3 n4 n5 b6,B2 (Q1 lf) cl yh b ⟨gp [(0,pS s0),(0,pI base1),(4,pI n2),(2,p8 b3),(1,pI n4),(0,pI n5),(5,pB b6)] 42,[],s⟩ k=Nx s0 base1 n2 b3 n4 n5 b6 (λs0 base1 n2 d3 n4 n5=>k .normal ⟨gp [(0,pS s0),(0,pI base1),(4,pI n2),(1,pI d3),(2,pI n4),(0,pI n5)] 48,[],s⟩) (λ_=>k .ret ⟨gp [(4,pI (0:Int)),(0,pB false)] 55,[],s⟩)
theorem PN (b_110100110011010111:Code) (h_digs_j0:AS (R:=R) lf cl yh s b_110100110011010111):Ko (R:=R) lf cl yh s (cd [1,1,0,1,0,0,1,1,0,0,1,1,0,1,0,1] (P5 [1,1,0,1,0,0,1,1,0,0,1,1,0,1,0,1,1,1] b_110100110011010111 Bi)):=by
 intro k s0 base1 n2 b3 n4 n5 b6;unfold Nx;simp only [<-h_digs_j0 k];kernel_rfl
theorem PO:Ko (R:=R) lf cl yh s (cd [1,1,0,1,0,0,1,1,0,0,1,1,0,1,0,1] Bi):=by
 intro k s0 base1 n2 b3 n4 n5 b6;exact Eq.trans (by kernel_rfl) (PN lf cl yh s (cd [1,1,0,1,0,0,1,1,0,0,1,1,0,1,0,1,1,1] Bi) (PM lf cl yh s) k s0 base1 n2 b3 n4 n5 b6)
noncomputable def Ny {R:Type} (s0:By) (base1 n2 d3 n4 n5:Int) (k0:Unit->Option R) (k1:By->Int->Int->Int->Int->Option R):Option R:=cond (not (ltI d3 base1)) (k0 ()) (vl (A1 ((A1 (n2*base1))+d3)) λn'23=>vl (if ((1099511627776:Int)<n'23) then (1099511627776:Int) else n'23) λn'24=>k1 s0 base1 n'24 n4 n5)
abbrev Rh (b:Code):Prop:=∀ (k:Out->St σ->Option R) s0 base1 n2 d3 n4 n5,B2 (Q1 lf) cl yh b ⟨gp [(0,pS s0),(0,pI base1),(4,pI n2),(1,pI d3),(2,pI n4),(0,pI n5)] 48,[],s⟩ k=Ny s0 base1 n2 d3 n4 n5 (λ_=>k .ret ⟨gp [(4,pI (0:Int)),(0,pB false)] 55,[],s⟩) (λs0 base1 n2 n3 n4=>k .normal ⟨gp [(0,pS s0),(0,pI base1),(4,pI n2),(4,pI n3),(0,pI n4)] 48,[],s⟩)
theorem PP:Rh (R:=R) lf cl yh s (cd [1,1,0,1,0,0,1,1,0,0,1,1,1] Bi):=by
 intro k s0 base1 n2 d3 n4 n5;unfold Ny;kernel_rfl
noncomputable def Ec {R:Type} (lf n:Nat) (s0:By) (base1 n2 n3 n4:Int) (k0:Unit->Option R) (k1:Int->Option R):Option R:=match n with | 0=>none | n+1=>cond (ltI n4 n3) (cond (inR n4 s0.length) (cond (not (ltI (bAt s0 n4) (48:Int))) (Nx s0 base1 n2 (bAt s0 n4) n3 n4 (not (ltI 57 (bAt s0 n4))) (λs'17 base'18 n'19 d'20 n'21 n'22=>Ny s'17 base'18 n'19 d'20 n'21 n'22 (λ_=>k0 ()) (λs'25 base'26 n'27 n'28 n'29=>vl (A1 (n'29+1)) λn'30=>Ec lf n s'25 base'26 n'27 n'28 n'30 k0 k1)) (λ_=>k0 ())) (Nx s0 base1 n2 (bAt s0 n4) n3 n4 false (λs'31 base'32 n'33 d'34 n'35 n'36=>Ny s'31 base'32 n'33 d'34 n'35 n'36 (λ_=>k0 ()) (λs'37 base'38 n'39 n'40 n'41=>vl (A1 (n'41+1)) λn'42=>Ec lf n s'37 base'38 n'39 n'40 n'42 k0 k1)) (λ_=>k0 ()))) none) (k1 n2)
theorem PQ (b_1101001100110101:Code) (h_digs_j1:Ko (R:=R) lf cl yh s b_1101001100110101) (b_1101001100111:Code) (h_digs_j2:Rh (R:=R) lf cl yh s b_1101001100111) (n:Nat) (s0:By) (base1 n2 n3 n4:Int):D6 0 ((Q1 lf).keep 3) (bd (Q1 lf) cl yh (cd [1,1,0,1,0,0] (P5 [1,1,0,1,0,0,1,1,0,0,1,1,1] b_1101001100111 (P5 [1,1,0,1,0,0,1,1,0,0,1,1,0,1,0,1] b_1101001100110101 Bi)))) n ⟨gp [(0,pS s0),(0,pI base1),(4,pI n2),(4,pI n3),(0,pI n4)] 48,[],s⟩ k =
 Ec lf n s0 base1 n2 n3 n4 (λ_=>k .ret ⟨gp [(4,pI (0:Int)),(0,pB false)] 55,[],s⟩) (λn0=>k (.exit 0) ⟨gp [(6,pI n0)] 54,[],s⟩):=by
 induction n generalizing s0 base1 n2 n3 n4 with
 | zero=>rfl
 | succ n ih=>rw [Ec];exact let K0:=(G3 1 (G9 (Q1 lf) cl yh (cd [1,1,0,1,0,0,1,1,1] Bi) (lpK 0 ((Q1 lf).keep 3) (bd (Q1 lf) cl yh (cd [1,1,0,1,0,0] (P5 [1,1,0,1,0,0,1,1,0,0,1,1,1] b_1101001100111 (P5 [1,1,0,1,0,0,1,1,0,0,1,1,0,1,0,1] b_1101001100110101 Bi)))) n k)));let K1:=(G3 2 (G9 (Q1 lf) cl yh b_1101001100111 K0));(Eq.trans (by kernel_rfl) (A0 (A0 (A0 ((h_digs_j1 K1 s0 base1 n2 (bAt s0 n4) n3 n4 (not (ltI 57 (bAt s0 n4)))).trans (congr (congr rfl (fx6 λs'17 base'18 n'19 d'20 n'21 n'22=>(Eq.trans (by kernel_rfl) ((h_digs_j2 K0 s'17 base'18 n'19 d'20 n'21 n'22).trans (congr (congr rfl (by kernel_rfl)) (fx5 λs'25 base'26 n'27 n'28 n'29=>(Eq.trans (by kernel_rfl) (A7 λn'30=>(ih s'25 base'26 n'27 n'28 n'30))))))))) (by kernel_rfl))) ((h_digs_j1 K1 s0 base1 n2 (bAt s0 n4) n3 n4 false).trans (congr (congr rfl (fx6 λs'31 base'32 n'33 d'34 n'35 n'36=>(Eq.trans (by kernel_rfl) ((h_digs_j2 K0 s'31 base'32 n'33 d'34 n'35 n'36).trans (congr (congr rfl (by kernel_rfl)) (fx5 λs'37 base'38 n'39 n'40 n'41=>(Eq.trans (by kernel_rfl) (A7 λn'42=>(ih s'37 base'38 n'39 n'40 n'42))))))))) (by kernel_rfl)))) rfl) rfl))
noncomputable def Am9 {R:Type} (lf:Nat) (s0:By) (base1:Int) (k0:Int->Bool->Option R):Option R:=Ec lf lf s0 base1 0 (s0.length:Int) 0 (λ_=>k0 0 false) (λn'43=>k0 n'43 true)
theorem A03 (b_1101001100110101:Code) (h_digs_j1:Ko (R:=PV × List Blk × σ) lf cl yh s b_1101001100110101) (b_1101001100111:Code) (h_digs_j2:Rh (R:=PV × List Blk × σ) lf cl yh s b_1101001100111) (s0:By) (base1:Int):B2 (Q1 lf) cl yh (cd [] (P5 [1,1,0,1,0,0,1,1,0,0,1,1,1] b_1101001100111 (P5 [1,1,0,1,0,0,1,1,0,0,1,1,0,1,0,1] b_1101001100110101 Bi))) ⟨[pS s0,pI base1]++tps 59,[],s⟩ (I8 (Q1 lf) Tryz.f129)=Am9 lf s0 base1 (λr0 r1=>some (.tup [pI r0,pB r1],[],s)):=by
 unfold Am9;exact (Eq.trans (by kernel_rfl) ((PQ lf cl yh s (G3 0 (G9 (Q1 lf) cl yh (cd [1,1,1] Bi) (I8 (Q1 lf) Tryz.f129))) b_1101001100110101 h_digs_j1 b_1101001100111 h_digs_j2 lf s0 base1 0 (s0.length:Int) 0).trans (by kernel_rfl)))
theorem A04 (d:Nat) (s0 base1):evC (Q1 lf) (d+1) σ yh 129 [pS s0,pI base1] [] s=Am9 lf s0 base1 (λr0 r1=>some (.tup [pI r0,pB r1],[],s)):=
 (evE (fn:=Tryz.f129) (by kernel_rfl)).trans (Eq.trans (by kernel_rfl) (A03 lf (evC (Q1 lf) d) yh s (cd [1,1,0,1,0,0,1,1,0,0,1,1,0,1,0,1] Bi) (PO lf (evC (Q1 lf) d) yh s) (cd [1,1,0,1,0,0,1,1,0,0,1,1,1] Bi) (PP lf (evC (Q1 lf) d) yh s) s0 base1))
noncomputable def Al6 (lf:Nat):Cfg:=C6 lf [128] (A5 []) [(127,NQ),(129,NP)] (A5 [(7,[2,0]),(2,[2,0]),(4,[2,0]),(6,[2,0]),(5,[0,14]),(3,[0,6]),(1,[0,3]),(0,[0])]) [127,129] (A5 [(0,[0])]) (some [2,0]) [] [] []
noncomputable def num {R:Type} (lf:Nat) (s0:By) (k0:Int->Bool->Option R):Option R:=cond (s0==[]) (k0 0 false) (cond (A3 s0.length) (cond (Y3 s0) (cond (N7 2 (s0.length:Int) s0.length) (vl (cut s0 2 (s0.length:Int)) λs'0=>cond (A3 s'0.length) (cond (ltN 16 17) (vl (↑(Ju (E4 16 0 s'0)):Int) λn'1=>k0 n'1 (Option.isSome (E4 16 0 s'0))) none) none) none) (cond (ltI 1 (s0.length:Int)) (cond (inR 0 s0.length) (cond ((bAt s0 (0:Int))==48) (cond (N7 1 (s0.length:Int) s0.length) (vl (cut s0 1 (s0.length:Int)) λs'2=>cond (A3 s'2.length) (cond (ltN 8 17) (vl (↑(Ju (E4 8 0 s'2)):Int) λn'3=>k0 n'3 (Option.isSome (E4 8 0 s'2))) none) none) none) (cond (A3 s0.length) (cond (ltN 10 17) (vl (↑(Ju (E4 10 0 s0)):Int) λn'4=>k0 n'4 (Option.isSome (E4 10 0 s0))) none) none)) none) (cond (A3 s0.length) (cond (ltN 10 17) (vl (↑(Ju (E4 10 0 s0)):Int) λn'5=>k0 n'5 (Option.isSome (E4 10 0 s0))) none) none))) none)
theorem Bh8 (d:Nat) (s0):evC (Al6 lf) (d+1) σ yh 128 [pS s0] [] s=num lf s0 (λr0 r1=>some (.tup [pI r0,pB r1],[],s)):=by
 refine (evE (fn:=Tryz.f128) (by kernel_rfl)).trans ?_
 generalize evC (Al6 lf) d=cl
 unfold num;kernel_rfl
noncomputable def FL (lf:Nat):Cfg:=C6 lf [126] (A5 []) [(117,IO)] (A5 [(5,[2]),(4,[3]),(3,[3,0,13]),(2,[3,0]),(1,[3]),(0,[0])]) [] (A5 []) (some [2]) [] [] []
noncomputable def parts {R:Type} (lf:Nat) (s0:By) (k0:LL->Option R):Option R:=cond (A3 s0.length) (cond (1==1) (vl (H6 (pcs (List.getD ([46]:List UInt8) 0 0) s0)) λl'1=>vl (A1 ((l'1.length:Int)-1)) λn'3=>cond (ltI 0 n'3) (cond (inR n'3 l'1.length) (cond (okE Dx l'1 (Int.toNat n'3) 0) (vl (gX l'1 (Int.toNat n'3) 0) λs'4=>cond (s'4==[]) (cond (N7 0 n'3 l'1.length) (k0 (cut l'1 0 n'3)) none) (k0 l'1)) none) none) (k0 l'1)) none) none
theorem Ar4 (d:Nat) (s0):evC (FL lf) (d+1) σ yh 126 [pS s0] [] s=parts lf s0 (λr0=>some (.s (.sl false false 1 r0),[],s)):=by
 refine (evE (fn:=Tryz.f126) (by kernel_rfl)).trans ?_
 generalize evC (FL lf) d=cl
 unfold parts;kernel_rfl
noncomputable def Rd (lf:Nat):Cfg:=C6 lf [93] (A5 []) [(126,VW),(127,NQ),(128,Bd4),(129,NP)] (A5 [(7,[2]),(6,[4,3]),(5,[2]),(4,[6]),(3,[4,13]),(2,[4]),(1,[3]),(0,[0])]) [127,128,129] (A5 []) (some [2]) [] [] []
noncomputable def Un {R:Type} (lf:Nat) (s0:By) (k0:Bool->Option R):Option R:=cond (A3 s0.length) (vl (A1 ((↑(List.length (H6 (E2 s0))):Int)-1)) λn'2=>cond (inR n'2 (List.length (H6 (E2 s0)))) (cond (okE Dx (H6 (E2 s0)) (Int.toNat n'2) 0) (vl (gX (H6 (E2 s0)) (Int.toNat n'2) 0) λs'3=>cond (A3 s'3.length) (cond (Y3 s'3) (cond (A3 s'3.length) (vl (↑(Ju (Z7 s'3)):Int) λn'5=>k0 (Option.isSome (Z7 s'3))) none) (cond (A3 s'3.length) (cond (ltN 10 17) (vl (↑(Ju (E4 10 0 s'3)):Int) λn'6=>cond (Option.isSome (E4 10 0 s'3)) (k0 (not (s'3==[]))) (k0 false)) none) none)) none) none) none) none
theorem RP (d:Nat) (s0):evC (Rd lf) (d+1) σ yh 93 [pS s0] [] s=Un lf s0 (λr0=>some (pB r0,[],s)):=by
 refine (evE (fn:=Tryz.f93) (by kernel_rfl)).trans ?_
 generalize evC (Rd lf) d=cl
 unfold Un;kernel_rfl
noncomputable abbrev AK:Code:=E1 Tryz.f101
noncomputable def Ab (lf:Nat):Cfg:=C6 lf [101] (A5 [(2,[0,1,0])]) [] (A5 [(6,[2]),(3,[0,2]),(5,[2]),(4,[0,2,15]),(2,[0,2,3]),(1,[0,2]),(0,[0])]) [] (A5 [(0,[0]),(1,[0,2])]) (some [2]) [] [] []
noncomputable def V9 {R:Type} (lf n:Nat) (s0:By) (i1:Int) (k0:Unit->Option R) (k1:By->Option R):Option R:=match n with | 0=>none | n+1=>cond (ltI i1 (s0.length:Int)) (cond (inR i1 s0.length) (cond (ltI (bAt s0 i1) (48:Int)) (k0 ()) (cond (inR i1 s0.length) (cond (ltI 57 (bAt s0 i1)) (k0 ()) (V9 lf n s0 (A1 (i1+1)) k0 k1)) none)) none) (k1 s0)
theorem Zt (n s0 i1):D6 0 ((Ab lf).keep 2) (bd (Ab lf) cl yh (cd [1,0,1,0,0] AK)) n ⟨gp [(0,pS s0),(2,pI i1)] 18,[],s⟩ k =
 V9 lf n s0 i1 (λ_=>k .ret ⟨gp [(2,pB false)] 19,[],s⟩) (λs0=>k (.exit 0) ⟨gp [(0,pS s0)] 21,[],s⟩):=by
 induction n generalizing s0 i1 with
 | zero=>rfl
 | succ n ih=>rw [V9];simp only [<-ih];kernel_rfl
noncomputable def Uq {R:Type} (lf:Nat) (s0:By) (k0:Bool->Option R):Option R:=V9 lf lf s0 0 (λ_=>k0 false) (λs'0=>k0 (not (s'0==[])))
theorem TA (d:Nat) (s0):evC (Ab lf) (d+1) σ yh 101 [pS s0] [] s=Uq lf s0 (λr0=>some (pB r0,[],s)):=by
 refine (evE (fn:=Tryz.f101) (by kernel_rfl)).trans ?_
 generalize evC (Ab lf) d=cl
 unfold Uq;exact (Eq.trans (by kernel_rfl) ((Zt lf cl yh s (G3 0 (G9 (Ab lf) cl yh (cd [1,1] AK) (I8 (Ab lf) Tryz.f101))) lf s0 0).trans (by kernel_rfl)))
noncomputable abbrev IX:Code:=E1 Tryz.f53
noncomputable def Cx (lf:Nat):Cfg:=C6 lf [53] (A5 [(4,[0,0,2,0,0,0])]) [] (A5 [(9,[4]),(5,[0,0,3,0,0]),(8,[0,0,3,0,0]),(7,[0,0,3,1]),(6,[0,0,3,0,0,16]),(4,[0,0,3,0,0,3]),(3,[0,0,3,0,0]),(2,[0,0,3,0]),(1,[0,0,3]),(0,[0,0])]) [] (A5 [(0,[5]),(1,[0,0,3,0,0])]) (some [4]) [] [] []
noncomputable def P8 {R:Type} (lf n:Nat) (s0:By) (at1 from2 i3:Int) (l4:LL) (k0:LL->Option R):Option R:=match n with | 0=>none | n+1=>cond (not (ltI (s0.length:Int) i3)) (cond (i3==(s0.length:Int)) (cond (N7 from2 i3 s0.length) (cond (D9 (l4.length+1)) (P8 lf n s0 at1 (A1 (i3+1)) (A1 (i3+1)) (l4++[[(SV.str (cut s0 from2 i3))]]) k0) none) none) (cond (inR i3 s0.length) (cond ((bAt s0 i3)==at1) (cond (N7 from2 i3 s0.length) (cond (D9 (l4.length+1)) (P8 lf n s0 at1 (A1 (i3+1)) (A1 (i3+1)) (l4++[[(SV.str (cut s0 from2 i3))]]) k0) none) none) (P8 lf n s0 at1 from2 (A1 (i3+1)) l4 k0)) none)) (k0 l4)
theorem HP (n s0 at1 from2 i3 l4):D6 1 ((Cx lf).keep 4) (bd (Cx lf) cl yh (cd [1,1,1,0,1,0,0] IX)) n ⟨gp [(0,pS s0),(0,p8 at1),(3,.fl 0),(0,pI from2),(0,pI i3)] 27,[.arr true 9 1 l4],s⟩ k =
 P8 lf n s0 at1 from2 i3 l4 (λl0=>k (.exit 0) ⟨gp [(5,.fl 0)] 29,[.arr true 9 1 l0],s⟩):=by
 induction n generalizing s0 at1 from2 i3 l4 with
 | zero=>rfl
 | succ n ih=>rw [P8];simp only [<-ih];kernel_rfl
noncomputable def Yt {R:Type} (lf:Nat) (s0:By) (at1:Int) (k0:LL->Option R):Option R:=P8 lf lf s0 at1 0 0 [] (λl'0=>k0 l'0)
theorem Af3 (d:Nat) (s0 at1):evC (Cx lf) (d+1) σ yh 53 [pS s0,p8 at1] [] s=Yt lf s0 at1 (λl0=>some (.fl 0,[.arr true 9 1 l0],s)):=by
 refine (evE (fn:=Tryz.f53) (by kernel_rfl)).trans ?_
 generalize evC (Cx lf) d=cl
 unfold Yt;exact (Eq.trans (by kernel_rfl) ((HP lf cl yh s (G3 0 (G9 (Cx lf) cl yh (cd [1,1,1,1] IX) (I8 (Cx lf) Tryz.f53))) lf s0 at1 0 0 []).trans (by kernel_rfl)))
noncomputable abbrev Mg:Code:=E1 Tryz.f145
noncomputable def Ey (lf:Nat):Cfg:=C6 lf [145] (A5 []) [] (A5 [(7,[2]),(2,[2]),(4,[2]),(6,[2]),(5,[0,23]),(3,[0,12]),(1,[0,2]),(0,[0])]) [] (A5 [(0,[])]) (some [2]) [] [] []
noncomputable def Pd {R:Type} (b0:Int) (b1:Bool) (k0:Int->Option R) (k1:Int->Bool->Option R):Option R:=cond b1 (vl (A1 (wu8 (b0-97))) λn'1=>vl (A1 (n'1+10)) λn'2=>k0 n'2) (cond (not (ltI b0 65)) (cond (not (ltI 70 b0)) (vl (A1 (wu8 (b0-65))) λn'3=>vl (A1 (n'3+10)) λn'4=>k0 n'4) (k1 b0 (not (ltI 70 b0)))) (k1 b0 false))
abbrev BS (b:Code):Prop:=∀ (k:Out->St σ->Option R) b0 b1,B2 (Ey lf) cl yh b ⟨gp [(0,p8 b0),(12,pB b1)] 21,[],s⟩ k=Pd b0 b1 (λn0=>k .ret ⟨gp [(2,pI n0)] 32,[],s⟩) (λb0 b1=>k .normal ⟨gp [(0,p8 b0),(23,pB b1)] 10,[],s⟩)
theorem SX:BS (R:=R) lf cl yh s (cd [1,0,0,1,1,1] Mg):=by
 intro k b0 b1;unfold Pd;kernel_rfl
noncomputable def Pe {R:Type} (b0:Int) (b1:Bool) (k0:Int->Option R) (k1:Int->Bool->Option R):Option R:=cond b1 (vl (A1 (wu8 (b0-48))) λn'0=>k0 n'0) (cond (not (ltI b0 97)) (Pd b0 (not (ltI 102 b0)) (λn'5=>k0 n'5) (λb'6 b'7=>k1 b'6 b'7)) (Pd b0 false (λn'8=>k0 n'8) (λb'9 b'10=>k1 b'9 b'10)))
abbrev Sf (b:Code):Prop:=∀ (k:Out->St σ->Option R) b0 b1,B2 (Ey lf) cl yh b ⟨gp [(0,p8 b0),(2,pB b1)] 31,[],s⟩ k=Pe b0 b1 (λn0=>k .ret ⟨gp [(2,pI n0)] 32,[],s⟩) (λb0 b1=>k .normal ⟨gp [(0,p8 b0),(23,pB b1)] 10,[],s⟩)
theorem SY (b_100111:Code) (h_rdig_j0:BS (R:=R) lf cl yh s b_100111):Sf (R:=R) lf cl yh s (cd [1,0,0,1] (P5 [1,0,0,1,1,1] b_100111 Mg)):=by
 intro k b0 b1;unfold Pe;simp only [<-h_rdig_j0 k];kernel_rfl
theorem SZ:Sf (R:=R) lf cl yh s (cd [1,0,0,1] Mg):=by
 intro k b0 b1;exact Eq.trans (by kernel_rfl) (SY lf cl yh s (cd [1,0,0,1,1,1] Mg) (SX lf cl yh s) k b0 b1)
noncomputable def As5 {R:Type} (lf:Nat) (b0:Int) (k0:Int->Option R):Option R:=cond (not (ltI b0 48)) (Pe b0 (not (ltI 57 b0)) (λn'11=>k0 n'11) (λb'12 b'13=>k0 99)) (Pe b0 false (λn'14=>k0 n'14) (λb'15 b'16=>k0 99))
theorem A78 (b_1001:Code) (h_rdig_j1:Sf (R:=PV × List Blk × σ) lf cl yh s b_1001) (b0:Int):B2 (Ey lf) cl yh (cd [] (P5 [1,0,0,1] b_1001 Mg)) ⟨[p8 b0]++tps 34,[],s⟩ (I8 (Ey lf) Tryz.f145)=As5 lf b0 (λr0=>some (pI r0,[],s)):=by
 unfold As5;exact let K0:=(G3 0 (G9 (Ey lf) cl yh (cd [1,1] Mg) (I8 (Ey lf) Tryz.f145)));(Eq.trans (by kernel_rfl) (A0 ((h_rdig_j1 K0 b0 (not (ltI 57 b0))).trans (by kernel_rfl)) ((h_rdig_j1 K0 b0 false).trans (by kernel_rfl))))
theorem A79 (d:Nat) (b0):evC (Ey lf) (d+1) σ yh 145 [p8 b0] [] s=As5 lf b0 (λr0=>some (pI r0,[],s)):=
 (evE (fn:=Tryz.f145) (by kernel_rfl)).trans (Eq.trans (by kernel_rfl) (A78 lf (evC (Ey lf) d) yh s (cd [1,0,0,1] Mg) (SZ lf (evC (Ey lf) d) yh s) b0))
noncomputable abbrev Aa:Code:=E1 Tryz.f102
noncomputable def L6 (lf:Nat):Cfg:=C6 lf [102] (A5 [(10,[0,1,0,0,0,0])]) [(145,Aj0)] (A5 [(16,[2,0]),(11,[0,3,0,0]),(15,[0,3,0,0]),(14,[2,0]),(13,[0,3,0,0,0,44]),(12,[0,3,0,0,0]),(10,[0,3,0,0,36]),(9,[0,3,0,0]),(8,[0,3,0]),(5,[0,3]),(7,[0,3]),(6,[0,3,32]),(4,[0,3,22]),(3,[0,3]),(2,[2,0]),(1,[0,8]),(0,[0])]) [145] (A5 [(0,[5]),(1,[0,3,0,0])]) (some [2,0]) [] [] []
noncomputable def Uu {R:Type} (s0:By) (k0:By->Option R):Option R:=cond (N7 2 (s0.length:Int) s0.length) (vl (cut s0 2 (s0.length:Int)) λs'0=>k0 s'0) none
abbrev BX (b:Code):Prop:=∀ (k:Out->St σ->Option R) s0,B2 (L6 lf) cl yh b ⟨gp [(0,pS s0),(3,pI (10:Int)),(22,pB true)] 32,[],s⟩ k=Uu s0 (λs0=>k .normal ⟨gp [(0,pS s0),(3,pI (16:Int))] 55,[],s⟩)
theorem TR:BX (R:=R) lf cl yh s (cd [1,1,1,0,1] Aa):=by
 intro k s0;unfold Uu;kernel_rfl
noncomputable def En {R:Type} (lf n:Nat) (s0:By) (n1 i2:Int) (k0:Unit->Option R) (k1:Int->Option R):Option R:=match n with | 0=>none | n+1=>cond (ltI i2 (s0.length:Int)) (cond (inR i2 s0.length) (cond (inR (bAt s0 i2) 256) (vl (↑(dig (u8n (bAt s0 i2))):Int) λn'3=>cond (not (ltI n'3 16)) (k0 ()) (vl (A1 ((A1 (n1*16))+n'3)) λn'4=>vl (if ((1099511627776:Int)<n'4) then (1099511627776:Int) else n'4) λn'5=>En lf n s0 n'5 (A1 (i2+1)) k0 k1)) none) none) (k1 n1)
theorem TW (n s0 n1 i2):D6 0 ((L6 lf).keep 10) (bd (L6 lf) cl yh (cd [1,1,1,1,1,0,1,0,0] Aa)) n ⟨gp [(0,pS s0),(3,pI (16:Int)),(0,pI n1),(0,pI i2)] 53,[],s⟩ k =
 En lf n s0 n1 i2 (λ_=>k .ret ⟨gp [(2,pI (0:Int)),(0,pB false)] 56,[],s⟩) (λn0=>k (.exit 0) ⟨gp [(5,pI n0)] 54,[],s⟩):=by
 induction n generalizing s0 n1 i2 with
 | zero=>rfl
 | succ n ih=>rw [En];simp only [<-ih];kernel_rfl
noncomputable def Uv {R:Type} (lf:Nat) (s0:By) (k0:Int->Bool->Option R):Option R:=En lf lf s0 0 0 (λ_=>k0 0 false) (λn'6=>k0 n'6 true)
abbrev BY (b:Code):Prop:=∀ (k:Out->St σ->Option R) s0,B2 (L6 lf) cl yh b ⟨gp [(0,pS s0),(3,pI (16:Int))] 55,[],s⟩ k=Uv lf s0 (λn0 b1=>k .ret ⟨gp [(2,pI n0),(0,pB b1)] 56,[],s⟩)
theorem TS:BY (R:=R) lf cl yh s (cd [1,1,1,1] Aa):=by
 intro k s0;unfold Uv;exact (Eq.trans (by kernel_rfl) ((TW lf cl yh s (G3 0 (G9 (L6 lf) cl yh (cd [1,1,1,1,1,1] Aa) k)) lf s0 0 0).trans (by kernel_rfl)))
noncomputable def Le {R:Type} (s0:By) (b1:Bool) (k0:By->Int->Option R) (k1:By->Bool->Option R):Option R:=cond b1 (cond (N7 2 (s0.length:Int) s0.length) (vl (cut s0 2 (s0.length:Int)) λs'9=>k0 s'9 16) none) (cond (not (ltI (s0.length:Int) (2:Int))) (cond (inR 0 s0.length) (cond ((bAt s0 (0:Int))==48) (cond (N7 1 (s0.length:Int) s0.length) (vl (cut s0 1 (s0.length:Int)) λs'10=>k0 s'10 8) none) (k1 s0 ((bAt s0 (0:Int))==48))) none) (k1 s0 false))
abbrev BZ (b:Code):Prop:=∀ (k:Out->St σ->Option R) s0 b1,B2 (L6 lf) cl yh b ⟨gp [(0,pS s0),(3,pI (10:Int)),(22,pB b1)] 32,[],s⟩ k=Le s0 b1 (λs0 base1=>k .normal ⟨gp [(0,pS s0),(3,pI base1)] 55,[],s⟩) (λs0 b1=>k .normal ⟨gp [(0,pS s0),(3,pI (10:Int)),(32,pB b1)] 22,[],s⟩)
theorem TT:BZ (R:=R) lf cl yh s (cd [1,1,1,0,1] Aa):=by
 intro k s0 b1;unfold Le;kernel_rfl
noncomputable def Cg {R:Type} (lf n:Nat) (s0:By) (base1 n2 i3:Int) (k0:Unit->Option R) (k1:Int->Option R):Option R:=match n with | 0=>none | n+1=>cond (ltI i3 (s0.length:Int)) (cond (inR i3 s0.length) (cond (inR (bAt s0 i3) 256) (vl (↑(dig (u8n (bAt s0 i3))):Int) λn'16=>cond (not (ltI n'16 base1)) (k0 ()) (vl (A1 ((A1 (n2*base1))+n'16)) λn'17=>vl (if ((1099511627776:Int)<n'17) then (1099511627776:Int) else n'17) λn'18=>Cg lf n s0 base1 n'18 (A1 (i3+1)) k0 k1)) none) none) (k1 n2)
theorem Yr (n s0 base1 n2 i3):D6 0 ((L6 lf).keep 10) (bd (L6 lf) cl yh (cd [1,1,1,1,1,0,1,0,0] Aa)) n ⟨gp [(0,pS s0),(3,pI base1),(0,pI n2),(0,pI i3)] 53,[],s⟩ k =
 Cg lf n s0 base1 n2 i3 (λ_=>k .ret ⟨gp [(2,pI (0:Int)),(0,pB false)] 56,[],s⟩) (λn0=>k (.exit 0) ⟨gp [(5,pI n0)] 54,[],s⟩):=by
 induction n generalizing s0 base1 n2 i3 with
 | zero=>rfl
 | succ n ih=>rw [Cg];simp only [<-ih];kernel_rfl
noncomputable def Lf {R:Type} (lf:Nat) (s0:By) (base1:Int) (k0:Int->Bool->Option R):Option R:=Cg lf lf s0 base1 0 0 (λ_=>k0 0 false) (λn'19=>k0 n'19 true)
abbrev CA (b:Code):Prop:=∀ (k:Out->St σ->Option R) s0 base1,B2 (L6 lf) cl yh b ⟨gp [(0,pS s0),(3,pI base1)] 55,[],s⟩ k=Lf lf s0 base1 (λn0 b1=>k .ret ⟨gp [(2,pI n0),(0,pB b1)] 56,[],s⟩)
theorem TU:CA (R:=R) lf cl yh s (cd [1,1,1,1] Aa):=by
 intro k s0 base1;unfold Lf;exact (Eq.trans (by kernel_rfl) ((Yr lf cl yh s (G3 0 (G9 (L6 lf) cl yh (cd [1,1,1,1,1,1] Aa) k)) lf s0 base1 0 0).trans (by kernel_rfl)))
noncomputable def Lg {R:Type} (lf:Nat) (s0:By) (k0:Int->Bool->Option R):Option R:=Cg lf lf s0 10 0 0 (λ_=>k0 0 false) (λn'22=>k0 n'22 true)
abbrev CB (b:Code):Prop:=∀ (k:Out->St σ->Option R) s0 b1,B2 (L6 lf) cl yh b ⟨gp [(0,pS s0),(3,pI (10:Int)),(32,pB b1)] 22,[],s⟩ k=Lg lf s0 (λn0 b1=>k .ret ⟨gp [(2,pI n0),(0,pB b1)] 56,[],s⟩)
theorem TV:CB (R:=R) lf cl yh s (cd [1,1,1,1] Aa):=by
 intro k s0 b1;unfold Lg;exact (Eq.trans (by kernel_rfl) ((Yr lf cl yh s (G3 0 (G9 (L6 lf) cl yh (cd [1,1,1,1,1,1] Aa) k)) lf s0 10 0 0).trans (by kernel_rfl)))
noncomputable def At3 {R:Type} (lf:Nat) (s0:By) (k0:Int->Bool->Option R):Option R:=cond (s0==[]) (k0 0 false) (cond (not (ltI (s0.length:Int) (2:Int))) (cond (inR 0 s0.length) (cond ((bAt s0 (0:Int))==48) (cond (inR 1 s0.length) (cond ((bAt s0 (1:Int))==120) (Uu s0 (λs'1=>Uv lf s'1 (λn'7 b'8=>k0 n'7 b'8))) (cond (inR 1 s0.length) (Le s0 ((bAt s0 (1:Int))==88) (λs'11 base'12=>Lf lf s'11 base'12 (λn'20 b'21=>k0 n'20 b'21)) (λs'13 b'14=>Lg lf s'13 (λn'23 b'24=>k0 n'23 b'24))) none)) none) (Le s0 false (λs'25 base'26=>Lf lf s'25 base'26 (λn'29 b'30=>k0 n'29 b'30)) (λs'27 b'28=>Lg lf s'27 (λn'31 b'32=>k0 n'31 b'32)))) none) (Le s0 false (λs'33 base'34=>Lf lf s'33 base'34 (λn'37 b'38=>k0 n'37 b'38)) (λs'35 b'36=>Lg lf s'35 (λn'39 b'40=>k0 n'39 b'40))))
theorem A86 (b_11101:Code) (h_rnum_j0:BX (R:=PV × List Blk × σ) lf cl yh s b_11101) (h_rnum_j2:BZ (R:=PV × List Blk × σ) lf cl yh s b_11101) (b_1111:Code) (h_rnum_j1:BY (R:=PV × List Blk × σ) lf cl yh s b_1111) (h_rnum_j3:CA (R:=PV × List Blk × σ) lf cl yh s b_1111) (h_rnum_j4:CB (R:=PV × List Blk × σ) lf cl yh s b_1111) (s0:By):B2 (L6 lf) cl yh (cd [] (P5 [1,1,1,1] b_1111 (P5 [1,1,1,0,1] b_11101 Aa))) ⟨[pS s0]++tps 59,[],s⟩ (I8 (L6 lf) Tryz.f102)=At3 lf s0 (λr0 r1=>some (.tup [pI r0,pB r1],[],s)):=by
 unfold At3;exact let K0:=(I8 (L6 lf) Tryz.f102);let K1:=(G9 (L6 lf) cl yh b_1111 K0);(Eq.trans (by kernel_rfl) (A0 rfl (A0 (A0 (A0 (A0 (A0 ((h_rnum_j0 K1 s0).trans (congr rfl (fx1 λs'1=>(Eq.trans (by kernel_rfl) ((h_rnum_j1 K0 s'1).trans (by kernel_rfl)))))) (A0 ((h_rnum_j2 K1 s0 ((bAt s0 (1:Int))==88)).trans (congr (congr rfl (fx2 λs'11 base'12=>(Eq.trans (by kernel_rfl) ((h_rnum_j3 K0 s'11 base'12).trans (by kernel_rfl))))) (fx2 λs'13 b'14=>(Eq.trans (by kernel_rfl) ((h_rnum_j4 K0 s'13 b'14).trans (by kernel_rfl)))))) rfl)) rfl) ((h_rnum_j2 K1 s0 false).trans (congr (congr rfl (fx2 λs'25 base'26=>(Eq.trans (by kernel_rfl) ((h_rnum_j3 K0 s'25 base'26).trans (by kernel_rfl))))) (fx2 λs'27 b'28=>(Eq.trans (by kernel_rfl) ((h_rnum_j4 K0 s'27 b'28).trans (by kernel_rfl))))))) rfl) ((h_rnum_j2 K1 s0 false).trans (congr (congr rfl (fx2 λs'33 base'34=>(Eq.trans (by kernel_rfl) ((h_rnum_j3 K0 s'33 base'34).trans (by kernel_rfl))))) (fx2 λs'35 b'36=>(Eq.trans (by kernel_rfl) ((h_rnum_j4 K0 s'35 b'36).trans (by kernel_rfl)))))))))
theorem A87 (d:Nat) (s0):evC (L6 lf) (d+1) σ yh 102 [pS s0] [] s=At3 lf s0 (λr0 r1=>some (.tup [pI r0,pB r1],[],s)):=
 (evE (fn:=Tryz.f102) (by kernel_rfl)).trans (Eq.trans (by kernel_rfl) (A86 lf (evC (L6 lf) d) yh s (cd [1,1,1,0,1] Aa) (TR lf (evC (L6 lf) d) yh s) (TT lf (evC (L6 lf) d) yh s) (cd [1,1,1,1] Aa) (TS lf (evC (L6 lf) d) yh s) (TU lf (evC (L6 lf) d) yh s) (TV lf (evC (L6 lf) d) yh s) s0))
noncomputable def Wk (lf:Nat):Cfg:=C6 lf [100] (A5 []) [(53,Nk)] (A5 [(4,[2]),(3,[3]),(2,[3,13]),(1,[3]),(0,[0])]) [] (A5 []) (some [2]) [] [] []
noncomputable def HL {R:Type} (lf:Nat) (s0:By) (k0:LL->Option R):Option R:=cond (A3 s0.length) (vl (H6 (pcs (u8n (46:Int)) s0)) λl'1=>cond (ltI 1 (l'1.length:Int)) (vl (A1 ((l'1.length:Int)-1)) λn'2=>cond (inR n'2 l'1.length) (cond (okE Dx l'1 (Int.toNat n'2) 0) (vl (gX l'1 (Int.toNat n'2) 0) λs'3=>cond (s'3==[]) (vl (A1 ((l'1.length:Int)-1)) λn'4=>cond (N7 0 n'4 l'1.length) (k0 (cut l'1 0 n'4)) none) (k0 l'1)) none) none) (k0 l'1)) none
theorem Ae7 (d:Nat) (s0):evC (Wk lf) (d+1) σ yh 100 [pS s0] [] s=HL lf s0 (λr0=>some (.s (.sl false false 1 r0),[],s)):=by
 refine (evE (fn:=Tryz.f100) (by kernel_rfl)).trans ?_
 generalize evC (Wk lf) d=cl
 unfold HL;kernel_rfl
noncomputable def Ms (lf:Nat):Cfg:=C6 lf [68] (A5 []) [(100,IN),(101,AD),(102,Aj3)] (A5 [(6,[2]),(5,[4,1]),(4,[2]),(3,[4,11]),(2,[4]),(1,[3]),(0,[0])]) [101,102] (A5 []) (some [2]) [] [] []
noncomputable def Pi {R:Type} (lf:Nat) (s0:By) (k0:Bool->Option R):Option R:=cond (A3 s0.length) (vl (A1 ((↑(List.length (H6 (E2 s0))):Int)-1)) λn'2=>cond (inR n'2 (List.length (H6 (E2 s0)))) (cond (okE Dx (H6 (E2 s0)) (Int.toNat n'2) 0) (vl (gX (H6 (E2 s0)) (Int.toNat n'2) 0) λs'3=>cond (A3 s'3.length) (cond ((not (List.isEmpty s'3))&&(Option.isSome (E4 10 0 s'3))) (k0 true) (cond (A3 s'3.length) (vl (↑(Ju (Z7 s'3)):Int) λn'5=>cond (Option.isSome (Z7 s'3)) (cond (not (ltI (s'3.length:Int) (2:Int))) (cond (inR 1 s'3.length) (cond ((bAt s'3 (1:Int))==120) (k0 true) (cond (inR 1 s'3.length) (k0 ((bAt s'3 (1:Int))==88)) none)) none) (k0 false)) (k0 false)) none)) none) none) none) none
theorem LZ (d:Nat) (s0):evC (Ms lf) (d+1) σ yh 68 [pS s0] [] s=Pi lf s0 (λr0=>some (pB r0,[],s)):=by
 refine (evE (fn:=Tryz.f68) (by kernel_rfl)).trans ?_
 generalize evC (Ms lf) d=cl
 unfold Pi;kernel_rfl
noncomputable def Jy {R:Type} (lf n:Nat) (p0:LL) (v1 i2:Int) (k0:Unit->Option R) (k1:Int->Option R):Option R:=match n with | 0=>none | n+1=>cond (ltI i2 (p0.length:Int)) (cond (inR i2 p0.length) (cond (okE Dx p0 (Int.toNat i2) 0) (cond (A3 (List.length (gX p0 (Int.toNat i2) 0))) (vl (↑(Ju (Z7 (gX p0 (Int.toNat i2) 0))):Int) λn'1=>cond (not (Option.isSome (Z7 (gX p0 (Int.toNat i2) 0)))) (k0 ()) (vl (A1 ((p0.length:Int)-1)) λn'7=>cond (i2==n'7) (vl (A1 ((5:Int)-(p0.length:Int))) λn'8=>cond (decide ((0:Int)<=(A1 ((8:Int)*n'8)))) (vl (US .i64 (1:Int) (A1 ((8:Int)*n'8))) λn'9=>cond (not (ltI n'1 n'9)) (k0 ()) (Jy lf n p0 (A1 (v1+n'1)) (A1 (i2+1)) k0 k1)) none) (cond (ltI 255 n'1) (k0 ()) (vl (A1 ((24:Int)-(A1 ((8:Int)*i2)))) λn'10=>cond (decide ((0:Int)<=n'10)) (vl (A1 (v1+(US .i64 n'1 n'10))) λn'11=>Jy lf n p0 n'11 (A1 (i2+1)) k0 k1) none)))) none) none) none) (k1 v1)
noncomputable def Rf (lf:Nat):Cfg:=C6 lf [117] (A5 []) [(158,Qh)] (A5 [(1,[4]),(0,[0,0])]) [] (A5 []) (some [4]) [] [] []
noncomputable def Uw {R:Type} (lf:Nat) (s0 sep1:By) (k0:Nat->LL->Option R):Option R:=cond (A3 s0.length) (cond (sep1.length==1) (cond ((0:Int)==0) (cond (((-1):Int)==((-1):Int)) (vl (H6 (pcs (List.getD sep1 0 0) s0)) λl'0=>k0 (List.length (pcs (List.getD sep1 0 0) s0)) l'0) none) none) none) none
theorem UX (d:Nat) (s0 sep1):evC (Rf lf) (d+1) σ yh 117 [pS s0,pS sep1] [] s=Uw lf s0 sep1 (λr_m0 l1=>some (.vw 0 0 r_m0,[.arr false 9 1 l1],s)):=by
 refine (evE (fn:=Tryz.f117) (by kernel_rfl)).trans ?_
 generalize evC (Rf lf) d=cl
 unfold Uw;kernel_rfl
end
end
section
open Go
theorem Kn (b:UInt8):(48<=b.toNat/\b.toNat<=57/\dig b=b.toNat-48)\/(97<=b.toNat/\b.toNat<=102/\dig b=b.toNat-87)\/(65<=b.toNat/\b.toNat<=70/\dig b=b.toNat-55)\/(¬(48<=b.toNat/\b.toNat<=57)/\¬(97<=b.toNat/\b.toNat<=102)/\¬(65<=b.toNat/\b.toNat<=70)/\dig b=99):=by
 unfold dig
 split
 ·rename_i h;exact .inl ⟨h.1,h.2,rfl⟩
 ·split
  ·rename_i h;exact .inr (.inl ⟨h.1,h.2,rfl⟩)
  ·split
   ·rename_i h;exact .inr (.inr (.inl ⟨h.1,h.2,rfl⟩))
   ·exact .inr (.inr (.inr ⟨by assumption,by assumption,by assumption,rfl⟩))
theorem Au0 (m:Nat):(if (1099511627776:Int)<(m:Int) then (1099511627776:Int) else (m:Int))=((min m Fh:Nat):Int):=by
 unfold Fh
 split<;>omega
theorem JL {base:Nat}:∀ {s:By} {n v:Nat},n<=Fh->E4 base n s=some v->v<=Fh
 | [],n,v,h,e=>by simp only [E4,Option.some.injEq] at e;omega
 | b::r,n,v,h,e=>by
  simp only [E4] at e
  split at e
  ·exact JL (by omega) e
  ·cases e
theorem A59 {s:By} {v:Nat} (h:Z7 s=some v):v<=Fh:=by
 unfold Z7 at h
 repeat' split at h
 all_goals first | (cases h;done) | exact JL (by unfold Fh;omega) h
theorem Be3 (a m:Nat) (h:a*2 ^ m<9223372036854775808) (hm:m<=64):US .i64 (a:Int) (m:Int)=((a*2 ^ m:Nat):Int):=by
 unfold US
 rw [Int.toNat_natCast,show IntKind.bits .i64=64 from rfl,Nat.min_eq_left hm]
 have:(a:Int)*2 ^ m=((a*2 ^ m:Nat):Int):=by simp
 rw [this]
 exact A4
theorem Jv {c:UInt8} {s:By} (h:c∉s):pcs c s=[s]:=by
 unfold pcs;rw [Cj c s [] h];rfl
theorem Up {c:UInt8} {p r:By} (h:c∉p):pcs c (p++c::r)=p::pcs c r:=by
 unfold pcs;rw [Tw c p [] r h];rfl
theorem Cc (c:UInt8) (s:By):(pcs c s).length=s.count c+1:=Er c s []
theorem Yd (c:UInt8) (s:By):pcs c s≠[]:=UU c s []
theorem La {c:UInt8} {s x:By} (h:x∈pcs c s):c∉x/\x.length<=s.length:=by
 have:=Kb c s [] (by simp) x h
 simpa using this
theorem Fu (c:UInt8) (s:By):s.count c<=s.length:=List.count_le_length
theorem Es (c:UInt8):∀ s:By,c∉s\/∃ p r,s=p++c::r/\c∉p
 | []=>.inl (by simp)
 | b::s=>by
  by_cases h:b=c
  ·subst h;exact .inr ⟨[],s,rfl,by simp⟩
  ·rcases Es c s with h1 | ⟨p,r,rfl,h2⟩
   ·exact .inl (by simp [h1,Ne.symm h])
   ·exact .inr ⟨b::p,r,rfl,by simp [h2,Ne.symm h]⟩
theorem Mu {c:UInt8} {s:By} (h:c∉s):Lib.index s [c] = -1:=by
 rcases Lib.index_spec s [c] with h1 | ⟨i,h1,h2,h3,h4⟩
 ·exact h1.1
 ·exfalso
  simp only [Lib.occAt,List.isPrefixOf_iff_prefix] at h3
  obtain ⟨t,ht⟩:=h3
  have:c∈s.drop i:=by rw [<-ht];simp
  exact h (List.mem_of_mem_drop this)
theorem Ru {c:UInt8} {p r:By} (h:c∉p):Lib.index (p++c::r) [c]=(p.length:Int):=by
 rcases Lib.index_spec (p++c::r) [c] with h1 | ⟨i,h1,h2,h3,h4⟩
 ·exfalso
  have:=h1.2 p.length (by simp)
  simp [Lib.occAt] at this
 ·rw [h1]
  have hi:¬ p.length<i:=by
   intro hlt
   have:=h4 p.length hlt
   simp [Lib.occAt] at this
  have hi2:¬ i<p.length:=by
   intro hlt
   simp only [Lib.occAt,List.isPrefixOf_iff_prefix] at h3
   obtain ⟨t,ht⟩:=h3
   have h5:(p++c::r).drop i=p.drop i++c::r:=by rw [List.drop_append_of_le_length (by omega)]
   rw [h5] at ht
   cases hd:p.drop i with
   | nil=>have:=List.length_drop (i:=i) (l:=p);rw [hd] at this;simp at this;omega
   | cons x y=>
    rw [hd] at ht
    simp at ht
    have:x∈p:=List.mem_of_mem_drop (i:=i) (by rw [hd];simp)
    rw [<-ht.1] at this
    exact h this
  omega
theorem Ac4 (s:By):E2 s≠[]:=by
 unfold E2
 split
 ·rename_i h
  intro e
  have:=congrArg List.length e
  simp at this
  omega
 ·exact Yd _ _
theorem Yc {s x:By} (h:x∈E2 s):x.length<=s.length:=by
 unfold E2 at h
 split at h
 ·exact (La ((List.dropLast_sublist _).subset h)).2
 ·exact (La h).2
theorem Mz (s:By):1<=(E2 s).length/\(E2 s).length<=s.length+1:=by
 have h1:=List.length_pos_iff.2 (Ac4 s)
 have h2:=Cc 46 s
 have h3:=Fu 46 s
 refine ⟨h1,?_⟩
 unfold E2
 split
 ·rw [List.length_dropLast];omega
 ·omega
theorem Sa (s:By):(E2 s).getD ((E2 s).length-1) []=Bp s:=by
 unfold Bp
 rw [List.getLastD_eq_getLast?,List.getLast?_eq_getElem?,List.getD_eq_getElem?_getD]
theorem BE (s:By):Bp s∈E2 s:=by
 have h:=(Mz s).1
 rw [<-Sa,List.getD_eq_getElem?_getD,List.getElem?_eq_getElem (by omega)]
 exact List.getElem_mem _
theorem Fb {base:Nat}:∀ {s:By} {n i:Nat},i<s.length->base<=dig (s.getD i 0)->E4 base n s=none
 | [],n,i,h,_=>by simp at h
 | b::r,n,0,h,h2=>by
  simp only [List.getD_cons_zero] at h2
  simp only [E4]
  rw [H7]
 | b::r,n,i+1,h,h2=>by
  simp only [List.getD_cons_succ] at h2
  simp only [E4]
  split
  ·exact Fb (i:=i) (by simpa using h) h2
  ·rfl
theorem Rx (s:By):Y3 s=true↔s.getD 0 0=48/\(s.getD 1 0=120\/s.getD 1 0=88):=by
 simp [Y3]
theorem Kq {s:By} (h:Y3 s=true):2<=s.length:=by
 rw [Rx] at h
 match s with
 | []=>simp at h
 | [a]=>simp at h
 | a::b::r=>simp
theorem Ar2 (l:By):(if Y3 l then (E4 16 0 (l.drop 2)).isSome else !l.isEmpty&&(E4 10 0 l).isSome) =
  (if (!l.isEmpty&&(E4 10 0 l).isSome)=true then true else (if (Z7 l).isSome=true then decide (2<=l.length)&&(l.getD 1 0==120 || l.getD 1 0==88) else false)):=by
 by_cases hx:Y3 l=true
 ·have hl:=Kq hx
  have h1:=(Rx l).1 hx
  have hd:E4 10 0 l=none:=Fb (i:=1) (by omega) (by rcases h1.2 with h | h<;>rw [h]<;>decide)
  have hn:Z7 l=E4 16 0 (l.drop 2):=by
   unfold Z7
   rw [if_neg (by intro e;rw [e] at hl;simp at hl),if_pos hx]
  rw [if_pos hx,hd,hn]
  have h2:(l.getD 1 0==120 || l.getD 1 0==88)=true:=by simpa using h1.2
  rw [h2]
  simp [hl]
 ·rw [if_neg hx]
  cases hc:(!l.isEmpty&&(E4 10 0 l).isSome) with
  | true=>rfl
  | false=>
   rw [if_neg (by simp)]
   cases hn:Z7 l with
   | none=>rfl
   | some v=>
    rw [show (some v).isSome=true from rfl,if_pos rfl]
    symm
    rw [Bool.and_eq_false_iff]
    by_cases h2:2<=l.length
    ·right
     apply Classical.byContradiction
     intro hxx
     have hxx:l.getD 1 0=120\/l.getD 1 0=88:=by
      cases hq:(l.getD 1 0==120 || l.getD 1 0==88) with
      | false=>exact absurd hq hxx
      | true=>simpa using hq
     have h0:¬ l.getD 0 0=48:=λh=>hx ((Rx l).2 ⟨h,hxx⟩)
     have hd:E4 10 0 l=none:=Fb (i:=1) (by omega) (by rcases hxx with h | h<;>rw [h]<;>decide)
     unfold Z7 at hn
     rw [if_neg (by intro e;rw [e] at h2;simp at h2),if_neg hx,if_neg (by intro h;exact h0 h.2),hd] at hn
     cases hn
    ·left;simpa using h2
end
section
open Go Go.Proofs
theorem Ab2 {R:Type} {k0:Bool->Option R} (s p:By) (h0:A3 s.length=true):A46 LF s p k0=k0 (p.isPrefixOf s):=by
 have:=M7 h0
 unfold A46
 rw [Ij]
 by_cases h:p.length<=s.length
 ·simp_all
 ·simp (disch:=omega) [h]
theorem ZN {R:Type} {k0:Bool->Option R} (s p:By) (h0:A3 s.length=true):JX LF s p k0=k0 (p.isPrefixOf s):=by
 unfold JX;rw [h0];rfl
theorem Ab3 {R:Type} {k0:Bool->Option R} (s p:By) (h0:A3 s.length=true):A48 LF s p k0=k0 (p.isSuffixOf s):=by
 have:=M7 h0
 unfold A48
 rw [Ik]
 by_cases h:p.length<=s.length
 ·have e:((s.length:Int)-(p.length:Int)).toNat=s.length-p.length:=by omega
  simp (disch:=omega) [h,e]
 ·simp (disch:=omega) [h]
theorem RF {R:Type} {k0:By->Option R} (s p:By) (h0:A3 s.length=true):XM LF s p k0=k0 (Ag5 s p):=by
 have:=M7 h0
 unfold XM Ag5
 rw [h0]
 cases h:p.isSuffixOf s with
 | false=>simp
 | true=>
  have:p.length<=s.length:=by rw [Ik] at h;simp at h;exact h.1
  have e:((s.length:Int)-(p.length:Int)).toNat=s.length-p.length:=by omega
  simp (disch:=omega) [e]
theorem UZ {R:Type} {k0:By->Option R} (s p:By) (h0:A3 s.length=true):YH LF s p k0=k0 (Ag5 s p):=by
 unfold YH;rw [h0];rfl
theorem QQ {R:Type} {k0:By->Bool->Option R} (s p:By) (h0:A3 s.length=true):XF LF s p k0=k0 (Wr s p) (p.isPrefixOf s):=by
 have:=M7 h0
 unfold XF Wr
 rw [h0]
 cases h:p.isPrefixOf s with
 | false=>simp
 | true=>
  have:p.length<=s.length:=by rw [Ij] at h;simp at h;exact h.1
  simp_all
theorem YV {R:Type} {k0:By->Bool->Option R} (s p:By) (h0:A3 s.length=true):Az7 LF s p k0=k0 (Wr s p) (p.isPrefixOf s):=by
 unfold Az7;rw [h0];rfl
theorem MT {R:Type} {k0:LL->Option R} (s p:By) (h0:A3 s.length=true) (h1:(p.length==1)=true):HT LF s p k0=k0 (H6 (pcs (p.getD 0 0) s)):=by
 unfold HT;rw [h0,h1];rfl
theorem Aa8 {R:Type} {k0:LL->Option R} (s:By) (hs:s.length<=1000000000):∀ (r i n:Nat),i+r=s.length->r<n->Ca LF n s (s.length:Int) (i:Int) ((E8 (s.take i)).map D4) k0=k0 ((E8 s).map D4):=by
 intro r
 induction r with
 | zero=>
  intro i n hi hn
  obtain ⟨n,rfl⟩:∃ m,n=m+1:=⟨n-1,by omega⟩
  rw [Ca]
  rw [A8,List.take_of_length_le (by omega)]
  rfl
 | succ r ih=>
  intro i n hi hn
  obtain ⟨n,rfl⟩:∃ m,n=m+1:=⟨n-1,by omega⟩
  rw [Ca]
  have hl:(E8 (s.take i)).length=i:=by simp [E8];omega
  have ih:=ih (i+1) n (by omega) (by omega)
  rw [QZ s i (by omega)] at ih
  rw [I2]
  have hb:=(s.getD i 0).toNat_lt
  generalize s.getD i 0=b at *
  have hn1:((i:Int)+1)=((i+1:Nat):Int):=by omega
  simp (disch:=omega) only [B9,I6,cond_true,vl,List.length_map,hl,D3,E3]
  rw [hn1]
  rcases Hk b with ⟨h1,e⟩ | ⟨h1,e⟩ | ⟨h1,h2,e⟩
  ·simp (disch:=omega) only [B9,Bool.not_true,cond_false]
   rw [e] at ih;exact ih
  ·simp (disch:=omega) only [C9,B9,Bool.not_true,Bool.not_false,cond_false,cond_true]
   rw [e] at ih;exact ih
  ·have e2:wu8 ((b.toNat:Int)+32)=((Fd b).toNat:Int):=by
    rw [R8];omega
   simp (disch:=omega) only [C9,Bool.not_false,cond_true,e2]
   exact ih
theorem Aa9 {R:Type} {k0:By->LL->Option R} (s:By) (h0:A3 s.length=true):A43 LF s k0=k0 (E8 s) ((E8 s).map D4):=by
 have hs:=M7 h0
 have:=D7
 unfold A43
 simp (disch:=omega) only [Int.toNat_natCast,D3,Bool.and_true]
 rw [show (decide ((0:Int)<=(s.length:Int)))=true by simp]
 have:=Aa8 (k0:=λl'1=>cond (List.all l'1 Uc) (k0 (List.map Rj l'1) l'1) none) s hs s.length 0 LF (by omega) (by omega)
 simp only [List.take_zero,E8,List.map_nil] at this
 rw [cond_true]
 refine Eq.trans this ?_
 rw [show (List.map Fd s).map D4=(E8 s).map D4 from rfl,Fq,Gc]
 rfl
theorem ZL {R:Type} {k0:Bool->Option R} (s:By) (h0:A3 s.length=true):A18 LF s k0=k0 (Y3 s):=by
 unfold A18
 have key:Y3 s=(([48,120]:By).isPrefixOf s || ([48,88]:By).isPrefixOf s):=by
  match s with
  | []=>rfl
  | [a]=>simp [Y3,List.isPrefixOf]
  | a::b::r=>
   simp only [Y3,List.isPrefixOf,List.getD_cons_zero,List.getD_cons_succ,Bool.and_true]
   rw [BEq.comm (a:=(48:UInt8)),BEq.comm (a:=(120:UInt8)),BEq.comm (a:=(88:UInt8))]
   cases (a==48)<;>simp
 grind
theorem YZ {R:Type} {k0:Unit->Option R} {k1:Int->Option R} (s:By) (hs:s.length<=1000000000) (base:Nat) (hb:base<=16):∀ (r i acc n:Nat),i+r=s.length->r<n->acc<=Fh->
  Ec LF n s (base:Int) (acc:Int) (s.length:Int) (i:Int) k0 k1=match E4 base acc (s.drop i) with | some v=>k1 (v:Int) | none=>k0 ():=by
 intro r
 induction r with
 | zero=>
  intro i acc n hi hn ha
  obtain ⟨n,rfl⟩:∃ m,n=m+1:=⟨n-1,by omega⟩
  rw [Ec]
  rw [A8,List.drop_of_length_le (by omega)]
  rfl
 | succ r ih=>
  intro i acc n hi hn ha
  obtain ⟨n,rfl⟩:∃ m,n=m+1:=⟨n-1,by omega⟩
  rw [Ec,J1 s i (by omega)]
  rw [I2]
  have hbt:=(s.getD i 0).toNat_lt
  generalize s.getD i 0=b at *
  have hn1:((i:Int)+1)=((i+1:Nat):Int):=by omega
  have hsat:Fh=1099511627776:=rfl
  have step:∀ d:Nat,d<base->(acc*base+d<100000000000000/\A1 (A1 ((acc:Int)*(base:Int))+(d:Int))=((acc*base+d:Nat):Int)):=by
   intro d hd
   have h1:acc*base<=1099511627776*16:=Nat.mul_le_mul (by omega) (by omega)
   refine ⟨by omega,?_⟩
   have e1:A1 ((acc*base:Nat):Int)=((acc*base:Nat):Int):=A4
   rw [<-Int.natCast_mul,e1,A4]
   rfl
  simp (disch:=omega) only [B9,I6,cond_true,vl,E3,Ny,Nx,Nw]
  rw [hn1]
  simp only [E4]
  rcases Kn b with ⟨h1,h2,e⟩ | ⟨h1,h2,e⟩ | ⟨h1,h2,e⟩ | ⟨h1,h2,h3,e⟩
  ·have e2:wu8 ((b.toNat:Int)-48)=((dig b:Nat):Int):=by rw [R8];omega
   simp (disch:=omega) only [B9,C9,Bool.not_true,Bool.not_false,cond_false,cond_true,e2,E3]
   by_cases hd:dig b<base
   ·rw [if_pos hd,A9,(step _ hd).2,Au0]
    exact ih (i+1) _ n (by omega) (by omega) (by omega)
   ·rw [if_neg hd,A8];rfl
  ·have e2:wu8 ((b.toNat:Int)-97)+10=((dig b:Nat):Int):=by rw [R8];omega
   have e3:wu8 ((b.toNat:Int)-97)=((b.toNat:Int)-97):=R8
   rw [e3] at e2
   simp (disch:=omega) only [B9,C9,Bool.not_true,Bool.not_false,cond_false,cond_true,e3,E3,e2]
   by_cases hd:dig b<base
   ·rw [if_pos hd,A9,(step _ hd).2,Au0]
    exact ih (i+1) _ n (by omega) (by omega) (by omega)
   ·rw [if_neg hd,A8];rfl
  ·have e2:wu8 ((b.toNat:Int)-65)+10=((dig b:Nat):Int):=by rw [R8];omega
   have e3:wu8 ((b.toNat:Int)-65)=((b.toNat:Int)-65):=R8
   rw [e3] at e2
   simp (disch:=omega) only [B9,C9,Bool.not_true,Bool.not_false,cond_false,cond_true,e3,E3,e2]
   by_cases hd:dig b<base
   ·rw [if_pos hd,A9,(step _ hd).2,Au0]
    exact ih (i+1) _ n (by omega) (by omega) (by omega)
   ·rw [if_neg hd,A8];rfl
  ·rw [if_neg (show ¬ dig b<base by omega)]
   by_cases c1:b.toNat<48
   ·simp (disch:=omega) only [B9,C9,Bool.not_true,Bool.not_false,cond_false,cond_true]
   ·by_cases c2:b.toNat<65
    ·simp (disch:=omega) only [B9,C9,Bool.not_true,Bool.not_false,cond_false,cond_true]
    ·by_cases c3:b.toNat<97
     ·simp (disch:=omega) only [B9,C9,Bool.not_true,Bool.not_false,cond_false,cond_true]
     ·simp (disch:=omega) only [B9,C9,Bool.not_true,Bool.not_false,cond_false,cond_true]
theorem ZA {R:Type} {k0:Int->Bool->Option R} (s:By) (base:Int) (h0:A3 s.length=true) (h1:ltN base 17=true):Am9 LF s base k0=k0 (Ju (E4 base.toNat 0 s):Int) (E4 base.toNat 0 s).isSome:=by
 have hs:=M7 h0
 have:=D7
 obtain ⟨hb0,hb1⟩:=M0.1 h1
 obtain ⟨bn,rfl⟩:=Int.eq_ofNat_of_zero_le hb0
 unfold Am9
 have:=YZ (k0:=λ_=>k0 0 false) (k1:=λn=>k0 n true) s hs bn (by omega) s.length 0 0 LF (by omega) (by omega) (by unfold Fh;omega)
 refine Eq.trans this ?_
 rw [List.drop_zero,Int.toNat_natCast]
 cases E4 bn 0 s<;>rfl
theorem Ar1 {R:Type} {k0:Int->Bool->Option R} (s:By) (h0:A3 s.length=true):num LF s k0=k0 (Ju (Z7 s):Int) (Z7 s).isSome:=by
 have hs:=M7 h0
 unfold num Z7
 rw [h0]
 by_cases h1:s=[]
 ·subst h1;rfl
 have h1':(s==([]:By))=false:=by simpa using h1
 have hl:0<s.length:=List.length_pos_iff.2 h1
 rw [if_neg h1,h1']
 simp only [cond_true,cond_false,vl]
 cases hx:Y3 s with
 | true=>
  have:=Kq hx
  simp (disch:=first | omega | (simp;omega)) only [cond_true,if_true,R6,N3,K2,XL]
  rfl
 | false=>
  simp only [cond_false,Bool.false_eq_true,if_false]
  have hd:(E4 10 0 s)=E4 10 0 s:=rfl
  by_cases h2:1<s.length
  ·simp (disch:=omega) only [B9,I6,cond_true,Iw,h2,true_and]
   have e:=U3 (s.getD 0 0) 48 (by omega)
   rw [show ((48:Nat):Int)=48 from rfl] at e
   rw [e]
   by_cases h3:s.getD 0 0=48
   ·rw [if_pos h3,h3,show ((48:UInt8)==UInt8.ofNat 48)=true from rfl]
    simp (disch:=first | omega | (simp;omega)) only [R6,N3,K2,XL,cond_true]
    rfl
   ·rw [if_neg h3,show (s.getD 0 0==UInt8.ofNat 48)=false from beq_eq_false_iff_ne.2 h3]
    rfl
  ·rw [A8,H7]
   rfl
theorem GM {R:Type} {k0:Bool->Option R} (s:By) (h0:A3 s.length=true):Un LF s k0=k0 (O0 s):=by
 have hs:=M7 h0
 have hp:=Mz s
 have hm:=Yc (BE s)
 have hg:=Sa s
 have e1:((E2 s).length:Int)-1=(((E2 s).length-1:Nat):Int):=by omega
 unfold Un O0
 rw [h0]
 simp (disch:=omega) only [cond_true,vl,L4,e1,E3,I6,Int.toNat_natCast,Bd,Ef,hg,K2]
 cases hx:Y3 (Bp s) with
 | true=>
  have:=Kq hx
  have hn:Z7 (Bp s)=E4 16 0 ((Bp s).drop 2):=by
   unfold Z7
   grind
  simp [hn]
 | false=>
  simp only [cond_false,Bool.false_eq_true,if_false]
  cases E4 10 0 (Bp s) with
  | none=>simp
  | some v=>cases Bp s<;>rfl
theorem Zu {R:Type} {k0:Bool->Option R} (s:By) (h0:A3 s.length=true):Pi LF s k0=k0 (O0 s):=by
 have hs:=M7 h0
 have hp:=Mz s
 have hm:=Yc (BE s)
 have hg:=Sa s
 have e1:((E2 s).length:Int)-1=(((E2 s).length-1:Nat):Int):=by omega
 unfold Pi O0
 rw [h0,Ar2]
 simp (disch:=omega) only [cond_true,vl,L4,e1,E3,I6,Int.toNat_natCast,Bd,Ef,hg,K2]
 generalize Bp s=l at *
 cases (!l.isEmpty&&(E4 10 0 l).isSome) with
 | true=>rfl
 | false=>
  simp only [cond_false,Bool.false_eq_true,if_false]
  cases Z7 l with
  | none=>rfl
  | some v=>
   simp only [Option.isSome_some,cond_true,if_true,WI]
   by_cases h2:2<=l.length
   ·simp (disch:=omega) only [C9,I6,Bool.not_false,cond_true,h2,decide_true,Bool.true_and]
    have ea:=U3 (l.getD 1 0) 120 (by omega)
    have eb:=U3 (l.getD 1 0) 88 (by omega)
    grind
   ·rw [A9]
    simp [h2]
theorem Bn2 (s:By) (a b:Nat) (h:a<=b) (hb:b<s.length):cut s (a:Int) ((b+1:Nat):Int)=cut s (a:Int) (b:Int)++[s.getD b 0]:=by
 rw [Nv,Nv,CL s b hb,List.drop_append_of_le_length (by rw [List.length_take];omega)]
theorem Am6 (s:By) (a:Nat):cut s (a:Int) (a:Int)=[]:=by
 rw [Nv]
 grind
theorem MJ {R:Type} {k0:LL->Option R} (s:By) (hs:s.length<=1000000000) (c:UInt8):∀ (r i fr n:Nat) (l:List By),i+r=s.length->r+1<n->fr<=i->l.length<=i->
  P8 LF n s (c.toNat:Int) (fr:Int) (i:Int) (H6 l) k0=k0 (H6 (l++G6 c (cut s (fr:Int) (i:Int)) (s.drop i))):=by
 intro r
 induction r with
 | zero=>
  intro i fr n l hi hn hf hl
  obtain ⟨n,rfl⟩:∃ m,n=m+1:=⟨n-1,by omega⟩
  obtain ⟨n,rfl⟩:∃ m,n=m+1:=⟨n-1,by omega⟩
  have hi':i=s.length:=by omega
  subst hi'
  rw [P8]
  simp (disch:=omega) only [C9,Bool.not_false,cond_true,beq_self_eq_true,R6,L4,D3,E3]
  rw [P8]
  rw [A9,List.drop_length]
  simp only [Bool.not_true,cond_false,G6,Zd]
  rfl
 | succ r ih=>
  intro i fr n l hi hn hf hl
  obtain ⟨n,rfl⟩:∃ m,n=m+1:=⟨n-1,by omega⟩
  rw [P8]
  have hn1:((i:Int)+1)=((i+1:Nat):Int):=by omega
  have hne:((i:Int)==(s.length:Int))=false:=by rw [beq_eq_false_iff_ne];omega
  simp (disch:=omega) only [C9,Bool.not_false,cond_true,cond_false,hne,I6,I2,Be5,R6,L4,D3,E3]
  rw [hn1,J1 s i (by omega)]
  simp only [G6]
  by_cases h:s.getD i 0=c
  ·rw [show (s.getD i 0==c)=true by simpa using h,if_pos h,cond_true]
   have:=ih (i+1) (i+1) n (l++[cut s (fr:Int) (i:Int)]) (by omega) (by omega) (by omega) (by simp<;>omega)
   rw [Zd] at this
   refine Eq.trans this ?_
   rw [Am6]
   simp
  ·rw [show (s.getD i 0==c)=false from beq_eq_false_iff_ne.2 h,if_neg h,cond_false]
   rw [ih (i+1) fr n l (by omega) (by omega) (by omega) (by omega),Bn2 s fr i hf (by omega)]
theorem UM {R:Type} {k0:LL->Option R} (s:By) (c:Int) (h0:A3 s.length=true) (h1:inR c 256=true):Yt LF s c k0=k0 (H6 (pcs (u8n c) s)):=by
 have hs:=M7 h0
 have:=D7
 simp only [inR,Bool.and_eq_true,decide_eq_true_eq] at h1
 have hc:c=((u8n c).toNat:Int):=by
  unfold u8n
  simp
  omega
 unfold Yt
 generalize u8n c=b at *
 subst hc
 have:=MJ (k0:=k0) s hs b s.length 0 0 LF [] (by omega) (by omega) (by omega) (by simp)
 refine Eq.trans this ?_
 rw [Am6]
 rfl
theorem MV (c:UInt8) (s:By):(H6 (pcs c s)).isEmpty=false:=by
 cases h:pcs c s with
 | nil=>exact absurd h (Yd c s)
 | cons a r=>rfl
theorem MK (s:By) (c:Int) (h0:A3 s.length=true) (h1:inR c 256=true):∃ r H,Yt LF s c (λl=>rv (.fl 0) [.arr true 9 1 l])=rv r H/\r.stab [1] H = .s (.sl false false 1 (H6 (pcs (u8n c) s))):=by
 refine ⟨_,_,UM s c h0 h1,?_⟩
 simp [PV.stab,Ro,PV.snap,MV]
theorem Au1 (d:List By) (x:By) (m:Nat):List.set (H6 (d++List.replicate (m+1) [])) d.length (F1 (List.getD (H6 (d++List.replicate (m+1) [])) d.length []) 0 [SV.str x])=H6 ((d++[x])++List.replicate m []):=by
 have hg:List.getD (H6 (d++List.replicate (m+1) [])) d.length []=[SV.str []]:=by
  unfold H6
  grind
 rw [hg]
 simp only [F1,List.set_cons_zero,Zd]
 rw [show d.length=(H6 d).length by simp,List.set_append_right _ _ (by omega),Nat.sub_self,List.replicate_succ]
 simp [H6]
theorem JV {R:Type} {k0:By->Int->LL->Option R} (c:UInt8):∀ (m n:Nat) (s:By) (d:List By),s.length<=1000000000->m=s.count c->d.length+m<=1000000000->m<n->
  ∃ (d':List By) (s':By),pcs c s=d'++[s']/\s'.length<=s.length/\W7 LF n s [c] 0 ((d.length+m:Nat):Int) (d.length:Int) (H6 (d++List.replicate (m+1) [])) k0=k0 s' ((d.length+m:Nat):Int) (H6 ((d++d')++[[]])):=by
 intro m
 induction m with
 | zero=>
  intro n s d hs hm hd hn
  obtain ⟨n,rfl⟩:∃ m,n=m+1:=⟨n-1,by omega⟩
  have hc:c∉s:=List.count_eq_zero.1 hm.symm
  refine ⟨[],s,Jv hc,Nat.le_refl _,?_⟩
  rw [W7]
  rw [A8]
  simp
 | succ m ih=>
  intro n s d hs hm hd hn
  obtain ⟨n,rfl⟩:∃ m,n=m+1:=⟨n-1,by omega⟩
  rcases Es c s with hc | ⟨p,r,rfl,hc⟩
  ·rw [List.count_eq_zero.2 hc] at hm;omega
  ·have hm':m=r.count c:=by
    rw [List.count_append,List.count_cons,List.count_eq_zero.2 hc] at hm
    simp at hm
    omega
   simp only [List.length_append,List.length_cons] at hs
   obtain ⟨d',s',h1,h2,h3⟩:=ih n r (d++[p]) (by omega) hm' (by simp<;>omega) (by omega)
   refine ⟨p::d',s',by rw [Up hc,h1];rfl,by simp<;>omega,?_⟩
   rw [W7]
   have e1:((p.length:Int)+1)=((p.length+1:Nat):Int):=by omega
   have e2:(d.length:Int)+1=((d.length+1:Nat):Int):=by omega
   have e3:((p.length+1:Nat):Int).toNat=p.length+1:=by omega
   have e4:(((p++c::r).length:Nat):Int)=((p.length+(r.length+1):Nat):Int):=by simp
   have e5:(p++c::r).take p.length=p:=List.take_left' rfl
   have e6:(p++c::r).drop (p.length+1)=r:=by
    rw [show p++c::r=(p++[c])++r by simp,List.drop_left' (by simp)]
   rw [Ru hc]
   have el:(H6 (d++List.replicate (m+1+1) [])).length=d.length+(m+2):=by simp<;>omega
   simp (disch:=first | omega | (simp;omega)) only [B9,C9,K2,cond_true,cond_false,vl,Int.add_zero,E3,R6,I6,el,Int.toNat_natCast,List.length_singleton,N3,Y0,e5,Au1]
   rw [decide_eq_true (show d.length<d.length+(m+2) by omega),cond_true,show ((1:Nat):Int)=1 from rfl,e1]
   simp (disch:=first | omega | (simp;omega)) only [E3,R6,cond_true,N3,e3,e6,e2]
   have h3':((((d++[p]).length+m:Nat):Int))=((d.length+(m+1):Nat):Int):=by simp<;>omega
   have h4':(((d++[p]).length:Nat):Int)=((d.length+1:Nat):Int):=by simp
   rw [h3',h4'] at h3
   rw [h3]
   simp
theorem Xe {R:Type} {k0:Unit->Option R} {k1:Nat->LL->Option R} (s p:By) (v n:Int) (h0:A3 s.length=true) (h1:(p.length==1)=true) (h2:(v==0)=true) (h3:(n==(-1))=true) :
  Xd LF s p v n k0 k1=k1 (pcs (p.getD 0 0) s).length (H6 (pcs (p.getD 0 0) s)):=by
 have hs:=M7 h0
 have:=D7
 obtain ⟨c,rfl⟩:∃ c,p=[c]:=by
  match p,h1 with
  | [c],_=>exact ⟨c,rfl⟩
 have:v=0:=by simpa using h2
 subst this
 have:n = -1:=by simpa using h3
 subst this
 have hc:=Fu c s
 have hpl:=Cc c s
 obtain ⟨d',s',g1,g2,g3⟩:=JV (R:=R) (k0:=λs'14 i'15 l'16=>cond (inR i'15 (List.length l'16))
     (cond (decide ((Int.toNat i'15)<(List.length l'16)))
      (vl (A1 (i'15+(1))) λn'17=>
      cond (N7 (0) n'17 (List.length (List.set l'16 (Int.toNat i'15) (F1 (List.getD l'16 (Int.toNat i'15) []) 0 [(SV.str s'14)]))))
       (k1 ((Int.toNat n'17)-0) (List.set l'16 (Int.toNat i'15) (F1 (List.getD l'16 (Int.toNat i'15) []) 0 [(SV.str s'14)])))
       (none))
      (none))
     (none)) c (s.count c) LF s [] hs rfl (by simp<;>omega) (by omega)
 unfold Xd
 have e1:A1 ((s.count c:Int)+1)=((s.count c+1:Nat):Int):=A4
 have e2:A1 ((s.length:Int)+1)=((s.length+1:Nat):Int):=A4
 have e3:(if ((s.length+1:Nat):Int)<((s.count c+1:Nat):Int) then ((s.length+1:Nat):Int) else ((s.count c+1:Nat):Int))=((s.count c+1:Nat):Int):=H7
 have e4:((s.count c+1:Nat):Int)-1=(s.count c:Int):=by omega
 have e5:(List.replicate (s.count c+1) [SV.str ([]:By)])=H6 ([]++List.replicate (s.count c+1) []):=by simp [H6]
 simp only [List.getD_cons_zero,vl,List.length_singleton,e1,e2,e3,Int.toNat_natCast,e5]
 rw [show ((-1:Int)==0)=false from rfl,show ([c]==([]:By))=false from rfl,show ltI (-1) 0=true from rfl,decide_eq_true (show (0:Int)<=((s.count c+1:Nat):Int) by omega),decide_eq_true (show ((s.count c+1:Nat):Int)<=((s.count c+1:Nat):Int) by omega),D3 (by omega),e4,A4]
 simp only [cond_true,cond_false,beq_self_eq_true,Bool.and_self]
 simp only [List.length_nil,Nat.zero_add] at g3
 refine Eq.trans g3 ?_
 have e6:(H6 ((([]:List By)++d')++[[]]))=H6 (d'++List.replicate (0+1) []):=by simp
 have hd:d'.length=s.count c:=by grind
 have e7:=Au1 d' s' 0
 rw [<-hd,e6]
 have el:(H6 (d'++List.replicate (0+1) ([]:By))).length=d'.length+1:=by simp
 have e8:A1 ((d'.length:Int)+1)=((d'.length+1:Nat):Int):=A4
 simp only [Int.toNat_natCast,e7,el,vl,e8]
 rw [J3,decide_eq_true (show d'.length<d'.length+1 by omega),R6 (by omega) (by omega) (by simp),g1]
 simp
theorem JW (s p:By) (v n:Int) (h0:A3 s.length=true) (h1:(p.length==1)=true) (h2:(v==0)=true) (h3:(n==(-1))=true) :
  ∃ r H,Xd LF s p v n (λ_=>rv (.fl 0) [.arr true 9 1 []]) (λi l=>rv (.vw 0 0 i) [.arr false 9 1 l])=rv r H/\r.stab [1] H = .s (.sl false false 1 (H6 (pcs (p.getD 0 0) s))):=by
 refine ⟨_,_,Xe s p v n h0 h1 h2 h3,?_⟩
 simp [PV.stab,Ro,PV.snap,List.take_of_length_le]
theorem HU {R:Type} {k0:Nat->LL->Option R} (s p:By) (h0:A3 s.length=true) (h1:(p.length==1)=true):Uw LF s p k0=k0 (pcs (p.getD 0 0) s).length (H6 (pcs (p.getD 0 0) s)):=by
 unfold Uw;rw [h0,h1];rfl
theorem Bo5 {l:List By} {i:Nat} (h:i<l.length):l.getD i []∈l:=by grind
theorem RW {R:Type} {k0:LL->Option R} (s:By) (h0:A3 s.length=true):parts LF s k0=k0 (H6 (E2 s)):=by
 have hs:=M7 h0
 have hpl:=Cc 46 s
 have hc:=Fu 46 s
 unfold parts
 rw [h0]
 have e1:A1 (((pcs 46 s).length:Int)-1)=(((pcs 46 s).length-1:Nat):Int):=by rw [A4];omega
 simp only [cond_true,vl,List.getD_cons_zero,show ((1:Nat)==1)=true from rfl,L4,e1,Int.toNat_natCast]
 by_cases h1:1<(pcs 46 s).length
 ·rw [A9,J3,Bd (by omega),Ef]
  have hg:(pcs 46 s).getD ((pcs 46 s).length-1) []=(pcs 46 s).getLastD []:=by grind
  rw [hg]
  by_cases h2:(pcs 46 s).getLastD []=[]
  ·rw [h2,show (([]:By)==[])=true from rfl,R5]
   have:E2 s=(pcs 46 s).dropLast:=by unfold E2;rw [if_pos ⟨h1,h2⟩]
   rw [this,List.dropLast_eq_take,Y0,Int.toNat_natCast]
   simp [H6]
  ·rw [show ((pcs 46 s).getLastD []==[])=false from beq_eq_false_iff_ne.2 h2]
   have:E2 s=pcs 46 s:=by unfold E2;rw [if_neg (λh=>h2 h.2)]
   grind
 ·rw [A8]
  have:E2 s=pcs 46 s:=by unfold E2;rw [if_neg (λh=>h1 h.1)]
  grind
theorem MA {R:Type} {k0:LL->Option R} (s:By) (h0:A3 s.length=true):HL LF s k0=k0 (H6 (E2 s)):=by
 have hs:=M7 h0
 have hpl:=Cc 46 s
 have hc:=Fu 46 s
 unfold HL
 rw [h0]
 have e1:A1 (((pcs 46 s).length:Int)-1)=(((pcs 46 s).length-1:Nat):Int):=by rw [A4];omega
 simp only [cond_true,vl,show u8n 46=46 from rfl,L4,e1,Int.toNat_natCast]
 by_cases h1:1<(pcs 46 s).length
 ·rw [A9,J3,Bd (by omega),Ef]
  have hg:(pcs 46 s).getD ((pcs 46 s).length-1) []=(pcs 46 s).getLastD []:=by grind
  rw [hg]
  by_cases h2:(pcs 46 s).getLastD []=[]
  ·rw [h2,show (([]:By)==[])=true from rfl,R5]
   have:E2 s=(pcs 46 s).dropLast:=by unfold E2;rw [if_pos ⟨h1,h2⟩]
   rw [this,List.dropLast_eq_take,Y0,Int.toNat_natCast]
   simp [H6]
  ·rw [show ((pcs 46 s).getLastD []==[])=false from beq_eq_false_iff_ne.2 h2]
   have:E2 s=pcs 46 s:=by unfold E2;rw [if_neg (λh=>h2 h.2)]
   grind
 ·rw [A8]
  have:E2 s=pcs 46 s:=by unfold E2;rw [if_neg (λh=>h1 h.1)]
  grind
theorem Ar8 (l:List By) (i:Nat) (h:i<l.length):l.drop i=l.getD i []::l.drop (i+1):=by simp_all
theorem Bi6 {R:Type} {k0:Unit->Option R} {k1:Int->Option R} (l:List By) (hm1:1<=l.length) (hm:l.length<=4) (hl:∀ x∈l,x.length<=1000000000):∀ (r i v n:Nat),i+r=l.length->0<r->r<n->v<256 ^ i->
  Jy LF n (H6 l) ((v*2 ^ (32-8*i):Nat):Int) (i:Int) k0 k1=match Bi3 (8*(5-l.length)) v (l.drop i) with | some w=>k1 (w:Int) | none=>k0 ():=by
 intro r
 induction r with
 | zero=>intro i v n _ h;omega
 | succ r ih=>
  intro i v n hi _ hn hv
  obtain ⟨n,rfl⟩:∃ m,n=m+1:=⟨n-1,by omega⟩
  rw [Jy,Ar8 l i (by omega)]
  have hx:=hl _ (Bo5 (show i<l.length by omega))
  have hsat:Fh=1099511627776:=rfl
  have hvb:v*2 ^ (32-8*i)<4294967296:=by
   have:i=0\/i=1\/i=2\/i=3:=by omega
   rcases this with rfl | rfl | rfl | rfl
   all_goals omega
  simp (disch:=omega) only [B9,L4,I6,cond_true,Int.toNat_natCast,Bd,Ef,K2,vl]
  simp only [Bi3]
  have hn1:((i:Int)+1)=((i+1:Nat):Int):=by omega
  cases hq:Z7 (l.getD i []) with
  | none=>rfl
  | some q=>
   have hql:=A59 hq
   have ep:A1 ((l.length:Int)-1)=((l.length-1:Nat):Int):=by rw [A4];omega
   simp only [Option.isSome_some,Bool.not_true,cond_false,Ju,Option.getD_some,ep]
   by_cases hr:r=0
   ·subst hr
    have hd:l.drop (i+1)=[]:=List.drop_of_length_le (by omega)
    have ef:A1 (8*A1 (5-(l.length:Int)))=((8*(5-l.length):Nat):Int):=by
     rw [E3 (n:=5-(l.length:Int)) (by omega) (by omega),A4];omega
    have hfp:2 ^ (8*(5-l.length))*256 ^ i=4294967296:=by
     have:l.length=1\/l.length=2\/l.length=3\/l.length=4:=by omega
     grind
    have hf1:1*2 ^ (8*(5-l.length))<=4294967296:=by
     rw [<-hfp,Nat.one_mul]
     exact Nat.le_mul_of_pos_right _ (Nat.pow_pos (by omega))
    have he:((i:Int)==((l.length-1:Nat):Int))=true:=by rw [beq_iff_eq];omega
    rw [hd,he,ef,decide_eq_true (show (0:Int)<=((8*(5-l.length):Nat):Int) by omega)]
    simp only [cond_true]
    have s1:=Be3 1 (8*(5-l.length)) (by omega) (by omega)
    rw [show ((1:Nat):Int)=1 from rfl] at s1
    rw [s1,Nat.one_mul]
    by_cases hc:q<2 ^ (8*(5-l.length))
    ·rw [A9,if_pos hc]
     simp only [Bool.not_true,cond_false]
     obtain ⟨n,rfl⟩:∃ m,n=m+1:=⟨n-1,by omega⟩
     rw [Jy]
     rw [hn1,E3 (n:=((i+1:Nat):Int)) (by omega) (by omega),L4,A8]
     have:32-8*i=8*(5-l.length):=by omega
     rw [this] at hvb ⊢
     rw [cond_false,A4]
     rfl
    ·rw [A8,if_neg hc];rfl
   ·obtain ⟨y,z,hyz⟩:∃ y z,l.drop (i+1)=y::z:=⟨_,_,Ar8 l (i+1) (by omega)⟩
    have he:((i:Int)==((l.length-1:Nat):Int))=false:=by rw [beq_eq_false_iff_ne];omega
    rw [hyz,he]
    simp only [cond_false]
    by_cases hc:q<=255
    ·have e1:A1 (24-A1 (8*(i:Int)))=((24-8*i:Nat):Int):=by
      rw [E3 (n:=8*(i:Int)) (by omega) (by omega),A4];omega
     have hqb:q*2 ^ (24-8*i)<4294967296:=by
      have:i=0\/i=1\/i=2:=by omega
      clear hvb
      rcases this with rfl | rfl | rfl
      ·show q*16777216<_;omega
      ·show q*65536<_;omega
      ·show q*256<_;omega
     have s2:=Be3 q (24-8*i) (by omega) (by omega)
     rw [A8,if_pos hc,e1,decide_eq_true (show (0:Int)<=((24-8*i:Nat):Int) by omega),s2,hn1,E3 (n:=((i+1:Nat):Int)) (by omega) (by omega)]
     have e2:A1 (((v*2 ^ (32-8*i):Nat):Int)+((q*2 ^ (24-8*i):Nat):Int))=(((v*256+q)*2 ^ (32-8*(i+1)):Nat):Int):=by
      rw [A4]
      have:i=0\/i=1\/i=2:=by omega
      clear hvb hqb s2 e1
      rcases this with rfl | rfl | rfl
      ·show ((v*4294967296:Nat):Int)+((q*16777216:Nat):Int)=(((v*256+q)*16777216:Nat):Int);omega
      ·show ((v*16777216:Nat):Int)+((q*65536:Nat):Int)=(((v*256+q)*65536:Nat):Int);omega
      ·show ((v*65536:Nat):Int)+((q*256:Nat):Int)=(((v*256+q)*256:Nat):Int);omega
     rw [e2,<-hyz]
     exact ih (i+1) _ n (by omega) (by omega) (by omega) (by rw [Nat.pow_succ];omega)
    ·rw [A9,if_neg hc];rfl
theorem GZ {R:Type} {k0:Unit->Option R} {k1:By->Option R} (s:By) (hs:s.length<=1000000000):∀ (r i n v:Nat),i+r=s.length->r<n->V9 LF n s (i:Int) k0 k1=if (E4 10 v (s.drop i)).isSome then k1 s else k0 ():=by
 intro r
 induction r with
 | zero=>
  intro i n v hi hn
  obtain ⟨n,rfl⟩:∃ m,n=m+1:=⟨n-1,by omega⟩
  rw [V9]
  rw [A8,List.drop_of_length_le (by omega)]
  rfl
 | succ r ih=>
  intro i n v hi hn
  obtain ⟨n,rfl⟩:∃ m,n=m+1:=⟨n-1,by omega⟩
  rw [V9,J1 s i (by omega)]
  rw [I2]
  have hbt:=(s.getD i 0).toNat_lt
  generalize s.getD i 0=b at *
  have hn1:((i:Int)+1)=((i+1:Nat):Int):=by omega
  simp (disch:=omega) only [B9,I6,cond_true,E3]
  simp only [E4]
  rw [hn1,ih (i+1) n (min (v*10+dig b) Fh) (by omega) (by omega)]
  rcases Kn b with ⟨h1,h2,e⟩ | ⟨h1,h2,e⟩ | ⟨h1,h2,e⟩ | ⟨h1,h2,h3,e⟩
  ·simp only [if_pos (show dig b<10 by omega)];rw [A8,A8];rfl
  ·simp only [if_neg (show ¬ dig b<10 by omega)];rw [A8,A9];rfl
  ·simp only [if_neg (show ¬ dig b<10 by omega)];rw [A8,A9];rfl
  ·simp only [if_neg (show ¬ dig b<10 by omega)]
   by_cases c:b.toNat<48
   ·rw [A9];rfl
   ·rw [A8,A9];rfl
theorem HA {R:Type} {k0:Bool->Option R} (s:By) (h0:A3 s.length=true):Uq LF s k0=k0 (!s.isEmpty&&(E4 10 0 s).isSome):=by
 have hs:=M7 h0
 have:=D7
 unfold Uq
 refine Eq.trans (GZ s hs s.length 0 LF 0 (by omega) (by omega)) ?_
 rw [List.drop_zero]
 cases hd:E4 10 0 s with
 | none=>simp
 | some v=>cases s<;>rfl
theorem Ad7 {R:Type} {k0:Int->Option R} (b:Int) (h0:inR b 256=true):As5 LF b k0=k0 (dig (u8n b):Int):=by
 simp only [inR,Bool.and_eq_true,decide_eq_true_eq] at h0
 have hc:b=((u8n b).toNat:Int):=by
  unfold u8n
  simp
  omega
 generalize u8n b=c at *
 subst hc
 have hbt:=c.toNat_lt
 unfold As5
 simp only [Pe,Pd,vl]
 rcases Kn c with ⟨h1,h2,e⟩ | ⟨h1,h2,e⟩ | ⟨h1,h2,e⟩ | ⟨h1,h2,h3,e⟩
 ·have e2:A1 (wu8 ((c.toNat:Int)-48))=((dig c:Nat):Int):=by
   rw [R8,A4];omega
  simp (disch:=omega) only [B9,C9,Bool.not_true,Bool.not_false,cond_false,cond_true,e2]
 ·have e2:A1 (A1 (wu8 ((c.toNat:Int)-97))+10)=((dig c:Nat):Int):=by
   rw [R8,E3 (n:=(c.toNat:Int)-97) (by omega) (by omega),A4];omega
  simp (disch:=omega) only [B9,C9,Bool.not_true,Bool.not_false,cond_false,cond_true,e2]
 ·have e2:A1 (A1 (wu8 ((c.toNat:Int)-65))+10)=((dig c:Nat):Int):=by
   rw [R8,E3 (n:=(c.toNat:Int)-65) (by omega) (by omega),A4];omega
  simp (disch:=omega) only [B9,C9,Bool.not_true,Bool.not_false,cond_false,cond_true,e2]
 ·rw [e]
  by_cases c1:c.toNat<48
  ·simp (disch:=omega) only [B9,C9,Bool.not_true,Bool.not_false,cond_false,cond_true]
   rfl
  ·by_cases c2:c.toNat<65
   ·simp (disch:=omega) only [B9,C9,Bool.not_true,Bool.not_false,cond_false,cond_true]
    rfl
   ·by_cases c3:c.toNat<97
    ·simp (disch:=omega) only [B9,C9,Bool.not_true,Bool.not_false,cond_false,cond_true]
     rfl
    ·simp (disch:=omega) only [B9,C9,Bool.not_true,Bool.not_false,cond_false,cond_true]
     rfl
theorem LY {R:Type} {k0:Unit->Option R} {k1:Int->Option R} (s:By) (hs:s.length<=1000000000):∀ (r i acc n:Nat),i+r=s.length->r<n->acc<=Fh->
  En LF n s (acc:Int) (i:Int) k0 k1=match E4 16 acc (s.drop i) with | some v=>k1 (v:Int) | none=>k0 ():=by
 intro r
 induction r with
 | zero=>
  intro i acc n hi hn ha
  obtain ⟨n,rfl⟩:∃ m,n=m+1:=⟨n-1,by omega⟩
  rw [En]
  rw [A8,List.drop_of_length_le (by omega)]
  rfl
 | succ r ih=>
  intro i acc n hi hn ha
  obtain ⟨n,rfl⟩:∃ m,n=m+1:=⟨n-1,by omega⟩
  rw [En,J1 s i (by omega)]
  rw [I2,Pz,VC]
  generalize s.getD i 0=b at *
  have hn1:((i:Int)+1)=((i+1:Nat):Int):=by omega
  have hsat:Fh=1099511627776:=rfl
  simp (disch:=omega) only [B9,I6,cond_true,vl,E3]
  simp only [E4]
  rw [hn1]
  by_cases hd:dig b<16
  ·have e1:A1 (A1 ((acc:Int)*16)+(dig b:Int))=((acc*16+dig b:Nat):Int):=by
    rw [E3 (n:=(acc:Int)*16) (by omega) (by omega),A4];simp
   rw [if_pos hd,A9]
   simp (disch:=omega) only [E3,Bool.not_true,cond_false] at e1 ⊢
   rw [e1,Au0]
   exact ih (i+1) _ n (by omega) (by omega) (by omega)
  ·rw [if_neg hd,A8];rfl
theorem TX {R:Type} {k0:Unit->Option R} {k1:Int->Option R} (s:By) (hs:s.length<=1000000000) (base:Nat) (hb:base<=16):∀ (r i acc n:Nat),i+r=s.length->r<n->acc<=Fh->
  Cg LF n s (base:Int) (acc:Int) (i:Int) k0 k1=match E4 base acc (s.drop i) with | some v=>k1 (v:Int) | none=>k0 ():=by
 intro r
 induction r with
 | zero=>
  intro i acc n hi hn ha
  obtain ⟨n,rfl⟩:∃ m,n=m+1:=⟨n-1,by omega⟩
  rw [Cg]
  rw [A8,List.drop_of_length_le (by omega)]
  rfl
 | succ r ih=>
  intro i acc n hi hn ha
  obtain ⟨n,rfl⟩:∃ m,n=m+1:=⟨n-1,by omega⟩
  rw [Cg,J1 s i (by omega)]
  rw [I2,Pz,VC]
  generalize s.getD i 0=b at *
  have hn1:((i:Int)+1)=((i+1:Nat):Int):=by omega
  have hsat:Fh=1099511627776:=rfl
  simp only [E4,vl]
  rw [A9,J3,hn1,E3 (n:=((i+1:Nat):Int)) (by omega) (by omega)]
  simp only [cond_true]
  by_cases hd:dig b<base
  ·have h1:acc*base<=1099511627776*16:=Nat.mul_le_mul (by omega) (by omega)
   have e0:A1 ((acc:Int)*(base:Int))=((acc*base:Nat):Int):=by
    rw [<-Int.natCast_mul];exact A4
   have e1:A1 (((acc*base:Nat):Int)+(dig b:Int))=((acc*base+dig b:Nat):Int):=by
    rw [A4];rfl
   rw [if_pos hd,A9,e0,e1,Au0]
   exact ih (i+1) _ n (by omega) (by omega) (by omega)
  ·rw [if_neg hd,A8];rfl
theorem Ae4 {R:Type} {k0:Int->Bool->Option R} (s:By) (h0:A3 s.length=true):At3 LF s k0=k0 (Ju (Z7 s):Int) (Z7 s).isSome:=by
 have hs:=M7 h0
 have:=D7
 have go16:∀ x:By,x.length<=1000000000->En LF LF x 0 0 (λ_=>k0 0 false) (λn=>k0 n true)=k0 (Ju (E4 16 0 x):Int) (E4 16 0 x).isSome:=by
  intro x hx
  refine Eq.trans (LY x hx x.length 0 0 LF (by omega) (by omega) (by unfold Fh;omega)) ?_
  rw [List.drop_zero]
  cases E4 16 0 x<;>rfl
 have goB:∀ (x:By) (b:Nat),b<=16->x.length<=1000000000->Cg LF LF x (b:Int) 0 0 (λ_=>k0 0 false) (λn=>k0 n true)=k0 (Ju (E4 b 0 x):Int) (E4 b 0 x).isSome:=by
  intro x b hb hx
  refine Eq.trans (TX x hx b hb x.length 0 0 LF (by omega) (by omega) (by unfold Fh;omega)) ?_
  rw [List.drop_zero]
  cases E4 b 0 x<;>rfl
 have go10:=λx=>goB x 10 (by omega)
 have go8:=λx=>goB x 8 (by omega)
 have gox:=λx=>goB x 16 (by omega)
 rw [show ((10:Nat):Int)=10 from rfl] at go10
 rw [show ((8:Nat):Int)=8 from rfl] at go8
 rw [show ((16:Nat):Int)=16 from rfl] at gox
 unfold At3 Z7
 by_cases h1:s=[]
 ·subst h1;rfl
 have h1':(s==([]:By))=false:=by simpa using h1
 have hl:0<s.length:=List.length_pos_iff.2 h1
 rw [if_neg h1,h1']
 simp only [cond_false,Uu,Uv,Le,Lf,Lg,vl]
 have ea:=U3 (s.getD 0 0) 48 (by omega)
 have eb:=U3 (s.getD 1 0) 120 (by omega)
 have ec:=U3 (s.getD 1 0) 88 (by omega)
 rw [show ((48:Nat):Int)=48 from rfl] at ea
 rw [show ((120:Nat):Int)=120 from rfl] at eb
 rw [show ((88:Nat):Int)=88 from rfl] at ec
 simp only [Iw,WI,ea,eb,ec,show UInt8.ofNat 48=(48:UInt8) from rfl,show UInt8.ofNat 120=(120:UInt8) from rfl,show UInt8.ofNat 88=(88:UInt8) from rfl]
 by_cases h2:2<=s.length
 ·simp (disch:=omega) only [C9,I6,R6,Bool.not_false,cond_true,N3,show 1<s.length by omega,true_and]
  unfold Y3
  grind
 ·rw [A9]
  have hx:Y3 s=false:=by
   cases h:Y3 s with
   | false=>rfl
   | true=>have:=Kq h;omega
  grind
def r8 (n:Nat):LL:=List.replicate n [SV.int .u16 0]
theorem Hq (n:Nat):ptI (n:Int)=P4 n:=rfl
theorem LA {R:Type} {k0:Bool->Option R} (n:Int):GV LF n k0=k0 (ptI n):=by
 unfold GV
 by_cases h:n<0
 ·rw [B9 h]
  have:ptI n=false:=by
   cases n with
   | ofNat m=>exact absurd h (by simp)
   | negSucc m=>rfl
  grind
 ·obtain ⟨m,rfl⟩:=Int.eq_ofNat_of_zero_le (show 0<=n by omega)
  rw [A8,Hq]
  unfold P4
  by_cases h1:1114111<m
  ·rw [A9]
   have:Nat.ble m 1114111=false:=by rw [Bool.eq_false_iff,ne_eq,Nat.ble_eq];omega
   grind
  ·rw [A8]
   have:Nat.ble m 1114111=true:=by rw [Nat.ble_eq];omega
   rw [this]
   by_cases h2:m<55296
   ·rw [A9]
    have:Nat.blt m 55296=true:=by rw [Nat.blt_eq];omega
    grind
   ·rw [A8]
    have e:Nat.blt m 55296=false:=by rw [Bool.eq_false_iff,ne_eq,Nat.blt_eq];omega
    rw [e]
    simp only [Bool.not_false,cond_true,cond_false,Bool.false_or,Bool.true_and]
    congr 1
theorem Vz {d k:Nat} (h:455<d):Qu d k=Qu (d / 35) (k+36):=by rw [Qu,dif_pos h]
theorem Ma {d k:Nat} (h:¬ 455<d):Qu d k=k+36*d / (d+38):=by rw [Qu,dif_neg h]
theorem KW {R:Type} {k0:Int->Int->Option R}:∀ (d n k:Nat),d<2305843009213693952->d<n->k+d<=4611686018427387904->
  ∃ d' k',d'<=455/\k'<=k+d/\Qu d k=k'+36*d' / (d'+38)/\Cq LF n (d:Int) (k:Int) k0=k0 (d':Int) (k':Int):=by
 intro d
 induction d using Nat.strongRecOn with
 | _ d ih=>
  intro n k hd hn hk
  obtain ⟨n,rfl⟩:∃ m,n=m+1:=⟨n-1,by omega⟩
  rw [Cq]
  by_cases h:455<d
  ·obtain ⟨d',k',h1,h2,h3,h4⟩:=ih (d / 35) (by omega) n (k+36) (by omega) (by omega) (by omega)
   refine ⟨d',k',h1,by omega,by rw [Vz h];exact h3,?_⟩
   have e:Int.tdiv (d:Int) 35=((d / 35:Nat):Int):=K6 d 35
   have e1:A1 ((d / 35:Nat):Int)=((d / 35:Nat):Int):=A4
   have e2:A1 ((k:Int)+36)=((k+36:Nat):Int):=by rw [A4];rfl
   rw [A9]
   simp only [cond_true,vl,e,e1,e2]
   exact h4
  ·refine ⟨d,k,by omega,by omega,Ma h,?_⟩
   rw [A8]
   rfl
theorem KX {R:Type} {k0:Int->Option R} (d c:Int) (f:Bool) (h0:ltN d 1152921504606846976=true) (h1:ltN c 1000000=true) (h2:ltI 0 c=true):Yb LF d c f k0=k0 (M5 d.toNat c.toNat f:Nat):=by
 obtain ⟨hd0,hd1⟩:=M0.1 h0
 obtain ⟨hc0,hc1⟩:=M0.1 h1
 obtain ⟨d,rfl⟩:=Int.eq_ofNat_of_zero_le hd0
 obtain ⟨c,rfl⟩:=Int.eq_ofNat_of_zero_le hc0
 have hc:=XK.1 h2
 have hLF:=D7
 have key:∀ x:Nat,x<1152921504606846976->Cp LF (x:Int) (c:Int) k0=k0 ((Qu (x+x / c) 0:Nat):Int):=by
  intro x hx
  have hxc:x / c<=x:=Nat.div_le_self _ _
  unfold Cp
  have e1:Int.tdiv (x:Int) (c:Int)=((x / c:Nat):Int):=K6 x c
  generalize x / c=q at *
  have e2:A1 (q:Int)=(q:Int):=A4
  have e3:A1 ((x:Int)+(q:Int))=((x+q:Nat):Int):=by rw [A4];rfl
  rw [show ((c:Int) != 0)=true by simp;omega]
  simp only [cond_true,vl,e1,e2,e3]
  obtain ⟨d',k',g1,g2,g3,g4⟩:=KW (R:=R) (k0:=λdelta'7 k'8=>vl (A1 ((36)*delta'7)) λn'9=>vl (A1 (delta'7+(38))) λn'10=>cond (n'10 != (0)) (vl (A1 (Int.tdiv n'9 n'10)) λn'11=>k0 (A1 (k'8+n'11))) none) (x+q) LF 0 (by omega) (by omega) (by omega)
  refine Eq.trans g4 ?_
  have hq:36*d' / (d'+38)<=36*d':=Nat.div_le_self _ _
  have f1:A1 (36*(d':Int))=((36*d':Nat):Int):=by rw [A4];rfl
  have f2:A1 ((d':Int)+38)=((d'+38:Nat):Int):=by rw [A4];rfl
  have f3:Int.tdiv ((36*d':Nat):Int) ((d'+38:Nat):Int)=((36*d' / (d'+38):Nat):Int):=K6 _ _
  have f4:A1 ((36*d' / (d'+38):Nat):Int)=((36*d' / (d'+38):Nat):Int):=A4
  have f5:A1 ((k':Int)+((36*d' / (d'+38):Nat):Int))=((k'+36*d' / (d'+38):Nat):Int):=by rw [A4];rfl
  simp only [vl,f1,f2,f3,f4,f5]
  rw [show (((d'+38:Nat):Int) != 0)=true by simp;omega,g3]
  rfl
 unfold Yb M5
 rw [Int.toNat_natCast,Int.toNat_natCast]
 cases f with
 | true=>
  have e1:Int.tdiv (d:Int) 700=((d / 700:Nat):Int):=K6 d 700
  have e2:A1 ((d / 700:Nat):Int)=((d / 700:Nat):Int):=A4
  simp only [cond_true,vl,e1,e2,if_true]
  exact key _ (by omega)
 | false=>
  have e1:Int.tdiv (d:Int) 2=((d / 2:Nat):Int):=K6 d 2
  have e2:A1 ((d / 2:Nat):Int)=((d / 2:Nat):Int):=A4
  simp only [cond_false,vl,e1,e2,Bool.false_eq_true,if_false]
  exact key _ (by omega)
theorem AR {d:Nat} (h:d<36):(U4 d).toNat=if d<26 then 97+d else 22+d:=by
 unfold U4
 split<;>simp<;>omega
theorem Ac9 {R:Type} {k0:Int->Option R} (d:Int) (h0:ltN d 36=true):A67 LF d k0=k0 ((U4 d.toNat).toNat:Nat):=by
 obtain ⟨hd0,hd1⟩:=M0.1 h0
 obtain ⟨d,rfl⟩:=Int.eq_ofNat_of_zero_le hd0
 unfold A67
 rw [Int.toNat_natCast,AR (by omega)]
 by_cases h:d<26
 ·rw [A9,if_pos h]
  simp only [cond_true,vl]
  congr 1
  rw [A4,R8]
  rfl
 ·rw [A8,if_neg h]
  simp only [cond_false,vl]
  congr 1
  rw [E3 (n:=48+(d:Int)) (by omega) (by omega),A4,R8]
  omega
theorem Tz (b:UInt8):(97<=b.toNat/\b.toNat<=122/\Ip b=some (b.toNat-97))\/(65<=b.toNat/\b.toNat<=90/\Ip b=some (b.toNat-65))\/(48<=b.toNat/\b.toNat<=57/\Ip b=some (b.toNat-22))\/(¬(97<=b.toNat/\b.toNat<=122)/\¬(65<=b.toNat/\b.toNat<=90)/\¬(48<=b.toNat/\b.toNat<=57)/\Ip b=none):=by
 unfold Ip
 grind
theorem Ad3 {R:Type} {k0:Int->Option R} (b:Int) (h0:inR b 256=true):As2 LF b k0=k0 (C7 (u8n b)):=by
 simp only [inR,Bool.and_eq_true,decide_eq_true_eq] at h0
 have hc:b=((u8n b).toNat:Int):=by
  unfold u8n
  simp
  omega
 generalize u8n b=c at *
 subst hc
 have hbt:=c.toNat_lt
 unfold As2 C7
 simp only [Pa,Oz,vl]
 rcases Tz c with ⟨h1,h2,e⟩ | ⟨h1,h2,e⟩ | ⟨h1,h2,e⟩ | ⟨h1,h2,h3,e⟩
 ·have e2:A1 (wu8 ((c.toNat:Int)-97))=((c.toNat-97:Nat):Int):=by
   rw [R8,A4];omega
  simp (disch:=omega) only [B9,C9,Bool.not_true,Bool.not_false,cond_false,cond_true,e2,e]
 ·have e2:A1 (wu8 ((c.toNat:Int)-65))=((c.toNat-65:Nat):Int):=by
   rw [R8,A4];omega
  simp (disch:=omega) only [B9,C9,Bool.not_true,Bool.not_false,cond_false,cond_true,e2,e]
 ·have e2:A1 (A1 (wu8 ((c.toNat:Int)-48))+26)=((c.toNat-22:Nat):Int):=by
   rw [R8,E3 (n:=(c.toNat:Int)-48) (by omega) (by omega),A4];omega
  simp (disch:=omega) only [B9,C9,Bool.not_true,Bool.not_false,cond_false,cond_true,e2,e]
 ·rw [e]
  by_cases c1:c.toNat<48
  ·simp (disch:=omega) only [B9,C9,Bool.not_true,Bool.not_false,cond_false,cond_true]
  ·by_cases c2:c.toNat<65
   ·simp (disch:=omega) only [B9,C9,Bool.not_true,Bool.not_false,cond_false,cond_true]
   ·by_cases c3:c.toNat<97
    ·simp (disch:=omega) only [B9,C9,Bool.not_true,Bool.not_false,cond_false,cond_true]
    ·simp (disch:=omega) only [B9,C9,Bool.not_true,Bool.not_false,cond_false,cond_true]
end
section
open Go
theorem Mv (x y:By) (r:List By) (p:By):Lib.join (x::y::r) p=x++(p++Lib.join (y::r) p):=by
 simp [Lib.join,List.intercalate]
theorem KY (c:UInt8):∀ l:List By,l≠[]->(∀ x∈l,c∉x)->pcs c (Lib.join l [c])=l
 | [],h,_=>absurd rfl h
 | [x],_,h=>by rw [Lib.join_one,Jv (h x (by simp))]
 | x::y::r,_,h=>by
  rw [Mv,List.singleton_append,Up (h x (by simp)),KY c (y::r) (by simp) (λz hz=>h z (by simp [hz]))]
theorem KH (c:UInt8):∀ (n:Nat) (s:By),s.length<=n->Lib.join (pcs c s) [c]=s
 | n,s,hn=>by
  rcases Es c s with h | ⟨p,r,rfl,h⟩
  ·rw [Jv h,Lib.join_one]
  ·rw [Up h]
   cases n with
   | zero=>simp at hn
   | succ n=>
    have ih:=KH c n r (by simp at hn;omega)
    cases hp:pcs c r with
    | nil=>exact absurd hp (Yd c r)
    | cons y q=>
     rw [Mv,<-hp,ih]
     rfl
theorem Ry (c:UInt8) (s:By):Lib.join (pcs c s) [c]=s:=KH c _ s (Nat.le_refl _)
theorem XI (b:UInt8):Fd b=46↔b=46:=by
 rcases Hk b with ⟨h,e⟩ | ⟨h,e⟩ | ⟨h,h2,e⟩
 ·rw [e]
 ·rw [e]
 ·constructor
  ·intro h3;rw [h3] at e;simp at e;omega
  ·intro h3;subst h3;simp at h
theorem Ab0 (a b:By):E8 (a++b)=E8 a++E8 b:=List.map_append
theorem Kt (s:By):(E8 s).length=s.length:=List.length_map _
theorem Fl:∀ (s acc:By),G6 46 (E8 acc) (E8 s)=(G6 46 acc s).map E8
 | [],acc=>rfl
 | b::r,acc=>by
  show (if Fd b=46 then _ else _)=_
  simp only [G6]
  by_cases h:b=46
  ·rw [if_pos ((XI b).2 h),if_pos h,List.map_cons]
   have:=Fl r []
   rw [<-this]
   rfl
  ·rw [if_neg (λe=>h ((XI b).1 e)),if_neg h,<-Fl r (acc++[b]),Ab0]
   rfl
theorem Ac6 (s:By):pcs 46 (E8 s)=(pcs 46 s).map E8:=Fl s []
theorem Hl (s:By) (i:Nat):(E8 s).getD i 0=Fd (s.getD i 0):=by
 unfold E8
 simp only [List.getD_eq_getElem?_getD,List.getElem?_map]
 cases s[i]?<;>rfl
theorem BJ {s:By}:E8 s=[]↔s=[]:=by unfold E8;simp
theorem FX (l:List By):(l.map E8).getLastD []=E8 (l.getLastD []):=by
 rw [List.getLastD_eq_getLast?,List.getLastD_eq_getLast?,List.getLast?_map]
 cases l.getLast?<;>rfl
theorem Bi1 (s:By):E2 (E8 s)=(E2 s).map E8:=by
 unfold E2
 rw [Ac6,FX]
 simp only [List.length_map,BJ]
 grind
theorem QY (s:By) (i:Nat):(E8 s).drop i=E8 (s.drop i):=by unfold E8;rw [List.map_drop]
theorem Tg (b:UInt8):Q7 b=true↔(97<=b.toNat/\b.toNat<=122)\/(48<=b.toNat/\b.toNat<=57)\/b=45\/b=95:=by
 simp [Q7,or_assoc]
structure VL (s:By):Prop where
 ne:s≠[]
 le:s.length<=63
 byt:∀ b∈s,Q7 b=true
theorem CN {s:By} (h:L1 s=true):VL s:=by
 unfold L1 at h
 simp only [Bool.and_eq_true,Bool.not_eq_true',List.all_eq_true] at h
 obtain ⟨⟨⟨⟨⟨h1,h2⟩,h3⟩,h4⟩,h5⟩,h6⟩:=h
 refine ⟨by intro e;subst e;simp at h1,Nat.le_of_ble_eq_true h2,λb hb=>h5 b hb⟩
structure VN (s:By):Prop where
 le:s.length<=253
 num:O0 s=false
 all:∀ x∈pcs 46 s,L1 x=true
theorem VF {s:By}:J0 s=true↔VN s:=by
 unfold J0
 simp only [Bool.and_eq_true,Bool.not_eq_true',List.all_eq_true]
 exact ⟨λh=>⟨Nat.le_of_ble_eq_true h.1.1,h.1.2,h.2⟩,λh=>⟨⟨Nat.ble_eq_true_of_le h.le,h.num⟩,h.all⟩⟩
theorem Tl {s:By} (h:∀ x∈pcs 46 s,x≠[]):E2 s=pcs 46 s:=by
 unfold E2
 grind
theorem VN.pne {s:By} (h:VN s):∀ x∈pcs 46 s,x≠[]:=λx hx=>(CN (h.all x hx)).ne
theorem VN.super {s x y:By} {r:List By} (h:VN s) (hp:pcs 46 s=x::y::r):s=x++46::Lib.join (y::r) [46]/\VN (Lib.join (y::r) [46])/\pcs 46 (Lib.join (y::r) [46])=y::r:=by
 have hs:=Ry 46 s
 rw [hp,Mv] at hs
 have hpc:pcs 46 (Lib.join (y::r) [46])=y::r:=KY 46 _ (by simp) (λz hz=>(La (s:=s) (by rw [hp];simp [hz])).1)
 have hall:∀ z∈y::r,L1 z=true:=λz hz=>h.all z (by rw [hp];exact List.mem_cons_of_mem _ hz)
 refine ⟨hs.symm,⟨?_,?_,by rw [hpc];exact hall⟩,hpc⟩
 ·have:=congrArg List.length hs
  have:=h.le
  grind
 ·have h1:=h.num
  unfold O0 at h1 ⊢
  have e:Bp (Lib.join (y::r) [46])=Bp s:=by
   unfold Bp
   rw [Tl h.pne,Tl (by rw [hpc];exact λz hz=>(CN (hall z hz)).ne),hpc,hp]
   rfl
  grind
def sh (n:Nat) (i:Int):Int:=if i = -1 then -1 else i+n
end
section
open Go Go.Op
abbrev Ent:=By × Bool
abbrev Be9:=By × Bool × Int
def Mt (e:Ent):List SV:=[.str e.1,.bool e.2]
def Br1 (p:Be9):List SV:=[.str p.1,.bool p.2.1,.int .i64 p.2.2]
def C4 (l:List Ent):LL:=l.map Mt
def Br2 (l:List Be9):LL:=l.map Br1
def B7:List SV->Bool | [.str _,.bool _]=>true | _=>false
def A6 (el:List SV):Ent:=((el.getD 0 .nilp).gS,(el.getD 1 .nilp).gB)
theorem BL {α β:Type} (f:β->α) (g:α->β):∀ l:List α,(∀ x∈l,f (g x)=x)->l=(l.map g).map f
 | [],_=>rfl
 | a::r,h=>by
  rw [List.map_cons,List.map_cons,h a (by simp),<-BL f g r λx hx=>h x (by simp [hx])]
theorem Bx {l:LL} (h:l.all B7=true):l=C4 (l.map A6):=BL Mt A6 l λx hx=>by
 have:=List.all_eq_true.1 h x hx
 unfold B7 at this
 split at this
 ·rfl
 ·cases this
theorem Uj (l:List Ent):(C4 l).map A6=l:=by
 unfold C4
 rw [List.map_map]
 exact List.map_id'' (λ_=>rfl) l
@[simp] theorem B3 (l:List Ent):(C4 l).length=l.length:=List.length_map ..
@[simp] theorem Bo6 (l:List Be9):(Br2 l).length=l.length:=List.length_map ..
def noE:Ent:=([],false)
theorem Fv {l:List Ent} {i:Nat} (h:i<l.length):(C4 l).getD i []=Mt (l.getD i noE):=by
 unfold C4
 simp [List.getD_eq_getElem?_getD,List.getElem?_eq_getElem h]
theorem S6:∀ x y:By,bytesLess x y=decide (x<y)
 | [],[]=>by simp [bytesLess]
 | _::_,[]=>by simp [bytesLess]
 | [],_::_=>by simp [bytesLess]
 | a::x,b::y=>by
  rw [bytesLess,S6 x y]
  simp only [List.cons_lt_cons_iff]
  by_cases h1:a<b<;>by_cases h2:a=b<;>by_cases h3:x<y<;>simp [h1,h2,h3]
def rl (s:By):List By:=(pcs 46 s).reverse
def Xt:List By->List By->Bool
 | _,[]=>false
 | [],_::_=>true
 | x::r,y::q=>bytesLess x y || (x==y&&Xt r q)
theorem Um:∀ x y:List By,Xt x y=decide (x<y)
 | [],[]=>by simp [Xt]
 | _::_,[]=>by simp [Xt]
 | [],_::_=>by simp [Xt]
 | a::x,b::y=>by
  rw [Xt,Um x y,S6]
  simp only [List.cons_lt_cons_iff]
  by_cases h1:a<b<;>by_cases h2:a=b<;>by_cases h3:x<y<;>simp [h1,h2,h3]
def O5 (a b:By):Bool:=Xt (rl a) (rl b)
def S8 (a b:By):Int:=cond (bytesLess a b) (-1) (cond (bytesLess b a) 1 0)
def FR (a b:Int):Int:=cond (ltI a b) (-1) (cond (ltI b a) 1 0)
def O6 (a b:By):Int:=cond (O5 a b) (-1) (cond (O5 b a) 1 0)
theorem Bi5 {a b:By} (h:rl a=rl b):a=b:=by
 rw [<-Ry 46 a,<-Ry 46 b,List.reverse_inj.1 h]
theorem X4 (a:By):O5 a a=false:=by
 unfold O5
 rw [Um]
 simp
theorem Mw {a b c:By} (h:O5 a b=true) (g:O5 b c=true):O5 a c=true:=by
 unfold O5 at *
 rw [Um] at *
 exact decide_eq_true (List.lt_trans (of_decide_eq_true h) (of_decide_eq_true g))
theorem Jr {a b:By} (h:O5 a b=false) (g:O5 b a=false):a=b:=by
 unfold O5 at *
 rw [Um] at *
 exact Bi5 (List.le_antisymm (List.not_lt.1 (of_decide_eq_false g)) (List.not_lt.1 (of_decide_eq_false h)))
theorem RO {a b:By} (h:O5 a b=true):O5 b a=false:=by
 cases e:O5 b a with
 | false=>rfl
 | true=>exact absurd (Mw h e) (by rw [X4];simp)
theorem Tj {a b c:By} (h:O5 a b=false) (g:O5 b c=false):O5 a c=false:=by
 cases e:O5 a c with
 | false=>rfl
 | true=>
  cases e1:O5 b a with
  | true=>rw [Mw e1 e] at g;cases g
  | false=>
   obtain rfl:=Jr h e1
   rw [e] at g;cases g
theorem Jf (a b:By):decide (O6 a b<0)=O5 a b:=by
 unfold O6
 cases O5 a b with
 | true=>rfl
 | false=>cases O5 b a<;>rfl
theorem YU (a b:By):(O6 a b==0)=(a==b):=by
 unfold O6
 cases h:O5 a b with
 | true=>
  have:a≠b:=λe=>by rw [e,X4] at h;cases h
  simp [this]
 | false=>
  cases g:O5 b a with
  | true=>
   have:a≠b:=λe=>by rw [e,X4] at g;cases g
   simp [this]
  | false=>
   obtain rfl:=Jr h g
   simp
theorem MY {α:Type} [Inhabited α] (f:α->By):Sort.SWO (Go.Proofs.ltOf λx y:α=>O6 (f x) (f y)) where
 irrefl x:=by unfold Go.Proofs.ltOf;rw [Jf,X4]
 trans x y z h g:=by unfold Go.Proofs.ltOf at *;rw [Jf] at *;exact Mw h g
 ntrans x y z h g:=by unfold Go.Proofs.ltOf at *;rw [Jf] at *;exact Tj h g
def Wh (f:Nat->Int):Nat->Nat->Nat->Nat
 | 0,lo,_=>lo
 | n+1,lo,hi=>if lo<hi then (if f ((lo+hi) / 2)<0 then Wh f n ((lo+hi) / 2+1) hi else Wh f n lo ((lo+hi) / 2)) else lo
theorem FD (f:Nat->Int):∀ n lo hi,lo<=hi->lo<=Wh f n lo hi/\Wh f n lo hi<=hi
 | 0,lo,hi,h=>⟨Nat.le_refl _,h⟩
 | n+1,lo,hi,h=>by
  unfold Wh
  split
  ·split
   ·have:=FD f n ((lo+hi) / 2+1) hi (by omega);omega
   ·have:=FD f n lo ((lo+hi) / 2) (by omega);omega
  ·omega
def bsI (h:List By) (s:By):Nat:=Wh (λi=>O6 (h.getD i []) s) (h.length+1) 0 h.length
def bsB (h:List By) (s:By):Bool:=Nat.blt (bsI h s) h.length&&h.getD (bsI h s) []==s
def asc (h:List By):Bool:=match h with
 | []=>true
 | [_]=>true
 | a::b::r=>O5 a b&&asc (b::r)
theorem WQ {a b:Nat}:Nat.blt a b=true↔a<b:=by rw [Nat.blt_eq]
theorem Hw (c:UInt8):∀ (p acc s:By),G6 c acc (p++c::s)=G6 c acc p++G6 c [] s
 | [],acc,s=>by simp [G6]
 | b::r,acc,s=>by
  simp only [List.cons_append,G6]
  split
  ·rw [Hw c r [] s];rfl
  ·exact Hw c r _ s
def Az5 (s:By) (e:Ent):Bool:=J0 s&&(e.1==s || e.2&&Az6 e.1 s)
def smE (el:List SV):Bool:=A3 (elS el).length
def N0 (z:Bool) (l:LL):Bool:=!z || l.isEmpty
def Br0 (h:By) (e:Int):Bool:=J0 h&&(!ltI e 0 && !ltI 1099511627776 e)
def ixE (l:List Ent):Int:=match l.findIdx? (λe=>!J0 e.1) with | some j=>(j:Int) | none=>-1
def Zk (l:List Ent):Bool:=l.any λe=>!J0 e.1
def Ri:List By->Bool
 | []=>false
 | a::r=>r.contains a || Ri r
def Rv (e:Ent):List Ent->List Ent
 | []=>[e]
 | a::r=>if O5 a.1 e.1 then a::Rv e r else e::a::r
def isE (l:List Ent):List Ent:=l.foldl (λacc e=>Rv e acc) []
def H8 (l:List Ent):Nat:=if 1000<l.length then 3 else if Zk l then 14 else if Ri (l.map Prod.fst) then 17 else 0
def Bo1 (h:By) (b:Bool):Ent:=(h,b)
def Fj (n:Int) (l:LL):Bool:=!ltI n l.length&&l.all λel=>!ltI 300 (elS el).length
abbrev Ls:={e:Ent // e.1.length<=1000000000}
instance:Inhabited Ls:=⟨⟨noE,by decide⟩⟩
def mkS (e:Ent):Ls:=if h:e.1.length<=1000000000 then ⟨e,h⟩ else default
def Fm (d:Array Ls):Array Ls:=Sort.pdq (Go.Proofs.ltOf λx y:Ls=>O6 x.1.1 y.1.1) d 0 d.size (Lib.bitLen d.size) true true
def R4 (l:List Ent):List Ent:=(Fm (l.map mkS).toArray).toList.map (·.1)
theorem T9 {l:List Ent} {i:Nat} (h:i<l.length):gX (C4 l) i 0=(l.getD i noE).1:=by unfold gX gC;rw [Fv h];rfl
theorem Xc {l:List Ent} {i:Nat} (h:i<l.length):gY (C4 l) i 1=(l.getD i noE).2:=by unfold gY gC;rw [Fv h];rfl
theorem Hn {l:List Ent} {i:Nat} (h:i<l.length):okE ⟨true,true,[.str,.bool]⟩ (C4 l) i 0=true:=by unfold okE;rw [Fv h];simp [h,okS,Mt,SV.has]
theorem Hv {l:List Ent} (h:(C4 l).all smE=true) {i:Nat} (hi:i<l.length):A3 (l.getD i noE).1.length=true:=by
 have:=List.all_eq_true.1 h ((C4 l).getD i []) (by
  rw [List.getD_eq_getElem?_getD,List.getElem?_eq_getElem (by simpa using hi)]
  exact List.getElem_mem _)
 rw [Fv hi] at this
 exact this
theorem XD {α:Type} (f:α->By) {d:α} {l:List α} {i:Nat} (h:i<l.length):(l.map f).getD i []=f (l.getD i d):=by
 simp [List.getD_eq_getElem?_getD,h]
abbrev leE (a b:Ent):Prop:=O5 b.1 a.1=false
theorem Zb (d:Array Ls):(Fm d).toList.Perm d.toList/\(Fm d).size=d.size/\∀ i j,i<j->j<d.size->O5 ((Fm d)[j]!).1.1 ((Fm d)[i]!).1.1=false:=by
 obtain ⟨⟨h1,_,h3⟩,h4⟩:=Sort.pdq_sorts (Go.Proofs.ltOf λx y:Ls=>O6 x.1.1 y.1.1) (MY λx:Ls=>x.1.1) d 0 d.size (Lib.bitLen d.size) true true (Nat.zero_le _) (Nat.le_refl _) (.inl rfl)
 have hs:(Fm d).size=d.size:=h1
 refine ⟨?_,hs,λi j hij hj=>?_⟩
 ·have h3:((Fm d).extract 0 d.size).toList.Perm (d.extract 0 d.size).toList:=h3
  rw [<-hs] at h3
  rw [Array.extract_size,hs,Array.extract_size] at h3
  exact h3
 ·have:=h4 i j (Nat.zero_le _) hij hj
  unfold Go.Proofs.ltOf at this
  rw [Jf] at this
  exact this
theorem XQ {e:Ent} (h:e.1.length<=1000000000):(mkS e).1=e:=by unfold mkS;rw [dif_pos h]
theorem Dw {l:List Ent} (hl:∀ e∈l,e.1.length<=1000000000):(R4 l).Perm l:=by
 have h:=((Zb (l.map mkS).toArray).1).map (·.1)
 unfold R4
 refine h.trans ?_
 simp only [List.map_map]
 rw [show List.map ((λx:Ls=>x.1) ∘ mkS) l=l from (List.map_congr_left (g:=id) λe he=>XQ (hl e he)).trans (List.map_id l)]
theorem Pt (l:List Ent):(R4 l).Pairwise leE:=by
 obtain ⟨_,h2,h3⟩:=Zb (l.map mkS).toArray
 unfold R4
 rw [List.pairwise_map,List.pairwise_iff_getElem]
 intro i j hi hj hij
 have hj':j<(Fm (l.map mkS).toArray).size:=by simpa using hj
 have hi':i<(Fm (l.map mkS).toArray).size:=by simpa using hi
 have:=h3 i j hij (by omega)
 simp only [getElem!_pos,hi',hj'] at this
 simpa using this
theorem Rw (e:Ent):∀ l:List Ent,(Rv e l).Perm (e::l)
 | []=>.refl _
 | a::r=>by
  unfold Rv
  split
  ·exact ((Rw e r).cons a).trans (.swap e a r)
  ·exact .refl _
theorem Tf (e:Ent):∀ {l:List Ent},l.Pairwise leE->(Rv e l).Pairwise leE
 | [],_=>by simp [Rv]
 | a::r,h=>by
  rw [List.pairwise_cons] at h
  unfold Rv
  split
  ·rename_i hlt
   rw [List.pairwise_cons]
   refine ⟨λb hb=>?_,Tf e h.2⟩
   rcases List.mem_cons.1 ((Rw e r).mem_iff.1 hb) with rfl | hb
   ·exact RO hlt
   ·exact h.1 b hb
  ·rename_i hlt
   have hlt:O5 a.1 e.1=false:=by simpa using hlt
   rw [List.pairwise_cons]
   refine ⟨λb hb=>?_,List.pairwise_cons.2 h⟩
   rcases List.mem_cons.1 hb with rfl | hb
   ·exact hlt
   ·exact Tj (h.1 b hb) hlt
theorem QI:∀ (l acc:List Ent),(l.foldl (λacc e=>Rv e acc) acc).Perm (l++acc)/\(acc.Pairwise leE->(l.foldl (λacc e=>Rv e acc) acc).Pairwise leE)
 | [],acc=>⟨.refl _,id⟩
 | e::r,acc=>by
  obtain ⟨h1,h2⟩:=QI r (Rv e acc)
  exact ⟨h1.trans (((Rw e acc).append_left r).trans List.perm_middle),λh=>h2 (Tf e h)⟩
theorem Y2 (l:List Ent):(isE l).Perm l:=by simpa [isE] using (QI l []).1
theorem Xk (l:List Ent):(isE l).Pairwise leE:=(QI l []).2 .nil
theorem Db:∀ {l:List By},Ri l=false↔l.Nodup
 | []=>by simp [Ri]
 | a::r=>by
  unfold Ri
  rw [Bool.or_eq_false_iff,Db,List.nodup_cons]
  simp
theorem Af7 {l:List Ent} (hl:∀ e∈l,e.1.length<=1000000000) (hd:Ri (l.map Prod.fst)=false):R4 l=isE l:=by
 have hn:=Db.1 hd
 have key:∀ a b:Ent,a∈l->b∈l->a.1=b.1->a=b:=by
  clear hl hd
  induction l with
  | nil=>intro a b ha;cases ha
  | cons x r ih=>
   rw [List.map_cons,List.nodup_cons] at hn
   intro a b ha hb e
   rcases List.mem_cons.1 ha with ha | ha<;>rcases List.mem_cons.1 hb with hb | hb
   ·rw [ha,hb]
   ·exact absurd (List.mem_map.2 ⟨b,hb,by rw [<-e,ha]⟩) hn.1
   ·exact absurd (List.mem_map.2 ⟨a,ha,by rw [e,hb]⟩) hn.1
   ·exact ih hn.2 a b ha hb e
 refine List.Perm.eq_of_pairwise (le:=leE) (λa b ha hb h1 h2=>key a b ((Dw hl).mem_iff.1 ha) ((Y2 l).mem_iff.1 hb) (Jr h2 h1)) (Pt l) (Xk l) ((Dw hl).trans (Y2 l).symm)
def EY:List Ent->Bool
 | a::b::r=>(b.1==a.1) || EY (b::r)
 | _=>false
theorem Aj5:∀ {l:List Ent},l.Pairwise leE->EY l=false->(l.map Prod.fst).Nodup
 | [],_,_=>.nil
 | [a],_,_=>by simp
 | a::b::r,hp,h=>by
  unfold EY at h
  rw [Bool.or_eq_false_iff] at h
  rw [List.pairwise_cons] at hp
  have ih:=Aj5 hp.2 h.2
  rw [List.map_cons,List.nodup_cons]
  refine ⟨λhm=>?_,ih⟩
  obtain ⟨c,hc,e⟩:=List.mem_map.1 hm
  have hab:O5 a.1 b.1=true:=by
   cases q:O5 a.1 b.1 with
   | true=>rfl
   | false=>
    have:=Jr (hp.1 b (by simp)) q
    rw [this] at h
    simp at h
  rcases List.mem_cons.1 hc with rfl | hc
  ·rw [e,X4] at hab;cases hab
  ·have:=(List.pairwise_cons.1 hp.2).1 c hc
   have this:O5 c.1 b.1=false:=this
   rw [e,hab] at this;cases this
theorem WE:∀ {l:List Ent},EY l=true->Ri (l.map Prod.fst)=true
 | a::b::r,h=>by
  unfold EY at h
  rw [Bool.or_eq_true] at h
  rw [List.map_cons]
  unfold Ri
  rw [Bool.or_eq_true]
  rcases h with h | h
  ·exact .inl (by simp [eq_of_beq h])
  ·exact .inr (WE h)
theorem Aj6 {l:List Ent} (hl:∀ e∈l,e.1.length<=1000000000):EY (R4 l)=Ri (l.map Prod.fst):=by
 have hp:=(Dw hl).map Prod.fst
 cases h:EY (R4 l) with
 | true=>
  have:=WE h
  cases hd:Ri (l.map Prod.fst) with
  | true=>rfl
  | false=>
   rw [Db.2 (hp.nodup_iff.2 (Db.1 hd))] at this
   cases this
 | false=>exact (Db.2 (hp.nodup_iff.1 (Aj5 (Pt l) h))).symm
theorem XB {E:List Ent} {e:Ent}:e∈isE E↔e∈E:=(Y2 E).mem_iff
def kE (e:Ent) (l:List Ent):Nat:=(l.takeWhile λa=>O5 a.1 e.1).length
theorem Xh (e:Ent):∀ l:List Ent,Rv e l=l.take (kE e l)++e::l.drop (kE e l)
 | []=>rfl
 | a::r=>by
  unfold Rv kE
  rw [List.takeWhile_cons]
  cases h:O5 a.1 e.1 with
  | true=>
   simp only [if_true,List.length_cons,List.take_succ_cons,List.drop_succ_cons,List.cons_append]
   rw [Xh e r]
   rfl
  | false=>simp
theorem Be1 (e:Ent):∀ l:List Ent,kE e l<=l.length
 | []=>Nat.le_refl _
 | a::r=>by
  unfold kE
  rw [List.takeWhile_cons]
  have:=Be1 e r
  unfold kE at this
  split
  ·simp;exact this
  ·simp
theorem Ap2 {e:Ent}:∀ {l:List Ent},l.Pairwise leE->((decide (kE e l<l.length)&&(l.getD (kE e l) noE).1==e.1)=(l.map Prod.fst).contains e.1)
 | [],_=>rfl
 | a::r,hp=>by
  rw [List.pairwise_cons] at hp
  have ih:=Ap2 (e:=e) hp.2
  unfold kE at ih ⊢
  rw [List.takeWhile_cons,List.map_cons,List.contains_cons]
  cases h:O5 a.1 e.1 with
  | true=>
   have hne:(e.1==a.1)=false:=by
    rw [beq_eq_false_iff_ne]
    intro q
    rw [q,X4] at h;cases h
   rw [hne,Bool.false_or,<-ih]
   simp
  | false=>
   simp only [Bool.false_eq_true,if_false,List.length_nil,List.length_cons,Nat.zero_lt_succ,decide_true,Bool.true_and,List.getD_cons_zero]
   cases q:(a.1==e.1) with
   | true=>rw [show (e.1==a.1)=true by rw [beq_iff_eq] at q ⊢;exact q.symm];rfl
   | false=>
    rw [show (e.1==a.1)=false by rw [beq_eq_false_iff_ne] at q ⊢;exact Ne.symm q,Bool.false_or]
    cases hc:(r.map Prod.fst).contains e.1 with
    | false=>rfl
    | true=>
     obtain ⟨c,hc,e1⟩:=List.mem_map.1 (List.contains_iff_mem.1 hc)
     have:=hp.1 c hc
     have this:O5 c.1 a.1=false:=this
     rw [e1] at this
     have:=Jr h this
     rw [this] at q;simp at q
end
section
open Go Go.Proofs
set_option maxRecDepth 100000
section
variable {σ R : Type} (lf : Nat) (cl : D5) (yh : Yh σ) (s : σ) (k : Out -> St σ -> Option R)
noncomputable def FJ (lf:Nat):Cfg:=C6 lf [81] (A5 []) [] (A5 [(1,[6]),(0,[3,0,0])]) [] (A5 []) (some [6]) [] [] []
noncomputable def Aq3 {R:Type} (lf:Nat) (s0 sep1:By) (sepSave2:Int) (k0:By->By->Int->Option R):Option R:=k0 s0 sep1 sepSave2
theorem Aq4 (d:Nat) (s0 sep1 sepSave2):evC (FJ lf) (d+1) σ yh 81 [pS s0,pS sep1,pI sepSave2] [] s=Aq3 lf s0 sep1 sepSave2 (λs0 s1 n2=>some (.fnr (Fn.func 106) [] [.ptr 1 0 0,.ptr 0 0 0,.ptr 2 0 0],[.box [pS s0],.box [pS s1],.box [pI n2]],s)):=by
 refine (evE (fn:=Tryz.f81) (by kernel_rfl)).trans ?_
 generalize evC (FJ lf) d=cl
 unfold Aq3;kernel_rfl
noncomputable def PE (lf:Nat):Cfg:=C6 lf [49] (A5 []) [(81,DT)] (A5 [(1,[4]),(0,[0,0])]) [] (A5 []) (some [4]) [] [] []
noncomputable def Bi7 {R:Type} (lf:Nat) (s0 sep1:By) (k0:By->By->Option R):Option R:=k0 s0 sep1
theorem A96 (d:Nat) (s0 sep1):evC (PE lf) (d+1) σ yh 49 [pS s0,pS sep1] [] s=Bi7 lf s0 sep1 (λs0 s1=>some (.fnr (Fn.func 106) [] [.ptr 1 0 0,.ptr 0 0 0,.ptr 2 0 0],[.box [pS s0],.box [pS s1],.box [pI (0:Int)]],s)):=by
 refine (evE (fn:=Tryz.f49) (by kernel_rfl)).trans ?_
 generalize evC (PE lf) d=cl
 unfold Bi7;kernel_rfl
noncomputable abbrev AJ:Code:=E1 Tryz.f59
noncomputable def Iz (lf:Nat):Cfg:=C6 lf [59] (A5 []) [(93,Kh),(49,ET),(94,DV)] (A5 [(7,[2]),(6,[2]),(5,[2,13]),(4,[2,0]),(3,[2,9]),(2,[2]),(1,[0,1,7]),(0,[0,1])]) [93,94] (A5 [(0,[2]),(1,[2])]) (some [2]) [] [(106,Nl)] []
noncomputable def Uk {R:Type} (lf:Nat) (x'0:By) (xs:List By) (self:Unit->Option R) (k0:Unit->Option R) (k1:Unit->Option R):Option R:=cond (A3 x'0.length) (cond (not (L1 x'0)) (k1 ()) (self ())) none
noncomputable def Xg {R:Type} (lf:Nat) (L:List By) (k0:Unit->Option R) (k1:Unit->Option R):Option R:=Bo7 (α:=Unit->Option R) (λ_=>k0 ()) (λx'0 xs self _=>Uk lf x'0 xs self  k0 k1) L ()
theorem KB {R:Type} (lf:Nat) (x'0:By) (xs:List By) (k0:Unit->Option R) (k1:Unit->Option R):Xg lf (x'0::xs)  k0 k1=Uk lf x'0 xs (λ_=>Xg lf xs  k0 k1)  k0 k1:=rfl
theorem ZQ (L:List By):V3 #[13] (gp [(2,.ptr 0 0 0),(9,.fnr (Fn.func 106) [] [.bad,.bad,.bad])] 4) (bd (Iz lf) cl yh (cd [1,1,0,1,0,0] AJ)) (bd (Iz lf) cl yh (cd [1,1,0,1,0,1] AJ)) (L.map (λ(x'0:By)=>([pS x'0]:List PV))) [.box [pB false],.dead,.dead,.dead] s (rgK (gp [(2,.ptr 0 0 0),(9,.fnr (Fn.func 106) [] [.bad,.bad,.bad])] 4) (λH=>W3 H [2,1,3] [.box [.bad],.box [.bad],.box [.bad]]) k) =
 Xg lf L  (λ_=>k .normal ⟨gp [(2,.ptr 0 0 0),(9,.fnr (Fn.func 106) [] [.bad,.bad,.bad])] 4,[.box [pB false],.box [.bad],.box [.bad],.box [.bad]],s⟩) (λ_=>k .ret ⟨gp [(2,.ptr 0 0 0),(9,.fnr (Fn.func 106) [] [.bad,.bad,.bad])] 4,[.box [pB false],.box [.bad],.box [.bad],.box [.bad]],s⟩):=by
 induction L with
 | nil=>rfl
 | cons x'0 xs ih=>rw [KB];unfold Uk;exact (Eq.trans (by kernel_rfl) (A0 (A0 rfl ih) rfl))
noncomputable def FZ {R:Type} (lf:Nat) (s0:By) (k0:Unit->Option R) (k1:Unit->Option R):Option R:=cond ((A3 s0.length)&&((1==1)&&((0:Int)==0))) (Xg lf (pcs (List.getD ([46]:List UInt8) 0 0) s0)  k0 k1) none
abbrev KA (b:Code):Prop:=∀ (k:Out->St σ->Option R) s0,B2 (Iz lf) cl yh b ⟨gp [(2,.ptr 0 0 0),(9,.fnr (Fn.func 106) [] [.ptr 2 0 0,.ptr 1 0 0,.ptr 3 0 0])] 4,[.box [pB false],.box [pS s0],.box [pS ([46]:List UInt8)],.box [pI (0:Int)]],s⟩ k=FZ lf s0 (λ_=>k .normal ⟨gp [(2,.ptr 0 0 0),(9,.fnr (Fn.func 106) [] [.bad,.bad,.bad])] 4,[.box [pB false],.box [.bad],.box [.bad],.box [.bad]],s⟩) (λ_=>k .ret ⟨gp [(2,.ptr 0 0 0),(9,.fnr (Fn.func 106) [] [.bad,.bad,.bad])] 4,[.box [pB false],.box [.bad],.box [.bad],.box [.bad]],s⟩)
theorem ZP:KA (R:=R) lf cl yh s (cd [1,1,0,1,0] AJ):=by
 intro k s0;unfold FZ;exact ((Bn4 [1,1,0,1,0] (by kernel_rfl)).trans (by kernel_rfl)).trans (RK (ZQ lf cl yh s k (pcs (List.getD ([46]:List UInt8) 0 0) s0) ))
noncomputable def hvn {R:Type} (lf:Nat) (name0:By) (k0:Unit->Option R) (k1:Bool->Bool->Option R):Option R:=cond (ltI 253 (name0.length:Int)) (k0 ()) (cond (A3 name0.length) (cond (O0 name0) (k0 ()) (FZ lf name0 (λ_=>k1 true true) (λ_=>k1 false false))) none)
theorem Bg8 (b_11010:Code) (h_hvn_e1:KA (R:=PV × List Blk × σ) lf cl yh s b_11010) (name0:By):B2 (Iz lf) cl yh (cd [] (P5 [1,1,0,1,0] b_11010 AJ)) ⟨[pS name0]++tps 16,[],s⟩ (I8 (Iz lf) Tryz.f59)=hvn lf name0 (λ_=>some (pB false,[.box [pB false]],s)) (λr0 b1=>some (pB r0,[.box [pB b1],.box [.bad],.box [.bad],.box [.bad]],s)):=by
 unfold hvn;exact (Eq.trans (by kernel_rfl) (A0 rfl (A0 (A0 rfl ((h_hvn_e1 (G3 0 (G9 (Iz lf) cl yh (cd [1,1,1] AJ) (I8 (Iz lf) Tryz.f59))) name0).trans (by kernel_rfl))) rfl)))
theorem Bg9 (d:Nat) (name0):evC (Iz lf) (d+1) σ yh 59 [pS name0] [] s=hvn lf name0 (λ_=>some (pB false,[.box [pB false]],s)) (λr0 b1=>some (pB r0,[.box [pB b1],.box [.bad],.box [.bad],.box [.bad]],s)):=
 (evE (fn:=Tryz.f59) (by kernel_rfl)).trans (Eq.trans (by kernel_rfl) (Bg8 lf (evC (Iz lf) d) yh s (cd [1,1,0,1,0] AJ) (ZP lf (evC (Iz lf) d) yh s) name0))
noncomputable def OR (lf:Nat):Cfg:=C6 lf [41] (A5 []) [] (A5 [(1,[2]),(0,[1])]) [] (A5 []) (some [2]) [] [] []
noncomputable def Bg7 {R:Type} (lf:Nat) (name0:By) (k0:By->Option R):Option R:=k0 name0
theorem A21 (d:Nat) (name0):evC (OR lf) (d+1) σ yh 41 [pS name0] [] s=Bg7 lf name0 (λs0=>some (.fnr (Fn.func 76) [] [.ptr 0 0 0],[.box [pS s0]],s)):=by
 refine (evE (fn:=Tryz.f41) (by kernel_rfl)).trans ?_
 generalize evC (OR lf) d=cl
 unfold Bg7;kernel_rfl
noncomputable abbrev Nm:Code:=E1 Tryz.f106
noncomputable def U8 (lf:Nat):Cfg:=C6 lf [106] (A5 [(5,[0,0,0,0]),(1,[0,1])]) [(107,Ni),(108,Vv)] (A5 [(10,[]),(9,[0,0,0,0]),(8,[0,0,0,0,3,34]),(7,[0,0,0,0,3,0]),(6,[0,0,0,0,3,25]),(5,[0,0,0,0,3]),(4,[0,1]),(3,[0,1,3,18]),(2,[0,1,3]),(1,[0,1,11]),(0,[0,0,0,0,7])]) [108] (A5 [(2,[0,1]),(3,[0,0,0,0]),(0,[]),(1,[0,1])]) (some []) [] [] []
noncomputable def Zc {σ R:Type} (yh:Yh σ) (lf n:Nat) (s0 s1:By) (n2:Int) (s:σ) (k0:By->By->Int->σ->Option R):Option R:=match n with | 0=>none | n+1=>cond (ltI 0 (s1.length:Int)) none (k0 s0 s1 n2 s)
theorem MR (n:Nat) (s0 s1:By) (n2:Int) (s:σ):D6 3 ((U8 lf).keep 1) (bd (U8 lf) cl yh (cd [0,1,0,0,0,0] Nm)) n ⟨gp [(0,.yd),(1,.ptr 1 0 0)] 49,[.box [pS s0],.box [pS s1],.box [pI n2]],s⟩ k =
 Zc yh lf n s0 s1 n2 s (λs0 s1 n2 s=>k (.exit 0) ⟨gp [] 52,[.box [pS s0],.box [pS s1],.box [pI n2]],s⟩):=by
 induction n generalizing s0 s1 n2 s with
 | zero=>rfl
 | succ n ih=>rw [Zc];kernel_rfl
noncomputable def O2 {σ R:Type} (yh:Yh σ) (lf n:Nat) (s0 s1:By) (n2:Int) (s:σ) (k0:By->By->Int->σ->Option R) (k1:By->By->Int->σ->Option R):Option R:=match n with
 | 0=>none
 | n+1=>
  cond (A3 s1.length)
   (cond (ltI (Lib.index s1 s0) (0:Int))
   (k0 s0 s1 n2 s)
   (vl (A1 ((Lib.index s1 s0)+n2)) λn'5=>
    cond (N7 0 n'5 s1.length)
    (ydK (yh [pS (cut s1 0 n'5)] s) λby'6 s'y6=>
     (cond (not by'6)
     (k1 s0 s1 n2 s'y6)
     (vl (A1 ((Lib.index s1 s0)+(s0.length:Int))) λn'7=>
      cond (N7 n'7 (s1.length:Int) s1.length)
      (vl (cut s1 n'7 (s1.length:Int)) λs'8=>
       O2 yh lf n s0 s'8 n2 s'y6 k0 k1)
      none)))
    none))
   none
theorem MS (n:Nat) (s0 s1:By) (n2:Int) (s:σ):D6 3 ((U8 lf).keep 5) (bd (U8 lf) cl yh (cd [1,0,0,0] Nm)) n ⟨gp [(0,.yd),(0,.ptr 0 0 0),(0,.ptr 1 0 0),(0,.ptr 2 0 0)] 48,[.box [pS s0],.box [pS s1],.box [pI n2]],s⟩ k =
 O2 yh lf n s0 s1 n2 s (λs0 s1 n2 s=>k (.exit 2) ⟨gp [(0,.yd),(1,.ptr 1 0 0)] 49,[.box [pS s0],.box [pS s1],.box [pI n2]],s⟩) (λs0 s1 n2 s=>k .ret ⟨gp [] 52,[.box [pS s0],.box [pS s1],.box [pI n2]],s⟩):=by
 induction n generalizing s0 s1 n2 s with
 | zero=>rfl
 | succ n ih=>rw [O2];simp only [<-ih];kernel_rfl
noncomputable def MQ {σ R:Type} (yh:Yh σ) (lf:Nat) (p t:By) (n:Int) (s:σ) (k0:By->By->Int->σ->Option R):Option R:=
 cond ((p.length:Int)==0)
 (Zc yh lf lf p t n s (λs'0 s'1 n'2 s'3=>k0 s'0 s'1 n'2 s'3))
 (O2 yh lf lf p t n s (λs'9 s'10 n'11 s'12=>ydK (yh [pS s'10] s'12) λby'17 s'y17=>
  (k0 s'9 s'10 n'11 s'y17)) (λs'13 s'14 n'15 s'16=>k0 s'13 s'14 n'15 s'16))
theorem Au4 (d:Nat) (p t n s):evC (U8 lf) (d+1) σ yh 106 [.yd,.ptr 0 0 0,.ptr 1 0 0,.ptr 2 0 0] [.box [pS p],.box [pS t],.box [pI n]] s=MQ yh lf p t n s (λs0 s1 n2 s=>some (.tup [],[.box [pS s0],.box [pS s1],.box [pI n2]],s)):=by
 refine (evE (fn:=Tryz.f106) (by kernel_rfl)).trans ?_
 generalize evC (U8 lf) d=cl
 unfold MQ;exact (Eq.trans (by kernel_rfl) (A0 ((MR lf cl yh (G3 0 (G9 (U8 lf) cl yh (cd [0,1,0,1] Nm) (G9 (U8 lf) cl yh (cd [1] Nm) (I8 (U8 lf) Tryz.f106)))) lf p t n s).trans (by kernel_rfl)) ((MS lf cl yh (G3 2 (G9 (U8 lf) cl yh (cd [1,1] Nm) (I8 (U8 lf) Tryz.f106))) lf p t n s).trans (by kernel_rfl))))
noncomputable abbrev Az1:Code:=E1 Tryz.f76
noncomputable def Kj (lf:Nat):Cfg:=C6 lf [76] (A5 [(1,[0,0])]) [(59,VR),(50,EP)] (A5 [(3,[0,0]),(2,[0,0,2,17]),(1,[0,0,2,0]),(0,[0,0,6])]) [59,50] (A5 [(0,[]),(1,[0,0])]) (some []) [] [] []
noncomputable def Y1 {σ R:Type} (yh:Yh σ) (lf n:Nat) (s0:By) (s:σ) (k0:By->σ->Option R):Option R:=match n with
 | 0=>none
 | n+1=>
  cond (A3 s0.length)
   (vl ((Lib.cut s0 ([46]:List UInt8))).1 λs'2=>
   vl (((Lib.cut s0 ([46]:List UInt8))).2).1 λs'3=>
    cond (not (((Lib.cut s0 ([46]:List UInt8))).2).2)
    (k0 s0 s)
    (ydK (yh [pS s'3] s) λby'4 s'y4=>
     (cond (not by'4)
     (k0 s0 s'y4)
     (Y1 yh lf n s'3 s'y4 k0))))
   none
theorem JZ (n:Nat) (s0:By) (s:σ):D6 1 ((Kj lf).keep 1) (bd (Kj lf) cl yh (cd [1,0,0] Az1)) n ⟨gp [(0,.yd),(0,.ptr 0 0 0)] 22,[.box [pS s0]],s⟩ k =
 Y1 yh lf n s0 s (λs0 s=>k .ret ⟨gp [] 24,[.box [pS s0]],s⟩):=by
 induction n generalizing s0 s with
 | zero=>rfl
 | succ n ih=>rw [Y1];simp only [<-ih];kernel_rfl
noncomputable def JY {σ R:Type} (yh:Yh σ) (lf:Nat) (t:By) (s:σ) (k0:By->σ->Option R):Option R:=cond (A3 t.length) (cond (not (J0 t)) (k0 t s) (Y1 yh lf lf t s (λs'5 s'6=>k0 s'5 s'6))) none
theorem Ao7 (d:Nat) (t s):evC (Kj lf) (d+1) σ yh 76 [.yd,.ptr 0 0 0] [.box [pS t]] s=JY yh lf t s (λs0 s=>some (.tup [],[.box [pS s0]],s)):=by
 refine (evE (fn:=Tryz.f76) (by kernel_rfl)).trans ?_
 generalize evC (Kj lf) d=cl
 unfold JY;exact (Eq.trans (by kernel_rfl) (A0 (A0 rfl ((JZ lf cl yh (G3 0 (I8 (Kj lf) Tryz.f76)) lf t s).trans (by kernel_rfl))) rfl))
end
end
end Go.Proofs.YtelhbgonncceeaaGreatDoor.E
namespace Go.Proofs
open Go.Shelf
def Tryz.lays156_ren:Go.Shelf.Ren:=⟨fun | 156=>119 | 165=>162 | 166=>70 | 169=>72 | 240=>104 | 241=>187 | 276=>147 | 277=>196 | n=>n,fun | 31=>83 | 9=>9 | 3=>3 | 4=>4 | 0=>0 | 20=>20 | 72=>112 | 76=>115 | 70=>109 | 37=>110 | 75=>114 | 127=>142 | 164=>172 | 5=>5 | 80=>118 | n=>n,fun | n=>n⟩
theorem Tryz.lays156:Go.Proofs.Lays.n156 Tryz.prog Tryz.lays156_ren:={
 mixed:=by kernel_rfl
 f156:=Tryz.func119.trans (congrArg some (by kernel_rfl))
 f165:=Tryz.func162.trans (congrArg some (by kernel_rfl))
 f166:=Tryz.func70.trans (congrArg some (by kernel_rfl))
 f169:=Tryz.func72.trans (congrArg some (by kernel_rfl))
 f240:=Tryz.func104.trans (congrArg some (by kernel_rfl))
 f241:=Tryz.func187.trans (congrArg some (by kernel_rfl))
 f276:=Tryz.func147.trans (congrArg some (by kernel_rfl))
 f277:=Tryz.func196.trans (congrArg some (by kernel_rfl))
 t0:=Tryz.underlying0
 a0:=Tryz.isAgg0
 z0:=Tryz.sizeOf0
 v0:=Tryz.zeroValue0
 t3:=Tryz.underlying3
 a3:=Tryz.isAgg3
 z3:=Tryz.sizeOf3
 v3:=Tryz.zeroValue3
 t4:=Tryz.underlying4
 a4:=Tryz.isAgg4
 z4:=Tryz.sizeOf4
 v4:=Tryz.zeroValue4
 t9:=Tryz.underlying9
 a9:=Tryz.isAgg9
 z9:=Tryz.sizeOf9
 v9:=Tryz.zeroValue9
 t20:=Tryz.underlying20
 a20:=Tryz.isAgg20
 z20:=Tryz.sizeOf20
 v20:=Tryz.zeroValue20
 t31:=Tryz.underlying83
 a31:=Tryz.isAgg83
 z31:=Tryz.sizeOf83
 v31:=Tryz.zeroValue83
 t37:=Tryz.underlying110
 a37:=Tryz.isAgg110
 z37:=Tryz.sizeOf110
 v37:=Tryz.zeroValue110
 t70:=Tryz.underlying109
 a70:=Tryz.isAgg109
 z70:=Tryz.sizeOf109
 v70:=Tryz.zeroValue109
 t72:=Tryz.underlying112
 a72:=Tryz.isAgg112
 z72:=Tryz.sizeOf112
 v72:=Tryz.zeroValue112
 t75:=Tryz.underlying114
 a75:=Tryz.isAgg114
 z75:=Tryz.sizeOf114
 v75:=Tryz.zeroValue114
 t76:=Tryz.underlying115
 a76:=Tryz.isAgg115
 z76:=Tryz.sizeOf115
 v76:=Tryz.zeroValue115
 t127:=Tryz.underlying142
 a127:=Tryz.isAgg142
 z127:=Tryz.sizeOf142
 v127:=Tryz.zeroValue142
 t164:=Tryz.underlying172
 a164:=Tryz.isAgg172
 z164:=Tryz.sizeOf172
 v164:=Tryz.zeroValue172 }
theorem Tryz.Builder_Extra_156:Builder.Extra Tryz.prog Tryz.lays156_ren:={
 sizeBuilder:=by kernel_rfl
 liesBuilder:=by kernel_rfl
 t5:=Tryz.underlying5
 a5:=Tryz.isAgg5
 z5:=Tryz.sizeOf5
 v5:=Tryz.zeroValue5
 infoByte:=by kernel_rfl
 cellsByte:=by kernel_rfl
 sizeByte:=by kernel_rfl
 neB5:=by decide }
def Tryz.lays195_ren:Go.Shelf.Ren:=⟨fun | 195=>160 | n=>n,fun | 9=>9 | 3=>3 | 0=>0 | 4=>4 | n=>n,fun | n=>n⟩
theorem Tryz.lays195:Go.Proofs.Lays.n195 Tryz.prog Tryz.lays195_ren:={
 mixed:=by kernel_rfl
 f195:=Tryz.func160.trans (congrArg some (by kernel_rfl))
 t0:=Tryz.underlying0
 a0:=Tryz.isAgg0
 z0:=Tryz.sizeOf0
 v0:=Tryz.zeroValue0
 t3:=Tryz.underlying3
 a3:=Tryz.isAgg3
 z3:=Tryz.sizeOf3
 v3:=Tryz.zeroValue3
 t4:=Tryz.underlying4
 a4:=Tryz.isAgg4
 z4:=Tryz.sizeOf4
 v4:=Tryz.zeroValue4
 t9:=Tryz.underlying9
 a9:=Tryz.isAgg9
 z9:=Tryz.sizeOf9
 v9:=Tryz.zeroValue9 }
def Tryz.lays143_ren:Go.Shelf.Ren:=⟨fun | 143=>108 | 219=>109 | 217=>150 | 225=>151 | 224=>152 | 267=>153 | 266=>177 | 314=>178 | n=>n,fun | 9=>9 | 3=>3 | 4=>4 | 5=>5 | 46=>139 | 146=>192 | 51=>24 | n=>n,fun | 1=>0 | n=>n⟩
theorem Tryz.lays143:Go.Proofs.Lays.n143 Tryz.prog Tryz.lays143_ren:={
 mixed:=by kernel_rfl
 f143:=Tryz.func108.trans (congrArg some (by kernel_rfl))
 f217:=Tryz.func150.trans (congrArg some (by kernel_rfl))
 f219:=Tryz.func109.trans (congrArg some (by kernel_rfl))
 f224:=Tryz.func152.trans (congrArg some (by kernel_rfl))
 f225:=Tryz.func151.trans (congrArg some (by kernel_rfl))
 f266:=Tryz.func177.trans (congrArg some (by kernel_rfl))
 f267:=Tryz.func153.trans (congrArg some (by kernel_rfl))
 f314:=Tryz.func178.trans (congrArg some (by kernel_rfl))
 t3:=Tryz.underlying3
 a3:=Tryz.isAgg3
 z3:=Tryz.sizeOf3
 v3:=Tryz.zeroValue3
 t4:=Tryz.underlying4
 a4:=Tryz.isAgg4
 z4:=Tryz.sizeOf4
 v4:=Tryz.zeroValue4
 t5:=Tryz.underlying5
 a5:=Tryz.isAgg5
 z5:=Tryz.sizeOf5
 v5:=Tryz.zeroValue5
 t9:=Tryz.underlying9
 a9:=Tryz.isAgg9
 z9:=Tryz.sizeOf9
 v9:=Tryz.zeroValue9
 t46:=Tryz.underlying139
 a46:=Tryz.isAgg139
 z46:=Tryz.sizeOf139
 v46:=Tryz.zeroValue139
 t51:=Tryz.underlying24
 a51:=Tryz.isAgg24
 z51:=Tryz.sizeOf24
 v51:=Tryz.zeroValue24
 t146:=Tryz.underlying192
 a146:=Tryz.isAgg192
 z146:=Tryz.sizeOf192
 v146:=Tryz.zeroValue192
 g1:=by kernel_rfl }
def Tryz.lays145_ren:Go.Shelf.Ren:=⟨fun | 145=>50 | 220=>82 | 219=>109 | 217=>150 | 225=>151 | 224=>152 | 267=>153 | 266=>177 | 314=>178 | n=>n,fun | 9=>9 | 4=>4 | 59=>91 | 3=>3 | 5=>5 | 46=>139 | 146=>192 | 51=>24 | n=>n,fun | 1=>0 | n=>n⟩
theorem Tryz.lays145:Go.Proofs.Lays.n145 Tryz.prog Tryz.lays145_ren:={
 mixed:=by kernel_rfl
 f145:=Tryz.func50.trans (congrArg some (by kernel_rfl))
 f217:=Tryz.func150.trans (congrArg some (by kernel_rfl))
 f219:=Tryz.func109.trans (congrArg some (by kernel_rfl))
 f220:=Tryz.func82.trans (congrArg some (by kernel_rfl))
 f224:=Tryz.func152.trans (congrArg some (by kernel_rfl))
 f225:=Tryz.func151.trans (congrArg some (by kernel_rfl))
 f266:=Tryz.func177.trans (congrArg some (by kernel_rfl))
 f267:=Tryz.func153.trans (congrArg some (by kernel_rfl))
 f314:=Tryz.func178.trans (congrArg some (by kernel_rfl))
 t3:=Tryz.underlying3
 a3:=Tryz.isAgg3
 z3:=Tryz.sizeOf3
 v3:=Tryz.zeroValue3
 t4:=Tryz.underlying4
 a4:=Tryz.isAgg4
 z4:=Tryz.sizeOf4
 v4:=Tryz.zeroValue4
 t5:=Tryz.underlying5
 a5:=Tryz.isAgg5
 z5:=Tryz.sizeOf5
 v5:=Tryz.zeroValue5
 t9:=Tryz.underlying9
 a9:=Tryz.isAgg9
 z9:=Tryz.sizeOf9
 v9:=Tryz.zeroValue9
 t46:=Tryz.underlying139
 a46:=Tryz.isAgg139
 z46:=Tryz.sizeOf139
 v46:=Tryz.zeroValue139
 t51:=Tryz.underlying24
 a51:=Tryz.isAgg24
 z51:=Tryz.sizeOf24
 v51:=Tryz.zeroValue24
 t59:=Tryz.underlying91
 a59:=Tryz.isAgg91
 z59:=Tryz.sizeOf91
 v59:=Tryz.zeroValue91
 t146:=Tryz.underlying192
 a146:=Tryz.isAgg192
 z146:=Tryz.sizeOf192
 v146:=Tryz.zeroValue192
 g1:=by kernel_rfl }
def Tryz.lays138_ren:Go.Shelf.Ren:=⟨fun | 138=>182 | 195=>160 | 218=>193 | 143=>108 | 219=>109 | 217=>150 | 225=>151 | 224=>152 | 267=>153 | 266=>177 | 314=>178 | n=>n,fun | 9=>9 | 3=>3 | 4=>4 | 5=>5 | 0=>0 | 46=>139 | 146=>192 | 51=>24 | n=>n,fun | 1=>0 | n=>n⟩
theorem Tryz.lays138:Go.Proofs.Lays.n138 Tryz.prog Tryz.lays138_ren:={
 mixed:=by kernel_rfl
 f138:=Tryz.func182.trans (congrArg some (by kernel_rfl))
 f143:=Tryz.func108.trans (congrArg some (by kernel_rfl))
 f195:=Tryz.func160.trans (congrArg some (by kernel_rfl))
 f217:=Tryz.func150.trans (congrArg some (by kernel_rfl))
 f218:=Tryz.func193.trans (congrArg some (by kernel_rfl))
 f219:=Tryz.func109.trans (congrArg some (by kernel_rfl))
 f224:=Tryz.func152.trans (congrArg some (by kernel_rfl))
 f225:=Tryz.func151.trans (congrArg some (by kernel_rfl))
 f266:=Tryz.func177.trans (congrArg some (by kernel_rfl))
 f267:=Tryz.func153.trans (congrArg some (by kernel_rfl))
 f314:=Tryz.func178.trans (congrArg some (by kernel_rfl))
 t0:=Tryz.underlying0
 a0:=Tryz.isAgg0
 z0:=Tryz.sizeOf0
 v0:=Tryz.zeroValue0
 t3:=Tryz.underlying3
 a3:=Tryz.isAgg3
 z3:=Tryz.sizeOf3
 v3:=Tryz.zeroValue3
 t4:=Tryz.underlying4
 a4:=Tryz.isAgg4
 z4:=Tryz.sizeOf4
 v4:=Tryz.zeroValue4
 t5:=Tryz.underlying5
 a5:=Tryz.isAgg5
 z5:=Tryz.sizeOf5
 v5:=Tryz.zeroValue5
 t9:=Tryz.underlying9
 a9:=Tryz.isAgg9
 z9:=Tryz.sizeOf9
 v9:=Tryz.zeroValue9
 t46:=Tryz.underlying139
 a46:=Tryz.isAgg139
 z46:=Tryz.sizeOf139
 v46:=Tryz.zeroValue139
 t51:=Tryz.underlying24
 a51:=Tryz.isAgg24
 z51:=Tryz.sizeOf24
 v51:=Tryz.zeroValue24
 t146:=Tryz.underlying192
 a146:=Tryz.isAgg192
 z146:=Tryz.sizeOf192
 v146:=Tryz.zeroValue192
 g1:=by kernel_rfl }
def Tryz.lays196_ren:Go.Shelf.Ren:=⟨fun | 196=>159 | 259=>183 | n=>n,fun | 9=>9 | 4=>4 | 3=>3 | 5=>5 | 12=>12 | 119=>188 | 0=>0 | 46=>139 | 139=>191 | 138=>190 | 53=>168 | n=>n,fun | 3=>1 | 4=>2 | n=>n⟩
theorem Tryz.lays196:Go.Proofs.Lays.n196 Tryz.prog Tryz.lays196_ren:={
 mixed:=by kernel_rfl
 f196:=Tryz.func159.trans (congrArg some (by kernel_rfl))
 f259:=Tryz.func183.trans (congrArg some (by kernel_rfl))
 t0:=Tryz.underlying0
 a0:=Tryz.isAgg0
 z0:=Tryz.sizeOf0
 v0:=Tryz.zeroValue0
 t3:=Tryz.underlying3
 a3:=Tryz.isAgg3
 z3:=Tryz.sizeOf3
 v3:=Tryz.zeroValue3
 t4:=Tryz.underlying4
 a4:=Tryz.isAgg4
 z4:=Tryz.sizeOf4
 v4:=Tryz.zeroValue4
 t5:=Tryz.underlying5
 a5:=Tryz.isAgg5
 z5:=Tryz.sizeOf5
 v5:=Tryz.zeroValue5
 t9:=Tryz.underlying9
 a9:=Tryz.isAgg9
 z9:=Tryz.sizeOf9
 v9:=Tryz.zeroValue9
 t12:=Tryz.underlying12
 a12:=Tryz.isAgg12
 z12:=Tryz.sizeOf12
 v12:=Tryz.zeroValue12
 t46:=Tryz.underlying139
 a46:=Tryz.isAgg139
 z46:=Tryz.sizeOf139
 v46:=Tryz.zeroValue139
 t53:=Tryz.underlying168
 a53:=Tryz.isAgg168
 z53:=Tryz.sizeOf168
 v53:=Tryz.zeroValue168
 t119:=Tryz.underlying188
 a119:=Tryz.isAgg188
 z119:=Tryz.sizeOf188
 t138:=Tryz.underlying190
 a138:=Tryz.isAgg190
 z138:=Tryz.sizeOf190
 v138:=Tryz.zeroValue190
 t139:=Tryz.underlying191
 a139:=Tryz.isAgg191
 z139:=Tryz.sizeOf191
 v139:=Tryz.zeroValue191
 g3:=by kernel_rfl
 g4:=by kernel_rfl }
def Tryz.lays2_21_ren:Go.Shelf.Ren:=⟨fun | 21=>199 | 27=>203 | 28=>204 | 35=>206 | 39=>208 | n=>n,fun | 22=>153 | 3=>3 | 4=>4 | 0=>0 | n=>n,fun | n=>n⟩
theorem Tryz.lays2_21:Go.Proofs.Lays2.n21 Tryz.prog Tryz.lays2_21_ren:={
 mixed:=by kernel_rfl
 f21:=Tryz.func199.trans (congrArg some (by kernel_rfl))
 f27:=Tryz.func203.trans (congrArg some (by kernel_rfl))
 f28:=Tryz.func204.trans (congrArg some (by kernel_rfl))
 f35:=Tryz.func206.trans (congrArg some (by kernel_rfl))
 f39:=Tryz.func208.trans (congrArg some (by kernel_rfl))
 t0:=Tryz.underlying0
 a0:=Tryz.isAgg0
 z0:=Tryz.sizeOf0
 v0:=Tryz.zeroValue0
 t3:=Tryz.underlying3
 a3:=Tryz.isAgg3
 z3:=Tryz.sizeOf3
 v3:=Tryz.zeroValue3
 t4:=Tryz.underlying4
 a4:=Tryz.isAgg4
 z4:=Tryz.sizeOf4
 v4:=Tryz.zeroValue4
 t22:=Tryz.underlying153
 a22:=Tryz.isAgg153
 z22:=Tryz.sizeOf153
 v22:=Tryz.zeroValue153
 i3:=by kernel_rfl }
def Tryz.lays149_ren:Go.Shelf.Ren:=⟨fun | 149=>97 | 222=>142 | n=>n,fun | 9=>9 | 5=>5 | 3=>3 | 4=>4 | n=>n,fun | n=>n⟩
theorem Tryz.lays149:Go.Proofs.Lays.n149 Tryz.prog Tryz.lays149_ren:={
 mixed:=by kernel_rfl
 f149:=Tryz.func97.trans (congrArg some (by kernel_rfl))
 f222:=Tryz.func142.trans (congrArg some (by kernel_rfl))
 t3:=Tryz.underlying3
 a3:=Tryz.isAgg3
 z3:=Tryz.sizeOf3
 v3:=Tryz.zeroValue3
 t4:=Tryz.underlying4
 a4:=Tryz.isAgg4
 z4:=Tryz.sizeOf4
 v4:=Tryz.zeroValue4
 t5:=Tryz.underlying5
 a5:=Tryz.isAgg5
 z5:=Tryz.sizeOf5
 v5:=Tryz.zeroValue5
 t9:=Tryz.underlying9
 a9:=Tryz.isAgg9
 z9:=Tryz.sizeOf9
 v9:=Tryz.zeroValue9 }
end Go.Proofs
namespace Go.Proofs.YtelhbgonncceeaaGreatDoor.E
set_option linter.all false
section
open Go Go.Proofs Go.Sort
set_option maxRecDepth 100000
theorem Ao3 {C:Cfg} {St:Nat->Prop} {w:World} {g:Nat} {k:IntKind} {zs:List Int} (hG:GOK C St w) (hc:C.G=GX) (h:GX.tab g=some (k,zs)):∃ e x,w.heap[g]? = some (.cells (zs.map λz=>Value.int k z).toArray e x):=(hG.1 g k zs (by rw [hc];exact h)).2
theorem Ao2 {C:Cfg} {St:Nat->Prop} {w:World} (hG:GOK C St w) (hc:C.G=GX):∃ m,w.cell? ⟨0,0,none⟩=some (.int .i64 m):=(hG.2 _ (by rw [hc];rfl)).2
theorem FY {w:World} {g:Nat} {zs:List Int} {k:IntKind} {e:TypeId} {x} (h:w.heap[g]? = some (.cells (zs.map λz=>Value.int k z).toArray e x)) (i:Nat) (hi:i<zs.length):w.cell? ⟨g,i,none⟩=some (.int k (zs.getD i 0)):=by
 simp [World.cell?,h,List.getD_eq_getElem?_getD,List.getElem?_eq_getElem hi]
theorem A13 {C:Cfg} {St:Nat->Prop} {w:World} (hG:GOK C St w) (hc:C.G=GX):Lib.Utf8Tabs 1 2 w:=by
 obtain ⟨e1,x1,h1⟩:=Ao3 (g:=1) (k:=.u8) (zs:=Lib.firstTab) hG hc rfl
 obtain ⟨e2,x2,h2⟩:=Ao3 (g:=2) (k:=.u8) (zs:=Cv) hG hc rfl
 refine ⟨λc hc=>?_,λi hi=>⟨?_,?_⟩⟩
 ·rw [FY h1 c (by simp [Lib.firstTab];omega)]
  simp [Lib.firstTab,List.getD_eq_getElem?_getD,List.getElem?_eq_getElem,hc]
 ·rw [FY h2 (2*i) (by simp [Cv];omega)]
  have:2*i<32:=by omega
  simp [Cv,List.getD_eq_getElem?_getD,this]
 ·rw [FY h2 (2*i+1) (by simp [Cv];omega)]
  have:2*i+1<32:=by omega
  have e:(2*i+1) / 2=i:=by omega
  have e2:¬ (2*i+1) % 2=0:=by omega
  simp [Cv,List.getD_eq_getElem?_getD,this,e,e2]
theorem VK:B4 Tryz.prog GX 108 Vv:=by
 refine B4.fix (pf:=ER) _ (M8 (fn:=Tryz.f108) (by kernel_rfl) (by kernel_rfl) (by kernel_rfl) ?_)
 intro args ret Hc h
 unfold ER at h
 split at h
 ·rename_i s p
  obtain ⟨h0,h⟩:=C0 h
  obtain ⟨rfl,rfl⟩:=G7 h
  refine ⟨rfl,rfl,λC hP hCG Γ w Vs hG hlt hc=>?_⟩
  obtain ⟨U,V,rfl,hu,hv⟩:=hc.arr2
  obtain ⟨s',rfl,rfl⟩:=hu.inv_str
  obtain ⟨p',rfl,rfl⟩:=hv.inv_str
  obtain ⟨m,hm⟩:=Ao2 hG hCG
  have hs:=M7 h0
  refine (Any.strings_Index Tryz.lays143 s' p' m w (by simp at hs;omega) hm).mono ?_
  rintro e w' ⟨rfl,rfl⟩
  exact ⟨_,rfl,RowKit.Below.refl _ _,VP.mk_int _ _⟩
 ·cases h
theorem Ax4:B4 Tryz.prog GX 50 EP:=by
 refine B4.fix (pf:=EQ) _ (M8 (fn:=Tryz.f50) (by kernel_rfl) (by kernel_rfl) (by kernel_rfl) ?_)
 intro args ret Hc h
 unfold EQ at h
 split at h
 ·rename_i s p
  obtain ⟨h0,h⟩:=C0 h
  obtain ⟨rfl,rfl⟩:=G7 h
  refine ⟨rfl,rfl,λC hP hCG Γ w Vs hG hlt hc=>?_⟩
  obtain ⟨U,V,rfl,hu,hv⟩:=hc.arr2
  obtain ⟨s',rfl,rfl⟩:=hu.inv_str
  obtain ⟨p',rfl,rfl⟩:=hv.inv_str
  obtain ⟨m,hm⟩:=Ao2 hG hCG
  have hs:=M7 h0
  refine (Any.strings_Cut Tryz.lays145 s' p' m w (by simp at hs;omega) hm).mono ?_
  rintro e w' ⟨rfl,n,rfl⟩
  exact ⟨_,rfl,IZ _ _,VP.mk_tup3 (VP.mk_str _) (VP.mk_str _) (VP.mk_bool _)⟩
 ·cases h
theorem Ax3:B4 Tryz.prog GX 182 OE:=by
 refine B4.fix (pf:=EO) _ (M8 (fn:=Tryz.f182) (by kernel_rfl) (by kernel_rfl) (by kernel_rfl) ?_)
 intro args ret Hc h
 unfold EO at h
 split at h
 ·rename_i s p
  obtain ⟨h0,h⟩:=C0 h
  obtain ⟨rfl,rfl⟩:=G7 h
  refine ⟨rfl,rfl,λC hP hCG Γ w Vs hG hlt hc=>?_⟩
  obtain ⟨U,V,rfl,hu,hv⟩:=hc.arr2
  obtain ⟨s',rfl,rfl⟩:=hu.inv_str
  obtain ⟨p',rfl,hp⟩:=hv.inv_str
  obtain ⟨c,rfl⟩:∃ c,p=[c]:=by
   match p,h0 with
   | [c],_=>exact ⟨c,rfl⟩
  have hp':p'=⟨#[c]⟩:=by
   cases p' with
   | mk d=>congr 1;exact Array.toList_inj.1 hp
  subst hp'
  refine (Any.strings_Count_one Tryz.lays138 s' c w).mono ?_
  rintro e w' ⟨rfl,rfl⟩
  exact ⟨_,rfl,RowKit.Below.refl _ _,VP.mk_int _ _⟩
 ·cases h
theorem A98 {l:LL} (h:l.all isS=true):l=H6 (l.map elS):=by
 unfold H6
 rw [List.map_map]
 symm
 rw [List.map_congr_left (g:=id)]
 ·simp
 ·intro x hx
  have:=List.all_eq_true.1 h x hx
  unfold isS at this
  split at this
  ·rfl
  grind
theorem Bc2:B4 Tryz.prog GX 119 WC:=by
 refine B4.fix (pf:=Vw) _ (M8 (fn:=Tryz.f119) (by kernel_rfl) (by kernel_rfl) (by kernel_rfl) ?_)
 intro args ret Hc h
 unfold Vw at h
 split at h
 ·rename_i z t l p
  obtain ⟨h0,h⟩:=C0 h
  obtain ⟨h1,h⟩:=C0 h
  obtain ⟨h2,h⟩:=C0 h
  obtain ⟨rfl,rfl⟩:=G7 h
  refine ⟨rfl,rfl,λC hP hCG Γ w Vs hG hlt hc=>?_⟩
  obtain ⟨U,V,rfl,hu,hv⟩:=hc.arr2
  obtain ⟨p',rfl,rfl⟩:=hv.inv_str
  have hlen:=M7 h1
  have hn:=M7 h2
  have hs:=hu.inv_s
  have none':∀ (a:Option Addr) (cap:Nat),l=[]->Calls Tryz.prog 119 #[.slice a 0 cap,.string p'] w λe w'=>∃ V,e = .returned V/\RowKit.Below w.heap.size w w'/\VP Γ (A2 []) w' (.s (.str (Lib.join (l.map elS) p'.data.toList))) V:=by
   intro a cap hl
   subst hl
   refine (Any.strings_Join_none Tryz.lays156 Tryz.Builder_Extra_156 a cap p' w).mono ?_
   rintro e w' ⟨rfl,rfl⟩
   exact ⟨_,rfl,RowKit.Below.refl _ _,VP.mk_str _⟩
  cases hs with
  | nil=>exact none' _ _ rfl
  | emp=>exact none' _ _ rfl
  | sl _ _ g off n cap sz Vc hn' hcap hm ht hg hl' hcl hvl=>
   subst hn'
   have hrow:=A98 h0
   have hsz:∀ i (h:i<l.length),∃ b:ByteArray,(l[i])=[SV.str b.data.toList]/\w.cell? ⟨g,off+i,none⟩=some (.string b):=by
    intro i hi
    have hx:=List.all_eq_true.1 h0 (l[i]) (List.getElem_mem hi)
    unfold isS at hx
    split at hx
    ·rename_i x he
     have hc1:=hcl i hi 0 (by rw [he];simp)
     have hv1:=hvl i hi 0 (by rw [he];simp)
     simp only [he,List.getElem_cons_zero] at hv1
     obtain ⟨b,hb,rfl⟩:=hv1.inv_str
     rw [hb] at hc1
     exact ⟨b,he,by simpa using hc1⟩
    ·cases hx
   obtain ⟨xs,hxs,hcx⟩:∃ xs:List ByteArray,xs.map (·.data.toList)=l.map elS/\∀ (j:Nat) x,xs[j]? = some x->w.cell? ⟨g,off+j,none⟩=some (.string x):=by
    refine ⟨(l.map elS).map λs=>⟨s.toArray⟩,by simp [Function.comp_def],?_⟩
    intro j x hx
    simp only [List.getElem?_map] at hx
    cases hj:l[j]? with
    | none=>simp [hj] at hx
    | some el=>
     obtain ⟨hj1,rfl⟩:=List.getElem?_eq_some_iff.1 hj
     obtain ⟨b,hb,hc2⟩:=hsz j hj1
     simp only [hj,Option.map_some,Option.some.injEq] at hx
     rw [hb] at hx
     simp [elS,SV.gS] at hx
     rw [<-hx]
     exact hc2
   have hll:xs.length=l.length:=by
    have:=congrArg List.length hxs
    simpa using this
   rw [<-hxs] at hlen ⊢
   have hb:g<w.heap.size:=hlt g hg
   have hmx:l.length<=140737488355328:=by omega
   refine (hll ▸ Any.strings_Join Tryz.lays156 Tryz.Builder_Extra_156 g off cap xs p' w hcx hb (by omega) (by omega) (by omega)).mono ?_
   rintro e w' ⟨rfl,hw⟩
   exact ⟨_,rfl,hw,VP.mk_str _⟩
 ·cases h
end
end Go.Proofs.YtelhbgonncceeaaGreatDoor.E
