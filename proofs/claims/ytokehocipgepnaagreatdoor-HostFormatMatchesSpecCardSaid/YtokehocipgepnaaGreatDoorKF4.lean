/-
  Parts of the proof, merged by a program of the prover's own; no condition.
-/
import Derived.Test.YtokehocipgepnaaGreatDoorKF3
import Derived.Lib.JoinLaws
import Derived.Lib.TrimAscii
import Derived.Lib.TrimUEq
import Derived.Lib.ValidLaws
import Derived.Shelf.LaysM
import Derived.Shelf.Spec.SlicesInsert
import Derived.Shelf.Spec.SlicesInsertGrow
import Derived.Shelf.Spec.TrailingZeros
import Derived.Shelf.Strconv.Itoa3
import Derived.Shelf.Strings.Count
import Derived.Shelf.Strings.Cut
import Derived.Shelf.Strings.OnBuilder
import Derived.Shelf.Strings.Search3
import Derived.Shelf.Unicode.ValidAny
import Derived.Shelf.Utf8.RuneCount
import Derived.Test.YtokehocipgepnaaGreatDoorProg
namespace Go.Proofs.YtokehocipgepnaaGreatDoor.E
open Go Go.Proofs
set_option linter.unusedVariables false
set_option linter.unusedSimpArgs false
theorem bOr16 (a b:Nat) (ha:a<65536) (hb:b<65536):bOr .u16 (a:Int) (b:Int)=((a ||| b:Nat):Int):=by
 unfold bOr
 rw [show IntKind.bits .u16=16 from rfl,bvor 16 a b (by omega) (by omega)]
 have:a ||| b<2 ^ 16:=Nat.or_lt_two_pow (by omega) (by omega)
 exact wu16_id (by omega) (by omega)
theorem shl16 (a m:Nat) (h:a*2 ^ m<65536) (hm:m≤16):shlI .u16 (a:Int) (m:Int)=((a*2 ^ m:Nat):Int):=by
 unfold shlI
 rw [Int.toNat_natCast,show IntKind.bits .u16=16 from rfl,Nat.min_eq_left hm]
 have:(a:Int)*2 ^ m=((a*2 ^ m:Nat):Int):=by simp
 rw [this]
 exact wu16_id (by omega) (by omega)
theorem step16 (v d:Nat) (hv:v<4096) (hd:d<16):bOr .u16 (shlI .u16 (v:Int) 4) (d:Int)=((v*16+d:Nat):Int):=by
 have:=shl16 v 4 (by omega) (by omega)
 rw [show ((4:Nat):Int)=4 from rfl] at this
 rw [this,bOr16 _ _ (by omega) (by omega),orShift v d 4 (by omega)]
theorem grp_loop {R:Type} {k0:Unit→Option R} {k1:Int→Option R} (s:By) (hs:s.length≤4):∀ (r i v n:Nat),i+r=s.length→r<n→v<16 ^ i→
  grpc_l0 LF n s (v:Int) (s.length:Int) (i:Int) k0 k1=match grpGo v (s.drop i) with | some w=>k1 (w:Int) | none=>k0 ():=by
 intro r
 induction r with
 | zero=>
  intro i v n hi hn hv
  obtain ⟨n,rfl⟩:∃ m,n=m+1:=⟨n-1,by omega⟩
  rw [grpc_l0_s]
  unfold grpc_l0f
  rw [ltI_f (by omega),List.drop_of_length_le (by omega)]
  rfl
 | succ r ih=>
  intro i v n hi hn hv
  obtain ⟨n,rfl⟩:∃ m,n=m+1:=⟨n-1,by omega⟩
  rw [grpc_l0_s,drop_cons s i (by omega)]
  unfold grpc_l0f
  rw [bAt_nat]
  have hbt:=(s.getD i 0).toNat_lt
  generalize s.getD i 0=b at *
  have hn1:((i:Int)+1)=((i+1:Nat):Int):=by omega
  have hp:16 ^ i≤4096:=by
   have:i=0∨i=1∨i=2∨i=3:=by omega
   rcases this with rfl | rfl | rfl | rfl<;>decide
  simp (disch:=omega) only [ltI_t,inR_t,cond_true,vl,wi64_id,grpc_j2,grpc_j1,grpc_j0]
  rw [hn1]
  simp only [grpGo]
  have go:∀ d:Nat,d<16→grpc_l0 LF n s ((v*16+d:Nat):Int) (s.length:Int) ((i+1:Nat):Int) k0 k1=match grpGo (v*16+d) (s.drop (i+1)) with | some w=>k1 (w:Int) | none=>k0 ():=
   fun d hd=>ih (i+1) _ n (by omega) (by omega) (by rw [Nat.pow_succ];omega)
  rcases dig_cases b with ⟨h1,h2,e⟩ | ⟨h1,h2,e⟩ | ⟨h1,h2,e⟩ | ⟨h1,h2,h3,e⟩
  ·have e2:wu16 (wu8 ((b.toNat:Int)-48))=((dig b:Nat):Int):=by rw [wu8_id (by omega) (by omega),wu16_id (by omega) (by omega)];omega
   simp (disch:=omega) only [ltI_t,ltI_f,Bool.not_true,Bool.not_false,cond_false,cond_true,e2,step16,if_pos (show dig b<16 by omega)]
   exact go _ (by omega)
  ·have e2:wu16 (wu8 (wu8 ((b.toNat:Int)-97)+10))=((dig b:Nat):Int):=by rw [wu8_id (n:=(b.toNat:Int)-97) (by omega) (by omega),wu8_id (by omega) (by omega),wu16_id (by omega) (by omega)];omega
   simp (disch:=omega) only [ltI_t,ltI_f,Bool.not_true,Bool.not_false,cond_false,cond_true,e2,step16,if_pos (show dig b<16 by omega)]
   exact go _ (by omega)
  ·have e2:wu16 (wu8 (wu8 ((b.toNat:Int)-65)+10))=((dig b:Nat):Int):=by rw [wu8_id (n:=(b.toNat:Int)-65) (by omega) (by omega),wu8_id (by omega) (by omega),wu16_id (by omega) (by omega)];omega
   simp (disch:=omega) only [ltI_t,ltI_f,Bool.not_true,Bool.not_false,cond_false,cond_true,e2,step16,if_pos (show dig b<16 by omega)]
   exact go _ (by omega)
  ·rw [if_neg (show ¬ dig b<16 by omega)]
   by_cases c1:b.toNat<48
   ·simp (disch:=omega) only [ltI_t,ltI_f,Bool.not_true,Bool.not_false,cond_false,cond_true]
   ·by_cases c2:b.toNat<65
    ·simp (disch:=omega) only [ltI_t,ltI_f,Bool.not_true,Bool.not_false,cond_false,cond_true]
    ·by_cases c3:b.toNat<97
     ·simp (disch:=omega) only [ltI_t,ltI_f,Bool.not_true,Bool.not_false,cond_false,cond_true]
     ·simp (disch:=omega) only [ltI_t,ltI_f,Bool.not_true,Bool.not_false,cond_false,cond_true]
theorem grpc_spec {R:Type} {k0:Int→Bool→Option R} (s:By) (h0:small s.length=true):grpc LF s k0=k0 (optN (grp s):Int) (grp s).isSome:=by
 have:=LF_big
 unfold grpc grp
 by_cases h1:s=[]
 ·subst h1;rfl
 ·rw [show (s==([]:By))=false from beq_eq_false_iff_ne.2 h1]
  by_cases h2:4<s.length
  ·rw [ltI_t (by omega),if_pos (.inr h2)];rfl
  ·rw [ltI_f (by omega),if_neg (by intro h;rcases h with h | h;exact h1 h;exact h2 h)]
   refine Eq.trans (grp_loop s (by omega) s.length 0 0 LF (by omega) (by omega) (by decide)) ?_
   rw [List.drop_zero]
   cases grpGo 0 s<;>rfl
theorem u16E_len (l:List Nat):(u16E l).length=l.length:=by simp [u16E]
theorem u16E_app (a b:List Nat):u16E (a++b)=u16E a++u16E b:=by simp [u16E]
theorem u16E_isEmpty (l:List Nat):(u16E l).isEmpty=l.isEmpty:=by cases l<;>rfl
theorem okE_u16 {l:List Nat} {i:Nat} (h:i<l.length):okE ⟨true,false,[.int .u16]⟩ (u16E l) i 0=true:=by
 unfold okE u16E
 simp [List.getD_eq_getElem?_getD,h,okS,SV.has]
theorem gE_u16 (l:List Nat) (i:Nat):gE (u16E l) i 0=(l.getD i 0:Int):=by
 unfold gE gC u16E
 by_cases h:i<l.length
 ·simp [List.getD_eq_getElem?_getD,List.getElem?_eq_getElem h,SV.gI]
 ·simp [List.getD_eq_getElem?_getD,List.getElem?_eq_none (show l.length≤i by omega),SV.gI]
theorem grps_len:∀ (last:Bool) (l:List By) (r:List Nat),grps last l=some r→r.length≤2*l.length
 | last,[],r,h=>by simp only [grps,Option.some.injEq] at h;subst h;simp
 | last,x::l,r,h=>by
  simp only [grps] at h
  split at h
  ·cases hq:grps last l with
   | none=>simp [hq] at h
   | some q=>
    simp only [hq,Option.map_some,Option.some.injEq] at h
    subst h
    have:=grps_len last l q hq
    simp only [List.length_cons]
    omega
  ·split at h
   ·split at h
    ·simp only [Option.some.injEq] at h;subst h;simp
     omega
    ·cases h
   ·cases h
theorem v4B_lt {s:By} {v:Nat} (h:v4B s=some v):v<4294967296:=by
 unfold v4B at h
 split at h
 ·rename_i hc
  have:=octs_lt (pcs 46 s) 0 v 0 (by decide) h
  rw [hc] at this
  simpa using this
 ·cases h
theorem grpsc_loop {R:Type} {k0:LL→Option R} {k1:LL→Option R} (last:Bool) (l:List By) (hL:l.length≤1000000001) (hl:∀ x∈l,x.length≤1000000000):∀ (r i n:Nat) (d:List Nat),i+r=l.length→r<n→d.length≤2*i→
  (∀ q,grps last (l.drop i)=some q→grpsc_l0 LF n last (strE l) (l.length:Int) (i:Int) (u16E d) k0 k1=k1 (u16E (d++q)))∧
  (grps last (l.drop i)=none→∃ d',grpsc_l0 LF n last (strE l) (l.length:Int) (i:Int) (u16E d) k0 k1=k0 d'):=by
 intro r
 induction r with
 | zero=>
  intro i n d hi hn hd
  obtain ⟨n,rfl⟩:∃ m,n=m+1:=⟨n-1,by omega⟩
  rw [grpsc_l0_s,List.drop_of_length_le (by omega)]
  unfold grpsc_l0f
  rw [ltI_f (by omega)]
  refine ⟨fun q hq=>?_,fun h=>(by cases h)⟩
  simp only [grps,Option.some.injEq] at hq
  subst hq
  simp
 | succ r ih=>
  intro i n d hi hn hd
  obtain ⟨n,rfl⟩:∃ m,n=m+1:=⟨n-1,by omega⟩
  rw [grpsc_l0_s,pn_get l i (by omega)]
  unfold grpsc_l0f
  have hx:=hl _ (okGet (show i<l.length by omega))
  have hn1:((i:Int)+1)=((i+1:Nat):Int):=by omega
  simp (disch:=omega) only [ltI_t,strE_len,inR_t,cond_true,Int.toNat_natCast,okE_strE,gX_strE,small_t,vl,u16E_len,roomy_of,wi64_id]
  rw [hn1]
  simp only [grps]
  cases hg:grp (l.getD i []) with
  | some v=>
   simp only [Option.isSome_some,cond_true,optN,Option.getD_some]
   have hrow:u16E d++[[SV.int .u16 (v:Int)]]=u16E (d++[v]):=by rw [u16E_app];rfl
   rw [hrow]
   have:=ih (i+1) n (d++[v]) (by omega) (by omega) (by simp<;>omega)
   refine ⟨fun q hq=>?_,fun h=>?_⟩
   ·cases hq':grps last (l.drop (i+1)) with
    | none=>simp [hq'] at hq
    | some q'=>
     simp only [hq',Option.map_some,Option.some.injEq] at hq
     subst hq
     rw [this.1 q' hq']
     simp
   ·cases hq':grps last (l.drop (i+1)) with
    | none=>exact this.2 hq'
    | some q'=>simp [hq'] at h
  | none=>
   simp only [Option.isSome_none,cond_false]
   cases hv:v4B (l.getD i []) with
   | none=>
    simp only [Option.isSome_none,Bool.not_false,cond_true]
    exact ⟨fun q hq=>(by cases hq),fun _=>⟨_,rfl⟩⟩
   | some v=>
    have hvl:=v4B_lt hv
    simp only [Option.isSome_some,Bool.not_true,cond_false,optN,Option.getD_some]
    cases last with
    | false=>
     simp only [Bool.not_false,cond_true,Bool.false_eq_true,false_and,if_false]
     exact ⟨fun q hq=>(by cases hq),fun _=>⟨_,rfl⟩⟩
    | true=>
     simp only [Bool.not_true,cond_false,true_and]
     by_cases hr:r=0
     ·have hd':l.drop (i+1)=[]:=List.drop_of_length_le (by omega)
      rw [ltI_f (by omega),hd',if_pos rfl,show (16:Int)=((16:Nat):Int) from rfl,shr_nat .u32 v 16 (by decide)]
      refine ⟨fun q hq=>?_,fun h=>(by cases h)⟩
      simp only [Option.some.injEq] at hq
      subst hq
      have e1:wu16 ((v / 2 ^ 16:Nat):Int)=((v / 65536:Nat):Int):=wu16_id (by omega) (by omega)
      have e2:wu16 (v:Int)=((v % 65536:Nat):Int):=wu16_nat v
      rw [e1,e2,u16E_app]
      rfl
     ·have hne:l.drop (i+1)≠[]:=by
       rw [pn_get l (i+1) (by omega)];simp
      rw [ltI_t (by omega),if_neg hne]
      exact ⟨fun q hq=>(by cases hq),fun _=>⟨_,rfl⟩⟩
theorem pcs_bound (c:UInt8) {s:By} (hs:s.length≤1000000000):(pcs c s).length≤1000000001:=by
 have:=pcs_len c s
 have:=count_le c s
 omega
theorem grpsc_spec (s:By) (last:Bool) (h0:small s.length=true):∃ r H,grpsc LF s last (fun l=>rv (.tup [.fl 0,.s (.bool true)]) [.arr true 25 1 l]) (fun l=>rv (.tup [.fl 1,.s (.bool false)]) [.arr true 25 1 l,.arr true 25 1 []])=rv r H∧
  r.stab [1,0] H = .tup [.s (.sl (gvs s last).isEmpty (gvs s last).isEmpty 1 (u16E (gvs s last))),.s (.bool (grpsB s last).isSome)]:=by
 have hs:=maxL h0
 have:=LF_big
 unfold grpsc gvs grpsB
 by_cases h1:s=[]
 ·subst h1
  exact ⟨_,_,rfl,rfl⟩
 ·rw [show (s==([]:By))=false from beq_eq_false_iff_ne.2 h1,h0,if_neg h1]
  simp only [cond_false,cond_true,vl,List.getD_cons_zero,strE_len,show ((1:Nat)==1)=true from rfl]
  obtain ⟨a,b⟩:=grpsc_loop (k0:=fun l=>rv (.tup [.fl 1,.s (.bool false)]) [.arr true 25 1 l,.arr true 25 1 []]) (k1:=fun l=>rv (.tup [.fl 0,.s (.bool true)]) [.arr true 25 1 l]) last (pcs 58 s) (pcs_bound 58 hs) (fun x hx=>Nat.le_trans (pcs_mem hx).2 hs) (pcs 58 s).length 0 LF [] (by omega) (by have:=pcs_bound 58 hs;omega) (by simp)
  rw [List.drop_zero] at a b
  cases hq:grps last (pcs 58 s) with
  | some q=>
   refine ⟨_,_,a q hq,?_⟩
   simp [PV.stab,fixC,fix1,PV.snap,snapL,u16E_isEmpty]
  | none=>
   obtain ⟨d',e⟩:=b hq
   refine ⟨_,_,e,?_⟩
   simp [PV.stab,fixC,fix1,PV.snap,snapL,u16E]
theorem len8 {α:Type} {W:List α} (h:W.length=8):∃ a b c d e f g i,W=[a,b,c,d,e,f,g,i]:=by
 match W,h with
 | [a,b,c,d,e,f,g,i],_=>exact ⟨a,b,c,d,e,f,g,i,rfl⟩
def r8 (n:Nat):LL:=List.replicate n [SV.int .u16 0]
theorem r8_u16 (n:Nat):r8 n=u16E (List.replicate n 0):=by simp [r8,u16E]
theorem gvs_of {s:By} {last:Bool} {q:List Nat} (h:grpsB s last=some q):gvs s last=q:=by unfold gvs;rw [h];rfl
theorem cut_len (s:By):(Lib.cut s [58,58]).1.length≤s.length∧(Lib.cut s [58,58]).2.1.length≤s.length:=by
 unfold Lib.cut
 split
 ·simp<;>omega
 ·simp
theorem v6p_arr {R:Type} {K:LL→LL→Option R} (X Y:List Nat) (h:X.length+Y.length≤8) :
  v6p_j0 (u16E X) (u16E Y) (r8 8) K=K (u16E (X++List.replicate (8-X.length-Y.length) 0++Y)) (u16E (X++List.replicate (8-X.length-Y.length) 0++Y)):=by
 unfold v6p_j0
 have l9:(List.take 0 (r8 8)++(List.take 8 (u16E X)++List.drop (0+min (u16E X).length 8) (r8 8)))=u16E (X++List.replicate (8-X.length) 0):=by
  rw [u16E_len,Nat.min_eq_left (show X.length≤8 by omega),List.take_of_length_le (l:=u16E X) (i:=8) (by rw [u16E_len];omega),u16E_app,Nat.zero_add,r8_u16,List.take_zero,List.nil_append]
  unfold u16E
  rw [←List.map_drop,List.drop_replicate]
 have en:wi64 (8-(Y.length:Int))=((8-Y.length:Nat):Int):=by rw [wi64_id (by omega) (by omega)];omega
 have ll:(u16E (X++List.replicate (8-X.length) 0)).length=8:=by simp [u16E_len]<;>omega
 have l11:(List.take (8-Y.length) (u16E (X++List.replicate (8-X.length) 0))++(List.take (8-(8-Y.length)) (u16E Y)++List.drop (8-Y.length+min Y.length (8-(8-Y.length))) (u16E (X++List.replicate (8-X.length) 0))))=u16E (X++List.replicate (8-X.length-Y.length) 0++Y):=by
  rw [List.drop_of_length_le (by rw [ll];omega),List.take_of_length_le (l:=u16E Y) (by rw [u16E_len];omega),u16E_app (X++_) Y,List.append_nil]
  congr 1
  unfold u16E
  rw [←List.map_take,List.take_append,List.take_of_length_le (by omega),List.take_replicate]
  congr 3
  omega
 have hW:(X++List.replicate (8-X.length-Y.length) 0++Y).length=8:=by simp<;>omega
 simp only [vl]
 rw [l9]
 simp only [u16E_len,en,Int.toNat_natCast]
 rw [l11]
 simp only [u16E_len]
 rw [show (r8 8).length=8 from rfl,show List.length (X++List.replicate (8-X.length) (0:Nat))=8 by simp<;>omega,sub3_t (by omega) (by omega) (by omega),decide_eq_true (show 8-Y.length+(8-(8-Y.length))≤8 by omega)]
 simp only [decide_true,cond_true,Nat.le_refl,hW]
 generalize (X++List.replicate (8-X.length-Y.length) 0++Y)=W at *
 obtain ⟨a,b,c,d,e,f,g,i,rfl⟩:=len8 hW
 rfl
theorem v6p_spec {R:Type} {k0:Int→Int→Int→Int→Int→Int→Int→Int→Bool→LL→LL→Option R} (s:By) (h0:small s.length=true) :
  ∃ l l',v6p LF s k0=k0 (v6c 0 s) (v6c 1 s) (v6c 2 s) (v6c 3 s) (v6c 4 s) (v6c 5 s) (v6c 6 s) (v6c 7 s) (v6B s).isSome l l':=by
 have hs:=maxL h0
 have hcl:=cut_len s
 unfold v6p v6c
 rw [h0]
 have bad:∀ (h:v6B s=none),k0 0 0 0 0 0 0 0 0 false (r8 8) (r8 8)=k0 ((((v6B s).getD z8).getD 0 0:Nat):Int) ((((v6B s).getD z8).getD 1 0:Nat):Int) ((((v6B s).getD z8).getD 2 0:Nat):Int) ((((v6B s).getD z8).getD 3 0:Nat):Int) ((((v6B s).getD z8).getD 4 0:Nat):Int) ((((v6B s).getD z8).getD 5 0:Nat):Int) ((((v6B s).getD z8).getD 6 0:Nat):Int) ((((v6B s).getD z8).getD 7 0:Nat):Int) (v6B s).isSome (r8 8) (r8 8):=by
  intro h;rw [h];rfl
 simp (disch:=omega) only [cond_true,vl,small_t]
 have e6:v6B s=match grpsB (Lib.cut s [58,58]).1 (!(Lib.cut s [58,58]).2.2),grpsB (Lib.cut s [58,58]).2.1 true with
  | some x,some y=>if (Lib.cut s [58,58]).2.2 then (if x.length+y.length≤7 then some (x++List.replicate (8-x.length-y.length) 0++y) else none)
   else if x.length+y.length=8 then some (x++y) else none
  | _,_=>none:=rfl
 generalize (Lib.cut s [58,58]).1=A at *
 generalize (Lib.cut s [58,58]).2.1=B at *
 generalize (Lib.cut s [58,58]).2.2=gap at *
 cases hx:grpsB A (!gap) with
 | none=>exact ⟨_,_,bad (by rw [e6,hx])⟩
 | some X=>
  cases hy:grpsB B true with
  | none=>exact ⟨_,_,bad (by rw [e6,hx,hy])⟩
  | some Y=>
   have hXl:X.length≤2000000002:=by
    unfold grpsB at hx
    split at hx
    ·cases hx;simp
    ·have:=grps_len _ _ _ hx;have:=pcs_bound 58 (s:=A) (by omega);omega
   have hYl:Y.length≤2000000002:=by
    unfold grpsB at hy
    split at hy
    ·cases hy;simp
    ·have:=grps_len _ _ _ hy;have:=pcs_bound 58 (s:=B) (by omega);omega
   rw [hx,hy] at e6
   simp only [gvs_of hx,gvs_of hy,u16E_len,Option.isSome_some,Bool.not_true,cond_false]
   rw [wi64_id (by omega) (by omega)]
   have fin:∀ (W:List Nat),W.length=8→v6B s=some W→∃ l l',(cond ((decide (8=(u16E W).length*1))&&(okS ⟨true,true,[.int .u16,.int .u16,.int .u16,.int .u16,.int .u16,.int .u16,.int .u16,.int .u16]⟩ (List.flatten (u16E W)) 0))
     (k0 (SV.gI (List.getD (List.flatten (u16E W)) 0 SV.nilp)) (SV.gI (List.getD (List.flatten (u16E W)) 1 SV.nilp)) (SV.gI (List.getD (List.flatten (u16E W)) 2 SV.nilp)) (SV.gI (List.getD (List.flatten (u16E W)) 3 SV.nilp)) (SV.gI (List.getD (List.flatten (u16E W)) 4 SV.nilp)) (SV.gI (List.getD (List.flatten (u16E W)) 5 SV.nilp)) (SV.gI (List.getD (List.flatten (u16E W)) 6 SV.nilp)) (SV.gI (List.getD (List.flatten (u16E W)) 7 SV.nilp)) true (u16E W) (u16E W)) none) =
     k0 ((((v6B s).getD z8).getD 0 0:Nat):Int) ((((v6B s).getD z8).getD 1 0:Nat):Int) ((((v6B s).getD z8).getD 2 0:Nat):Int) ((((v6B s).getD z8).getD 3 0:Nat):Int) ((((v6B s).getD z8).getD 4 0:Nat):Int) ((((v6B s).getD z8).getD 5 0:Nat):Int) ((((v6B s).getD z8).getD 6 0:Nat):Int) ((((v6B s).getD z8).getD 7 0:Nat):Int) (v6B s).isSome l l':=by
    intro W hW h
    rw [h]
    obtain ⟨a,b,c,d,e,f,g,i,rfl⟩:=len8 hW
    exact ⟨_,_,rfl⟩
   cases gap with
   | false=>
    simp only [Bool.not_false,cond_true,Bool.false_eq_true,if_false] at e6 ⊢
    by_cases h8:X.length+Y.length=8
    ·rw [if_pos h8] at e6
     rw [show ((X.length:Int)+(Y.length:Int) != 8)=false by simp;omega]
     simp only [cond_false]
     rw [show (List.replicate 8 [SV.int IntKind.u16 0])=r8 8 from rfl,v6p_arr X Y (by omega)]
     have hz:8-X.length-Y.length=0:=by omega
     rw [hz]
     simp only [List.replicate_zero,List.append_nil]
     exact fin (X++Y) (by simp<;>omega) e6
    ·rw [if_neg h8] at e6
     rw [show ((X.length:Int)+(Y.length:Int) != 8)=true by simp;omega]
     exact ⟨_,_,bad e6⟩
   | true=>
    simp only [Bool.not_true,cond_false,cond_true,if_true] at e6 ⊢
    by_cases h8:X.length+Y.length≤7
    ·rw [if_pos h8] at e6
     rw [ltI_f (by omega)]
     simp only [cond_false]
     rw [show (List.replicate 8 [SV.int IntKind.u16 0])=r8 8 from rfl,v6p_arr X Y (by omega)]
     exact fin _ (by simp<;>omega) e6
    ·rw [if_neg h8] at e6
     rw [ltI_t (by omega)]
     exact ⟨_,_,bad e6⟩
theorem run0_pos {x:Nat} {r:List Nat}:run0 (x::r)=if x=0 then run0 r+1 else 0:=by
 unfold run0
 by_cases h:x=0<;>simp [h]
theorem run0_le (l:List Nat):run0 l≤l.length:=by
 unfold run0
 exact (List.takeWhile_sublist _).length_le
theorem zeros_in {R:Type} {k0:Int→Int→Int→Int→LL→Option R} (W:List Nat) (hW:W.length=8) (at' most:Int) (i:Nat):∀ (r j n:Nat),i+j+r=8→r<n→
  zeros_l0 LF n at' most (i:Int) (j:Int) (u16E W) k0=k0 at' most (i:Int) ((j+run0 (W.drop (i+j)):Nat):Int) (u16E W):=by
 intro r
 induction r with
 | zero=>
  intro j n hj hn
  obtain ⟨n,rfl⟩:∃ m,n=m+1:=⟨n-1,by omega⟩
  rw [zeros_l0_s]
  unfold zeros_l0f
  rw [wi64_id (by omega) (by omega),ltI_f (by omega),List.drop_of_length_le (by omega)]
  rfl
 | succ r ih=>
  intro j n hj hn
  obtain ⟨n,rfl⟩:∃ m,n=m+1:=⟨n-1,by omega⟩
  rw [zeros_l0_s]
  unfold zeros_l0f
  have e1:wi64 ((i:Int)+(j:Int))=((i+j:Nat):Int):=by rw [wi64_id (by omega) (by omega)];rfl
  have e2:wi64 ((j:Int)+1)=((j+1:Nat):Int):=by rw [wi64_id (by omega) (by omega)];rfl
  have hd:W.drop (i+j)=W.getD (i+j) 0::W.drop (i+(j+1)):=by
   rw [List.getD_eq_getElem?_getD,List.getElem?_eq_getElem (by omega),Option.getD_some,←Nat.add_assoc,List.getElem_cons_drop]
  simp (disch:=first | omega | (simp [u16E_len];omega)) only [e1,e2,ltI_t,inR_t,cond_true,Int.toNat_natCast,okE_u16,gE_u16,vl]
  rw [hd,run0_pos]
  by_cases h:W.getD (i+j) 0=0
  ·rw [h,if_pos rfl,show (((0:Nat):Int)==0)=true from rfl,cond_true,ih (j+1) n (by omega) (by omega)]
   congr 2
   omega
  ·rw [if_neg h,show (((W.getD (i+j) 0:Nat):Int)==0)=false by rw [beq_eq_false_iff_ne];omega]
   rfl
theorem zeros_out {R:Type} {k0:Int→Int→LL→Option R} (W:List Nat) (hW:W.length=8):∀ (r i n z m:Nat),i+r=8→r<n→z≤8→m≤8→
  zeros_l1 LF n (z:Int) (m:Int) (i:Int) (u16E W) k0=k0 ((zGo (W.drop i) i z m).1:Nat) ((zGo (W.drop i) i z m).2:Nat) (u16E W):=by
 intro r
 induction r with
 | zero=>
  intro i n z m hi hn hz hm
  obtain ⟨n,rfl⟩:∃ m,n=m+1:=⟨n-1,by omega⟩
  rw [zeros_l1_s]
  unfold zeros_l1f
  rw [ltI_f (by omega),List.drop_of_length_le (by omega)]
  rfl
 | succ r ih=>
  intro i n z m hi hn hz hm
  obtain ⟨n,rfl⟩:∃ m,n=m+1:=⟨n-1,by omega⟩
  have hLF:=LF_big
  rw [zeros_l1_s]
  unfold zeros_l1f
  have hin:=fun K=>zeros_in (R:=R) (k0:=K) W hW (z:Int) (m:Int) i r.succ 0 LF (by omega) (by omega)
  rw [show ((0:Nat):Int)=0 from rfl] at hin
  simp only [Nat.zero_add,Nat.add_zero] at hin
  rw [ltI_t (by omega),cond_true,hin]
  have hd:W.drop i=W.getD i 0::W.drop (i+1):=by
   rw [List.getD_eq_getElem?_getD,List.getElem?_eq_getElem (by omega),Option.getD_some,List.getElem_cons_drop]
  have hl:=run0_le (W.drop i)
  rw [List.length_drop] at hl
  have hn1:wi64 ((i:Int)+1)=((i+1:Nat):Int):=by rw [wi64_id (by omega) (by omega)];rfl
  rw [hn1]
  have hz:zGo (W.drop i) i z m=if m<run0 (W.drop i) then zGo (W.drop (i+1)) (i+1) i (run0 (W.drop i)) else zGo (W.drop (i+1)) (i+1) z m:=by
   rw [hd];rfl
  rw [hz]
  by_cases h:m<run0 (W.drop i)
  ·rw [if_pos h,ltI_t (by omega),cond_true]
   exact ih (i+1) n i (run0 (W.drop i)) (by omega) (by omega) (by omega) (by omega)
  ·rw [if_neg h,ltI_f (by omega),cond_false]
   exact ih (i+1) n z m (by omega) (by omega) (by omega) (by omega)
theorem ok8_iff {a0 a1 a2 a3 a4 a5 a6 a7:Int} (h:ok8 a0 a1 a2 a3 a4 a5 a6 a7=true):∃ b0 b1 b2 b3 b4 b5 b6 b7:Nat,a0=b0∧a1=b1∧a2=b2∧a3=b3∧a4=b4∧a5=b5∧a6=b6∧a7=b7∧b0<65536∧b1<65536∧b2<65536∧b3<65536∧b4<65536∧b5<65536∧b6<65536∧b7<65536:=by
 simp only [ok8,List.all_cons,List.all_nil,Bool.and_true,Bool.and_eq_true,ltN_iff] at h
 exact ⟨a0.toNat,a1.toNat,a2.toNat,a3.toNat,a4.toNat,a5.toNat,a6.toNat,a7.toNat,by omega,by omega,by omega,by omega,by omega,by omega,by omega,by omega,by omega,by omega,by omega,by omega,by omega,by omega,by omega,by omega⟩
theorem zeros_spec {R:Type} {k0:Int→Int→LL→Option R} (a0 a1 a2 a3 a4 a5 a6 a7:Int) (h0:ok8 a0 a1 a2 a3 a4 a5 a6 a7=true):zeros LF a0 a1 a2 a3 a4 a5 a6 a7 k0=k0 ((zGo (n8 a0 a1 a2 a3 a4 a5 a6 a7) 0 0 0).1:Nat) ((zGo (n8 a0 a1 a2 a3 a4 a5 a6 a7) 0 0 0).2:Nat) (u16E (n8 a0 a1 a2 a3 a4 a5 a6 a7)):=by
 obtain ⟨b0,b1,b2,b3,b4,b5,b6,b7,rfl,rfl,rfl,rfl,rfl,rfl,rfl,rfl,h⟩:=ok8_iff h0
 have:=LF_big
 unfold zeros
 exact zeros_out [b0,b1,b2,b3,b4,b5,b6,b7] rfl 8 0 LF 0 0 rfl (by omega) (by omega) (by omega)
theorem hexN_one {n:Nat} (h:n<16):hexN n=[hexD n]:=by rw [hexN,dif_pos h]
theorem hexN_more {n:Nat} (h:¬ n<16):hexN n=hexN (n / 16)++[hexD (n % 16)]:=by rw [hexN,dif_neg h]
theorem hexN_len:∀ n:Nat,n<65536→1≤(hexN n).length∧(hexN n).length≤4:=by
 intro n hn
 by_cases h1:n<16
 ·rw [hexN_one h1];simp
 rw [hexN_more h1]
 by_cases h2:n / 16<16
 ·rw [hexN_one h2];simp
 rw [hexN_more h2]
 by_cases h3:n / 16 / 16<16
 ·rw [hexN_one h3];simp
 rw [hexN_more h3,hexN_one (show n / 16 / 16 / 16<16 by omega)]
 simp
theorem hexD_ne (d:Nat) (h:d<16):hexD d≠58:=by
 have:∀ d:Fin 16,hexD d.val≠58:=by decide
 exact this ⟨d,h⟩
theorem hexN_last (n:Nat):∃ p d,hexN n=p++[d]∧d≠58:=by
 by_cases h1:n<16
 ·exact ⟨[],_,by rw [hexN_one h1];rfl,hexD_ne n h1⟩
 ·exact ⟨_,_,hexN_more h1,hexD_ne _ (by omega)⟩
theorem hexD_cut (d:Nat) (h:d<16):cut ([48,49,50,51,52,53,54,55,56,57,97,98,99,100,101,102]:By) (d:Int) ((d+1:Nat):Int)=[hexD d]:=by
 have:∀ d:Fin 16,(([48,49,50,51,52,53,54,55,56,57,97,98,99,100,101,102]:By).take (d.val+1)).drop d.val=[hexD d.val]:=by decide
 rw [cut_nat]
 exact this ⟨d,h⟩
theorem rhexn_loop {R:Type} {k0:By→Option R}:∀ (v n:Nat) (s:By),v<65536→v+1<n→s.length+v≤70000→(0<v∨s=[])→
  rhexn_l0 LF n s (v:Int) k0=k0 (hexN v++s):=by
 intro v
 induction v using Nat.strongRecOn with
 | _ v ih=>
  intro n s hv hn hs h
  obtain ⟨n,rfl⟩:∃ m,n=m+1:=⟨n-1,by omega⟩
  have em:Int.tmod (v:Int) 16=((v % 16:Nat):Int):=tmod_nat v 16
  have ed:Int.tdiv (v:Int) 16=((v / 16:Nat):Int):=tdiv_nat v 16
  have e1:wu16 (((v % 16:Nat):Int)+1)=((v % 16+1:Nat):Int):=by rw [wu16_id (by omega) (by omega)];rfl
  have e2:wu16 ((v / 16:Nat):Int)=((v / 16:Nat):Int):=wu16_id (by omega) (by omega)
  have last:∀ (m:Nat) (t:By),t≠[]→rhexn_l0 LF (m+1) t 0 k0=k0 t:=by
   intro m t ht
   rw [rhexn_l0_s]
   unfold rhexn_l0f
   rw [ltI_f (by omega),show (t==([]:By))=false from beq_eq_false_iff_ne.2 ht]
   rfl
  have body:(vl (wu16 ((Int.tmod (v:Int) 16)+1)) fun n'0=>
    cond (sub3 (Int.tmod (v:Int) 16) n'0 16)
    (vl (cut (([48,49,50,51,52,53,54,55,56,57,97,98,99,100,101,102]:List UInt8)) (Int.tmod (v:Int) 16) n'0) fun s'1=>
     cond (catOk (List.length s'1) (List.length s))
     (vl (wu16 (Int.tdiv (v:Int) 16)) fun n'2=>rhexn_l0 LF n (s'1++s) n'2 k0) none) none)=k0 (hexN v++s):=by
   simp only [vl,em,ed,e1,e2]
   rw [sub3_t (by omega) (by omega) (by omega),hexD_cut _ (by omega),catOk_t (by simp;omega)]
   simp only [cond_true]
   by_cases h16:v<16
   ·rw [hexN_one h16,Nat.mod_eq_of_lt h16,show v / 16=0 by omega]
    obtain ⟨n,rfl⟩:∃ m,n=m+1:=⟨n-1,by omega⟩
    exact last n _ (by simp)
   ·rw [ih (v / 16) (by omega) n _ (by omega) (by omega) (by simp;omega) (.inl (by omega)),hexN_more h16]
    simp
  rw [rhexn_l0_s]
  unfold rhexn_l0f
  by_cases hv0:0<v
  ·rw [ltI_t (by omega),cond_true]
   exact body
  ·have hs0:s=[]:=by rcases h with h | h;omega;exact h
   rw [ltI_f (by omega),cond_false,show (s==([]:By))=true by simpa using hs0,cond_true]
   exact body
theorem rhexn_spec {R:Type} {k0:By→Option R} (v:Int) (h0:ltN v 65536=true):rhexn LF v k0=k0 (hexN v.toNat):=by
 obtain ⟨hb0,hb1⟩:=ltN_iff.1 h0
 obtain ⟨m,rfl⟩:=Int.eq_ofNat_of_zero_le hb0
 have:=LF_big
 unfold rhexn
 refine Eq.trans (rhexn_loop m LF [] (by omega) (by omega) (by simp<;>omega) (.inr rfl)) ?_
 rw [List.append_nil,Int.toNat_natCast]
theorem ptI_nat (n:Nat):ptI (n:Int)=isPt n:=rfl
theorem ppoint_spec {R:Type} {k0:Bool→Option R} (n:Int):ppoint LF n k0=k0 (ptI n):=by
 unfold ppoint
 by_cases h:n<0
 ·rw [ltI_t h]
  have:ptI n=false:=by
   cases n with
   | ofNat m=>exact absurd h (by simp)
   | negSucc m=>rfl
  rw [this];rfl
 ·obtain ⟨m,rfl⟩:=Int.eq_ofNat_of_zero_le (show 0≤n by omega)
  rw [ltI_f (by omega),ptI_nat]
  unfold isPt
  by_cases h1:1114111<m
  ·rw [ltI_t (by omega)]
   have:Nat.ble m 1114111=false:=by rw [Bool.eq_false_iff,ne_eq,Nat.ble_eq];omega
   rw [this];rfl
  ·rw [ltI_f (by omega)]
   have:Nat.ble m 1114111=true:=by rw [Nat.ble_eq];omega
   rw [this]
   by_cases h2:m<55296
   ·rw [ltI_t (by omega)]
    have:Nat.blt m 55296=true:=by rw [Nat.blt_eq];omega
    rw [this];rfl
   ·rw [ltI_f (by omega)]
    have e:Nat.blt m 55296=false:=by rw [Bool.eq_false_iff,ne_eq,Nat.blt_eq];omega
    rw [e]
    simp only [Bool.not_false,cond_true,cond_false,Bool.false_or,Bool.true_and]
    congr 1
theorem adGo_big {d k:Nat} (h:455<d):adGo d k=adGo (d / 35) (k+36):=by rw [adGo,dif_pos h]
theorem adGo_small {d k:Nat} (h:¬ 455<d):adGo d k=k+36*d / (d+38):=by rw [adGo,dif_neg h]
theorem padapt_loop {R:Type} {k0:Int→Int→Option R}:∀ (d n k:Nat),d<2305843009213693952→d<n→k+d≤4611686018427387904→
  ∃ d' k',d'≤455∧k'≤k+d∧adGo d k=k'+36*d' / (d'+38)∧padapt_l0 LF n (d:Int) (k:Int) k0=k0 (d':Int) (k':Int):=by
 intro d
 induction d using Nat.strongRecOn with
 | _ d ih=>
  intro n k hd hn hk
  obtain ⟨n,rfl⟩:∃ m,n=m+1:=⟨n-1,by omega⟩
  rw [padapt_l0_s]
  unfold padapt_l0f
  by_cases h:455<d
  ·obtain ⟨d',k',h1,h2,h3,h4⟩:=ih (d / 35) (by omega) n (k+36) (by omega) (by omega) (by omega)
   refine ⟨d',k',h1,by omega,by rw [adGo_big h];exact h3,?_⟩
   have e:Int.tdiv (d:Int) 35=((d / 35:Nat):Int):=tdiv_nat d 35
   have e1:wi64 ((d / 35:Nat):Int)=((d / 35:Nat):Int):=wi64_id (by omega) (by omega)
   have e2:wi64 ((k:Int)+36)=((k+36:Nat):Int):=by rw [wi64_id (by omega) (by omega)];rfl
   rw [ltI_t (by omega)]
   simp only [cond_true,vl,e,e1,e2]
   exact h4
  ·refine ⟨d,k,by omega,by omega,adGo_small h,?_⟩
   rw [ltI_f (by omega)]
   rfl
theorem padapt_spec {R:Type} {k0:Int→Option R} (d c:Int) (f:Bool) (h0:ltN d 1152921504606846976=true) (h1:ltN c 1000000=true) (h2:ltI 0 c=true):padapt LF d c f k0=k0 (adapt d.toNat c.toNat f:Nat):=by
 obtain ⟨hd0,hd1⟩:=ltN_iff.1 h0
 obtain ⟨hc0,hc1⟩:=ltN_iff.1 h1
 obtain ⟨d,rfl⟩:=Int.eq_ofNat_of_zero_le hd0
 obtain ⟨c,rfl⟩:=Int.eq_ofNat_of_zero_le hc0
 have hc:=ltI_iff.1 h2
 have hLF:=LF_big
 have key:∀ x:Nat,x<1152921504606846976→padapt_j0 LF (x:Int) (c:Int) k0=k0 ((adGo (x+x / c) 0:Nat):Int):=by
  intro x hx
  have hxc:x / c≤x:=Nat.div_le_self _ _
  unfold padapt_j0
  have e1:Int.tdiv (x:Int) (c:Int)=((x / c:Nat):Int):=tdiv_nat x c
  generalize x / c=q at *
  have e2:wi64 (q:Int)=(q:Int):=wi64_id (by omega) (by omega)
  have e3:wi64 ((x:Int)+(q:Int))=((x+q:Nat):Int):=by rw [wi64_id (by omega) (by omega)];rfl
  rw [show ((c:Int) != 0)=true by simp;omega]
  simp only [cond_true,vl,e1,e2,e3]
  obtain ⟨d',k',g1,g2,g3,g4⟩:=padapt_loop (R:=R) (k0:=fun delta'7 k'8=>vl (wi64 ((36)*delta'7)) fun n'9=>vl (wi64 (delta'7+(38))) fun n'10=>cond (n'10 != (0)) (vl (wi64 (Int.tdiv n'9 n'10)) fun n'11=>k0 (wi64 (k'8+n'11))) none) (x+q) LF 0 (by omega) (by omega) (by omega)
  refine Eq.trans g4 ?_
  have hq:36*d' / (d'+38)≤36*d':=Nat.div_le_self _ _
  have f1:wi64 (36*(d':Int))=((36*d':Nat):Int):=by rw [wi64_id (by omega) (by omega)];rfl
  have f2:wi64 ((d':Int)+38)=((d'+38:Nat):Int):=by rw [wi64_id (by omega) (by omega)];rfl
  have f3:Int.tdiv ((36*d':Nat):Int) ((d'+38:Nat):Int)=((36*d' / (d'+38):Nat):Int):=tdiv_nat _ _
  have f4:wi64 ((36*d' / (d'+38):Nat):Int)=((36*d' / (d'+38):Nat):Int):=wi64_id (by omega) (by omega)
  have f5:wi64 ((k':Int)+((36*d' / (d'+38):Nat):Int))=((k'+36*d' / (d'+38):Nat):Int):=by rw [wi64_id (by omega) (by omega)];rfl
  simp only [vl,f1,f2,f3,f4,f5]
  rw [show (((d'+38:Nat):Int) != 0)=true by simp;omega,g3]
  rfl
 unfold padapt adapt
 rw [Int.toNat_natCast,Int.toNat_natCast]
 cases f with
 | true=>
  have e1:Int.tdiv (d:Int) 700=((d / 700:Nat):Int):=tdiv_nat d 700
  have e2:wi64 ((d / 700:Nat):Int)=((d / 700:Nat):Int):=wi64_id (by omega) (by omega)
  simp only [cond_true,vl,e1,e2,if_true]
  exact key _ (by omega)
 | false=>
  have e1:Int.tdiv (d:Int) 2=((d / 2:Nat):Int):=tdiv_nat d 2
  have e2:wi64 ((d / 2:Nat):Int)=((d / 2:Nat):Int):=wi64_id (by omega) (by omega)
  simp only [cond_false,vl,e1,e2,Bool.false_eq_true,if_false]
  exact key _ (by omega)
theorem dig36_nat {d:Nat} (h:d<36):(dig36 d).toNat=if d<26 then 97+d else 22+d:=by
 unfold dig36
 split<;>simp<;>omega
theorem pdig_spec {R:Type} {k0:Int→Option R} (d:Int) (h0:ltN d 36=true):pdig LF d k0=k0 ((dig36 d.toNat).toNat:Nat):=by
 obtain ⟨hd0,hd1⟩:=ltN_iff.1 h0
 obtain ⟨d,rfl⟩:=Int.eq_ofNat_of_zero_le hd0
 unfold pdig
 rw [Int.toNat_natCast,dig36_nat (by omega)]
 by_cases h:d<26
 ·rw [ltI_t (by omega),if_pos h]
  simp only [cond_true,vl]
  congr 1
  rw [wi64_id (by omega) (by omega),wu8_id (by omega) (by omega)]
  rfl
 ·rw [ltI_f (by omega),if_neg h]
  simp only [cond_false,vl]
  congr 1
  rw [wi64_id (n:=48+(d:Int)) (by omega) (by omega),wi64_id (by omega) (by omega),wu8_id (by omega) (by omega)]
  omega
theorem val36_cases (b:UInt8):(97≤b.toNat∧b.toNat≤122∧val36 b=some (b.toNat-97))∨(65≤b.toNat∧b.toNat≤90∧val36 b=some (b.toNat-65))∨(48≤b.toNat∧b.toNat≤57∧val36 b=some (b.toNat-22))∨(¬(97≤b.toNat∧b.toNat≤122)∧¬(65≤b.toNat∧b.toNat≤90)∧¬(48≤b.toNat∧b.toNat≤57)∧val36 b=none):=by
 unfold val36
 split
 ·rename_i h;exact .inl ⟨h.1,h.2,rfl⟩
 ·split
  ·rename_i h;exact .inr (.inl ⟨h.1,h.2,rfl⟩)
  ·split
   ·rename_i h;exact .inr (.inr (.inl ⟨h.1,h.2,rfl⟩))
   ·exact .inr (.inr (.inr ⟨by assumption,by assumption,by assumption,rfl⟩))
theorem pval_spec {R:Type} {k0:Int→Option R} (b:Int) (h0:inR b 256=true):pval LF b k0=k0 (val36I (u8n b)):=by
 simp only [inR,Bool.and_eq_true,decide_eq_true_eq] at h0
 have hc:b=((u8n b).toNat:Int):=by
  unfold u8n
  simp
  omega
 generalize u8n b=c at *
 subst hc
 have hbt:=c.toNat_lt
 unfold pval val36I
 simp only [pval_j1,pval_j0,vl]
 rcases val36_cases c with ⟨h1,h2,e⟩ | ⟨h1,h2,e⟩ | ⟨h1,h2,e⟩ | ⟨h1,h2,h3,e⟩
 ·have e2:wi64 (wu8 ((c.toNat:Int)-97))=((c.toNat-97:Nat):Int):=by
   rw [wu8_id (by omega) (by omega),wi64_id (by omega) (by omega)];omega
  simp (disch:=omega) only [ltI_t,ltI_f,Bool.not_true,Bool.not_false,cond_false,cond_true,e2,e]
 ·have e2:wi64 (wu8 ((c.toNat:Int)-65))=((c.toNat-65:Nat):Int):=by
   rw [wu8_id (by omega) (by omega),wi64_id (by omega) (by omega)];omega
  simp (disch:=omega) only [ltI_t,ltI_f,Bool.not_true,Bool.not_false,cond_false,cond_true,e2,e]
 ·have e2:wi64 (wi64 (wu8 ((c.toNat:Int)-48))+26)=((c.toNat-22:Nat):Int):=by
   rw [wu8_id (by omega) (by omega),wi64_id (n:=(c.toNat:Int)-48) (by omega) (by omega),wi64_id (by omega) (by omega)];omega
  simp (disch:=omega) only [ltI_t,ltI_f,Bool.not_true,Bool.not_false,cond_false,cond_true,e2,e]
 ·rw [e]
  by_cases c1:c.toNat<48
  ·simp (disch:=omega) only [ltI_t,ltI_f,Bool.not_true,Bool.not_false,cond_false,cond_true]
  ·by_cases c2:c.toNat<65
   ·simp (disch:=omega) only [ltI_t,ltI_f,Bool.not_true,Bool.not_false,cond_false,cond_true]
   ·by_cases c3:c.toNat<97
    ·simp (disch:=omega) only [ltI_t,ltI_f,Bool.not_true,Bool.not_false,cond_false,cond_true]
    ·simp (disch:=omega) only [ltI_t,ltI_f,Bool.not_true,Bool.not_false,cond_false,cond_true]
theorem u16_row {l:LL} (h:l.all isU16=true):∃ W:List Nat,l=u16E W∧(∀ x∈W,x<65536):=by
 induction l with
 | nil=>exact ⟨[],rfl,by simp⟩
 | cons x r ih=>
  simp only [List.all_cons,Bool.and_eq_true] at h
  obtain ⟨W,rfl,hW⟩:=ih h.2
  have hx:=h.1
  unfold isU16 at hx
  split at hx
  ·rename_i n
   obtain ⟨h0,h1⟩:=ltN_iff.1 hx
   obtain ⟨m,rfl⟩:=Int.eq_ofNat_of_zero_le h0
   refine ⟨m::W,rfl,?_⟩
   intro y hy
   rcases List.mem_cons.1 hy with rfl | hy
   ·omega
   ·exact hW y hy
  ·cases hx
theorem u16_all {W:List Nat} (h:∀ x∈W,x<65536):(u16E W).all isU16=true:=by
 rw [List.all_eq_true]
 intro x hx
 simp only [u16E,List.mem_map] at hx
 obtain ⟨n,hn,rfl⟩:=hx
 have:=h n hn
 exact ltN_t (v:=(n:Int)) (n:=65536) (by omega) (by omega)
theorem elN_u16E (W:List Nat):(u16E W).map elN=W:=by
 unfold u16E
 rw [List.map_map]
 conv=>rhs;rw [←List.map_id W]
 apply List.map_congr_left
 intro x _
 simp [elN,SV.gI]
theorem elS_strE (l:List By):(strE l).map elS=l:=by
 unfold strE
 rw [List.map_map]
 conv=>rhs;rw [←List.map_id l]
 apply List.map_congr_left
 intro x _
 simp [elS,SV.gS]
theorem strE_all (l:List By):(strE l).all isS=true:=by
 rw [List.all_eq_true]
 intro x hx
 simp only [strE,List.mem_map] at hx
 obtain ⟨n,hn,rfl⟩:=hx
 rfl
theorem snoc_ind {P:List Nat→Prop} (h0:P []) (h1:∀ l x,P l→P (l++[x])) (l:List Nat):P l:=by
 have:∀ r:List Nat,P r.reverse:=by
  intro r
  induction r with
  | nil=>exact h0
  | cons x r ih=>rw [List.reverse_cons];exact h1 _ _ ih
 have:=this l.reverse
 rwa [List.reverse_reverse] at this
theorem join_snoc (l:List By) (x p:By) (h:l≠[]):Lib.join (l++[x]) p=Lib.join l p++p++x:=by
 cases l with
 | nil=>exact absurd rfl h
 | cons y r=>
  rw [List.cons_append,Lib.join_cons,Lib.join_cons]
  unfold Lib.joinTail
  simp
theorem joinH_nil:joinH []=[]:=rfl
theorem joinH_one (n:Nat):joinH [n]=hexN n:=by unfold joinH;exact Lib.join_one _ _
theorem joinH_snoc (l:List Nat) (n:Nat) (h:l≠[]):joinH (l++[n])=joinH l++[58]++hexN n:=by
 unfold joinH
 rw [List.map_append,List.map_singleton,join_snoc _ _ _ (by simpa using h)]
theorem joinH_len:∀ l:List Nat,(∀ x∈l,x<65536)→(joinH l).length≤5*l.length:=by
 refine snoc_ind ?_ ?_
 ·intro _;simp [joinH_nil]
 ·intro l n ih h
  have h1:=ih (fun x hx=>h x (by simp [hx]))
  have h2:=hexN_len n (h n (by simp))
  by_cases hl:l=[]
  ·subst hl;rw [List.nil_append,joinH_one];simp;omega
  ·rw [joinH_snoc l n hl];simp;omega
theorem joinH_last:∀ (l:List Nat) (h:l≠[]),∃ q d,joinH l=q++[d]∧d≠58:=by
 refine snoc_ind ?_ ?_
 ·intro h;exact absurd rfl h
 ·intro l n _ _
  obtain ⟨q,d,hq,hd⟩:=hexN_last n
  by_cases hl:l=[]
  ·subst hl;exact ⟨q,d,by rw [List.nil_append,joinH_one,hq],hd⟩
  ·exact ⟨joinH l++[58]++q,d,by rw [joinH_snoc l n hl,hq];simp,hd⟩
theorem v6j_loop {R:Type} {k0:LL→Option R} (z t:Bool) (W:List Nat) (hW:∀ x∈W,x<65536) (hl:W.length≤8):∀ (r i n:Nat) (d:List By),i+r=W.length→r<n→d.length=i→
  v6j_l0 LF n z t (u16E W) (W.length:Int) (i:Int) (strE d) k0=k0 (strE (d++(W.drop i).map hexN)):=by
 intro r
 induction r with
 | zero=>
  intro i n d hi hn hd
  obtain ⟨n,rfl⟩:∃ m,n=m+1:=⟨n-1,by omega⟩
  rw [v6j_l0_s]
  unfold v6j_l0f
  rw [ltI_f (by omega),List.drop_of_length_le (by omega)]
  simp
 | succ r ih=>
  intro i n d hi hn hd
  obtain ⟨n,rfl⟩:∃ m,n=m+1:=⟨n-1,by omega⟩
  rw [v6j_l0_s]
  unfold v6j_l0f
  have hdr:W.drop i=W.getD i 0::W.drop (i+1):=by
   rw [List.getD_eq_getElem?_getD,List.getElem?_eq_getElem (by omega),Option.getD_some,List.getElem_cons_drop]
  have hb:W.getD i 0<65536:=by
   rw [List.getD_eq_getElem?_getD,List.getElem?_eq_getElem (by omega),Option.getD_some]
   exact hW _ (List.getElem_mem _)
  have e2:wi64 ((i:Int)+1)=((i+1:Nat):Int):=by rw [wi64_id (by omega) (by omega)];rfl
  rw [hdr]
  generalize hg:W.getD i 0=x at *
  simp (disch:=omega) only [ltI_t,inR_t,cond_true,u16E_len,Int.toNat_natCast,okE_u16,gE_u16,vl,e2,hg,wu64_id,ltN_t,strE_len,roomy_of,show ((16:Int)==16)=true from rfl]
  have hrow:strE d++[[SV.str (hexN x)]]=strE (d++[hexN x]):=by rw [strE_app];rfl
  rw [hrow,ih (i+1) n _ (by omega) (by omega) (by simp;omega)]
  simp
theorem v6j_spec {R:Type} {k0:By→LL→Option R} (z t:Bool) (l:LL) (h0:l.all isU16=true) (h1:Nat.ble l.length 8=true):∃ l',v6j LF z t l k0=k0 (joinH (l.map elN)) l':=by
 obtain ⟨W,rfl,hW⟩:=u16_row h0
 have hl:W.length≤8:=by rw [u16E_len] at h1;exact Nat.le_of_ble_eq_true h1
 have hLF:=LF_big
 refine ⟨strE (W.map hexN),?_⟩
 unfold v6j
 rw [u16E_len]
 refine Eq.trans (v6j_loop z t W hW hl W.length 0 LF [] (by omega) (by omega) rfl) ?_
 have hj:=joinH_len W hW
 unfold joinH at hj
 rw [List.nil_append,List.drop_zero,strE_all,elS_strE,elN_u16E,strE_len,small_t (by omega),small_t (by simp;omega)]
 rfl
theorem zGo_bd:∀ (l:List Nat) (i z m:Nat),z+m≤i+l.length→(zGo l i z m).1+(zGo l i z m).2≤i+l.length
 | [],i,z,m,h=>by simpa [zGo] using h
 | x::r,i,z,m,h=>by
  have hr:=run0_le (x::r)
  simp only [zGo]
  simp only [List.length_cons] at h hr ⊢
  split
  ·have:=zGo_bd r (i+1) i (run0 (x::r)) (by omega);omega
  ·have:=zGo_bd r (i+1) z m (by omega);omega
theorem v6f_spec {R:Type} {k0:By→LL→Option R} (a0 a1 a2 a3 a4 a5 a6 a7:Int) (h0:ok8 a0 a1 a2 a3 a4 a5 a6 a7=true):∃ l,v6f LF a0 a1 a2 a3 a4 a5 a6 a7 k0=k0 (v6Fmt (n8 a0 a1 a2 a3 a4 a5 a6 a7)) l:=by
 obtain ⟨b0,b1,b2,b3,b4,b5,b6,b7,rfl,rfl,rfl,rfl,rfl,rfl,rfl,rfl,h⟩:=ok8_iff h0
 have hn8:n8 b0 b1 b2 b3 b4 b5 b6 b7=[b0,b1,b2,b3,b4,b5,b6,b7]:=rfl
 refine ⟨u16E [b0,b1,b2,b3,b4,b5,b6,b7],?_⟩
 unfold v6f
 rw [h0,hn8,cond_true]
 have hrow:([[SV.int .u16 (b0:Int)],[SV.int .u16 (b1:Int)],[SV.int .u16 (b2:Int)],[SV.int .u16 (b3:Int)],[SV.int .u16 (b4:Int)],[SV.int .u16 (b5:Int)],[SV.int .u16 (b6:Int)],[SV.int .u16 (b7:Int)]]:LL)=u16E [b0,b1,b2,b3,b4,b5,b6,b7]:=rfl
 rw [hrow]
 have hW:∀ x∈[b0,b1,b2,b3,b4,b5,b6,b7],x<65536:=by
  intro x hx
  simp only [List.mem_cons,List.not_mem_nil,or_false] at hx
  omega
 have hlen:[b0,b1,b2,b3,b4,b5,b6,b7].length=8:=rfl
 have hbd:=zGo_bd [b0,b1,b2,b3,b4,b5,b6,b7] 0 0 0 (by simp)
 unfold v6Fmt
 generalize [b0,b1,b2,b3,b4,b5,b6,b7]=W at *
 generalize zGo W 0 0 0=q at *
 obtain ⟨z,m⟩:=q
 rw [hlen] at hbd
 simp only [vl] at hbd ⊢
 have tk:∀ i,(u16E W).take i=u16E (W.take i):=fun i=>by unfold u16E;rw [List.map_take]
 have dr:∀ i,(u16E W).drop i=u16E (W.drop i):=fun i=>by unfold u16E;rw [List.map_drop]
 by_cases hm:m<2
 ·rw [if_pos hm,ltI_t (by omega),cond_true,u16_all hW,elN_u16E]
  rfl
 ·have e1:wi64 ((z:Int)+(m:Int))=((z+m:Nat):Int):=by rw [wi64_id (by omega) (by omega)];rfl
  have hA:∀ x∈W.take z,x<65536:=fun x hx=>hW x (List.mem_of_mem_take hx)
  have hB:∀ x∈W.drop (z+m),x<65536:=fun x hx=>hW x (List.mem_of_mem_drop hx)
  have la:=joinH_len _ hA
  have lb:=joinH_len _ hB
  have l1:(W.take z).length≤8:=by rw [List.length_take];omega
  have l2:(W.drop (z+m)).length≤8:=by rw [List.length_drop];omega
  rw [if_neg hm,ltI_f (by omega),cond_false,sub3_t (by omega) (by omega) (by omega),e1]
  simp only [Int.toNat_natCast,Nat.sub_zero]
  rw [tk,dr,u16_all hA,elN_u16E,u16E_len,Nat.ble_eq_true_of_le l1,catOk_t (by omega),sub3_t (by omega) (by omega) (by omega)]
  have tk2:(u16E (W.drop (z+m))).take (8-(z+m))=u16E (W.drop (z+m)):=List.take_of_length_le (by rw [u16E_len,List.length_drop];omega)
  rw [tk2,u16_all hB,elN_u16E,u16E_len,Nat.ble_eq_true_of_le l2,catOk_t (by simp;omega)]
  simp
theorem rv6f_in {R:Type} {k0:Int→Int→Int→Int→LL→Option R} (W:List Nat) (hW:W.length=8) (at' most:Int) (i:Nat):∀ (r j n:Nat),i+j+r=8→r<n→
  rv6f_l0 LF n at' most (i:Int) (j:Int) (u16E W) k0=k0 at' most (i:Int) ((j+run0 (W.drop (i+j)):Nat):Int) (u16E W):=by
 intro r
 induction r with
 | zero=>
  intro j n hj hn
  obtain ⟨n,rfl⟩:∃ m,n=m+1:=⟨n-1,by omega⟩
  rw [rv6f_l0_s]
  unfold rv6f_l0f
  rw [wi64_id (by omega) (by omega),ltI_f (by omega),List.drop_of_length_le (by omega)]
  rfl
 | succ r ih=>
  intro j n hj hn
  obtain ⟨n,rfl⟩:∃ m,n=m+1:=⟨n-1,by omega⟩
  rw [rv6f_l0_s]
  unfold rv6f_l0f
  have e1:wi64 ((i:Int)+(j:Int))=((i+j:Nat):Int):=by rw [wi64_id (by omega) (by omega)];rfl
  have e2:wi64 ((j:Int)+1)=((j+1:Nat):Int):=by rw [wi64_id (by omega) (by omega)];rfl
  have hd:W.drop (i+j)=W.getD (i+j) 0::W.drop (i+(j+1)):=by
   rw [List.getD_eq_getElem?_getD,List.getElem?_eq_getElem (by omega),Option.getD_some,←Nat.add_assoc,List.getElem_cons_drop]
  simp (disch:=first | omega | (simp [u16E_len];omega)) only [e1,e2,ltI_t,inR_t,cond_true,Int.toNat_natCast,okE_u16,gE_u16,vl]
  rw [hd,run0_pos]
  by_cases h:W.getD (i+j) 0=0
  ·rw [h,if_pos rfl,show (((0:Nat):Int)==0)=true from rfl,cond_true,ih (j+1) n (by omega) (by omega)]
   congr 2
   omega
  ·rw [if_neg h,show (((W.getD (i+j) 0:Nat):Int)==0)=false by rw [beq_eq_false_iff_ne];omega]
   rfl
def RR (z m:Nat) (a b:Int):Prop:=(2≤m∧a=z∧b=m)∨(m<2∧a = -1∧b=1)
theorem rv6f_out {R:Type} {k0:Int→Int→LL→Option R} (W:List Nat) (hW:W.length=8):∀ (r i n z m:Nat) (a b:Int),i+r=8→r<n→z≤8→m≤8→RR z m a b→
  ∃ a' b',RR (zGo (W.drop i) i z m).1 (zGo (W.drop i) i z m).2 a' b'∧rv6f_l1 LF n a b (i:Int) (u16E W) k0=k0 a' b' (u16E W):=by
 intro r
 induction r with
 | zero=>
  intro i n z m a b hi hn hz hm h
  obtain ⟨n,rfl⟩:∃ m,n=m+1:=⟨n-1,by omega⟩
  rw [rv6f_l1_s]
  unfold rv6f_l1f
  rw [ltI_f (by omega),List.drop_of_length_le (by omega)]
  exact ⟨a,b,h,rfl⟩
 | succ r ih=>
  intro i n z m a b hi hn hz hm h
  obtain ⟨n,rfl⟩:∃ m,n=m+1:=⟨n-1,by omega⟩
  have hLF:=LF_big
  rw [rv6f_l1_s]
  unfold rv6f_l1f
  have hin:=fun K=>rv6f_in (R:=R) (k0:=K) W hW a b i r.succ 0 LF (by omega) (by omega)
  rw [show ((0:Nat):Int)=0 from rfl] at hin
  simp only [Nat.zero_add,Nat.add_zero] at hin
  rw [ltI_t (by omega),cond_true,hin]
  have hd:W.drop i=W.getD i 0::W.drop (i+1):=by
   rw [List.getD_eq_getElem?_getD,List.getElem?_eq_getElem (by omega),Option.getD_some,List.getElem_cons_drop]
  have hl:=run0_le (W.drop i)
  rw [List.length_drop] at hl
  have hn1:wi64 ((i:Int)+1)=((i+1:Nat):Int):=by rw [wi64_id (by omega) (by omega)];rfl
  rw [hn1]
  have hz:zGo (W.drop i) i z m=if m<run0 (W.drop i) then zGo (W.drop (i+1)) (i+1) i (run0 (W.drop i)) else zGo (W.drop (i+1)) (i+1) z m:=by
   rw [hd];rfl
  rw [hz]
  generalize run0 (W.drop i)=q at *
  unfold RR at h
  by_cases h2:m<q
  ·rw [if_pos h2]
   by_cases h3:q<2
   ·rw [ltI_f (by omega),cond_false]
    exact ih (i+1) n i q a b (by omega) (by omega) (by omega) (by omega) (by unfold RR;omega)
   ·rw [ltI_t (by omega),cond_true]
    exact ih (i+1) n i q i q (by omega) (by omega) (by omega) (by omega) (by unfold RR;omega)
  ·rw [if_neg h2,ltI_f (by omega),cond_false]
   exact ih (i+1) n z m a b (by omega) (by omega) (by omega) (by omega) h
theorem getD_last (q:By) (d:UInt8):(q++[d]).getD q.length 0=d:=by simp
theorem rv6f_step {R:Type} {k0:By→LL→Option R} (W:List Nat) (hW:W.length=8) (hb:∀ x∈W,x<65536) (a b:Int) (s s':By) (i n:Nat) (hi:i<8) (ha:(i:Int)≠a) (hs:s.length≤1000)
  (h:(s=[]∧s'=hexN (W.getD i 0))∨(∃ q d,s=q++[d]∧d≠58∧s'=s++[58]++hexN (W.getD i 0))∨(∃ q,s=q++[58]∧s'=s++hexN (W.getD i 0))) :
  rv6f_l2 LF (n+1) a b s (i:Int) (u16E W) k0=rv6f_l2 LF n a b s' ((i+1:Nat):Int) (u16E W) k0:=by
 rw [rv6f_l2_s]
 unfold rv6f_l2f
 have hx:W.getD i 0<65536:=by
  rw [List.getD_eq_getElem?_getD,List.getElem?_eq_getElem (by omega),Option.getD_some]
  exact hb _ (List.getElem_mem _)
 have e2:wi64 ((i:Int)+1)=((i+1:Nat):Int):=by rw [wi64_id (by omega) (by omega)];rfl
 have hl:=hexN_len _ hx
 rw [ltI_t (by omega),show ((i:Int)==a)=false from beq_eq_false_iff_ne.2 ha]
 generalize hg:W.getD i 0=x at *
 have ok:=okE_u16 (l:=W) (i:=i) (by omega)
 simp (disch:=omega) only [cond_true,cond_false,inR_t,Int.toNat_natCast,ok,gE_u16,hg,ltN_t,vl,e2]
 rcases h with ⟨rfl,rfl⟩ | ⟨q,d,rfl,hd,rfl⟩ | ⟨q,rfl,rfl⟩
 ·have c1:catOk ([]:By).length (hexN x).length=true:=catOk_t (by simp;omega)
  rw [c1]
  rfl
 ·have e3:wi64 (((q++[d]).length:Int)-1)=((q.length:Nat):Int):=by rw [wi64_id (by omega) (by omega)];simp
  rw [show ((q++[d])==([]:By))=false by simp,e3,inR_t (by omega) (by simp<;>omega),bAt_nat,getD_last]
  have h58:(d.toNat:Int)≠58:=by
   intro h
   apply hd
   apply UInt8.toNat.inj
   exact Int.ofNat.inj h
  rw [show ((d.toNat:Int) != 58)=true from bne_iff_ne.2 h58,catOk_t (by simp at hs ⊢;omega),catOk_t (by simp at hs ⊢;omega)]
  rfl
 ·have e3:wi64 (((q++[58]).length:Int)-1)=((q.length:Nat):Int):=by rw [wi64_id (by omega) (by omega)];simp
  rw [show ((q++[(58:UInt8)])==([]:By))=false by simp,e3,inR_t (by omega) (by simp<;>omega),bAt_nat,getD_last]
  have c1:catOk (q++[(58:UInt8)]).length (hexN x).length=true:=catOk_t (by simp at hs ⊢;omega)
  rw [c1]
  rfl
theorem take_snoc (W:List Nat) (i:Nat) (h:i<W.length):W.take (i+1)=W.take i++[W.getD i 0]:=by
 rw [List.take_add_one,List.getD_eq_getElem?_getD,List.getElem?_eq_getElem h]
 rfl
theorem rv6f_run {R:Type} {k0:By→LL→Option R} (W:List Nat) (hW:W.length=8) (hb:∀ x∈W,x<65536) (a b:Int) (e:Nat) (he:e≤8) (p:By) (hp:p=[]∨∃ q,p=q++[58]) (hpl:p.length≤100) (o:Nat) (ho:o≤8) :
  ∀ (r i n:Nat),i+r=e→o≤i→(∀ j:Nat,i≤j→j<e→(j:Int)≠a)→
   rv6f_l2 LF (n+r) a b (p++joinH ((W.take i).drop o)) (i:Int) (u16E W) k0=rv6f_l2 LF n a b (p++joinH ((W.take e).drop o)) (e:Int) (u16E W) k0:=by
 intro r
 induction r with
 | zero=>
  intro i n hi ho _
  rw [show i=e by omega]
  rfl
 | succ r ih=>
  intro i n hi hoi hj
  rw [show n+(r+1)=(n+r)+1 by omega]
  have hlen:((W.take i).drop o).length=i-o:=by rw [List.length_drop,List.length_take];omega
  have hjl:=joinH_len ((W.take i).drop o) (fun x hx=>hb x (List.mem_of_mem_take (List.mem_of_mem_drop hx)))
  have ht:(W.take (i+1)).drop o=(W.take i).drop o++[W.getD i 0]:=by
   rw [take_snoc W i (by omega),List.drop_append_of_le_length (by rw [List.length_take];omega)]
  have hs:(p++joinH ((W.take i).drop o)).length≤1000:=by rw [List.length_append];omega
  rw [rv6f_step W hW hb a b (p++joinH ((W.take i).drop o)) (p++joinH ((W.take (i+1)).drop o)) i (n+r) (by omega) (hj i (by omega) (by omega)) hs]
  ·exact ih (i+1) n (by omega) (by omega) (fun j h1 h2=>hj j (by omega) h2)
  ·rw [ht]
   generalize (W.take i).drop o=l at *
   by_cases hl:l=[]
   ·subst hl
    rw [List.nil_append,joinH_one,joinH_nil,List.append_nil]
    rcases hp with rfl | ⟨q,rfl⟩
    ·exact .inl ⟨rfl,rfl⟩
    ·exact .inr (.inr ⟨q,rfl,rfl⟩)
   ·obtain ⟨q,d,hq,hd⟩:=joinH_last l hl
    refine .inr (.inl ⟨p++q,d,by rw [hq,List.append_assoc],hd,?_⟩)
    rw [joinH_snoc l _ hl]
    simp
theorem rv6f_spec {R:Type} {k0:By→LL→Option R} (a0 a1 a2 a3 a4 a5 a6 a7:Int) (h0:ok8 a0 a1 a2 a3 a4 a5 a6 a7=true):rv6f LF a0 a1 a2 a3 a4 a5 a6 a7 k0=k0 (v6Fmt (n8 a0 a1 a2 a3 a4 a5 a6 a7)) (u16E (n8 a0 a1 a2 a3 a4 a5 a6 a7)):=by
 obtain ⟨b0,b1,b2,b3,b4,b5,b6,b7,rfl,rfl,rfl,rfl,rfl,rfl,rfl,rfl,h⟩:=ok8_iff h0
 have hn8:n8 b0 b1 b2 b3 b4 b5 b6 b7=[b0,b1,b2,b3,b4,b5,b6,b7]:=rfl
 unfold rv6f
 rw [hn8]
 have hrow:([[SV.int .u16 (b0:Int)],[SV.int .u16 (b1:Int)],[SV.int .u16 (b2:Int)],[SV.int .u16 (b3:Int)],[SV.int .u16 (b4:Int)],[SV.int .u16 (b5:Int)],[SV.int .u16 (b6:Int)],[SV.int .u16 (b7:Int)]]:LL)=u16E [b0,b1,b2,b3,b4,b5,b6,b7]:=rfl
 rw [hrow]
 have hW:∀ x∈[b0,b1,b2,b3,b4,b5,b6,b7],x<65536:=by
  intro x hx
  simp only [List.mem_cons,List.not_mem_nil,or_false] at hx
  omega
 have hlen:[b0,b1,b2,b3,b4,b5,b6,b7].length=8:=rfl
 have hbd:=zGo_bd [b0,b1,b2,b3,b4,b5,b6,b7] 0 0 0 (by simp)
 have hLF:=LF_big
 generalize [b0,b1,b2,b3,b4,b5,b6,b7]=W at *
 obtain ⟨a,b,hr,he⟩:=rv6f_out (R:=R) (k0:=fun at'6 most'7 l'8=>rv6f_l2 LF LF at'6 most'7 [] 0 l'8 (fun s'19 l'20=>k0 s'19 l'20)) W hlen 8 0 LF 0 0 (-1) 1 (by omega) (by omega) (by omega) (by omega) (.inr ⟨by omega,rfl,rfl⟩)
 refine Eq.trans he ?_
 rw [List.drop_zero] at hr
 unfold v6Fmt
 generalize zGo W 0 0 0=q at *
 obtain ⟨z,m⟩:=q
 rw [hlen] at hbd
 simp only at hbd hr ⊢
 have stop:∀ (n:Nat) (s:By),0<n→rv6f_l2 LF n a b s ((8:Nat):Int) (u16E W) (fun s'19 l'20=>k0 s'19 l'20)=k0 s (u16E W):=by
  intro n s hn
  obtain ⟨n,rfl⟩:∃ m,n=m+1:=⟨n-1,by omega⟩
  rw [rv6f_l2_s]
  unfold rv6f_l2f
  rw [ltI_f (by omega)]
  rfl
 rcases hr with ⟨hm,rfl,rfl⟩ | ⟨hm,rfl,rfl⟩
 ·rw [if_neg (by omega)]
  have r1:=rv6f_run (R:=R) (k0:=fun s'19 l'20=>k0 s'19 l'20) W hlen hW (z:Int) (m:Int) z (by omega) [] (.inl rfl) (by simp) 0 (by omega) z 0 (LF-z) (by omega) (by omega) (fun j _ h2=>by omega)
  rw [show LF-z+z=LF by omega] at r1
  simp only [List.take_zero,List.drop_zero,joinH_nil,List.nil_append] at r1
  refine Eq.trans r1 ?_
  obtain ⟨n,hn⟩:∃ n,LF-z=n+8+1:=⟨LF-z-9,by omega⟩
  rw [hn,rv6f_l2_s]
  unfold rv6f_l2f
  have hA:∀ x∈W.take z,x<65536:=fun x hx=>hW x (List.mem_of_mem_take hx)
  have la:=joinH_len _ hA
  have l1:(W.take z).length≤8:=by rw [List.length_take];omega
  have e1:wi64 ((m:Int)-1)=((m-1:Nat):Int):=by rw [wi64_id (by omega) (by omega)];omega
  have e2:wi64 ((z:Int)+((m-1:Nat):Int))=((z+(m-1):Nat):Int):=by rw [wi64_id (by omega) (by omega)];omega
  have e3:wi64 (((z+(m-1):Nat):Int)+1)=((z+m:Nat):Int):=by rw [wi64_id (by omega) (by omega)];omega
  rw [ltI_t (by omega),catOk_t (by omega)]
  simp only [beq_self_eq_true,cond_true,vl,e1,e2,e3]
  have r2:=rv6f_run (R:=R) (k0:=fun s'19 l'20=>k0 s'19 l'20) W hlen hW (z:Int) (m:Int) 8 (by omega) (joinH (W.take z)++[58,58]) (.inr ⟨joinH (W.take z)++[58],by simp⟩) (by simp;omega) (z+m) (by omega) (8-(z+m)) (z+m) (n+(z+m)) (by omega) (by omega) (fun j h1 _=>by omega)
  rw [show n+(z+m)+(8-(z+m))=n+8 by omega] at r2
  have d1:(W.take (z+m)).drop (z+m)=[]:=List.drop_of_length_le (by rw [List.length_take];omega)
  rw [d1,joinH_nil,List.append_nil] at r2
  refine Eq.trans r2 ?_
  rw [stop _ _ (by omega),List.take_of_length_le (show W.length≤8 by omega)]
  simp
 ·rw [if_pos hm]
  have r1:=rv6f_run (R:=R) (k0:=fun s'19 l'20=>k0 s'19 l'20) W hlen hW (-1) 1 8 (by omega) [] (.inl rfl) (by simp) 0 (by omega) 8 0 (LF-8) (by omega) (by omega) (fun j _ _=>by omega)
  rw [show LF-8+8=LF by omega] at r1
  simp only [List.take_zero,List.drop_zero,joinH_nil,List.nil_append] at r1
  refine Eq.trans r1 ?_
  rw [stop _ _ (by omega),List.take_of_length_le (show W.length≤8 by omega)]
end Go.Proofs.YtokehocipgepnaaGreatDoor.E
namespace Go.Proofs.YtokehocipgepnaaGreatDoor.E
open Go Go.Proofs 
set_option linter.unusedVariables false
set_option maxRecDepth 100000
section
variable {σ R : Type} (lf : Nat) (cl : CallT) (yh : Yh σ) (s : σ) (k : Out → St σ → Option R)
noncomputable def c_ispow (lf:Nat):Cfg:=mkCfg lf [210] (lookK []) [] (lookK [(1,[2]),(0,[0])]) [] (lookK []) (some [2]) [] [] []
noncomputable def ispow {R:Type} (lf:Nat) (k0:Unit→Option R):Option R:=k0 ()
theorem ispow_ev (d:Nat):evC (c_ispow lf) (d+1) σ yh 210 [.s (.int .i64 (16:Int))] [] s=ispow lf  (fun _=>some (.s (.bool true),[],s)):=by
 refine (evC_eq (fn:=Tryz.f210) (by kernel_rfl) (by kernel_rfl) (by kernel_rfl)).trans ?_
 generalize evC (c_ispow lf) d=cl
 unfold ispow;kernel_rfl
noncomputable abbrev b_fbits:Code:=bodyOf Tryz.f203
noncomputable def c_fbits (lf:Nat):Cfg:=mkCfg lf [203] (lookK [(11,[0,0,1,0,5,0,0,0,0,0,0]),(18,[0,0,1,0,5,0,0,0,3])]) [(210,X_ispow),(211,X_tz)] (lookK [(30,[10,0]),(29,[10,0]),(28,[0,9,0,0,0,80]),(27,[0,3,5,0,0,0]),(26,[0,3,5,0,0,0]),(25,[0,3,5,0,0,0,75]),(16,[0,2,0,5,0,0,0]),(15,[0,0,1,0,5,0,0,0]),(14,[0,0,1,0,5,0,0,0,0,0,0]),(13,[0,0,1,0,5,0,0,0,0,0,0]),(12,[0,0,1,0,5,0,0,0,0,0,0]),(11,[0,0,1,0,5,0,0,0,0,0,0,29]),(10,[0,0,1,0,5,0,0,0,0,0,0]),(9,[0,0,0,0,0,5,0,0,0,0,0]),(8,[0,0,0,0,0,5,0,0,0,0]),(24,[0,2,0,5,0,0,0]),(23,[0,0,1,0,5,0,0,0]),(22,[0,0,1,0,5,0,0,0,3]),(21,[0,2,0,5,0,0,0,3,0]),(20,[0,0,1,0,5,0,0,0,3,0]),(19,[0,0,1,0,5,0,0,0,3]),(18,[0,0,1,0,5,0,0,0,3,50]),(17,[0,0,1,0,5,0,0,0,3]),(7,[0,0,0,0,0,5,0,0,0,20]),(6,[0,0,0,0,0,5,0,0,0]),(5,[0,0,0,0,0,5,0,0,0,16]),(4,[0,0,0,0,0,5,0,0,0]),(3,[0,0,0,0,0,5,0,0]),(2,[0,0,0,0,0,5,0]),(1,[0,0,0,0,0,5,0,16]),(0,[0,0,0,0,0,5,0])]) [210,211] (lookK [(0,[0,0,1,0,5,0,0,0]),(1,[0,0,1,0,5,0,0,0,0,0,0]),(2,[0,0,1,0,5,0,0,0]),(3,[0,0,1,0,5,0,0,0,3])]) (some [10,0]) [] [] []
noncomputable def fbits_l0f {R:Type} (lf n:Nat) (self:Bool→Bool→LL→Int→Int→LL→Option R) (dst_z0 dst_t1:Bool) (dst2:LL) (u3 i4:Int) (l5:LL) (k0:Bool→Bool→LL→Int→Int→LL→Option R):Option R:=cond (not (ltI u3 (16:Int))) (vl (bAnd .u64 u3 (15:Int)) fun n'0=>cond (inR n'0 36) (vl (bAt (([48,49,50,51,52,53,54,55,56,57,97,98,99,100,101,102,103,104,105,106,107,108,109,110,111,112,113,114,115,116]:List UInt8)++([117,118,119,120,121,122]:List UInt8)) n'0) fun n'1=>cond (inR (wi64 (i4-(1:Int))) 65) (cond (decide ((Int.toNat (wi64 (i4-(1:Int))))<(List.length l5))) (vl (List.set l5 (Int.toNat (wi64 (i4-(1:Int)))) (putAt (List.getD l5 (Int.toNat (wi64 (i4-(1:Int)))) []) 0 [(SV.int .u8 n'1)])) fun l'2=>self dst_z0 dst_t1 dst2 (shrI .u64 u3 (4:Int)) (wi64 (i4-(1:Int))) l'2) (none)) (none)) (none)) (k0 dst_z0 dst_t1 dst2 u3 i4 l5)
noncomputable def fbits_l0 {R:Type} (lf n:Nat) (dst_z0 dst_t1:Bool) (dst2:LL) (u3 i4:Int) (l5:LL) (k0:Bool→Bool→LL→Int→Int→LL→Option R):Option R:=recN (α:=Bool→Bool→LL→Int→Int→LL→Option R) (fun _ _ _ _ _ _=>none) (fun n self dst_z0 dst_t1 dst2 u3 i4 l5=>fbits_l0f lf n self dst_z0 dst_t1 dst2 u3 i4 l5 k0) n dst_z0 dst_t1 dst2 u3 i4 l5
theorem fbits_l0_s {R:Type} (lf n:Nat) (dst_z0 dst_t1:Bool) (dst2:LL) (u3 i4:Int) (l5:LL) (k0:Bool→Bool→LL→Int→Int→LL→Option R):fbits_l0 lf (n+1) dst_z0 dst_t1 dst2 u3 i4 l5 k0=fbits_l0f lf n (fun dst_z0 dst_t1 dst2 u3 i4 l5=>fbits_l0 lf n dst_z0 dst_t1 dst2 u3 i4 l5 k0) dst_z0 dst_t1 dst2 u3 i4 l5 k0:=rfl
theorem fbits_l0_eq (n:Nat) (dst_z0 dst_t1:Bool) (dst2:LL) (u3 i4:Int) (l5:LL):loopK 2 ((c_fbits lf).keep 11) (bd (c_fbits lf) cl yh (cd [1,1,1,1,1,0,1,0,1,1,1,0,0,0] b_fbits)) n ⟨gp [(0,.s (.sl dst_z0 dst_t1 0 dst2)),(0,.s (.int .u64 u3)),(1,.s (.bool false)),(0,.s (.bool false)),(5,.fl 0),(0,.s (.str ([]:List UInt8))),(0,.ptr 1 0 0),(0,.s (.int .i64 i4)),(0,.s (.int .u64 (4:Int))),(0,.s (.int .u64 (16:Int))),(0,.s (.int .u64 (15:Int)))] 85,[.arr true 5 1 [],.arr false 214 1 l5],s⟩ k =
 fbits_l0 lf n dst_z0 dst_t1 dst2 u3 i4 l5 (fun dst_z0 dst_t1 dst2 u3 i4 l5=>k (.exit 0) ⟨gp [(0,.s (.sl dst_z0 dst_t1 0 dst2)),(0,.s (.int .u64 u3)),(1,.s (.bool false)),(0,.s (.bool false)),(5,.fl 0),(0,.s (.str ([]:List UInt8))),(0,.ptr 1 0 0),(0,.s (.int .i64 i4))] 88,[.arr true 5 1 [],.arr false 214 1 l5],s⟩):=by
 induction n generalizing dst_z0 dst_t1 dst2 u3 i4 l5 with
 | zero=>rfl
 | succ n ih=>rw [fbits_l0_s];unfold fbits_l0f;exact (Eq.trans (by kernel_rfl) (cond_congr (vl_congr fun n'0=>(cond_congr (vl_congr fun n'1=>(cond_congr (cond_congr (vl_congr fun l'2=>(ih dst_z0 dst_t1 dst2 (shrI .u64 u3 (4:Int)) (wi64 (i4-(1:Int))) l'2)) rfl) rfl)) rfl)) rfl))
noncomputable def fbits {R:Type} (lf:Nat) (ds_z ds_t:Bool) (ds:LL) (v:Int) (k0:By→LL→Option R):Option R:=cond ((16:Int)==(16:Int)) (cond ((16:Int)==(16:Int)) (fbits_l0 lf lf ds_z ds_t ds v 65 (List.replicate 65 [(SV.int .u8 (0:Int))]) (fun dst_z'3 dst_t'4 dst'5 u'6 i'7 l'8=>cond (inR u'6 36) (vl (bAt (([48,49,50,51,52,53,54,55,56,57,97,98,99,100,101,102,103,104,105,106,107,108,109,110,111,112,113,114,115,116]:List UInt8)++([117,118,119,120,121,122]:List UInt8)) u'6) fun n'9=>cond (inR (wi64 (i'7-(1:Int))) 65) (cond (decide ((Int.toNat (wi64 (i'7-(1:Int))))<(List.length l'8))) (vl (List.set l'8 (Int.toNat (wi64 (i'7-(1:Int)))) (putAt (List.getD l'8 (Int.toNat (wi64 (i'7-(1:Int)))) []) 0 [(SV.int .u8 n'9)])) fun l'10=>cond (decide ((List.length l'10)=65)) (cond (sub3 (wi64 (i'7-(1:Int))) (65:Int) 65) (cond (List.all (List.take (65-(Int.toNat (wi64 (i'7-(1:Int))))) (List.drop (Int.toNat (wi64 (i'7-(1:Int)))) l'10)) isU8) (vl (List.map elU8 (List.take (65-(Int.toNat (wi64 (i'7-(1:Int))))) (List.drop (Int.toNat (wi64 (i'7-(1:Int)))) l'10))) fun s'11=>k0 s'11 l'10) (none)) (none)) (none)) (none)) (none)) (none))) (none)) (none)
theorem fbits_ev (d:Nat) (ds_z ds_t:Bool) (ds:LL) (v:Int):evC (c_fbits lf) (d+1) σ yh 203 [.s (.sl ds_z ds_t 0 ds),.s (.int .u64 v),.s (.int .i64 (16:Int)),.s (.bool false),.s (.bool false)] [] s=fbits lf ds_z ds_t ds v (fun r0 l1=>some (.tup [.fl 0,.s (.str r0)],[.arr true 5 1 [],.arr false 214 1 l1],s)):=by
 refine (evC_eq (fn:=Tryz.f203) (by kernel_rfl) (by kernel_rfl) (by kernel_rfl)).trans ?_
 generalize evC (c_fbits lf) d=cl
 unfold fbits;exact (Eq.trans (by kernel_rfl) (cond_congr (cond_congr ((fbits_l0_eq lf cl yh s (blkK 0 (seqK (c_fbits lf) cl yh (cd [1,1,1,1,1,0,1,0,1,1,1,1] b_fbits) (seqK (c_fbits lf) cl yh (cd [1,1,1,1,1,1] b_fbits) (retK (c_fbits lf) Tryz.f203)))) lf ds_z ds_t ds v 65 (List.replicate 65 [(SV.int .u8 (0:Int))])).trans (congr rfl (funext fun dst_z'3=>(funext fun dst_t'4=>(funext fun dst'5=>(funext fun u'6=>(funext fun i'7=>(funext fun l'8=>(by kernel_rfl))))))))) rfl) rfl))
noncomputable def c_ifmtu (lf:Nat):Cfg:=mkCfg lf [189] (lookK []) [(203,X_fbits)] (lookK [(9,[4]),(8,[8]),(7,[4]),(6,[5,0]),(5,[0,4,0]),(4,[0,4]),(3,[4]),(2,[0,11]),(1,[0,0,8]),(0,[0,0])]) [] (lookK []) (some [4]) [] [] []
noncomputable def ifmtu {R:Type} (lf:Nat) (v:Int) (k0:By→Option R):Option R:=cond (ltN v 65536) (cond ((16:Int)==(16:Int)) (k0 (hexN (Int.toNat v))) (none)) (none)
theorem ifmtu_ev (d:Nat) (v:Int):evC (c_ifmtu lf) (d+1) σ yh 189 [.s (.int .u64 v),.s (.int .i64 (16:Int))] [] s=ifmtu lf v (fun r0=>some (.s (.str r0),[],s)):=by
 refine (evC_eq (fn:=Tryz.f189) (by kernel_rfl) (by kernel_rfl) (by kernel_rfl)).trans ?_
 generalize evC (c_ifmtu lf) d=cl
 unfold ifmtu;kernel_rfl
noncomputable def c_fmtu (lf:Nat):Cfg:=mkCfg lf [159] (lookK []) [(189,X_ifmtu)] (lookK [(1,[4]),(0,[0,0])]) [189] (lookK []) (some [4]) [] [] []
noncomputable def fmtu {R:Type} (lf:Nat) (v:Int) (k0:By→Option R):Option R:=cond (ltN v 65536) (cond ((16:Int)==(16:Int)) (k0 (hexN (Int.toNat v))) (none)) (none)
theorem fmtu_ev (d:Nat) (v:Int):evC (c_fmtu lf) (d+1) σ yh 159 [.s (.int .u64 v),.s (.int .i64 (16:Int))] [] s=fmtu lf v (fun r0=>some (.s (.str r0),[],s)):=by
 refine (evC_eq (fn:=Tryz.f159) (by kernel_rfl) (by kernel_rfl) (by kernel_rfl)).trans ?_
 generalize evC (c_fmtu lf) d=cl
 unfold fmtu;kernel_rfl
end
end Go.Proofs.YtokehocipgepnaaGreatDoor.E
namespace Go.Proofs
open Go.Shelf
def Tryz.lays156_ren:Go.Shelf.Ren:=⟨fun | 156=>52 | 165=>99 | 166=>100 | 169=>101 | 240=>142 | 241=>143 | 276=>177 | 277=>178 | n=>n,fun | 31=>56 | 9=>9 | 3=>3 | 4=>4 | 0=>0 | 20=>20 | 72=>127 | 76=>131 | 70=>125 | 37=>52 | 75=>130 | 127=>165 | 164=>185 | 5=>5 | 80=>133 | n=>n,fun | n=>n⟩
theorem Tryz.lays156:Go.Proofs.Lays.n156 Tryz.prog Tryz.lays156_ren:={
 mixed:=by kernel_rfl
 f156:=Tryz.func52.trans (congrArg some (by kernel_rfl))
 f165:=Tryz.func99.trans (congrArg some (by kernel_rfl))
 f166:=Tryz.func100.trans (congrArg some (by kernel_rfl))
 f169:=Tryz.func101.trans (congrArg some (by kernel_rfl))
 f240:=Tryz.func142.trans (congrArg some (by kernel_rfl))
 f241:=Tryz.func143.trans (congrArg some (by kernel_rfl))
 f276:=Tryz.func177.trans (congrArg some (by kernel_rfl))
 f277:=Tryz.func178.trans (congrArg some (by kernel_rfl))
 t0:=Tryz.underlying0
 a0:=Tryz.isAgg0
 z0:=Tryz.sizeOf0
 v0:=Tryz.zeroValue0
 t3:=Tryz.underlying3
 a3:=Tryz.isAgg3
 z3:=Tryz.sizeOf3
 v3:=Tryz.zeroValue3
 t4:=Tryz.underlying4
 a4:=Tryz.isAgg4
 z4:=Tryz.sizeOf4
 v4:=Tryz.zeroValue4
 t9:=Tryz.underlying9
 a9:=Tryz.isAgg9
 z9:=Tryz.sizeOf9
 v9:=Tryz.zeroValue9
 t20:=Tryz.underlying20
 a20:=Tryz.isAgg20
 z20:=Tryz.sizeOf20
 v20:=Tryz.zeroValue20
 t31:=Tryz.underlying56
 a31:=Tryz.isAgg56
 z31:=Tryz.sizeOf56
 v31:=Tryz.zeroValue56
 t37:=Tryz.underlying52
 a37:=Tryz.isAgg52
 z37:=Tryz.sizeOf52
 v37:=Tryz.zeroValue52
 t70:=Tryz.underlying125
 a70:=Tryz.isAgg125
 z70:=Tryz.sizeOf125
 v70:=Tryz.zeroValue125
 t72:=Tryz.underlying127
 a72:=Tryz.isAgg127
 z72:=Tryz.sizeOf127
 v72:=Tryz.zeroValue127
 t75:=Tryz.underlying130
 a75:=Tryz.isAgg130
 z75:=Tryz.sizeOf130
 v75:=Tryz.zeroValue130
 t76:=Tryz.underlying131
 a76:=Tryz.isAgg131
 z76:=Tryz.sizeOf131
 v76:=Tryz.zeroValue131
 t127:=Tryz.underlying165
 a127:=Tryz.isAgg165
 z127:=Tryz.sizeOf165
 v127:=Tryz.zeroValue165
 t164:=Tryz.underlying185
 a164:=Tryz.isAgg185
 z164:=Tryz.sizeOf185
 v164:=Tryz.zeroValue185 }
theorem Tryz.Builder_Extra_156:Builder.Extra Tryz.prog Tryz.lays156_ren:={
 sizeBuilder:=by kernel_rfl
 liesBuilder:=by kernel_rfl
 t5:=Tryz.underlying5
 a5:=Tryz.isAgg5
 z5:=Tryz.sizeOf5
 v5:=Tryz.zeroValue5
 infoByte:=by kernel_rfl
 cellsByte:=by kernel_rfl
 sizeByte:=by kernel_rfl
 neB5:=by decide }
def Tryz.lays195_ren:Go.Shelf.Ren:=⟨fun | 195=>96 | n=>n,fun | 9=>9 | 3=>3 | 0=>0 | 4=>4 | n=>n,fun | n=>n⟩
theorem Tryz.lays195:Go.Proofs.Lays.n195 Tryz.prog Tryz.lays195_ren:={
 mixed:=by kernel_rfl
 f195:=Tryz.func96.trans (congrArg some (by kernel_rfl))
 t0:=Tryz.underlying0
 a0:=Tryz.isAgg0
 z0:=Tryz.sizeOf0
 v0:=Tryz.zeroValue0
 t3:=Tryz.underlying3
 a3:=Tryz.isAgg3
 z3:=Tryz.sizeOf3
 v3:=Tryz.zeroValue3
 t4:=Tryz.underlying4
 a4:=Tryz.isAgg4
 z4:=Tryz.sizeOf4
 v4:=Tryz.zeroValue4
 t9:=Tryz.underlying9
 a9:=Tryz.isAgg9
 z9:=Tryz.sizeOf9
 v9:=Tryz.zeroValue9 }
def Tryz.laysM171_ren:Go.Shelf.Ren:=⟨fun | 171=>122 | 243=>158 | 246=>188 | 283=>200 | 284=>201 | 285=>202 | 286=>203 | 129=>172 | 317=>208 | 318=>209 | 319=>210 | 320=>211 | 337=>213 | 338=>214 | n=>n,fun | 3=>3 | 9=>9 | 2=>2 | 4=>4 | 171=>204 | 0=>0 | 53=>174 | 37=>52 | 5=>5 | 173=>206 | 212=>213 | 51=>24 | 20=>20 | 213=>214 | 46=>121 | 232=>216 | 233=>217 | n=>n,fun | 17=>3 | 18=>4 | 19=>5 | n=>n⟩
theorem Tryz.laysM171:Go.Proofs.LaysM.n171 Tryz.prog Tryz.laysM171_ren:={
 mixed:=by kernel_rfl
 f129:=Tryz.func172.trans (congrArg some (by kernel_rfl))
 f171:=Tryz.func122.trans (congrArg some (by kernel_rfl))
 f243:=Tryz.func158.trans (congrArg some (by kernel_rfl))
 f246:=Tryz.func188.trans (congrArg some (by kernel_rfl))
 f283:=Tryz.func200.trans (congrArg some (by kernel_rfl))
 f284:=Tryz.func201.trans (congrArg some (by kernel_rfl))
 f285:=Tryz.func202.trans (congrArg some (by kernel_rfl))
 f286:=Tryz.func203.trans (congrArg some (by kernel_rfl))
 f317:=Tryz.func208.trans (congrArg some (by kernel_rfl))
 f318:=Tryz.func209.trans (congrArg some (by kernel_rfl))
 f319:=Tryz.func210.trans (congrArg some (by kernel_rfl))
 f320:=Tryz.func211.trans (congrArg some (by kernel_rfl))
 f337:=Tryz.func213.trans (congrArg some (by kernel_rfl))
 f338:=Tryz.func214.trans (congrArg some (by kernel_rfl))
 t0:=Tryz.underlying0
 a0:=Tryz.isAgg0
 z0:=Tryz.sizeOf0
 v0:=Tryz.zeroValue0
 t2:=Tryz.underlying2
 a2:=Tryz.isAgg2
 z2:=Tryz.sizeOf2
 v2:=Tryz.zeroValue2
 t3:=Tryz.underlying3
 a3:=Tryz.isAgg3
 z3:=Tryz.sizeOf3
 v3:=Tryz.zeroValue3
 t4:=Tryz.underlying4
 a4:=Tryz.isAgg4
 z4:=Tryz.sizeOf4
 v4:=Tryz.zeroValue4
 t5:=Tryz.underlying5
 a5:=Tryz.isAgg5
 z5:=Tryz.sizeOf5
 v5:=Tryz.zeroValue5
 t9:=Tryz.underlying9
 a9:=Tryz.isAgg9
 z9:=Tryz.sizeOf9
 v9:=Tryz.zeroValue9
 t20:=Tryz.underlying20
 a20:=Tryz.isAgg20
 z20:=Tryz.sizeOf20
 v20:=Tryz.zeroValue20
 t37:=Tryz.underlying52
 a37:=Tryz.isAgg52
 z37:=Tryz.sizeOf52
 v37:=Tryz.zeroValue52
 t46:=Tryz.underlying121
 a46:=Tryz.isAgg121
 z46:=Tryz.sizeOf121
 v46:=Tryz.zeroValue121
 t51:=Tryz.underlying24
 a51:=Tryz.isAgg24
 z51:=Tryz.sizeOf24
 v51:=Tryz.zeroValue24
 t53:=Tryz.underlying174
 a53:=Tryz.isAgg174
 z53:=Tryz.sizeOf174
 v53:=Tryz.zeroValue174
 t171:=Tryz.underlying204
 a171:=Tryz.isAgg204
 z171:=Tryz.sizeOf204
 v171:=Tryz.zeroValue204
 t173:=Tryz.underlying206
 a173:=Tryz.isAgg206
 z173:=Tryz.sizeOf206
 v173:=Tryz.zeroValue206
 t212:=Tryz.underlying213
 a212:=Tryz.isAgg213
 z212:=Tryz.sizeOf213
 v212:=Tryz.zeroValue213
 t213:=Tryz.underlying214
 a213:=Tryz.isAgg214
 z213:=Tryz.sizeOf214
 t232:=Tryz.underlying216
 a232:=Tryz.isAgg216
 z232:=Tryz.sizeOf216
 v232:=Tryz.zeroValue216
 t233:=Tryz.underlying217
 a233:=Tryz.isAgg217
 z233:=Tryz.sizeOf217
 v233:=Tryz.zeroValue217
 g17:=by kernel_rfl
 g18:=by kernel_rfl
 g19:=by kernel_rfl
 i0:=by kernel_rfl
 i2:=by kernel_rfl
 i3:=by kernel_rfl
 i4:=by kernel_rfl
 i5:=by kernel_rfl
 i9:=by kernel_rfl
 i20:=by kernel_rfl
 i37:=by kernel_rfl
 i46:=by kernel_rfl
 i51:=by kernel_rfl
 i53:=by kernel_rfl
 i171:=by kernel_rfl
 i173:=by kernel_rfl
 i212:=by kernel_rfl
 i232:=by kernel_rfl
 i233:=by kernel_rfl
 m17:=by kernel_rfl
 m18:=by kernel_rfl
 m19:=by kernel_rfl }
def Tryz.lays143_ren:Go.Shelf.Ren:=⟨fun | 143=>116 | 219=>156 | 217=>183 | 225=>184 | 224=>185 | 267=>186 | 266=>198 | 314=>199 | n=>n,fun | 9=>9 | 3=>3 | 4=>4 | 5=>5 | 46=>121 | 146=>202 | 51=>24 | n=>n,fun | 1=>2 | n=>n⟩
theorem Tryz.lays143:Go.Proofs.Lays.n143 Tryz.prog Tryz.lays143_ren:={
 mixed:=by kernel_rfl
 f143:=Tryz.func116.trans (congrArg some (by kernel_rfl))
 f217:=Tryz.func183.trans (congrArg some (by kernel_rfl))
 f219:=Tryz.func156.trans (congrArg some (by kernel_rfl))
 f224:=Tryz.func185.trans (congrArg some (by kernel_rfl))
 f225:=Tryz.func184.trans (congrArg some (by kernel_rfl))
 f266:=Tryz.func198.trans (congrArg some (by kernel_rfl))
 f267:=Tryz.func186.trans (congrArg some (by kernel_rfl))
 f314:=Tryz.func199.trans (congrArg some (by kernel_rfl))
 t3:=Tryz.underlying3
 a3:=Tryz.isAgg3
 z3:=Tryz.sizeOf3
 v3:=Tryz.zeroValue3
 t4:=Tryz.underlying4
 a4:=Tryz.isAgg4
 z4:=Tryz.sizeOf4
 v4:=Tryz.zeroValue4
 t5:=Tryz.underlying5
 a5:=Tryz.isAgg5
 z5:=Tryz.sizeOf5
 v5:=Tryz.zeroValue5
 t9:=Tryz.underlying9
 a9:=Tryz.isAgg9
 z9:=Tryz.sizeOf9
 v9:=Tryz.zeroValue9
 t46:=Tryz.underlying121
 a46:=Tryz.isAgg121
 z46:=Tryz.sizeOf121
 v46:=Tryz.zeroValue121
 t51:=Tryz.underlying24
 a51:=Tryz.isAgg24
 z51:=Tryz.sizeOf24
 v51:=Tryz.zeroValue24
 t146:=Tryz.underlying202
 a146:=Tryz.isAgg202
 z146:=Tryz.sizeOf202
 v146:=Tryz.zeroValue202
 g1:=by kernel_rfl }
def Tryz.lays145_ren:Go.Shelf.Ren:=⟨fun | 145=>84 | 220=>135 | 219=>156 | 217=>183 | 225=>184 | 224=>185 | 267=>186 | 266=>198 | 314=>199 | n=>n,fun | 9=>9 | 4=>4 | 59=>116 | 3=>3 | 5=>5 | 46=>121 | 146=>202 | 51=>24 | n=>n,fun | 1=>2 | n=>n⟩
theorem Tryz.lays145:Go.Proofs.Lays.n145 Tryz.prog Tryz.lays145_ren:={
 mixed:=by kernel_rfl
 f145:=Tryz.func84.trans (congrArg some (by kernel_rfl))
 f217:=Tryz.func183.trans (congrArg some (by kernel_rfl))
 f219:=Tryz.func156.trans (congrArg some (by kernel_rfl))
 f220:=Tryz.func135.trans (congrArg some (by kernel_rfl))
 f224:=Tryz.func185.trans (congrArg some (by kernel_rfl))
 f225:=Tryz.func184.trans (congrArg some (by kernel_rfl))
 f266:=Tryz.func198.trans (congrArg some (by kernel_rfl))
 f267:=Tryz.func186.trans (congrArg some (by kernel_rfl))
 f314:=Tryz.func199.trans (congrArg some (by kernel_rfl))
 t3:=Tryz.underlying3
 a3:=Tryz.isAgg3
 z3:=Tryz.sizeOf3
 v3:=Tryz.zeroValue3
 t4:=Tryz.underlying4
 a4:=Tryz.isAgg4
 z4:=Tryz.sizeOf4
 v4:=Tryz.zeroValue4
 t5:=Tryz.underlying5
 a5:=Tryz.isAgg5
 z5:=Tryz.sizeOf5
 v5:=Tryz.zeroValue5
 t9:=Tryz.underlying9
 a9:=Tryz.isAgg9
 z9:=Tryz.sizeOf9
 v9:=Tryz.zeroValue9
 t46:=Tryz.underlying121
 a46:=Tryz.isAgg121
 z46:=Tryz.sizeOf121
 v46:=Tryz.zeroValue121
 t51:=Tryz.underlying24
 a51:=Tryz.isAgg24
 z51:=Tryz.sizeOf24
 v51:=Tryz.zeroValue24
 t59:=Tryz.underlying116
 a59:=Tryz.isAgg116
 z59:=Tryz.sizeOf116
 v59:=Tryz.zeroValue116
 t146:=Tryz.underlying202
 a146:=Tryz.isAgg202
 z146:=Tryz.sizeOf202
 v146:=Tryz.zeroValue202
 g1:=by kernel_rfl }
def Tryz.lays138_ren:Go.Shelf.Ren:=⟨fun | 138=>62 | 195=>96 | 218=>115 | 143=>116 | 219=>156 | 217=>183 | 225=>184 | 224=>185 | 267=>186 | 266=>198 | 314=>199 | n=>n,fun | 9=>9 | 3=>3 | 4=>4 | 5=>5 | 0=>0 | 46=>121 | 146=>202 | 51=>24 | n=>n,fun | 1=>2 | n=>n⟩
theorem Tryz.lays138:Go.Proofs.Lays.n138 Tryz.prog Tryz.lays138_ren:={
 mixed:=by kernel_rfl
 f138:=Tryz.func62.trans (congrArg some (by kernel_rfl))
 f143:=Tryz.func116.trans (congrArg some (by kernel_rfl))
 f195:=Tryz.func96.trans (congrArg some (by kernel_rfl))
 f217:=Tryz.func183.trans (congrArg some (by kernel_rfl))
 f218:=Tryz.func115.trans (congrArg some (by kernel_rfl))
 f219:=Tryz.func156.trans (congrArg some (by kernel_rfl))
 f224:=Tryz.func185.trans (congrArg some (by kernel_rfl))
 f225:=Tryz.func184.trans (congrArg some (by kernel_rfl))
 f266:=Tryz.func198.trans (congrArg some (by kernel_rfl))
 f267:=Tryz.func186.trans (congrArg some (by kernel_rfl))
 f314:=Tryz.func199.trans (congrArg some (by kernel_rfl))
 t0:=Tryz.underlying0
 a0:=Tryz.isAgg0
 z0:=Tryz.sizeOf0
 v0:=Tryz.zeroValue0
 t3:=Tryz.underlying3
 a3:=Tryz.isAgg3
 z3:=Tryz.sizeOf3
 v3:=Tryz.zeroValue3
 t4:=Tryz.underlying4
 a4:=Tryz.isAgg4
 z4:=Tryz.sizeOf4
 v4:=Tryz.zeroValue4
 t5:=Tryz.underlying5
 a5:=Tryz.isAgg5
 z5:=Tryz.sizeOf5
 v5:=Tryz.zeroValue5
 t9:=Tryz.underlying9
 a9:=Tryz.isAgg9
 z9:=Tryz.sizeOf9
 v9:=Tryz.zeroValue9
 t46:=Tryz.underlying121
 a46:=Tryz.isAgg121
 z46:=Tryz.sizeOf121
 v46:=Tryz.zeroValue121
 t51:=Tryz.underlying24
 a51:=Tryz.isAgg24
 z51:=Tryz.sizeOf24
 v51:=Tryz.zeroValue24
 t146:=Tryz.underlying202
 a146:=Tryz.isAgg202
 z146:=Tryz.sizeOf202
 v146:=Tryz.zeroValue202
 g1:=by kernel_rfl }
def Tryz.lays196_ren:Go.Shelf.Ren:=⟨fun | 196=>95 | 259=>138 | n=>n,fun | 9=>9 | 4=>4 | 3=>3 | 5=>5 | 12=>12 | 119=>158 | 0=>0 | 46=>121 | 139=>161 | 138=>160 | 53=>174 | n=>n,fun | 3=>0 | 4=>1 | n=>n⟩
theorem Tryz.lays196:Go.Proofs.Lays.n196 Tryz.prog Tryz.lays196_ren:={
 mixed:=by kernel_rfl
 f196:=Tryz.func95.trans (congrArg some (by kernel_rfl))
 f259:=Tryz.func138.trans (congrArg some (by kernel_rfl))
 t0:=Tryz.underlying0
 a0:=Tryz.isAgg0
 z0:=Tryz.sizeOf0
 v0:=Tryz.zeroValue0
 t3:=Tryz.underlying3
 a3:=Tryz.isAgg3
 z3:=Tryz.sizeOf3
 v3:=Tryz.zeroValue3
 t4:=Tryz.underlying4
 a4:=Tryz.isAgg4
 z4:=Tryz.sizeOf4
 v4:=Tryz.zeroValue4
 t5:=Tryz.underlying5
 a5:=Tryz.isAgg5
 z5:=Tryz.sizeOf5
 v5:=Tryz.zeroValue5
 t9:=Tryz.underlying9
 a9:=Tryz.isAgg9
 z9:=Tryz.sizeOf9
 v9:=Tryz.zeroValue9
 t12:=Tryz.underlying12
 a12:=Tryz.isAgg12
 z12:=Tryz.sizeOf12
 v12:=Tryz.zeroValue12
 t46:=Tryz.underlying121
 a46:=Tryz.isAgg121
 z46:=Tryz.sizeOf121
 v46:=Tryz.zeroValue121
 t53:=Tryz.underlying174
 a53:=Tryz.isAgg174
 z53:=Tryz.sizeOf174
 v53:=Tryz.zeroValue174
 t119:=Tryz.underlying158
 a119:=Tryz.isAgg158
 z119:=Tryz.sizeOf158
 t138:=Tryz.underlying160
 a138:=Tryz.isAgg160
 z138:=Tryz.sizeOf160
 v138:=Tryz.zeroValue160
 t139:=Tryz.underlying161
 a139:=Tryz.isAgg161
 z139:=Tryz.sizeOf161
 v139:=Tryz.zeroValue161
 g3:=by kernel_rfl
 g4:=by kernel_rfl }
def Tryz.lays2_21_ren:Go.Shelf.Ren:=⟨fun | 21=>197 | 27=>206 | 28=>207 | 35=>212 | 39=>215 | n=>n,fun | 22=>50 | 3=>3 | 4=>4 | 0=>0 | n=>n,fun | n=>n⟩
theorem Tryz.lays2_21:Go.Proofs.Lays2.n21 Tryz.prog Tryz.lays2_21_ren:={
 mixed:=by kernel_rfl
 f21:=Tryz.func197.trans (congrArg some (by kernel_rfl))
 f27:=Tryz.func206.trans (congrArg some (by kernel_rfl))
 f28:=Tryz.func207.trans (congrArg some (by kernel_rfl))
 f35:=Tryz.func212.trans (congrArg some (by kernel_rfl))
 f39:=Tryz.func215.trans (congrArg some (by kernel_rfl))
 t0:=Tryz.underlying0
 a0:=Tryz.isAgg0
 z0:=Tryz.sizeOf0
 v0:=Tryz.zeroValue0
 t3:=Tryz.underlying3
 a3:=Tryz.isAgg3
 z3:=Tryz.sizeOf3
 v3:=Tryz.zeroValue3
 t4:=Tryz.underlying4
 a4:=Tryz.isAgg4
 z4:=Tryz.sizeOf4
 v4:=Tryz.zeroValue4
 t22:=Tryz.underlying50
 a22:=Tryz.isAgg50
 z22:=Tryz.sizeOf50
 v22:=Tryz.zeroValue50
 i3:=by kernel_rfl }
def Tryz.lays7_27_ren:Go.Shelf.Ren:=⟨fun | 27=>211 | 28=>213 | 29=>214 | n=>n,fun | 25=>121 | 3=>3 | 27=>24 | 22=>174 | 4=>4 | 53=>216 | 0=>0 | 5=>5 | 54=>217 | n=>n,fun | 0=>4 | 1=>5 | n=>n⟩
theorem Tryz.lays7_27:Go.Proofs.Lays7.n27 Tryz.prog Tryz.lays7_27_ren:={
 mixed:=by kernel_rfl
 f27:=Tryz.func211.trans (congrArg some (by kernel_rfl))
 f28:=Tryz.func213.trans (congrArg some (by kernel_rfl))
 f29:=Tryz.func214.trans (congrArg some (by kernel_rfl))
 t0:=Tryz.underlying0
 a0:=Tryz.isAgg0
 z0:=Tryz.sizeOf0
 v0:=Tryz.zeroValue0
 i0:=by kernel_rfl
 t3:=Tryz.underlying3
 a3:=Tryz.isAgg3
 z3:=Tryz.sizeOf3
 v3:=Tryz.zeroValue3
 i3:=by kernel_rfl
 t4:=Tryz.underlying4
 a4:=Tryz.isAgg4
 z4:=Tryz.sizeOf4
 v4:=Tryz.zeroValue4
 i4:=by kernel_rfl
 t5:=Tryz.underlying5
 a5:=Tryz.isAgg5
 z5:=Tryz.sizeOf5
 v5:=Tryz.zeroValue5
 i5:=by kernel_rfl
 t22:=Tryz.underlying174
 a22:=Tryz.isAgg174
 z22:=Tryz.sizeOf174
 v22:=Tryz.zeroValue174
 i22:=by kernel_rfl
 t25:=Tryz.underlying121
 a25:=Tryz.isAgg121
 z25:=Tryz.sizeOf121
 v25:=Tryz.zeroValue121
 i25:=by kernel_rfl
 t27:=Tryz.underlying24
 a27:=Tryz.isAgg24
 z27:=Tryz.sizeOf24
 v27:=Tryz.zeroValue24
 i27:=by kernel_rfl
 t53:=Tryz.underlying216
 a53:=Tryz.isAgg216
 z53:=Tryz.sizeOf216
 v53:=Tryz.zeroValue216
 i53:=by kernel_rfl
 t54:=Tryz.underlying217
 a54:=Tryz.isAgg217
 z54:=Tryz.sizeOf217
 g0:=by kernel_rfl
 g1:=by kernel_rfl }
end Go.Proofs
namespace Go.Proofs.YtokehocipgepnaaGreatDoor.E
open Go Go.Proofs Go.Sort
set_option linter.unusedVariables false
set_option linter.unusedSimpArgs false
set_option maxRecDepth 100000
theorem gk_tab {C:Cfg} {St:Nat→Prop} {w:World} {g:Nat} {k:IntKind} {zs:List Int} (hG:GOK C St w) (hc:C.G=GX) (h:GX.tab g=some (k,zs)):∃ e x,w.heap[g]? = some (.cells (zs.map fun z=>Value.int k z).toArray e x):=(hG.1 g k zs (by rw [hc];exact h)).2
theorem gk_len {C:Cfg} {St:Nat→Prop} {w:World} (hG:GOK C St w) (hc:C.G=GX):∃ m,w.cell? ⟨2,0,none⟩=some (.int .i64 m):=(hG.2 _ (by rw [hc];rfl)).2
theorem gk_cell {w:World} {g:Nat} {zs:List Int} {k:IntKind} {e:TypeId} {x} (h:w.heap[g]? = some (.cells (zs.map fun z=>Value.int k z).toArray e x)) (i:Nat) (hi:i<zs.length):w.cell? ⟨g,i,none⟩=some (.int k (zs.getD i 0)):=by
 simp [World.cell?,h,List.getD_eq_getElem?_getD,List.getElem?_eq_getElem hi]
theorem gk_utf8 {C:Cfg} {St:Nat→Prop} {w:World} (hG:GOK C St w) (hc:C.G=GX):Lib.Utf8Tabs 0 1 w:=by
 obtain ⟨e1,x1,h1⟩:=gk_tab (g:=0) (k:=.u8) (zs:=Lib.firstTab) hG hc rfl
 obtain ⟨e2,x2,h2⟩:=gk_tab (g:=1) (k:=.u8) (zs:=accTab) hG hc rfl
 refine ⟨fun c hc=>?_,fun i hi=>⟨?_,?_⟩⟩
 ·rw [gk_cell h1 c (by simp [Lib.firstTab];omega)]
  simp [Lib.firstTab,List.getD_eq_getElem?_getD,List.getElem?_eq_getElem,hc]
 ·rw [gk_cell h2 (2*i) (by simp [accTab];omega)]
  have:2*i<32:=by omega
  simp [accTab,List.getD_eq_getElem?_getD,this]
 ·rw [gk_cell h2 (2*i+1) (by simp [accTab];omega)]
  have:2*i+1<32:=by omega
  have e:(2*i+1) / 2=i:=by omega
  have e2:¬ (2*i+1) % 2=0:=by omega
  simp [accTab,List.getD_eq_getElem?_getD,this,e,e2]
theorem gk_pow {C:Cfg} {St:Nat→Prop} {w:World} (hG:GOK C St w) (hc:C.G=GX):Lib.TabIs Tryz.prog w "internal/strconv.uint64pow10" .u64 Lib.pow10Tab:=by
 obtain ⟨e1,x1,h1⟩:=gk_tab (g:=3) (k:=.u64) (zs:=Lib.pow10Tab) hG hc rfl
 unfold Lib.TabIs World.var?
 rw [show Tryz.prog.globalNamed "internal/strconv.uint64pow10" = some 3 by kernel_rfl]
 simp only [Option.bind_some,h1]
theorem x_sidx:XFact Tryz.prog GX 116 X_sidx:=by
 refine XFact.fix (pf:=X_sidx0) _ (xfact_of_calls (fn:=Tryz.f116) (by kernel_rfl) (by kernel_rfl) (by kernel_rfl) ?_)
 intro args ret Hc h
 unfold X_sidx0 at h
 split at h
 ·rename_i s p
  obtain ⟨h0,h⟩:=tr_need h
  obtain ⟨rfl,rfl⟩:=tr_ret h
  refine ⟨rfl,rfl,fun C hP hCG Γ w Vs hG hlt hc=>?_⟩
  obtain ⟨U,V,rfl,hu,hv⟩:=hc.arr2
  obtain ⟨s',rfl,rfl⟩:=hu.inv_str
  obtain ⟨p',rfl,rfl⟩:=hv.inv_str
  obtain ⟨m,hm⟩:=gk_len hG hCG
  have hs:=maxL h0
  refine (Any.strings_Index Tryz.lays143 s' p' m w (by simp at hs;omega) hm).mono ?_
  rintro e w' ⟨rfl,rfl⟩
  exact ⟨_,rfl,RowKit.Below.refl _ _,VP.mk_int _ _⟩
 ·cases h
theorem x_scut:XFact Tryz.prog GX 84 X_scut:=by
 refine XFact.fix (pf:=X_scut0) _ (xfact_of_calls (fn:=Tryz.f84) (by kernel_rfl) (by kernel_rfl) (by kernel_rfl) ?_)
 intro args ret Hc h
 unfold X_scut0 at h
 split at h
 ·rename_i s p
  obtain ⟨h0,h⟩:=tr_need h
  obtain ⟨rfl,rfl⟩:=tr_ret h
  refine ⟨rfl,rfl,fun C hP hCG Γ w Vs hG hlt hc=>?_⟩
  obtain ⟨U,V,rfl,hu,hv⟩:=hc.arr2
  obtain ⟨s',rfl,rfl⟩:=hu.inv_str
  obtain ⟨p',rfl,rfl⟩:=hv.inv_str
  obtain ⟨m,hm⟩:=gk_len hG hCG
  have hs:=maxL h0
  refine (Any.strings_Cut Tryz.lays145 s' p' m w (by simp at hs;omega) hm).mono ?_
  rintro e w' ⟨rfl,n,rfl⟩
  exact ⟨_,rfl,below_drewN _ _,VP.mk_tup3 (VP.mk_str _) (VP.mk_str _) (VP.mk_bool _)⟩
 ·cases h
theorem x_scnt:XFact Tryz.prog GX 62 X_scnt:=by
 refine XFact.fix (pf:=X_scnt0) _ (xfact_of_calls (fn:=Tryz.f62) (by kernel_rfl) (by kernel_rfl) (by kernel_rfl) ?_)
 intro args ret Hc h
 unfold X_scnt0 at h
 split at h
 ·rename_i s p
  obtain ⟨h0,h⟩:=tr_need h
  obtain ⟨rfl,rfl⟩:=tr_ret h
  refine ⟨rfl,rfl,fun C hP hCG Γ w Vs hG hlt hc=>?_⟩
  obtain ⟨U,V,rfl,hu,hv⟩:=hc.arr2
  obtain ⟨s',rfl,rfl⟩:=hu.inv_str
  obtain ⟨p',rfl,hp⟩:=hv.inv_str
  obtain ⟨c,rfl⟩:∃ c,p=[c]:=by
   match p,h0 with
   | [c],_=>exact ⟨c,rfl⟩
  have hp':p'=⟨#[c]⟩:=by
   cases p' with
   | mk d=>congr 1;exact Array.toList_inj.1 hp
  subst hp'
  refine (Any.strings_Count_one Tryz.lays138 s' c w).mono ?_
  rintro e w' ⟨rfl,rfl⟩
  exact ⟨_,rfl,RowKit.Below.refl _ _,VP.mk_int _ _⟩
 ·cases h
theorem x_itoa:XFact Tryz.prog GX 122 X_itoa:=by
 refine XFact.fix (pf:=X_itoa0) _ (xfact_of_calls (fn:=Tryz.f122) (by kernel_rfl) (by kernel_rfl) (by kernel_rfl) ?_)
 intro args ret Hc h
 unfold X_itoa0 at h
 split at h
 ·rename_i n
  obtain ⟨h0,h⟩:=tr_need h
  obtain ⟨rfl,rfl⟩:=tr_ret h
  refine ⟨rfl,rfl,fun C hP hCG Γ w Vs hG hlt hc=>?_⟩
  obtain ⟨U,rfl,hu⟩:=hc.arr1
  obtain rfl:=hu.inv_int
  obtain ⟨hb0,hb1⟩:=ltN_iff.1 h0
  refine (Any.strconv_Itoa Tryz.laysM171 n (by omega) (by omega) w (gk_pow hG hCG)).mono ?_
  rintro e w' ⟨rfl,k,os,rfl⟩
  refine ⟨_,rfl,(below_drewN w k).trans (show RowKit.Below w.heap.size _ _ from below_grow (w.drewN k) os),?_⟩
  have:Lib.itoa n=Lib.decDigits n.toNat:=by unfold Lib.itoa;rw [if_neg (by omega)]
  rw [this]
  exact VP.mk_str _
 ·cases h
theorem str_row {l:LL} (h:l.all isS=true):l=strE (l.map elS):=by
 unfold strE
 rw [List.map_map]
 symm
 rw [List.map_congr_left (g:=id)]
 ·simp
 ·intro x hx
  have:=List.all_eq_true.1 h x hx
  unfold isS at this
  split at this
  ·rfl
  ·cases this
theorem x_sjoin:XFact Tryz.prog GX 52 X_sjoin:=by
 refine XFact.fix (pf:=X_sjoin0) _ (xfact_of_calls (fn:=Tryz.f52) (by kernel_rfl) (by kernel_rfl) (by kernel_rfl) ?_)
 intro args ret Hc h
 unfold X_sjoin0 at h
 split at h
 ·rename_i z t l p
  obtain ⟨h0,h⟩:=tr_need h
  obtain ⟨h1,h⟩:=tr_need h
  obtain ⟨h2,h⟩:=tr_need h
  obtain ⟨rfl,rfl⟩:=tr_ret h
  refine ⟨rfl,rfl,fun C hP hCG Γ w Vs hG hlt hc=>?_⟩
  obtain ⟨U,V,rfl,hu,hv⟩:=hc.arr2
  obtain ⟨p',rfl,rfl⟩:=hv.inv_str
  have hlen:=maxL h1
  have hn:=maxL h2
  have hs:=hu.inv_s
  have none':∀ (a:Option Addr) (cap:Nat),l=[]→Calls Tryz.prog 52 #[.slice a 0 cap,.string p'] w fun e w'=>∃ V,e = .returned V∧RowKit.Below w.heap.size w w'∧VP Γ (shpOf []) w' (.s (.str (Lib.join (l.map elS) p'.data.toList))) V:=by
   intro a cap hl
   subst hl
   refine (Any.strings_Join_none Tryz.lays156 Tryz.Builder_Extra_156 a cap p' w).mono ?_
   rintro e w' ⟨rfl,rfl⟩
   exact ⟨_,rfl,RowKit.Below.refl _ _,VP.mk_str _⟩
  cases hs with
  | nil=>exact none' _ _ rfl
  | emp=>exact none' _ _ rfl
  | sl _ _ g off n cap sz Vc hn' hcap hm ht hg hl' hcl hvl=>
   subst hn'
   have hrow:=str_row h0
   have hsz:∀ i (h:i<l.length),∃ b:ByteArray,(l[i])=[SV.str b.data.toList]∧w.cell? ⟨g,off+i,none⟩=some (.string b):=by
    intro i hi
    have hx:=List.all_eq_true.1 h0 (l[i]) (List.getElem_mem hi)
    unfold isS at hx
    split at hx
    ·rename_i x he
     have hc1:=hcl i hi 0 (by rw [he];simp)
     have hv1:=hvl i hi 0 (by rw [he];simp)
     simp only [he,List.getElem_cons_zero] at hv1
     obtain ⟨b,hb,rfl⟩:=hv1.inv_str
     rw [hb] at hc1
     exact ⟨b,he,by simpa using hc1⟩
    ·cases hx
   obtain ⟨xs,hxs,hcx⟩:∃ xs:List ByteArray,xs.map (·.data.toList)=l.map elS∧∀ (j:Nat) x,xs[j]? = some x→w.cell? ⟨g,off+j,none⟩=some (.string x):=by
    refine ⟨(l.map elS).map fun s=>⟨s.toArray⟩,by simp [Function.comp_def],?_⟩
    intro j x hx
    simp only [List.getElem?_map] at hx
    cases hj:l[j]? with
    | none=>simp [hj] at hx
    | some el=>
     obtain ⟨hj1,rfl⟩:=List.getElem?_eq_some_iff.1 hj
     obtain ⟨b,hb,hc2⟩:=hsz j hj1
     simp only [hj,Option.map_some,Option.some.injEq] at hx
     rw [hb] at hx
     simp [elS,SV.gS] at hx
     rw [←hx]
     exact hc2
   have hll:xs.length=l.length:=by
    have:=congrArg List.length hxs
    simpa using this
   rw [←hxs] at hlen ⊢
   have hb:g<w.heap.size:=hlt g hg
   have hmx:l.length≤140737488355328:=by omega
   refine (hll ▸ Any.strings_Join Tryz.lays156 Tryz.Builder_Extra_156 g off cap xs p' w hcx hb (by omega) (by omega) (by omega)).mono ?_
   rintro e w' ⟨rfl,hw⟩
   exact ⟨_,rfl,hw,VP.mk_str _⟩
 ·cases h
theorem x_fromintB (b:Nat) (hb:b≤4294967296):XFact Tryz.prog GX 125 (X_fromintB b):=by
 induction b with
 | zero=>
  intro args ret Hc h
  exfalso
  unfold X_fromintB X_fromintB0 at h
  split at h
  ·rename_i n hh
   obtain ⟨h0,h⟩:=tr_need h
   have:=ltN_iff.1 h0
   omega
  ·cases h
 | succ b ih=>
  refine XFact.fix (pf:=X_fromintB0 (b+1)) _ (xfact_of_stab [] (C₀:=c_fromint b) (XFacts.ok (l:=[(125,X_fromintB b)]) rfl ⟨ih (by omega),trivial⟩) (okFns_of rfl (by kernel_rfl)) follows ?_)
  intro args ret Hc h
  unfold X_fromintB0 at h
  split at h
  ·rename_i n
   obtain ⟨h0,h⟩:=tr_need h
   obtain ⟨rfl,rfl⟩:=tr_ret h
   have e:=(fromint_ev b noY () 0 n).trans (fromint_spec b (by omega) n h0)
   exact ⟨rfl,rfl,rfl,1,_,_,e,rfl⟩
  ·cases h
theorem x_fromint:XFact Tryz.prog GX 125 X_fromint:=x_fromintB 4294967296 (Nat.le_refl _)
theorem and15 (x:Nat) (h:x<65536):bAnd .u64 (x:Int) 15=((x % 16:Nat):Int):=by
 unfold bAnd
 rw [show IntKind.bits .u64=64 from rfl,show (15:Int)=((15:Nat):Int) from rfl,bvand 64 x 15 (by omega) (by omega),show x &&& 15=x % 16 from Nat.and_two_pow_sub_one_eq_mod x 4]
 exact wu64_id (by omega) (by omega)
theorem shr4 (x:Nat):shrI .u64 (x:Int) 4=((x / 16:Nat):Int):=by
 unfold shrI
 show Int.fdiv (x:Int) 16=_
 rw [Int.fdiv_eq_ediv_of_nonneg _ (by omega)]
 omega
theorem digit16 (d:Nat) (h:d<16):bAt (([48,49,50,51,52,53,54,55,56,57,97,98,99,100,101,102,103,104,105,106,107,108,109,110,111,112,113,114,115,116]:List UInt8)++([117,118,119,120,121,122]:List UInt8)) (d:Int)=((hexD d).toNat:Int):=by
 have:∀ d:Fin 16,bAt (([48,49,50,51,52,53,54,55,56,57,97,98,99,100,101,102,103,104,105,106,107,108,109,110,111,112,113,114,115,116]:List UInt8)++([117,118,119,120,121,122]:List UInt8)) (d.val:Int)=((hexD d.val).toNat:Int):=by decide
 exact this ⟨d,h⟩
def dRow (i:Nat) (s:By):LL:=List.replicate i [SV.int .u8 0]++s.map u8el
theorem dRow_len (i:Nat) (s:By):(dRow i s).length=i+s.length:=by simp [dRow]
theorem dRow_set (i:Nat) (s:By) (c:UInt8):List.set (dRow (i+1) s) i (putAt (List.getD (dRow (i+1) s) i []) 0 [SV.int .u8 (c.toNat:Int)])=dRow i (c::s):=by
 have hg:List.getD (dRow (i+1) s) i []=[SV.int .u8 0]:=by
  unfold dRow
  rw [List.getD_eq_getElem?_getD,List.getElem?_append_left (by simp),List.getElem?_replicate_of_lt (by omega)]
  rfl
 rw [hg]
 unfold dRow
 rw [List.replicate_succ',List.append_assoc,List.set_append_right _ _ (by simp),List.length_replicate,Nat.sub_self]
 rfl
theorem fbits_loop {R:Type} (z t:Bool) (l:LL) {k0:Bool→Bool→LL→Int→Int→LL→Option R}:∀ (v i n:Nat) (s:By),v<65536→v<n→i+s.length=65→(hexN v).length+s.length≤60→
  ∃ (u i':Nat) (s':By),u<16∧hexD u::s'=hexN v++s∧i'+s'.length=65∧fbits_l0 LF n z t l (v:Int) (i:Int) (dRow i s) k0=k0 z t l (u:Int) (i':Int) (dRow i' s'):=by
 intro v
 induction v using Nat.strongRecOn with
 | _ v ih=>
  intro i n s hv hn hs hb
  obtain ⟨n,rfl⟩:∃ m,n=m+1:=⟨n-1,by omega⟩
  rw [fbits_l0_s]
  unfold fbits_l0f
  by_cases h:v<16
  ·refine ⟨v,i,s,h,by rw [hexN_one h];rfl,hs,?_⟩
   rw [ltI_t (by omega)]
   rfl
  ·have hm:=hexN_more h
   have hlen:(hexN v).length=(hexN (v / 16)).length+1:=by rw [hm];simp
   obtain ⟨j,rfl⟩:∃ j,i=j+1:=⟨i-1,by omega⟩
   have e1:wi64 (((j+1:Nat):Int)-1)=(j:Int):=by rw [wi64_id (by omega) (by omega)];omega
   obtain ⟨u,i',s',h1,h2,h3,h4⟩:=ih (v / 16) (by omega) j n (hexD (v % 16)::s) (by omega) (by omega) (by rw [List.length_cons];omega) (by rw [List.length_cons];omega)
   refine ⟨u,i',s',h1,by rw [h2,hm];simp,h3,?_⟩
   rw [ltI_f (by omega),Bool.not_false,cond_true,and15 v hv]
   simp only [vl]
   rw [shr4,e1,Int.toNat_natCast,inR_t (by omega) (by omega),digit16 _ (by omega),inR_t (by omega) (by omega)]
   simp only [cond_true]
   rw [dRow_set,dRow_len,show (decide (j<j+1+s.length))=true from decide_eq_true (by omega)]
   exact h4
theorem fbits_run {R:Type} {k0:By→LL→Option R} (z t:Bool) (l:LL) (v:Int) (h0:ltN v 65536=true):∃ l',fbits LF z t l v k0=k0 (hexN v.toNat) l':=by
 obtain ⟨hb0,hb1⟩:=ltN_iff.1 h0
 obtain ⟨v,rfl⟩:=Int.eq_ofNat_of_zero_le hb0
 have hLF:=LF_big
 have hl:=hexN_len v (by omega)
 rw [Int.toNat_natCast]
 unfold fbits
 have hr:(List.replicate 65 [SV.int .u8 (0:Int)])=dRow 65 []:=by unfold dRow;rw [List.map_nil,List.append_nil]
 rw [hr]
 obtain ⟨u,i,s,h1,h2,h3,h4⟩:=fbits_loop (R:=R) z t l v 65 LF [] (by omega) (by omega) rfl (by rw [List.length_nil];omega)
 rw [List.append_nil] at h2
 have hls:s.length≤3:=by have:=congrArg List.length h2;rw [List.length_cons] at this;omega
 obtain ⟨j,rfl⟩:∃ j,i=j+1:=⟨i-1,by omega⟩
 refine ⟨dRow j (hexD u::s),?_⟩
 rw [show ((16:Int)==16)=true from rfl,cond_true,cond_true]
 refine Eq.trans h4 ?_
 have e1:wi64 (((j+1:Nat):Int)-1)=(j:Int):=by rw [wi64_id (by omega) (by omega)];omega
 simp only [vl]
 rw [e1,Int.toNat_natCast,inR_t (by omega) (by omega),digit16 u h1,inR_t (by omega) (by omega)]
 simp only [cond_true]
 have hlen:(hexD u::s).length=s.length+1:=rfl
 have hcut:((dRow j (hexD u::s)).drop j).take (65-j)=(hexD u::s).map u8el:=by
  unfold dRow
  rw [List.drop_left' (by simp),List.take_of_length_le (by rw [List.length_map,hlen];omega)]
 rw [dRow_set,dRow_len,dRow_len,show (decide (j<j+1+s.length))=true from decide_eq_true (by omega),hlen,show (decide (j+(s.length+1)=65))=true from decide_eq_true (by omega),sub3_t (by omega) (by omega) (by omega),hcut,all_isU8,map_elU8,h2]
 rfl
theorem fbits_spec (z t:Bool) (l:LL) (v:Int) (h0:ltN v 65536=true):∃ r H,fbits LF z t l v (fun r0 l1=>rv (.tup [.fl 0,.s (.str r0)]) [.arr true 5 1 [],.arr false 214 1 l1])=rv r H∧r.stab [1,0] H = .tup [.s (.sl true true 1 []),.s (.str (hexN v.toNat))]:=by
 obtain ⟨l',e⟩:=fbits_run (k0:=(fun r0 l1=>rv (.tup [.fl 0,.s (.str r0)]) [.arr true 5 1 [],.arr false 214 1 l1])) z t l v h0
 exact ⟨_,_,e,rfl⟩
theorem gk_bruijn {C:Cfg} {St:Nat→Prop} {w:World} (hG:GOK C St w) (hc:C.G=GX):TabAt 5 Lib.deBruijn64tab w:=by
 obtain ⟨e1,x1,h1⟩:=gk_tab (g:=5) (k:=.u8) (zs:=Lib.deBruijn64tab.map fun n:Nat=>(n:Int)) hG hc rfl
 intro j hj
 rw [gk_cell h1 j (by rw [List.length_map];exact hj)]
 simp [List.getD_eq_getElem?_getD,List.getElem?_eq_getElem hj]
theorem x_tz:XFact Tryz.prog GX 211 X_tz:=by
 refine XFact.fix (pf:=X_tz0) _ (xfact_of_calls (fn:=Tryz.f211) (by kernel_rfl) (by kernel_rfl) (by kernel_rfl) ?_)
 intro args ret Hc h
 unfold X_tz0 at h
 split at h
 ·rename_i x
  obtain ⟨h0,h⟩:=tr_need h
  obtain ⟨rfl,rfl⟩:=tr_ret h
  obtain rfl:x=16:=eq_of_beq h0
  refine ⟨rfl,rfl,fun C hP hCG Γ w Vs hG hlt hc=>?_⟩
  obtain ⟨U,rfl,hu⟩:=hc.arr1
  obtain rfl:=hu.inv_int
  refine (Any7.bits_TrailingZeros Tryz.lays7_27 16 (by omega) w (fun _=>gk_bruijn hG hCG)).mono ?_
  rintro e w' ⟨rfl,rfl⟩
  exact ⟨_,rfl,RowKit.Below.refl _ _,VP.mk_int _ _⟩
 ·cases h
theorem x_ispow:XFact Tryz.prog GX 210 X_ispow:=by
 refine XFact.fix (pf:=X_ispow0) _ (xfact_of_stab [] (C₀:=c_ispow LF) (XFacts.ok (l:=[]) rfl trivial) (okFns_of rfl (by kernel_rfl)) follows ?_)
 intro args ret Hc h
 unfold X_ispow0 at h
 split at h
 ·rename_i x
  obtain ⟨h0,h⟩:=tr_need h
  obtain ⟨rfl,rfl⟩:=tr_ret h
  obtain rfl:x=16:=eq_of_beq h0
  exact ⟨rfl,rfl,rfl,1,_,_,ispow_ev LF noY () 0,rfl⟩
 ·cases h
theorem x_fbits:XFact Tryz.prog GX 203 X_fbits:=by
 refine XFact.fix (pf:=X_fbits0) _ (xfact_of_stab [1,0] (C₀:=c_fbits LF) (XFacts.ok (l:=[(210,X_ispow),(211,X_tz)]) rfl ⟨x_ispow,x_tz,trivial⟩) (okFns_of rfl (by kernel_rfl)) follows ?_)
 intro args ret Hc h
 unfold X_fbits0 at h
 split at h
 ·rename_i ds_z ds_t ds v b neg app
  obtain ⟨h0,h⟩:=tr_need h
  obtain ⟨h1,h⟩:=tr_need h
  obtain ⟨h2,h⟩:=tr_need h
  obtain ⟨h3,h⟩:=tr_need h
  obtain ⟨rfl,rfl⟩:=tr_ret h
  obtain rfl:b=16:=eq_of_beq h1
  obtain rfl:neg=false:=by simpa using h2
  obtain rfl:app=false:=by simpa using h3
  obtain ⟨r,H,e,hs⟩:=fbits_spec ds_z ds_t ds v h0
  exact ⟨rfl,rfl,rfl,1,r,H,(fbits_ev LF noY () 0 ds_z ds_t ds v).trans e,hs⟩
 ·cases h
theorem x_ifmtu:XFact Tryz.prog GX 189 X_ifmtu:=by
 refine XFact.fix (pf:=X_ifmtu0) _ (xfact_of_stab [] (C₀:=c_ifmtu LF) (XFacts.ok (l:=[(203,X_fbits)]) rfl ⟨x_fbits,trivial⟩) (okFns_of rfl (by kernel_rfl)) follows ?_)
 intro args ret Hc h
 unfold X_ifmtu0 at h
 split at h
 ·rename_i v b
  obtain ⟨h0,h⟩:=tr_need h
  obtain ⟨h1,h⟩:=tr_need h
  obtain ⟨rfl,rfl⟩:=tr_ret h
  obtain rfl:b=16:=eq_of_beq h1
  have e:ifmtu LF v (fun r0=>rv (.s (.str r0)) [])=rv (.s (.str (hexN v.toNat))) []:=by
   unfold ifmtu
   rw [h0]
   rfl
  exact ⟨rfl,rfl,rfl,1,_,_,(ifmtu_ev LF noY () 0 v).trans e,rfl⟩
 ·cases h
theorem x_fmtu:XFact Tryz.prog GX 159 X_fmtu:=by
 refine XFact.fix (pf:=X_fmtu0) _ (xfact_of_stab [] (C₀:=c_fmtu LF) (XFacts.ok (l:=[(189,X_ifmtu)]) rfl ⟨x_ifmtu,trivial⟩) (okFns_of rfl (by kernel_rfl)) follows ?_)
 intro args ret Hc h
 unfold X_fmtu0 at h
 split at h
 ·rename_i v b
  obtain ⟨h0,h⟩:=tr_need h
  obtain ⟨h1,h⟩:=tr_need h
  obtain ⟨rfl,rfl⟩:=tr_ret h
  obtain rfl:b=16:=eq_of_beq h1
  have e:fmtu LF v (fun r0=>rv (.s (.str r0)) [])=rv (.s (.str (hexN v.toNat))) []:=by
   unfold fmtu
   rw [h0]
   rfl
  exact ⟨rfl,rfl,rfl,1,_,_,(fmtu_ev LF noY () 0 v).trans e,rfl⟩
 ·cases h
end Go.Proofs.YtokehocipgepnaaGreatDoor.E
namespace Go.Proofs.YtokehocipgepnaaGreatDoor.E
open Go Go.Proofs
set_option linter.unusedVariables false
theorem v6j_sp (z t:Bool) (l:LL) (h0:l.all isU16=true) (h1:Nat.ble l.length 8=true):∃ r H,v6j LF z t l (fun r0 l1=>rv (.s (.str r0)) [.arr true 9 1 l1])=rv r H∧r.stab [] H = .s (.str (joinH (l.map elN))):=by
 obtain ⟨l',e⟩:=v6j_spec (k0:=(fun r0 l1=>rv (.s (.str r0)) [.arr true 9 1 l1])) z t l h0 h1
 exact ⟨_,_,e,rfl⟩
theorem v6f_sp (a0 a1 a2 a3 a4 a5 a6 a7:Int) (h0:ok8 a0 a1 a2 a3 a4 a5 a6 a7=true):∃ r H,v6f LF a0 a1 a2 a3 a4 a5 a6 a7 (fun r0 l1=>rv (.s (.str r0)) [.arr false 26 1 l1])=rv r H∧r.stab [] H = .s (.str (v6Fmt (n8 a0 a1 a2 a3 a4 a5 a6 a7))):=by
 obtain ⟨l',e⟩:=v6f_spec (k0:=(fun r0 l1=>rv (.s (.str r0)) [.arr false 26 1 l1])) a0 a1 a2 a3 a4 a5 a6 a7 h0
 exact ⟨_,_,e,rfl⟩
def v6V (s:By):PV:=.tup [.agg [.s (.int .u16 (v6c 0 s)),.s (.int .u16 (v6c 1 s)),.s (.int .u16 (v6c 2 s)),.s (.int .u16 (v6c 3 s)),.s (.int .u16 (v6c 4 s)),.s (.int .u16 (v6c 5 s)),.s (.int .u16 (v6c 6 s)),.s (.int .u16 (v6c 7 s))],.s (.bool (v6B s).isSome)]
theorem v6p_sp (s:By) (h0:small s.length=true):∃ r H,v6p LF s (fun r0 r1 r2 r3 r4 r5 r6 r7 r8 l9 l10=>rv (.tup [.agg [.s (.int .u16 r0),.s (.int .u16 r1),.s (.int .u16 r2),.s (.int .u16 r3),.s (.int .u16 r4),.s (.int .u16 r5),.s (.int .u16 r6),.s (.int .u16 r7)],.s (.bool r8)]) [.arr false 26 1 l9,.arr false 26 1 l10])=rv r H∧r.stab [0,0] H=v6V s:=by
 obtain ⟨l,l',e⟩:=v6p_spec (k0:=(fun r0 r1 r2 r3 r4 r5 r6 r7 r8 l9 l10=>rv (.tup [.agg [.s (.int .u16 r0),.s (.int .u16 r1),.s (.int .u16 r2),.s (.int .u16 r3),.s (.int .u16 r4),.s (.int .u16 r5),.s (.int .u16 r6),.s (.int .u16 r7)],.s (.bool r8)]) [.arr false 26 1 l9,.arr false 26 1 l10])) s h0
 exact ⟨_,_,e,rfl⟩
end Go.Proofs.YtokehocipgepnaaGreatDoor.E
namespace Go.Proofs.YtokehocipgepnaaGreatDoor.E
open Go Go.Proofs 
set_option linter.unusedVariables false
set_option maxRecDepth 100000
section
variable {σ R : Type} (lf : Nat) (cl : CallT) (yh : Yh σ) (s : σ) (k : Out → St σ → Option R)
noncomputable abbrev b_hparse:Code:=bodyOf Tryz.f21
noncomputable def c_hparse (lf:Nat):Cfg:=mkCfg lf [21] (lookK [(16,[2,0,4,41,0,0])]) [(44,X_hpre),(45,X_haddr),(46,X_hdec),(47,X_tsufc),(48,X_numeric),(49,X_pnum),(50,X_ssplitM),(51,X_lasc),(52,X_sjoin)] (lookK [(28,[2,0]),(25,[2,0]),(27,[2,0]),(26,[2,10,64]),(24,[2,10,59]),(23,[2,10]),(22,[2,5,41,0,0]),(21,[2,5,41,0,0]),(20,[2,0]),(19,[2,5,0,1,0,37,0,0,10]),(18,[2,5,0,1,0,37,0,0]),(17,[2,5,0,0,39,0,0]),(16,[2,5,41,0,0,0]),(15,[2,5,41,0,0]),(14,[2,5]),(13,[2,0]),(12,[2,0]),(11,[2,3,37]),(10,[2,3,0]),(9,[2,1,32]),(8,[2,1]),(7,[2,0]),(6,[2,1,27]),(5,[2,1,0]),(2,[2,0]),(4,[2,0]),(3,[0,1,16]),(1,[0,1,11]),(0,[0,1])]) [44,46,47,48,49,51,52] (lookK [(3,[2,10]),(1,[2,5]),(2,[2,5,41,0,0]),(0,[0,1])]) (some [2,0]) [] [] []
noncomputable def hparse_l0f {R:Type} (lf n:Nat) (self:Nat→Int→Int→LL→Option R) (l_m0:Nat) (n1 n2:Int) (l3:LL) (k0:Int→LL→Option R) (k1:Nat→LL→Option R):Option R:=cond (ltI n2 n1) (cond (inR n2 l_m0) (cond (okE tStr l3 (0+(Int.toNat n2)) 0) (vl (gX l3 (0+(Int.toNat n2)) 0) fun s'33=>cond (small (List.length s'33)) (vl (↑((toAsc s'33)).2:Int) fun n'35=>cond (n'35 != (0:Int)) (k0 n'35 l3) (cond (inR n2 l_m0) (cond (decide ((0+(Int.toNat n2))<(List.length l3))) (vl (List.set l3 (0+(Int.toNat n2)) (putAt (List.getD l3 (0+(Int.toNat n2)) []) 0 [(SV.str ((toAsc s'33)).1)])) fun l'36=>self l_m0 n1 (wi64 (n2+(1:Int))) l'36) (none)) (none))) (none)) (none)) (none)) (k1 l_m0 l3)
noncomputable def hparse_l0 {R:Type} (lf n:Nat) (l_m0:Nat) (n1 n2:Int) (l3:LL) (k0:Int→LL→Option R) (k1:Nat→LL→Option R):Option R:=recN (α:=Nat→Int→Int→LL→Option R) (fun _ _ _ _=>none) (fun n self l_m0 n1 n2 l3=>hparse_l0f lf n self l_m0 n1 n2 l3 k0 k1) n l_m0 n1 n2 l3
theorem hparse_l0_s {R:Type} (lf n:Nat) (l_m0:Nat) (n1 n2:Int) (l3:LL) (k0:Int→LL→Option R) (k1:Nat→LL→Option R):hparse_l0 lf (n+1) l_m0 n1 n2 l3 k0 k1=hparse_l0f lf n (fun l_m0 n1 n2 l3=>hparse_l0 lf n l_m0 n1 n2 l3 k0 k1) l_m0 n1 n2 l3 k0 k1:=rfl
theorem hparse_l0_eq (n:Nat) (l_m0:Nat) (n1 n2:Int) (l3:LL):loopK 2 ((c_hparse lf).keep 16) (bd (c_hparse lf) cl yh (cd [1,1,1,1,1,1,1,0,1,0,0] b_hparse)) n ⟨gp [(2,.ptr 0 0 0),(5,.vw 1 0 l_m0),(41,.vw 1 0 l_m0),(0,.s (.int .i64 n1)),(0,.s (.int .i64 n2))] 31,[.box [.s (.int .i64 (0:Int)),.s (.str ([]:List UInt8)),.s (.int .u32 (0:Int)),.s (.int .u16 (0:Int)),.s (.int .u16 (0:Int)),.s (.int .u16 (0:Int)),.s (.int .u16 (0:Int)),.s (.int .u16 (0:Int)),.s (.int .u16 (0:Int)),.s (.int .u16 (0:Int)),.s (.int .u16 (0:Int))],.arr false 9 1 l3],s⟩ k =
 hparse_l0 lf n l_m0 n1 n2 l3 (fun n0 l1=>k .ret ⟨gp [(2,.ptr 0 0 0),(0,.s (.int .i64 n0))] 80,[.box [.s (.int .i64 (0:Int)),.s (.str ([]:List UInt8)),.s (.int .u32 (0:Int)),.s (.int .u16 (0:Int)),.s (.int .u16 (0:Int)),.s (.int .u16 (0:Int)),.s (.int .u16 (0:Int)),.s (.int .u16 (0:Int)),.s (.int .u16 (0:Int)),.s (.int .u16 (0:Int)),.s (.int .u16 (0:Int))],.arr false 9 1 l1],s⟩) (fun l_m0 l1=>k (.exit 1) ⟨gp [(2,.ptr 0 0 0),(5,.vw 1 0 l_m0)] 75,[.box [.s (.int .i64 (0:Int)),.s (.str ([]:List UInt8)),.s (.int .u32 (0:Int)),.s (.int .u16 (0:Int)),.s (.int .u16 (0:Int)),.s (.int .u16 (0:Int)),.s (.int .u16 (0:Int)),.s (.int .u16 (0:Int)),.s (.int .u16 (0:Int)),.s (.int .u16 (0:Int)),.s (.int .u16 (0:Int))],.arr false 9 1 l1],s⟩):=by
 induction n generalizing l_m0 n1 n2 l3 with
 | zero=>rfl
 | succ n ih=>rw [hparse_l0_s];unfold hparse_l0f;exact (Eq.trans (by kernel_rfl) (cond_congr (cond_congr (cond_congr (vl_congr fun s'33=>(cond_congr (vl_congr fun n'35=>(cond_congr rfl (cond_congr (cond_congr (vl_congr fun l'36=>(ih l_m0 n1 (wi64 (n2+(1:Int))) l'36)) rfl) rfl))) rfl)) rfl) rfl) rfl))
noncomputable def hparse {R:Type} (lf:Nat) (raw0:By) (k0:Int→By→Int→Int→Int→Int→Int→Int→Int→Int→Int→Int→Int→By→Int→Int→Int→Int→Int→Int→Int→Int→Int→Option R) (k1:Int→By→Int→Int→By→LL→Option R):Option R:=cond (ltI (1024:Int) (↑(List.length raw0):Int)) (k0 0 ([]:List UInt8) 0 0 0 0 0 0 0 0 0 3 0 ([]:List UInt8) 0 0 0 0 0 0 0 0 0) (cond (small (List.length raw0)) (cond (List.isPrefixOf (([91]:List UInt8)) raw0) (cond (small (List.length raw0)) (cond (isBr raw0) (vl (↑(HostV.kind ((addrH raw0)).1):Int) fun n'12=>vl (HostV.name ((addrH raw0)).1) fun s'13=>vl (↑(HostV.v4 ((addrH raw0)).1):Int) fun n'14=>vl (↑(List.getD (HostV.v6 ((addrH raw0)).1) 0 0):Int) fun n'15=>vl (↑(List.getD (HostV.v6 ((addrH raw0)).1) 1 0):Int) fun n'16=>vl (↑(List.getD (HostV.v6 ((addrH raw0)).1) 2 0):Int) fun n'17=>vl (↑(List.getD (HostV.v6 ((addrH raw0)).1) 3 0):Int) fun n'18=>vl (↑(List.getD (HostV.v6 ((addrH raw0)).1) 4 0):Int) fun n'19=>vl (↑(List.getD (HostV.v6 ((addrH raw0)).1) 5 0):Int) fun n'20=>vl (↑(List.getD (HostV.v6 ((addrH raw0)).1) 6 0):Int) fun n'21=>vl (↑(List.getD (HostV.v6 ((addrH raw0)).1) 7 0):Int) fun n'22=>vl (↑((addrH raw0)).2:Int) fun n'23=>k0 n'12 s'13 n'14 n'15 n'16 n'17 n'18 n'19 n'20 n'21 n'22 n'23 n'12 s'13 n'14 n'15 n'16 n'17 n'18 n'19 n'20 n'21 n'22) (none)) (none)) (cond (small (List.length raw0)) (cond (not (Option.isSome (pctB raw0))) (k0 0 ([]:List UInt8) 0 0 0 0 0 0 0 0 0 14 0 ([]:List UInt8) 0 0 0 0 0 0 0 0 0) (cond (small (List.length (pctV raw0))) (vl (tsuf (pctV raw0) (([46]:List UInt8))) fun s'25=>cond (small (List.length s'25)) (cond (numericB s'25) (cond (small (List.length s'25)) (vl (↑(optN (pnB s'25)):Int) fun n'29=>cond (not (Option.isSome (pnB s'25))) (k0 0 ([]:List UInt8) 0 0 0 0 0 0 0 0 0 14 0 ([]:List UInt8) 0 0 0 0 0 0 0 0 0) (k0 2 ([]:List UInt8) n'29 0 0 0 0 0 0 0 0 0 2 ([]:List UInt8) n'29 0 0 0 0 0 0 0 0)) (none)) (cond (small (List.length s'25)) (cond (1==1) (vl (strE (pcs (List.getD (([46]:List UInt8)) 0 0) s'25)) fun l'31=>hparse_l0 lf lf (List.length (pcs (List.getD (([46]:List UInt8)) 0 0) s'25)) (↑(List.length (pcs (List.getD (([46]:List UInt8)) 0 0) s'25)):Int) 0 l'31 (fun n'37 l'38=>k1 0 ([]:List UInt8) n'37 0 ([]:List UInt8) l'38) (fun l_m'39 l'40=>cond (List.all (List.take l_m'39 (List.drop 0 l'40)) isS) (cond (small (List.length (Lib.join (List.map elS (List.take l_m'39 (List.drop 0 l'40))) (([46]:List UInt8))))) (cond (small (List.length (List.take l_m'39 (List.drop 0 l'40)))) (vl (Lib.join (List.map elS (List.take l_m'39 (List.drop 0 l'40))) (([46]:List UInt8))) fun s'42=>cond (ltI (253:Int) (↑(List.length s'42):Int)) (k1 0 ([]:List UInt8) 3 0 ([]:List UInt8) l'40) (cond (small (List.length s'42)) (cond (numericB s'42) (k1 0 ([]:List UInt8) 14 0 ([]:List UInt8) l'40) (k1 1 s'42 0 1 s'42 l'40)) (none))) (none)) (none)) (none))) (none)) (none))) (none)) (none))) (none))) (none))
theorem hparse_ev (d:Nat) (raw0:By):evC (c_hparse lf) (d+1) σ yh 21 [.s (.str raw0)] [] s=hparse lf raw0 (fun r0 r1 r2 r3 r4 r5 r6 r7 r8 r9 r10 r11 n12 s13 n14 n15 n16 n17 n18 n19 n20 n21 n22=>some (.tup [.agg [.s (.int .i64 r0),.s (.str r1),.s (.int .u32 r2),.s (.int .u16 r3),.s (.int .u16 r4),.s (.int .u16 r5),.s (.int .u16 r6),.s (.int .u16 r7),.s (.int .u16 r8),.s (.int .u16 r9),.s (.int .u16 r10)],.s (.int .i64 r11)],[.box [.s (.int .i64 n12),.s (.str s13),.s (.int .u32 n14),.s (.int .u16 n15),.s (.int .u16 n16),.s (.int .u16 n17),.s (.int .u16 n18),.s (.int .u16 n19),.s (.int .u16 n20),.s (.int .u16 n21),.s (.int .u16 n22)]],s)) (fun r0 r1 r2 n3 s4 l5=>some (.tup [.agg [.s (.int .i64 r0),.s (.str r1),.s (.int .u32 (0:Int)),.s (.int .u16 (0:Int)),.s (.int .u16 (0:Int)),.s (.int .u16 (0:Int)),.s (.int .u16 (0:Int)),.s (.int .u16 (0:Int)),.s (.int .u16 (0:Int)),.s (.int .u16 (0:Int)),.s (.int .u16 (0:Int))],.s (.int .i64 r2)],[.box [.s (.int .i64 n3),.s (.str s4),.s (.int .u32 (0:Int)),.s (.int .u16 (0:Int)),.s (.int .u16 (0:Int)),.s (.int .u16 (0:Int)),.s (.int .u16 (0:Int)),.s (.int .u16 (0:Int)),.s (.int .u16 (0:Int)),.s (.int .u16 (0:Int)),.s (.int .u16 (0:Int))],.arr false 9 1 l5],s)):=by
 refine (evC_eq (fn:=Tryz.f21) (by kernel_rfl) (by kernel_rfl) (by kernel_rfl)).trans ?_
 generalize evC (c_hparse lf) d=cl
 unfold hparse;exact (Eq.trans (by kernel_rfl) (cond_congr rfl (cond_congr (cond_congr (cond_congr (cond_congr (vl_congr fun n'12=>(vl_congr fun s'13=>(vl_congr fun n'14=>(vl_congr fun n'15=>(vl_congr fun n'16=>(vl_congr fun n'17=>(vl_congr fun n'18=>(vl_congr fun n'19=>(vl_congr fun n'20=>(vl_congr fun n'21=>(vl_congr fun n'22=>(vl_congr fun n'23=>rfl)))))))))))) rfl) rfl) (cond_congr (cond_congr rfl (cond_congr (vl_congr fun s'25=>(cond_congr (cond_congr (cond_congr (vl_congr fun n'29=>(cond_congr rfl rfl)) rfl) (cond_congr (cond_congr (vl_congr fun l'31=>((hparse_l0_eq lf cl yh s (blkK 1 (seqK (c_hparse lf) cl yh (cd [1,1,1,1,1,1,1,1] b_hparse) (retK (c_hparse lf) Tryz.f21))) lf (List.length (pcs (List.getD (([46]:List UInt8)) 0 0) s'25)) (↑(List.length (pcs (List.getD (([46]:List UInt8)) 0 0) s'25)):Int) 0 l'31).trans (congr (congr rfl (funext fun n'37=>(funext fun l'38=>(by kernel_rfl)))) (funext fun l_m'39=>(funext fun l'40=>(by kernel_rfl)))))) rfl) rfl)) rfl)) rfl)) rfl)) rfl)))
noncomputable abbrev b_lprop:Code:=bodyOf Tryz.f114
noncomputable def c_lprop (lf:Nat):Cfg:=mkCfg lf [114] (lookK [(6,[0,1,0,1,10,0,0])]) [(155,X_pdec),(98,X_penc)] (lookK [(13,[2]),(12,[0,3,0,2]),(11,[0,2,1,10,0,0]),(10,[0,2,1,10,0,0]),(9,[2]),(8,[0,2,1,1,8,0,0,8]),(7,[0,2,1,1,8,0,0]),(6,[0,2,1,10,0,0,0]),(5,[0,2,1,10,0,0]),(4,[0,2,1]),(3,[2]),(2,[0,2,11]),(1,[0,2,0]),(0,[0])]) [98] (lookK [(0,[0,2,1]),(1,[0,2,1,10,0,0])]) (some [2]) [] [] []
noncomputable def lprop_l0f {R:Type} (lf n:Nat) (self:By→Bool→LL→Bool→Int→Int→Option R) (s0:By) (points_z1:Bool) (points2:LL) (basic3:Bool) (n4 n5:Int) (k0:Unit→Option R) (k1:By→Bool→LL→Bool→Option R):Option R:=cond (ltI n5 n4) (cond (inR n5 (List.length points2)) (cond (okE tI64 points2 (Int.toNat n5) 0) (vl (gE points2 (Int.toNat n5) 0) fun n'1=>cond (not (ltI n'1 (65:Int))) (cond (not (ltI (90:Int) n'1)) (k0 ()) (cond basic3 (self s0 points_z1 points2 (ltI n'1 (128:Int)) n4 (wi64 (n5+(1:Int)))) (self s0 points_z1 points2 false n4 (wi64 (n5+(1:Int)))))) (cond basic3 (self s0 points_z1 points2 (ltI n'1 (128:Int)) n4 (wi64 (n5+(1:Int)))) (self s0 points_z1 points2 false n4 (wi64 (n5+(1:Int)))))) (none)) (none)) (k1 s0 points_z1 points2 basic3)
noncomputable def lprop_l0 {R:Type} (lf n:Nat) (s0:By) (points_z1:Bool) (points2:LL) (basic3:Bool) (n4 n5:Int) (k0:Unit→Option R) (k1:By→Bool→LL→Bool→Option R):Option R:=recN (α:=By→Bool→LL→Bool→Int→Int→Option R) (fun _ _ _ _ _ _=>none) (fun n self s0 points_z1 points2 basic3 n4 n5=>lprop_l0f lf n self s0 points_z1 points2 basic3 n4 n5 k0 k1) n s0 points_z1 points2 basic3 n4 n5
theorem lprop_l0_s {R:Type} (lf n:Nat) (s0:By) (points_z1:Bool) (points2:LL) (basic3:Bool) (n4 n5:Int) (k0:Unit→Option R) (k1:By→Bool→LL→Bool→Option R):lprop_l0 lf (n+1) s0 points_z1 points2 basic3 n4 n5 k0 k1=lprop_l0f lf n (fun s0 points_z1 points2 basic3 n4 n5=>lprop_l0 lf n s0 points_z1 points2 basic3 n4 n5 k0 k1) s0 points_z1 points2 basic3 n4 n5 k0 k1:=rfl
theorem lprop_l0_eq (n:Nat) (s0:By) (points_z1:Bool) (points2:LL) (basic3:Bool) (n4 n5:Int):loopK 0 ((c_lprop lf).keep 6) (bd (c_lprop lf) cl yh (cd [1,1,1,1,0,1,0,0] b_lprop)) n ⟨gp [(0,.s (.str s0)),(2,.s (.sl points_z1 points_z1 1 points2)),(1,.s (.bool basic3)),(10,.s (.sl points_z1 points_z1 1 points2)),(0,.s (.int .i64 n4)),(0,.s (.int .i64 n5))] 31,[],s⟩ k =
 lprop_l0 lf n s0 points_z1 points2 basic3 n4 n5 (fun _=>k .ret ⟨gp [(2,.s (.bool false))] 47,[],s⟩) (fun s0 points_z1 points2 basic3=>k (.exit 0) ⟨gp [(0,.s (.str s0)),(2,.s (.sl points_z1 points_z1 1 points2)),(1,.s (.bool basic3))] 44,[],s⟩):=by
 induction n generalizing s0 points_z1 points2 basic3 n4 n5 with
 | zero=>rfl
 | succ n ih=>rw [lprop_l0_s];unfold lprop_l0f;exact (Eq.trans (by kernel_rfl) (cond_congr (cond_congr (cond_congr (vl_congr fun n'1=>(cond_congr (cond_congr rfl (cond_congr (ih s0 points_z1 points2 (ltI n'1 (128:Int)) n4 (wi64 (n5+(1:Int)))) (ih s0 points_z1 points2 false n4 (wi64 (n5+(1:Int)))))) (cond_congr (ih s0 points_z1 points2 (ltI n'1 (128:Int)) n4 (wi64 (n5+(1:Int)))) (ih s0 points_z1 points2 false n4 (wi64 (n5+(1:Int))))))) rfl) rfl) rfl))
noncomputable def lprop {R:Type} (lf:Nat) (s0:By) (k0:Bool→Option R):Option R:=cond (small (List.length s0)) (cond ((↑((decP s0)).2:Int) != (0:Int)) (k0 false) (lprop_l0 lf lf s0 (List.isEmpty ((decP s0)).1) (natR ((decP s0)).1) true (↑(List.length (natR ((decP s0)).1)):Int) 0 (fun _=>k0 false) (fun s'2 points_z'3 points'4 basic'5=>cond (List.all points'4 isI64) (vl ((encI (List.map elI points'4))).1 fun s'8=>vl (↑((encI (List.map elI points'4))).2:Int) fun n'9=>cond (not basic'5) (cond (n'9==(0:Int)) (k0 (s'8==s'2)) (k0 false)) (k0 false)) (none)))) (none)
theorem lprop_ev (d:Nat) (s0:By):evC (c_lprop lf) (d+1) σ yh 114 [.s (.str s0)] [] s=lprop lf s0 (fun r0=>some (.s (.bool r0),[],s)):=by
 refine (evC_eq (fn:=Tryz.f114) (by kernel_rfl) (by kernel_rfl) (by kernel_rfl)).trans ?_
 generalize evC (c_lprop lf) d=cl
 unfold lprop;exact (Eq.trans (by kernel_rfl) (cond_congr (cond_congr rfl ((lprop_l0_eq lf cl yh s (blkK 0 (seqK (c_lprop lf) cl yh (cd [1,1,1,1,1] b_lprop) (retK (c_lprop lf) Tryz.f114))) lf s0 (List.isEmpty ((decP s0)).1) (natR ((decP s0)).1) true (↑(List.length (natR ((decP s0)).1)):Int) 0).trans (congr (congr rfl (funext fun _=>(by kernel_rfl))) (funext fun s'2=>(funext fun points_z'3=>(funext fun points'4=>(funext fun basic'5=>(by kernel_rfl)))))))) rfl))
noncomputable abbrev b_lval:Code:=bodyOf Tryz.f61
noncomputable def c_lval (lf:Nat):Cfg:=mkCfg lf [61] (lookK [(4,[0,1,26,0])]) [(113,X_cpre),(114,X_lprop)] (lookK [(11,[2]),(10,[5,0]),(9,[0,28,0]),(8,[2]),(7,[0,28,0,28]),(6,[0,3,24,0]),(5,[0,2,25,0]),(4,[0,28,0,0]),(3,[0,28,0]),(2,[2]),(1,[0,26]),(0,[0])]) [113,114] (lookK [(0,[0]),(1,[0,28,0])]) (some [2]) [] [] []
noncomputable def lval_l0f {R:Type} (lf n:Nat) (self:By→Int→Int→Option R) (s0:By) (n1 n2:Int) (k0:Unit→Option R) (k1:By→Option R):Option R:=cond (ltI n2 n1) (cond (inR n2 (List.length s0)) (cond (not (ltI (bAt s0 n2) (97:Int))) (cond (not (not (ltI (122:Int) (bAt s0 n2)))) (cond (not (ltI (bAt s0 n2) (48:Int))) (cond (not (not (ltI (57:Int) (bAt s0 n2)))) (cond ((bAt s0 n2) != (45:Int)) (cond ((bAt s0 n2) != (95:Int)) (k0 ()) (self s0 n1 (wi64 (n2+(1:Int))))) (self s0 n1 (wi64 (n2+(1:Int))))) (self s0 n1 (wi64 (n2+(1:Int))))) (cond ((bAt s0 n2) != (45:Int)) (cond ((bAt s0 n2) != (95:Int)) (k0 ()) (self s0 n1 (wi64 (n2+(1:Int))))) (self s0 n1 (wi64 (n2+(1:Int)))))) (self s0 n1 (wi64 (n2+(1:Int))))) (cond (not (ltI (bAt s0 n2) (48:Int))) (cond (not (not (ltI (57:Int) (bAt s0 n2)))) (cond ((bAt s0 n2) != (45:Int)) (cond ((bAt s0 n2) != (95:Int)) (k0 ()) (self s0 n1 (wi64 (n2+(1:Int))))) (self s0 n1 (wi64 (n2+(1:Int))))) (self s0 n1 (wi64 (n2+(1:Int))))) (cond ((bAt s0 n2) != (45:Int)) (cond ((bAt s0 n2) != (95:Int)) (k0 ()) (self s0 n1 (wi64 (n2+(1:Int))))) (self s0 n1 (wi64 (n2+(1:Int))))))) (none)) (k1 s0)
noncomputable def lval_l0 {R:Type} (lf n:Nat) (s0:By) (n1 n2:Int) (k0:Unit→Option R) (k1:By→Option R):Option R:=recN (α:=By→Int→Int→Option R) (fun _ _ _=>none) (fun n self s0 n1 n2=>lval_l0f lf n self s0 n1 n2 k0 k1) n s0 n1 n2
theorem lval_l0_s {R:Type} (lf n:Nat) (s0:By) (n1 n2:Int) (k0:Unit→Option R) (k1:By→Option R):lval_l0 lf (n+1) s0 n1 n2 k0 k1=lval_l0f lf n (fun s0 n1 n2=>lval_l0 lf n s0 n1 n2 k0 k1) s0 n1 n2 k0 k1:=rfl
theorem lval_l0_eq (n:Nat) (s0:By) (n1 n2:Int):loopK 0 ((c_lval lf).keep 4) (bd (c_lval lf) cl yh (cd [1,1,0,1,0,0] b_lval)) n ⟨gp [(0,.s (.str s0)),(28,.s (.int .i64 n1)),(0,.s (.int .i64 n2))] 41,[],s⟩ k =
 lval_l0 lf n s0 n1 n2 (fun _=>k .ret ⟨gp [(2,.s (.bool false))] 69,[],s⟩) (fun s0=>k (.exit 0) ⟨gp [(0,.s (.str s0))] 71,[],s⟩):=by
 induction n generalizing s0 n1 n2 with
 | zero=>rfl
 | succ n ih=>rw [lval_l0_s];unfold lval_l0f;exact (Eq.trans (by kernel_rfl) (cond_congr (cond_congr (cond_congr (cond_congr (cond_congr (cond_congr (cond_congr (cond_congr rfl (ih s0 n1 (wi64 (n2+(1:Int))))) (ih s0 n1 (wi64 (n2+(1:Int))))) (ih s0 n1 (wi64 (n2+(1:Int))))) (cond_congr (cond_congr rfl (ih s0 n1 (wi64 (n2+(1:Int))))) (ih s0 n1 (wi64 (n2+(1:Int)))))) (ih s0 n1 (wi64 (n2+(1:Int))))) (cond_congr (cond_congr (cond_congr (cond_congr rfl (ih s0 n1 (wi64 (n2+(1:Int))))) (ih s0 n1 (wi64 (n2+(1:Int))))) (ih s0 n1 (wi64 (n2+(1:Int))))) (cond_congr (cond_congr rfl (ih s0 n1 (wi64 (n2+(1:Int))))) (ih s0 n1 (wi64 (n2+(1:Int))))))) rfl) rfl))
noncomputable def lval {R:Type} (lf:Nat) (s0:By) (k0:Bool→Option R):Option R:=cond (ltI (↑(List.length s0):Int) (1:Int)) (k0 false) (cond (ltI (63:Int) (↑(List.length s0):Int)) (k0 false) (cond (inR (0:Int) (List.length s0)) (cond ((bAt s0 (0:Int))==(45:Int)) (k0 false) (vl (wi64 ((↑(List.length s0):Int)-(1:Int))) fun n'1=>cond (inR n'1 (List.length s0)) (cond ((bAt s0 n'1)==(45:Int)) (k0 false) (lval_l0 lf lf s0 (↑(List.length s0):Int) 0 (fun _=>k0 false) (fun s'2=>cond (small (List.length s'2)) (vl (cutp s'2 (([120,110,45,45]:List UInt8))) fun s'3=>cond (not (List.isPrefixOf (([120,110,45,45]:List UInt8)) s'2)) (k0 true) (cond (small (List.length s'3)) (k0 (properB s'3)) (none))) (none)))) (none))) (none)))
theorem lval_ev (d:Nat) (s0:By):evC (c_lval lf) (d+1) σ yh 61 [.s (.str s0)] [] s=lval lf s0 (fun r0=>some (.s (.bool r0),[],s)):=by
 refine (evC_eq (fn:=Tryz.f61) (by kernel_rfl) (by kernel_rfl) (by kernel_rfl)).trans ?_
 generalize evC (c_lval lf) d=cl
 unfold lval;exact (Eq.trans (by kernel_rfl) (cond_congr rfl (cond_congr rfl (cond_congr (cond_congr rfl (vl_congr fun n'1=>(cond_congr (cond_congr rfl ((lval_l0_eq lf cl yh s (blkK 0 (seqK (c_lval lf) cl yh (cd [1,1,1] b_lval) (retK (c_lval lf) Tryz.f61))) lf s0 (↑(List.length s0):Int) 0).trans (congr (congr rfl (funext fun _=>(by kernel_rfl))) (funext fun s'2=>(by kernel_rfl))))) rfl))) rfl))))
noncomputable abbrev b_lasc:Code:=bodyOf Tryz.f51
noncomputable def c_lasc (lf:Nat):Cfg:=mkCfg lf [51] (lookK [(9,[2,0,1,20])]) [(95,X_uvalid),(96,X_ucount),(97,X_lowc),(98,X_penc),(61,X_lval)] (lookK [(18,[2,0]),(17,[2,0]),(16,[4,41]),(15,[4]),(14,[2,0]),(13,[8,32]),(12,[8,0]),(11,[5,20]),(10,[5,1,18]),(9,[5,20,0,0]),(8,[5,20]),(7,[4,0]),(6,[4,19]),(5,[0,3]),(2,[2,0]),(4,[2,0]),(3,[0,13]),(1,[0,9]),(0,[0])]) [95,96,97,98,61] (lookK [(1,[5]),(2,[5,20]),(0,[0])]) (some [2,0]) [] [] []
noncomputable def lasc_l0f {R:Type} (lf n:Nat) (self:LL→By→Nat→Option R) (l0:LL) (s1:By) (m2:Nat) (k0:LL→By→Nat→Option R):Option R:=cond (decide (m2<(List.length s1))) (vl ((Utf8.decode ⟨List.toArray s1⟩ m2)).1 fun n'4=>cond (roomy ((List.length l0)+1)) (self (l0++[[(SV.int .i64 (wi64 n'4))]]) s1 (m2+((Utf8.decode ⟨List.toArray s1⟩ m2)).2)) (none)) (k0 l0 s1 m2)
noncomputable def lasc_l0 {R:Type} (lf n:Nat) (l0:LL) (s1:By) (m2:Nat) (k0:LL→By→Nat→Option R):Option R:=recN (α:=LL→By→Nat→Option R) (fun _ _ _=>none) (fun n self l0 s1 m2=>lasc_l0f lf n self l0 s1 m2 k0) n l0 s1 m2
theorem lasc_l0_s {R:Type} (lf n:Nat) (l0:LL) (s1:By) (m2:Nat) (k0:LL→By→Nat→Option R):lasc_l0 lf (n+1) l0 s1 m2 k0=lasc_l0f lf n (fun l0 s1 m2=>lasc_l0 lf n l0 s1 m2 k0) l0 s1 m2 k0:=rfl
theorem lasc_l0_eq (n:Nat) (l0:LL) (s1:By) (m2:Nat):loopK 2 ((c_lasc lf).keep 9) (bd (c_lasc lf) cl yh (cd [1,1,1,0,1,0,1,0,1,0,0] b_lasc)) n ⟨gp [(5,.fl 0),(20,.it 1)] 21,[.arr true 3 1 l0,.iter s1 m2],s⟩ k =
 lasc_l0 lf n l0 s1 m2 (fun l0 s1 m2=>k (.exit 1) ⟨gp [(5,.fl 0)] 42,[.arr true 3 1 l0,.iter s1 m2],s⟩):=by
 induction n generalizing l0 s1 m2 with
 | zero=>rfl
 | succ n ih=>rw [lasc_l0_s];unfold lasc_l0f;exact (Eq.trans (by kernel_rfl) (cond_congr (vl_congr fun n'4=>(cond_congr (ih (l0++[[(SV.int .i64 (wi64 n'4))]]) s1 (m2+((Utf8.decode ⟨List.toArray s1⟩ m2)).2)) rfl)) rfl))
noncomputable def lasc {R:Type} (lf:Nat) (s0:By) (k0:By→Int→Option R) (k1:By→Int→LL→By→Nat→Option R):Option R:=cond (small (List.length s0)) (cond (not (Option.isSome (ptsB s0))) (k0 ([]:List UInt8) 4) (cond (small (List.length s0)) (vl (↑(Lib.runeCountL s0):Int) fun n'1=>cond (ltI (256:Int) n'1) (k0 ([]:List UInt8) 3) (cond (small (List.length s0)) (cond (small (List.length s0)) (vl (↑(Lib.runeCountL s0):Int) fun n'3=>cond (ltI n'3 (↑(List.length s0):Int)) (lasc_l0 lf lf [] (lower s0) 0 (fun l'5 s'6 m'7=>cond (List.all l'5 isI64) (vl ((encI (List.map elI l'5))).1 fun s'8=>vl (↑((encI (List.map elI l'5))).2:Int) fun n'9=>cond (n'9 != (0:Int)) (k1 ([]:List UInt8) 14 l'5 s'6 m'7) (cond (catOk 4 (List.length s'8)) (vl ((([120,110,45,45]:List UInt8))++s'8) fun s'10=>cond (small (List.length s'10)) (cond (not (validL s'10)) (k1 ([]:List UInt8) 14 l'5 s'6 m'7) (k1 s'10 0 l'5 s'6 m'7)) (none)) (none))) (none))) (cond (small (List.length (lower s0))) (cond (not (validL (lower s0))) (k0 ([]:List UInt8) 14) (k0 (lower s0) 0)) (none))) (none)) (none))) (none))) (none)
theorem lasc_ev (d:Nat) (s0:By):evC (c_lasc lf) (d+1) σ yh 51 [.s (.str s0)] [] s=lasc lf s0 (fun r0 r1=>some (.tup [.s (.str r0),.s (.int .i64 r1)],[],s)) (fun r0 r1 l2 s3 m4=>some (.tup [.s (.str r0),.s (.int .i64 r1)],[.arr true 3 1 l2,.iter s3 m4],s)):=by
 refine (evC_eq (fn:=Tryz.f51) (by kernel_rfl) (by kernel_rfl) (by kernel_rfl)).trans ?_
 generalize evC (c_lasc lf) d=cl
 unfold lasc;exact (Eq.trans (by kernel_rfl) (cond_congr (cond_congr rfl (cond_congr (vl_congr fun n'1=>(cond_congr rfl (cond_congr (cond_congr (vl_congr fun n'3=>(cond_congr ((lasc_l0_eq lf cl yh s (blkK 1 (seqK (c_lasc lf) cl yh (cd [1,1,1,0,1,0,1,1] b_lasc) (seqK (c_lasc lf) cl yh (cd [1,1,1,1] b_lasc) (retK (c_lasc lf) Tryz.f51)))) lf [] (lower s0) 0).trans (congr rfl (funext fun l'5=>(funext fun s'6=>(funext fun m'7=>(by kernel_rfl)))))) (cond_congr (cond_congr rfl rfl) rfl))) rfl) rfl))) rfl)) rfl))
noncomputable abbrev b_hdig:Code:=bodyOf Tryz.f88
noncomputable def c_hdig (lf:Nat):Cfg:=mkCfg lf [88] (lookK []) [] (lookK [(7,[2]),(2,[2]),(4,[2]),(6,[2]),(5,[0,23]),(3,[0,12]),(1,[0,2]),(0,[0])]) [] (lookK [(0,[])]) (some [2]) [] [] []
noncomputable def hdig_j0 {R:Type} (b0:Int) (b1:Bool) (k0:Int→Option R) (k1:Int→Bool→Option R):Option R:=cond b1 (vl (wi64 (wu8 (b0-(97:Int)))) fun n'1=>vl (wi64 (n'1+(10:Int))) fun n'2=>k0 n'2) (cond (not (ltI b0 (65:Int))) (cond (not (ltI (70:Int) b0)) (vl (wi64 (wu8 (b0-(65:Int)))) fun n'3=>vl (wi64 (n'3+(10:Int))) fun n'4=>k0 n'4) (k1 b0 (not (ltI (70:Int) b0)))) (k1 b0 false))
abbrev hdig_j0_P (b:Code):Prop:=∀ (k:Out→St σ→Option R) (b0:Int) (b1:Bool),evCode (c_hdig lf) cl yh b ⟨gp [(0,.s (.int .u8 b0)),(12,.s (.bool b1))] 21,[],s⟩ k=hdig_j0 b0 b1 (fun n0=>k .ret ⟨gp [(2,.s (.int .i64 n0))] 32,[],s⟩) (fun b0 b1=>k .normal ⟨gp [(0,.s (.int .u8 b0)),(23,.s (.bool b1))] 10,[],s⟩)
theorem hdig_j0_eq:hdig_j0_P (R:=R) lf cl yh s (cd [1,0,0,1,1,1] b_hdig):=by
 intro k b0 b1;unfold hdig_j0;kernel_rfl
noncomputable def hdig_j1 {R:Type} (b0:Int) (b1:Bool) (k0:Int→Option R) (k1:Int→Bool→Option R):Option R:=cond b1 (vl (wi64 (wu8 (b0-(48:Int)))) fun n'0=>k0 n'0) (cond (not (ltI b0 (97:Int))) (hdig_j0 b0 (not (ltI (102:Int) b0)) (fun n'5=>k0 n'5) (fun b'6 b'7=>k1 b'6 b'7)) (hdig_j0 b0 false (fun n'8=>k0 n'8) (fun b'9 b'10=>k1 b'9 b'10)))
abbrev hdig_j1_P (b:Code):Prop:=∀ (k:Out→St σ→Option R) (b0:Int) (b1:Bool),evCode (c_hdig lf) cl yh b ⟨gp [(0,.s (.int .u8 b0)),(2,.s (.bool b1))] 31,[],s⟩ k=hdig_j1 b0 b1 (fun n0=>k .ret ⟨gp [(2,.s (.int .i64 n0))] 32,[],s⟩) (fun b0 b1=>k .normal ⟨gp [(0,.s (.int .u8 b0)),(23,.s (.bool b1))] 10,[],s⟩)
theorem hdig_j1_eq (b_100111:Code) (h_hdig_j0:hdig_j0_P (R:=R) lf cl yh s b_100111):hdig_j1_P (R:=R) lf cl yh s (cd [1,0,0,1] (putC [1,0,0,1,1,1] b_100111 b_hdig)):=by
 intro k b0 b1;unfold hdig_j1;exact (Eq.trans (by kernel_rfl) (cond_congr (vl_congr fun n'0=>rfl) (cond_congr ((h_hdig_j0 k b0 (not (ltI (102:Int) b0))).trans (congr (congr rfl (funext fun n'5=>(by kernel_rfl))) (funext fun b'6=>(funext fun b'7=>(by kernel_rfl))))) ((h_hdig_j0 k b0 false).trans (congr (congr rfl (funext fun n'8=>(by kernel_rfl))) (funext fun b'9=>(funext fun b'10=>(by kernel_rfl))))))))
theorem hdig_j1_fu:hdig_j1_P (R:=R) lf cl yh s (cd [1,0,0,1] b_hdig):=by
 intro k b0 b1;exact Eq.trans (by kernel_rfl) (hdig_j1_eq lf cl yh s (cd [1,0,0,1,1,1] b_hdig) (hdig_j0_eq lf cl yh s) k b0 b1)
noncomputable def hdig {R:Type} (lf:Nat) (b0:Int) (k0:Int→Option R):Option R:=cond (not (ltI b0 (48:Int))) (hdig_j1 b0 (not (ltI (57:Int) b0)) (fun n'11=>k0 n'11) (fun b'12 b'13=>k0 (-1))) (hdig_j1 b0 false (fun n'14=>k0 n'14) (fun b'15 b'16=>k0 (-1)))
theorem hdig_eq (b_1001:Code) (h_hdig_j1:hdig_j1_P (R:=PV × List Blk × σ) lf cl yh s b_1001) (b0:Int):evCode (c_hdig lf) cl yh (cd [] (putC [1,0,0,1] b_1001 b_hdig)) ⟨[.s (.int .u8 b0)]++tps 34,[],s⟩ (retK (c_hdig lf) Tryz.f88)=hdig lf b0 (fun r0=>some (.s (.int .i64 r0),[],s)):=by
 unfold hdig;exact (Eq.trans (by kernel_rfl) (cond_congr ((h_hdig_j1 (blkK 0 (seqK (c_hdig lf) cl yh (cd [1,1] b_hdig) (retK (c_hdig lf) Tryz.f88))) b0 (not (ltI (57:Int) b0))).trans (congr (congr rfl (funext fun n'11=>(by kernel_rfl))) (funext fun b'12=>(funext fun b'13=>(by kernel_rfl))))) ((h_hdig_j1 (blkK 0 (seqK (c_hdig lf) cl yh (cd [1,1] b_hdig) (retK (c_hdig lf) Tryz.f88))) b0 false).trans (congr (congr rfl (funext fun n'14=>(by kernel_rfl))) (funext fun b'15=>(funext fun b'16=>(by kernel_rfl)))))))
theorem hdig_ev (d:Nat) (b0:Int):evC (c_hdig lf) (d+1) σ yh 88 [.s (.int .u8 b0)] [] s=hdig lf b0 (fun r0=>some (.s (.int .i64 r0),[],s)):=
 (evC_eq (fn:=Tryz.f88) (by kernel_rfl) (by kernel_rfl) (by kernel_rfl)).trans (Eq.trans (by kernel_rfl) (hdig_eq lf (evC (c_hdig lf) d) yh s (cd [1,0,0,1] b_hdig) (hdig_j1_fu lf (evC (c_hdig lf) d) yh s) b0))
noncomputable abbrev b_hdec:Code:=bodyOf Tryz.f46
noncomputable def c_hdec (lf:Nat):Cfg:=mkCfg lf [46] (lookK [(3,[0,1,0,0,0])]) [(88,X_hdig)] (lookK [(14,[2,0]),(4,[0,3,0]),(13,[0,3,0]),(12,[0,3,0]),(11,[2,0]),(10,[0,3,0,0,0,39]),(9,[0,3,0,0,0]),(8,[2,0]),(7,[0,3,0,25]),(6,[0,3,0]),(5,[0,3,0,14]),(3,[0,3,0,8]),(2,[0,3,0]),(1,[0,3]),(0,[0])]) [88] (lookK [(0,[4]),(1,[0,3,0])]) (some [2,0]) [] [] []
noncomputable def hdec_l0f {R:Type} (lf n:Nat) (self:By→Int→LL→Option R) (s0:By) (i1:Int) (l2:LL) (k0:LL→Option R) (k1:LL→Option R):Option R:=cond (ltI i1 (↑(List.length s0):Int)) (cond (inR i1 (List.length s0)) (cond ((bAt s0 i1) != (37:Int)) (cond (inR i1 (List.length s0)) (cond (roomy ((List.length l2)+1)) (self s0 (wi64 (i1+(1:Int))) (l2++[[(SV.int .u8 (bAt s0 i1))]])) (none)) (none)) (cond (not (ltI (wi64 (i1+(2:Int))) (↑(List.length s0):Int))) (k0 l2) (cond (inR (wi64 (i1+(1:Int))) (List.length s0)) (vl (bAt s0 (wi64 (i1+(1:Int)))) fun n'2=>cond (inR n'2 256) (cond (inR (wi64 (i1+(2:Int))) (List.length s0)) (vl (bAt s0 (wi64 (i1+(2:Int)))) fun n'3=>cond (inR n'3 256) (cond (ltI (digI (u8n n'2)) (0:Int)) (k0 l2) (cond (ltI (digI (u8n n'3)) (0:Int)) (k0 l2) (vl (wi64 ((16:Int)*(digI (u8n n'2)))) fun n'4=>vl (wi64 (n'4+(digI (u8n n'3)))) fun n'5=>cond (roomy ((List.length l2)+1)) (vl (wi64 ((wi64 (i1+(2:Int)))+(1:Int))) fun n'6=>self s0 n'6 (l2++[[(SV.int .u8 (wu8 n'5))]])) (none)))) (none)) (none)) (none)) (none)))) (none)) (k1 l2)
noncomputable def hdec_l0 {R:Type} (lf n:Nat) (s0:By) (i1:Int) (l2:LL) (k0:LL→Option R) (k1:LL→Option R):Option R:=recN (α:=By→Int→LL→Option R) (fun _ _ _=>none) (fun n self s0 i1 l2=>hdec_l0f lf n self s0 i1 l2 k0 k1) n s0 i1 l2
theorem hdec_l0_s {R:Type} (lf n:Nat) (s0:By) (i1:Int) (l2:LL) (k0:LL→Option R) (k1:LL→Option R):hdec_l0 lf (n+1) s0 i1 l2 k0 k1=hdec_l0f lf n (fun s0 i1 l2=>hdec_l0 lf n s0 i1 l2 k0 k1) s0 i1 l2 k0 k1:=rfl
theorem hdec_l0_eq (n:Nat) (s0:By) (i1:Int) (l2:LL):loopK 1 ((c_hdec lf).keep 3) (bd (c_hdec lf) cl yh (cd [1,0,1,1,0,1,0,0] b_hdec)) n ⟨gp [(0,.s (.str s0)),(3,.fl 0),(0,.s (.int .i64 i1))] 54,[.arr false 5 1 l2],s⟩ k =
 hdec_l0 lf n s0 i1 l2 (fun l0=>k .ret ⟨gp [(2,.s (.str ([]:List UInt8))),(0,.s (.bool false))] 56,[.arr false 5 1 l0],s⟩) (fun l0=>k (.exit 0) ⟨gp [(4,.fl 0)] 55,[.arr false 5 1 l0],s⟩):=by
 induction n generalizing s0 i1 l2 with
 | zero=>rfl
 | succ n ih=>rw [hdec_l0_s];unfold hdec_l0f;exact (Eq.trans (by kernel_rfl) (cond_congr (cond_congr (cond_congr (cond_congr (cond_congr (ih s0 (wi64 (i1+(1:Int))) (l2++[[(SV.int .u8 (bAt s0 i1))]])) rfl) rfl) (cond_congr rfl (cond_congr (vl_congr fun n'2=>(cond_congr (cond_congr (vl_congr fun n'3=>(cond_congr (cond_congr rfl (cond_congr rfl (vl_congr fun n'4=>(vl_congr fun n'5=>(cond_congr (vl_congr fun n'6=>(ih s0 n'6 (l2++[[(SV.int .u8 (wu8 n'5))]]))) rfl))))) rfl)) rfl) rfl)) rfl))) rfl) rfl))
noncomputable def hdec {R:Type} (lf:Nat) (s0:By) (k0:By→Bool→LL→Option R):Option R:=cond ((decide ((0:Int)≤(↑(List.length s0):Int)))&&(roomy (Int.toNat (↑(List.length s0):Int)))) (hdec_l0 lf lf s0 0 [] (fun l'7=>k0 ([]:List UInt8) false l'7) (fun l'8=>cond (List.all l'8 isU8) (k0 (List.map elU8 l'8) true l'8) (none))) (none)
theorem hdec_ev (d:Nat) (s0:By):evC (c_hdec lf) (d+1) σ yh 46 [.s (.str s0)] [] s=hdec lf s0 (fun r0 r1 l2=>some (.tup [.s (.str r0),.s (.bool r1)],[.arr false 5 1 l2],s)):=by
 refine (evC_eq (fn:=Tryz.f46) (by kernel_rfl) (by kernel_rfl) (by kernel_rfl)).trans ?_
 generalize evC (c_hdec lf) d=cl
 unfold hdec;exact (Eq.trans (by kernel_rfl) (cond_congr ((hdec_l0_eq lf cl yh s (blkK 0 (seqK (c_hdec lf) cl yh (cd [1,0,1,1,1] b_hdec) (retK (c_hdec lf) Tryz.f46))) lf s0 0 []).trans (congr (congr rfl (funext fun l'7=>(by kernel_rfl))) (funext fun l'8=>(by kernel_rfl)))) rfl))
noncomputable def c_haddr (lf:Nat):Cfg:=mkCfg lf [45] (lookK []) [(87,X_v6p)] (lookK [(6,[2,0]),(5,[2,0]),(4,[2,2,15]),(3,[2,2,0]),(2,[0,1,1,8]),(1,[0,1,1]),(0,[0,1])]) [] (lookK []) (some [2,0]) [] [] []
noncomputable def haddr {R:Type} (lf:Nat) (s0:By) (k0:Int→Int→Int→Int→Int→Int→Int→Int→Int→Int→Int→LL→Option R) (k1:Unit→Option R):Option R:=vl (wi64 ((↑(List.length s0):Int)-(1:Int))) fun n'1=>cond (inR n'1 (List.length s0)) (cond ((bAt s0 n'1)==(93:Int)) (cond (sub3 (1:Int) n'1 (List.length s0)) (cond (small (List.length (cut s0 (1:Int) n'1))) (vl (↑(v6c 0 (cut s0 (1:Int) n'1)):Int) fun n'2=>vl (↑(v6c 1 (cut s0 (1:Int) n'1)):Int) fun n'3=>vl (↑(v6c 2 (cut s0 (1:Int) n'1)):Int) fun n'4=>vl (↑(v6c 3 (cut s0 (1:Int) n'1)):Int) fun n'5=>vl (↑(v6c 4 (cut s0 (1:Int) n'1)):Int) fun n'6=>vl (↑(v6c 5 (cut s0 (1:Int) n'1)):Int) fun n'7=>vl (↑(v6c 6 (cut s0 (1:Int) n'1)):Int) fun n'8=>vl (↑(v6c 7 (cut s0 (1:Int) n'1)):Int) fun n'9=>cond (Option.isSome (v6B (cut s0 (1:Int) n'1))) (k0 3 n'2 n'3 n'4 n'5 n'6 n'7 n'8 n'9 0 3 [[(SV.int .u16 n'2)],[(SV.int .u16 n'3)],[(SV.int .u16 n'4)],[(SV.int .u16 n'5)],[(SV.int .u16 n'6)],[(SV.int .u16 n'7)],[(SV.int .u16 n'8)],[(SV.int .u16 n'9)]]) (k0 0 0 0 0 0 0 0 0 0 14 0 [[(SV.int .u16 n'2)],[(SV.int .u16 n'3)],[(SV.int .u16 n'4)],[(SV.int .u16 n'5)],[(SV.int .u16 n'6)],[(SV.int .u16 n'7)],[(SV.int .u16 n'8)],[(SV.int .u16 n'9)]])) (none)) (none)) (k1 ())) (none)
theorem haddr_ev (d:Nat) (s0:By):evC (c_haddr lf) (d+1) σ yh 45 [.s (.str s0)] [] s=haddr lf s0 (fun r0 r1 r2 r3 r4 r5 r6 r7 r8 r9 n10 l11=>some (.tup [.agg [.s (.int .i64 r0),.s (.str ([]:List UInt8)),.s (.int .u32 (0:Int)),.s (.int .u16 r1),.s (.int .u16 r2),.s (.int .u16 r3),.s (.int .u16 r4),.s (.int .u16 r5),.s (.int .u16 r6),.s (.int .u16 r7),.s (.int .u16 r8)],.s (.int .i64 r9)],[.box [.s (.int .i64 n10),.s (.str ([]:List UInt8)),.s (.int .u32 (0:Int)),.s (.int .u16 r1),.s (.int .u16 r2),.s (.int .u16 r3),.s (.int .u16 r4),.s (.int .u16 r5),.s (.int .u16 r6),.s (.int .u16 r7),.s (.int .u16 r8)],.arr false 26 1 l11],s)) (fun _=>some (.tup [.agg [.s (.int .i64 (0:Int)),.s (.str ([]:List UInt8)),.s (.int .u32 (0:Int)),.s (.int .u16 (0:Int)),.s (.int .u16 (0:Int)),.s (.int .u16 (0:Int)),.s (.int .u16 (0:Int)),.s (.int .u16 (0:Int)),.s (.int .u16 (0:Int)),.s (.int .u16 (0:Int)),.s (.int .u16 (0:Int))],.s (.int .i64 (14:Int))],[.box [.s (.int .i64 (0:Int)),.s (.str ([]:List UInt8)),.s (.int .u32 (0:Int)),.s (.int .u16 (0:Int)),.s (.int .u16 (0:Int)),.s (.int .u16 (0:Int)),.s (.int .u16 (0:Int)),.s (.int .u16 (0:Int)),.s (.int .u16 (0:Int)),.s (.int .u16 (0:Int)),.s (.int .u16 (0:Int))]],s)):=by
 refine (evC_eq (fn:=Tryz.f45) (by kernel_rfl) (by kernel_rfl) (by kernel_rfl)).trans ?_
 generalize evC (c_haddr lf) d=cl
 unfold haddr;kernel_rfl
noncomputable def c_hval (lf:Nat):Cfg:=mkCfg lf [34] (lookK []) [(25,X_hvn)] (lookK [(9,[2]),(4,[2]),(6,[2]),(8,[2]),(7,[1,31]),(5,[1,1,1,16]),(3,[1,1,1,0]),(2,[1,1,1]),(1,[1,1]),(0,[1])]) [25] (lookK [(0,[])]) (some [2]) [] [] []
noncomputable def hval {R:Type} (lf:Nat) (h0:Int) (h1:By) (h2 h3 h4 h5 h6 h7 h8 h9 h10:Int) (k0:Bool→Int→By→Int→Int→Int→Int→Int→Int→Int→Int→Int→LL→Option R):Option R:=cond (h0==(1:Int)) (cond (small (List.length h1)) (cond (validN h1) (cond (h2==(0:Int)) (k0 ((h3==(0:Int))&&((h4==(0:Int))&&((h5==(0:Int))&&((h6==(0:Int))&&((h7==(0:Int))&&((h8==(0:Int))&&((h9==(0:Int))&&((h10==(0:Int))&&true)))))))) h0 h1 h2 h3 h4 h5 h6 h7 h8 h9 h10 (List.replicate 8 [(SV.int .u16 (0:Int))])) (k0 false h0 h1 h2 h3 h4 h5 h6 h7 h8 h9 h10 (List.replicate 8 [(SV.int .u16 (0:Int))]))) (k0 false h0 h1 h2 h3 h4 h5 h6 h7 h8 h9 h10 (List.replicate 8 [(SV.int .u16 (0:Int))]))) (none)) (cond (h0==(2:Int)) (cond (h1==([]:List UInt8)) (k0 ((h3==(0:Int))&&((h4==(0:Int))&&((h5==(0:Int))&&((h6==(0:Int))&&((h7==(0:Int))&&((h8==(0:Int))&&((h9==(0:Int))&&((h10==(0:Int))&&true)))))))) h0 h1 h2 h3 h4 h5 h6 h7 h8 h9 h10 (List.replicate 8 [(SV.int .u16 (0:Int))])) (k0 false h0 h1 h2 h3 h4 h5 h6 h7 h8 h9 h10 (List.replicate 8 [(SV.int .u16 (0:Int))]))) (cond (h0==(3:Int)) (cond (h1==([]:List UInt8)) (k0 (h2==(0:Int)) h0 h1 h2 h3 h4 h5 h6 h7 h8 h9 h10 (List.replicate 8 [(SV.int .u16 (0:Int))])) (k0 false h0 h1 h2 h3 h4 h5 h6 h7 h8 h9 h10 (List.replicate 8 [(SV.int .u16 (0:Int))]))) (k0 false h0 h1 h2 h3 h4 h5 h6 h7 h8 h9 h10 (List.replicate 8 [(SV.int .u16 (0:Int))]))))
theorem hval_ev (d:Nat) (h0:Int) (h1:By) (h2 h3 h4 h5 h6 h7 h8 h9 h10:Int):evC (c_hval lf) (d+1) σ yh 34 [.agg [.s (.int .i64 h0),.s (.str h1),.s (.int .u32 h2),.s (.int .u16 h3),.s (.int .u16 h4),.s (.int .u16 h5),.s (.int .u16 h6),.s (.int .u16 h7),.s (.int .u16 h8),.s (.int .u16 h9),.s (.int .u16 h10)]] [] s=hval lf h0 h1 h2 h3 h4 h5 h6 h7 h8 h9 h10 (fun r0 n1 s2 n3 n4 n5 n6 n7 n8 n9 n10 n11 l12=>some (.s (.bool r0),[.box [.s (.int .i64 n1),.s (.str s2),.s (.int .u32 n3),.s (.int .u16 n4),.s (.int .u16 n5),.s (.int .u16 n6),.s (.int .u16 n7),.s (.int .u16 n8),.s (.int .u16 n9),.s (.int .u16 n10),.s (.int .u16 n11)],.arr false 26 1 l12],s)):=by
 refine (evC_eq (fn:=Tryz.f34) (by kernel_rfl) (by kernel_rfl) (by kernel_rfl)).trans ?_
 generalize evC (c_hval lf) d=cl
 unfold hval;kernel_rfl
noncomputable def c_hfmt (lf:Nat):Cfg:=mkCfg lf [36] (lookK []) [(34,X_hval),(69,X_v4f),(70,X_v6f)] (lookK [(7,[2]),(2,[2]),(4,[2]),(6,[2]),(5,[1,11]),(3,[1,5]),(1,[1,1]),(0,[1])]) [34,69,70] (lookK [(0,[1])]) (some [2]) [] [] []
noncomputable def hfmt {R:Type} (lf:Nat) (h0:Int) (h1:By) (h2 h3 h4 h5 h6 h7 h8 h9 h10:Int) (k0:By→Int→By→Int→Int→Int→Int→Int→Int→Int→Int→Int→Option R):Option R:=cond (small (List.length h1)) (cond (ltN h2 4294967296) (cond (ok8 h3 h4 h5 h6 h7 h8 h9 h10) (cond (not (validH (mkH h0 h1 h2 (n8 h3 h4 h5 h6 h7 h8 h9 h10)))) (k0 ([]:List UInt8) h0 h1 h2 h3 h4 h5 h6 h7 h8 h9 h10) (cond (h0==(1:Int)) (k0 h1 h0 h1 h2 h3 h4 h5 h6 h7 h8 h9 h10) (cond (h0==(2:Int)) (cond (ltN h2 4294967296) (k0 (v4Fmt (Int.toNat h2)) h0 h1 h2 h3 h4 h5 h6 h7 h8 h9 h10) (none)) (cond (ok8 h3 h4 h5 h6 h7 h8 h9 h10) (vl (v6Fmt (n8 h3 h4 h5 h6 h7 h8 h9 h10)) fun s'0=>cond (catOk 1 (List.length s'0)) (vl ((([91]:List UInt8))++s'0) fun s'1=>cond (catOk (List.length s'1) 1) (vl (s'1++(([93]:List UInt8))) fun s'2=>k0 s'2 h0 h1 h2 h3 h4 h5 h6 h7 h8 h9 h10) (none)) (none)) (none))))) (none)) (none)) (none)
theorem hfmt_ev (d:Nat) (h0:Int) (h1:By) (h2 h3 h4 h5 h6 h7 h8 h9 h10:Int):evC (c_hfmt lf) (d+1) σ yh 36 [.agg [.s (.int .i64 h0),.s (.str h1),.s (.int .u32 h2),.s (.int .u16 h3),.s (.int .u16 h4),.s (.int .u16 h5),.s (.int .u16 h6),.s (.int .u16 h7),.s (.int .u16 h8),.s (.int .u16 h9),.s (.int .u16 h10)]] [] s=hfmt lf h0 h1 h2 h3 h4 h5 h6 h7 h8 h9 h10 (fun r0 n1 s2 n3 n4 n5 n6 n7 n8 n9 n10 n11=>some (.s (.str r0),[.box [.s (.int .i64 n1),.s (.str s2),.s (.int .u32 n3),.s (.int .u16 n4),.s (.int .u16 n5),.s (.int .u16 n6),.s (.int .u16 n7),.s (.int .u16 n8),.s (.int .u16 n9),.s (.int .u16 n10),.s (.int .u16 n11)]],s)):=by
 refine (evC_eq (fn:=Tryz.f36) (by kernel_rfl) (by kernel_rfl) (by kernel_rfl)).trans ?_
 generalize evC (c_hfmt lf) d=cl
 unfold hfmt;kernel_rfl
noncomputable def c_hlab (lf:Nat):Cfg:=mkCfg lf [26] (lookK []) [(25,X_hvn),(62,X_scnt)] (lookK [(3,[2]),(2,[2]),(1,[0,4]),(0,[0])]) [25,62] (lookK []) (some [2]) [] [] []
noncomputable def hlab {R:Type} (lf:Nat) (name0:By) (k0:Int→Option R):Option R:=cond (small (List.length name0)) (cond (not (validN name0)) (k0 0) (cond (1==1) (vl (↑(List.count (List.getD (([46]:List UInt8)) 0 0) name0):Int) fun n'0=>k0 (wi64 (n'0+(1:Int)))) (none))) (none)
theorem hlab_ev (d:Nat) (name0:By):evC (c_hlab lf) (d+1) σ yh 26 [.s (.str name0)] [] s=hlab lf name0 (fun r0=>some (.s (.int .i64 r0),[],s)):=by
 refine (evC_eq (fn:=Tryz.f26) (by kernel_rfl) (by kernel_rfl) (by kernel_rfl)).trans ?_
 generalize evC (c_hlab lf) d=cl
 unfold hlab;kernel_rfl
noncomputable def c_hcov (lf:Nat):Cfg:=mkCfg lf [31] (lookK []) [(25,X_hvn),(63,X_hsuf)] (lookK [(1,[4]),(0,[0,0])]) [25,63] (lookK []) (some [4]) [] [] []
noncomputable def hcov {R:Type} (lf:Nat) (super0 name1:By) (k0:Bool→Option R):Option R:=cond (small (List.length super0)) (cond (validN super0) (cond (small (List.length name1)) (cond (validN name1) (cond (super0==name1) (k0 true) (cond (catOk 1 (List.length super0)) (vl ((([46]:List UInt8))++super0) fun s'0=>cond (small (List.length name1)) (k0 (List.isSuffixOf s'0 name1)) (none)) (none))) (k0 false)) (none)) (k0 false)) (none)
theorem hcov_ev (d:Nat) (super0 name1:By):evC (c_hcov lf) (d+1) σ yh 31 [.s (.str super0),.s (.str name1)] [] s=hcov lf super0 name1 (fun r0=>some (.s (.bool r0),[],s)):=by
 refine (evC_eq (fn:=Tryz.f31) (by kernel_rfl) (by kernel_rfl) (by kernel_rfl)).trans ?_
 generalize evC (c_hcov lf) d=cl
 unfold hcov;kernel_rfl
end
end Go.Proofs.YtokehocipgepnaaGreatDoor.E
namespace Go.Proofs.YtokehocipgepnaaGreatDoor.E
open Go Go.Proofs 
set_option linter.unusedVariables false
set_option maxRecDepth 100000
section
variable {σ R : Type} (lf : Nat) (cl : CallT) (yh : Yh σ) (s : σ) (k : Out → St σ → Option R)
noncomputable def c_pthr (lf:Nat):Cfg:=mkCfg lf [175] (lookK []) [] (lookK [(2,[2]),(1,[1,1]),(0,[1])]) [] (lookK []) (some [2]) [] [] []
noncomputable def pthr {R:Type} (lf:Nat) (b:Int) (k0:Int→Option R):Option R:=k0 b
theorem pthr_ev (d:Nat) (b:Int):evC (c_pthr lf) (d+1) σ yh 175 [.s (.int .i64 b)] [] s=pthr lf b (fun n0=>some (.fnr (Fn.func 195) [] [.ptr 1 0 0,.ptr 0 0 0],[.box [.s (.int .i64 n0)],.box [.s (.int .i64 (0:Int))]],s)):=by
 refine (evC_eq (fn:=Tryz.f175) (by kernel_rfl) (by kernel_rfl) (by kernel_rfl)).trans ?_
 generalize evC (c_pthr lf) d=cl
 unfold pthr;kernel_rfl
noncomputable def c_pnext (lf:Nat):Cfg:=mkCfg lf [195] (lookK []) [] (lookK [(2,[2]),(1,[0,0]),(0,[0,0])]) [] (lookK []) (some [2]) [] [] []
noncomputable def pnext {R:Type} (lf:Nat) (k b:Int) (k0:Int→Int→Int→Option R):Option R:=vl (wi64 ((wi64 (k+(36:Int)))-b)) fun n'0=>vl (if ((26:Int)<(if ((1:Int) > n'0) then (1:Int) else n'0)) then (26:Int) else (if ((1:Int) > n'0) then (1:Int) else n'0)) fun n'1=>k0 n'1 (wi64 (k+(36:Int))) b
theorem pnext_ev (d:Nat) (k b:Int):evC (c_pnext lf) (d+1) σ yh 195 [.ptr 0 0 0,.ptr 1 0 0] [.box [.s (.int .i64 k)],.box [.s (.int .i64 b)]] s=pnext lf k b (fun r0 n1 n2=>some (.s (.int .i64 r0),[.box [.s (.int .i64 n1)],.box [.s (.int .i64 n2)]],s)):=by
 refine (evC_eq (fn:=Tryz.f195) (by kernel_rfl) (by kernel_rfl) (by kernel_rfl)).trans ?_
 generalize evC (c_pnext lf) d=cl
 unfold pnext;kernel_rfl
noncomputable abbrev b_papp:Code:=bodyOf Tryz.f140
noncomputable def c_papp (lf:Nat):Cfg:=mkCfg lf [140] (lookK [(2,[0,0,4,0])]) [(175,X_pthr),(176,X_pdig)] (lookK [(6,[0,0,5]),(5,[0,0,5,0]),(4,[6]),(3,[0,0,5,0,6]),(2,[0,0,5,0]),(1,[0,0,5]),(0,[0,0,0])]) [176] (lookK [(0,[6]),(1,[0,0,5])]) (some [6]) [(195,X_pnext)] [] [195]
noncomputable def papp_l0f {R:Type} (lf n:Nat) (self:Int→Bool→LL→Int→Int→Option R) (q0:Int) (z1:Bool) (l2:LL) (n3 n4:Int) (k0:Bool→LL→Int→Int→Option R):Option R:=cond (ltN n4 1000000000000) (cond (ltN n3 1000000) (cond (ltI q0 (thrI n4 n3)) (cond (ltN q0 36) (vl (↑(UInt8.toNat (dig36 (Int.toNat q0))):Int) fun n'1=>cond (roomy ((List.length l2)+1)) (k0 z1 (l2++[[(SV.int .u8 n'1)]]) n3 (Int.add n4 (36:Int))) (none)) (none)) (vl (wi64 (q0-(thrI n4 n3))) fun n'2=>vl (wi64 ((36:Int)-(thrI n4 n3))) fun n'3=>cond (n'3 != (0:Int)) (vl (wi64 ((thrI n4 n3)+(Int.tmod n'2 n'3))) fun n'4=>cond (ltN n'4 36) (vl (↑(UInt8.toNat (dig36 (Int.toNat n'4))):Int) fun n'5=>cond (roomy ((List.length l2)+1)) (vl (wi64 (q0-(thrI n4 n3))) fun n'6=>vl (wi64 ((36:Int)-(thrI n4 n3))) fun n'7=>cond (n'7 != (0:Int)) (vl (wi64 (Int.tdiv n'6 n'7)) fun n'8=>self n'8 z1 (l2++[[(SV.int .u8 n'5)]]) n3 (Int.add n4 (36:Int))) (none)) (none)) (none)) (none))) (none)) (none)
noncomputable def papp_l0 {R:Type} (lf n:Nat) (q0:Int) (z1:Bool) (l2:LL) (n3 n4:Int) (k0:Bool→LL→Int→Int→Option R):Option R:=recN (α:=Int→Bool→LL→Int→Int→Option R) (fun _ _ _ _ _=>none) (fun n self q0 z1 l2 n3 n4=>papp_l0f lf n self q0 z1 l2 n3 n4 k0) n q0 z1 l2 n3 n4
theorem papp_l0_s {R:Type} (lf n:Nat) (q0:Int) (z1:Bool) (l2:LL) (n3 n4:Int) (k0:Bool→LL→Int→Int→Option R):papp_l0 lf (n+1) q0 z1 l2 n3 n4 k0=papp_l0f lf n (fun q0 z1 l2 n3 n4=>papp_l0 lf n q0 z1 l2 n3 n4 k0) q0 z1 l2 n3 n4 k0:=rfl
theorem papp_l0_eq (n:Nat) (q0:Int) (z1:Bool) (l2:LL) (n3 n4:Int):loopK 3 ((c_papp lf).keep 2) (bd (c_papp lf) cl yh (cd [1,1,0,0] b_papp)) n ⟨gp [(0,.fl 0),(0,.s (.int .i64 q0)),(5,.fnr (Fn.func 195) [] [.ptr 2 0 0,.ptr 1 0 0])] 31,[.arr z1 5 1 l2,.box [.s (.int .i64 n3)],.box [.s (.int .i64 n4)]],s⟩ k =
 papp_l0 lf n q0 z1 l2 n3 n4 (fun z0 l1 n2 n3=>k .ret ⟨gp [(6,.fl 0)] 32,[.arr z0 5 1 l1,.box [.s (.int .i64 n2)],.box [.s (.int .i64 n3)]],s⟩):=by
 induction n generalizing q0 z1 l2 n3 n4 with
 | zero=>rfl
 | succ n ih=>rw [papp_l0_s];unfold papp_l0f;exact (Eq.trans (by kernel_rfl) (cond_congr (cond_congr (cond_congr (cond_congr (vl_congr fun n'1=>(cond_congr rfl rfl)) rfl) (vl_congr fun n'2=>(vl_congr fun n'3=>(cond_congr (vl_congr fun n'4=>(cond_congr (vl_congr fun n'5=>(cond_congr (vl_congr fun n'6=>(vl_congr fun n'7=>(cond_congr (vl_congr fun n'8=>(ih n'8 z1 (l2++[[(SV.int .u8 n'5)]]) n3 (Int.add n4 (36:Int)))) rfl))) rfl)) rfl)) rfl)))) rfl) rfl))
noncomputable def papp {R:Type} (lf:Nat) (q b:Int) (z:Bool) (l:LL) (k0:Bool→LL→Int→Int→Option R):Option R:=papp_l0 lf lf q z l b 0 (fun z'9 l'10 n'11 n'12=>k0 z'9 l'10 n'11 n'12)
theorem papp_ev (d:Nat) (q b:Int) (z:Bool) (l:LL):evC (c_papp lf) (d+1) σ yh 140 [.fl 0,.s (.int .i64 q),.s (.int .i64 b)] [.arr z 5 1 l] s=papp lf q b z l (fun z0 l1 n2 n3=>some (.fl 0,[.arr z0 5 1 l1,.box [.s (.int .i64 n2)],.box [.s (.int .i64 n3)]],s)):=by
 refine (evC_eq (fn:=Tryz.f140) (by kernel_rfl) (by kernel_rfl) (by kernel_rfl)).trans ?_
 generalize evC (c_papp lf) d=cl
 unfold papp;exact (Eq.trans (by kernel_rfl) ((papp_l0_eq lf cl yh s (blkK 0 (retK (c_papp lf) Tryz.f140)) lf q z l b 0).trans (congr rfl (funext fun z'9=>(funext fun l'10=>(funext fun n'11=>(funext fun n'12=>(by kernel_rfl))))))))
noncomputable abbrev b_penc:Code:=bodyOf Tryz.f98
noncomputable def c_penc (lf:Nat):Cfg:=mkCfg lf [98] (lookK [(29,[0,1,0,0,2,0,0,0,0,61,0,0]),(21,[0,1,0,0,2,0,0,0,0,0,38,0,0]),(17,[0,1,0,0,2,0,0,0,0]),(5,[0,1,0,0,15,0,0])]) [(139,X_ppoint),(141,X_padapt)] (lookK [(40,[2,0]),(18,[0,3,2,0,0,0,0]),(39,[0,3,2,0,0,0,0]),(38,[0,3,2,0,0,0,0,61,0,0]),(32,[0,3,2,0,0,0,0,61,0,0]),(37,[0,3,2,0,0,0,0,61,0,0]),(36,[0,3,2,0,0,0,0,61,0,0]),(35,[0,3,2,0,1,0,61,0,0]),(34,[0,3,2,0,0,1,61,0,0]),(33,[0,3,2,0,0,0,0,61,0,0,9]),(31,[0,3,2,0,0,0,0,4,56,0,0,3]),(30,[0,3,2,0,0,0,0,4,56,0,0]),(29,[0,3,2,0,0,0,0,61,0,0,0]),(28,[0,3,2,0,0,0,0,61,0,0]),(27,[0,3,2,0,0,0,0]),(26,[0,3,2,1,0,0,0]),(25,[0,3,2,0,0,0,0,0,38,0,0]),(24,[0,3,2,0,0,0,0,0,38,0,0]),(23,[0,3,2,0,0,0,0,0,1,36,0,0,5]),(22,[0,3,2,0,0,0,0,0,1,36,0,0]),(21,[0,3,2,0,0,0,0,0,38,0,0,0]),(20,[0,3,2,0,0,0,0,0,38,0,0]),(19,[0,3,2,0,0,0,0,0]),(17,[0,3,2,0,0,0,0,36]),(16,[0,3,2,0,0,0,0]),(15,[0,3,2,0,0,0]),(14,[0,3,2]),(13,[0,3,2,32]),(12,[0,3,2]),(11,[0,3,15,0,0]),(10,[0,3,15,0,0]),(9,[0,3,1,13,0,0,7]),(8,[2,0]),(7,[0,3,1,13,0,0,5]),(6,[0,3,1,13,0,0]),(5,[0,3,15,0,0,0]),(4,[0,3,15,0,0]),(3,[0,3]),(2,[2,0]),(1,[0,18]),(0,[0])]) [139,141] (lookK [(2,[4]),(3,[0,3,2,0,0,0,0]),(6,[0,3,2,0,0,0,0]),(7,[0,3,2,0,0,0,0,61,0,0]),(8,[0,3,2,0,0,0,0,61,0,0]),(4,[0,3,2,0,0,0,0,0]),(5,[0,3,2,0,0,0,0,0,38,0,0]),(0,[0,3]),(1,[0,3,15,0,0])]) (some [2,0]) [(140,X_papp)] [] [140]
noncomputable def penc_l0f {R:Type} (lf n:Nat) (self:Bool→Bool→LL→Int→Int→LL→Option R) (points_z0 points_t1:Bool) (points2:LL) (n3 n4:Int) (l5:LL) (k0:LL→Option R) (k1:Bool→Bool→LL→LL→Option R):Option R:=cond (ltI n4 n3) (cond (inR n4 (List.length points2)) (cond (okE tI64 points2 (Int.toNat n4) 0) (vl (gE points2 (Int.toNat n4) 0) fun n'1=>cond (not (ptI n'1)) (k0 l5) (cond (ltI n'1 (128:Int)) (cond (roomy ((List.length l5)+1)) (self points_z0 points_t1 points2 n3 (wi64 (n4+(1:Int))) (l5++[[(SV.int .u8 (wu8 n'1))]])) (none)) (self points_z0 points_t1 points2 n3 (wi64 (n4+(1:Int))) l5))) (none)) (none)) (k1 points_z0 points_t1 points2 l5)
noncomputable def penc_l0 {R:Type} (lf n:Nat) (points_z0 points_t1:Bool) (points2:LL) (n3 n4:Int) (l5:LL) (k0:LL→Option R) (k1:Bool→Bool→LL→LL→Option R):Option R:=recN (α:=Bool→Bool→LL→Int→Int→LL→Option R) (fun _ _ _ _ _ _=>none) (fun n self points_z0 points_t1 points2 n3 n4 l5=>penc_l0f lf n self points_z0 points_t1 points2 n3 n4 l5 k0 k1) n points_z0 points_t1 points2 n3 n4 l5
theorem penc_l0_s {R:Type} (lf n:Nat) (points_z0 points_t1:Bool) (points2:LL) (n3 n4:Int) (l5:LL) (k0:LL→Option R) (k1:Bool→Bool→LL→LL→Option R):penc_l0 lf (n+1) points_z0 points_t1 points2 n3 n4 l5 k0 k1=penc_l0f lf n (fun points_z0 points_t1 points2 n3 n4 l5=>penc_l0 lf n points_z0 points_t1 points2 n3 n4 l5 k0 k1) points_z0 points_t1 points2 n3 n4 l5 k0 k1:=rfl
theorem penc_l0_eq (n:Nat) (points_z0 points_t1:Bool) (points2:LL) (n3 n4:Int) (l5:LL):loopK 1 ((c_penc lf).keep 5) (bd (c_penc lf) cl yh (cd [1,1,1,0,1,0,0] b_penc)) n ⟨gp [(0,.s (.sl points_z0 points_t1 1 points2)),(3,.fl 0),(15,.s (.sl points_z0 points_t1 1 points2)),(0,.s (.int .i64 n3)),(0,.s (.int .i64 n4))] 84,[.arr true 5 1 l5],s⟩ k =
 penc_l0 lf n points_z0 points_t1 points2 n3 n4 l5 (fun l0=>k .ret ⟨gp [(2,.s (.str ([]:List UInt8))),(0,.s (.int .i64 (2:Int)))] 103,[.arr true 5 1 l0],s⟩) (fun points_z0 points_t1 points2 l3=>k (.exit 0) ⟨gp [(0,.s (.sl points_z0 points_t1 1 points2)),(3,.fl 0)] 102,[.arr true 5 1 l3],s⟩):=by
 induction n generalizing points_z0 points_t1 points2 n3 n4 l5 with
 | zero=>rfl
 | succ n ih=>rw [penc_l0_s];unfold penc_l0f;exact (Eq.trans (by kernel_rfl) (cond_congr (cond_congr (cond_congr (vl_congr fun n'1=>(cond_congr rfl (cond_congr (cond_congr (ih points_z0 points_t1 points2 n3 (wi64 (n4+(1:Int))) (l5++[[(SV.int .u8 (wu8 n'1))]])) rfl) (ih points_z0 points_t1 points2 n3 (wi64 (n4+(1:Int))) l5)))) rfl) rfl) rfl))
noncomputable def penc_l1f {R:Type} (lf n:Nat) (self:Bool→Bool→LL→Int→Int→Int→Int→Int→Int→Int→Int→LL→Option R) (points_z0 points_t1:Bool) (points2:LL) (basic3 n4 delta5 bias6 done7 m8 n9 n10:Int) (l11:LL) (k0:Bool→Bool→LL→Int→Int→Int→Int→Int→Int→LL→Option R):Option R:=cond (ltI n10 n9) (cond (inR n10 (List.length points2)) (cond (okE tI64 points2 (Int.toNat n10) 0) (vl (gE points2 (Int.toNat n10) 0) fun n'9=>cond (not (ltI n'9 n4)) (vl (if (n'9<m8) then n'9 else m8) fun n'10=>self points_z0 points_t1 points2 basic3 n4 delta5 bias6 done7 n'10 n9 (wi64 (n10+(1:Int))) l11) (self points_z0 points_t1 points2 basic3 n4 delta5 bias6 done7 m8 n9 (wi64 (n10+(1:Int))) l11)) (none)) (none)) (k0 points_z0 points_t1 points2 basic3 n4 delta5 bias6 done7 m8 l11)
noncomputable def penc_l1 {R:Type} (lf n:Nat) (points_z0 points_t1:Bool) (points2:LL) (basic3 n4 delta5 bias6 done7 m8 n9 n10:Int) (l11:LL) (k0:Bool→Bool→LL→Int→Int→Int→Int→Int→Int→LL→Option R):Option R:=recN (α:=Bool→Bool→LL→Int→Int→Int→Int→Int→Int→Int→Int→LL→Option R) (fun _ _ _ _ _ _ _ _ _ _ _ _=>none) (fun n self points_z0 points_t1 points2 basic3 n4 delta5 bias6 done7 m8 n9 n10 l11=>penc_l1f lf n self points_z0 points_t1 points2 basic3 n4 delta5 bias6 done7 m8 n9 n10 l11 k0) n points_z0 points_t1 points2 basic3 n4 delta5 bias6 done7 m8 n9 n10 l11
theorem penc_l1_s {R:Type} (lf n:Nat) (points_z0 points_t1:Bool) (points2:LL) (basic3 n4 delta5 bias6 done7 m8 n9 n10:Int) (l11:LL) (k0:Bool→Bool→LL→Int→Int→Int→Int→Int→Int→LL→Option R):penc_l1 lf (n+1) points_z0 points_t1 points2 basic3 n4 delta5 bias6 done7 m8 n9 n10 l11 k0=penc_l1f lf n (fun points_z0 points_t1 points2 basic3 n4 delta5 bias6 done7 m8 n9 n10 l11=>penc_l1 lf n points_z0 points_t1 points2 basic3 n4 delta5 bias6 done7 m8 n9 n10 l11 k0) points_z0 points_t1 points2 basic3 n4 delta5 bias6 done7 m8 n9 n10 l11 k0:=rfl
theorem penc_l1_eq (n:Nat) (points_z0 points_t1:Bool) (points2:LL) (basic3 n4 delta5 bias6 done7 m8 n9 n10:Int) (l11:LL):loopK 1 ((c_penc lf).keep 21) (bd (c_penc lf) cl yh (cd [1,1,1,1,1,1,1,0,1,0,0,1,0,0,1,0,1,0,0] b_penc)) n ⟨gp [(0,.s (.sl points_z0 points_t1 1 points2)),(3,.fl 0),(2,.s (.int .i64 basic3)),(0,.s (.int .i64 n4)),(0,.s (.int .i64 delta5)),(0,.s (.int .i64 bias6)),(0,.s (.int .i64 done7)),(0,.s (.int .i64 m8)),(38,.s (.sl points_z0 points_t1 1 points2)),(0,.s (.int .i64 n9)),(0,.s (.int .i64 n10))] 53,[.arr true 5 1 l11],s⟩ k =
 penc_l1 lf n points_z0 points_t1 points2 basic3 n4 delta5 bias6 done7 m8 n9 n10 l11 (fun points_z0 points_t1 points2 basic3 n4 delta5 bias6 done7 m8 l9=>k (.exit 4) ⟨gp [(0,.s (.sl points_z0 points_t1 1 points2)),(3,.fl 0),(2,.s (.int .i64 basic3)),(0,.s (.int .i64 n4)),(0,.s (.int .i64 delta5)),(0,.s (.int .i64 bias6)),(0,.s (.int .i64 done7)),(0,.s (.int .i64 m8))] 94,[.arr true 5 1 l9],s⟩):=by
 induction n generalizing points_z0 points_t1 points2 basic3 n4 delta5 bias6 done7 m8 n9 n10 l11 with
 | zero=>rfl
 | succ n ih=>rw [penc_l1_s];unfold penc_l1f;exact (Eq.trans (by kernel_rfl) (cond_congr (cond_congr (cond_congr (vl_congr fun n'9=>(cond_congr (vl_congr fun n'10=>(ih points_z0 points_t1 points2 basic3 n4 delta5 bias6 done7 n'10 n9 (wi64 (n10+(1:Int))) l11)) (ih points_z0 points_t1 points2 basic3 n4 delta5 bias6 done7 m8 n9 (wi64 (n10+(1:Int))) l11))) rfl) rfl) rfl))
noncomputable def penc_l2f {R:Type} (lf n:Nat) (self:Bool→Bool→LL→Int→Int→Int→Int→Int→Int→Int→LL→Option R) (points_z0 points_t1:Bool) (points2:LL) (basic3 n4 delta5 bias6 done7 n8 n9:Int) (l10:LL) (k0:Bool→Bool→LL→Int→Int→Int→Int→Int→LL→Option R):Option R:=cond (ltI n9 n8) (cond (inR n9 (List.length points2)) (cond (okE tI64 points2 (Int.toNat n9) 0) (vl (gE points2 (Int.toNat n9) 0) fun n'26=>cond (ltI n'26 n4) (vl (wi64 (delta5+(1:Int))) fun n'27=>self points_z0 points_t1 points2 basic3 n4 n'27 bias6 done7 n8 (wi64 (n9+(1:Int))) l10) (cond (n'26==n4) (cond (ltN delta5 1152921504606846976) (cond (ltN bias6 1000000) (cond (Nat.ble (List.length l10) 100000) (vl (List.append l10 (List.map u8el (encNum (Int.toNat delta5) 0 (Int.toNat bias6)))) fun l'29=>vl (wi64 (done7+(1:Int))) fun n'30=>cond (ltN delta5 1152921504606846976) (cond (ltN n'30 1000000) (cond (ltI (0:Int) n'30) (vl (↑(adapt (Int.toNat delta5) (Int.toNat n'30) (done7==basic3)):Int) fun n'31=>vl (wi64 (done7+(1:Int))) fun n'32=>self points_z0 points_t1 points2 basic3 n4 0 n'31 n'32 n8 (wi64 (n9+(1:Int))) l'29) (none)) (none)) (none)) (none)) (none)) (none)) (self points_z0 points_t1 points2 basic3 n4 delta5 bias6 done7 n8 (wi64 (n9+(1:Int))) l10))) (none)) (none)) (k0 points_z0 points_t1 points2 basic3 n4 delta5 bias6 done7 l10)
noncomputable def penc_l2 {R:Type} (lf n:Nat) (points_z0 points_t1:Bool) (points2:LL) (basic3 n4 delta5 bias6 done7 n8 n9:Int) (l10:LL) (k0:Bool→Bool→LL→Int→Int→Int→Int→Int→LL→Option R):Option R:=recN (α:=Bool→Bool→LL→Int→Int→Int→Int→Int→Int→Int→LL→Option R) (fun _ _ _ _ _ _ _ _ _ _ _=>none) (fun n self points_z0 points_t1 points2 basic3 n4 delta5 bias6 done7 n8 n9 l10=>penc_l2f lf n self points_z0 points_t1 points2 basic3 n4 delta5 bias6 done7 n8 n9 l10 k0) n points_z0 points_t1 points2 basic3 n4 delta5 bias6 done7 n8 n9 l10
theorem penc_l2_s {R:Type} (lf n:Nat) (points_z0 points_t1:Bool) (points2:LL) (basic3 n4 delta5 bias6 done7 n8 n9:Int) (l10:LL) (k0:Bool→Bool→LL→Int→Int→Int→Int→Int→LL→Option R):penc_l2 lf (n+1) points_z0 points_t1 points2 basic3 n4 delta5 bias6 done7 n8 n9 l10 k0=penc_l2f lf n (fun points_z0 points_t1 points2 basic3 n4 delta5 bias6 done7 n8 n9 l10=>penc_l2 lf n points_z0 points_t1 points2 basic3 n4 delta5 bias6 done7 n8 n9 l10 k0) points_z0 points_t1 points2 basic3 n4 delta5 bias6 done7 n8 n9 l10 k0:=rfl
theorem penc_l2_eq (n:Nat) (points_z0 points_t1:Bool) (points2:LL) (basic3 n4 delta5 bias6 done7 n8 n9:Int) (l10:LL):loopK 1 ((c_penc lf).keep 29) (bd (c_penc lf) cl yh (cd [1,1,1,1,1,1,1,0,1,0,0,1,0,0,1,1,1,1,0,1,0,0] b_penc)) n ⟨gp [(0,.s (.sl points_z0 points_t1 1 points2)),(3,.fl 0),(2,.s (.int .i64 basic3)),(0,.s (.int .i64 n4)),(0,.s (.int .i64 delta5)),(0,.s (.int .i64 bias6)),(0,.s (.int .i64 done7)),(61,.s (.sl points_z0 points_t1 1 points2)),(0,.s (.int .i64 n8)),(0,.s (.int .i64 n9))] 31,[.arr true 5 1 l10],s⟩ k =
 penc_l2 lf n points_z0 points_t1 points2 basic3 n4 delta5 bias6 done7 n8 n9 l10 (fun points_z0 points_t1 points2 basic3 n4 delta5 bias6 done7 l8=>k (.exit 6) ⟨gp [(0,.s (.sl points_z0 points_t1 1 points2)),(3,.fl 0),(2,.s (.int .i64 basic3)),(0,.s (.int .i64 n4)),(0,.s (.int .i64 delta5)),(0,.s (.int .i64 bias6)),(0,.s (.int .i64 done7))] 95,[.arr true 5 1 l8],s⟩):=by
 induction n generalizing points_z0 points_t1 points2 basic3 n4 delta5 bias6 done7 n8 n9 l10 with
 | zero=>rfl
 | succ n ih=>rw [penc_l2_s];unfold penc_l2f;exact (Eq.trans (by kernel_rfl) (cond_congr (cond_congr (cond_congr (vl_congr fun n'26=>(cond_congr (vl_congr fun n'27=>(ih points_z0 points_t1 points2 basic3 n4 n'27 bias6 done7 n8 (wi64 (n9+(1:Int))) l10)) (cond_congr (cond_congr (cond_congr (cond_congr (vl_congr fun l'29=>(vl_congr fun n'30=>(cond_congr (cond_congr (cond_congr (vl_congr fun n'31=>(vl_congr fun n'32=>(ih points_z0 points_t1 points2 basic3 n4 0 n'31 n'32 n8 (wi64 (n9+(1:Int))) l'29))) rfl) rfl) rfl))) rfl) rfl) rfl) (ih points_z0 points_t1 points2 basic3 n4 delta5 bias6 done7 n8 (wi64 (n9+(1:Int))) l10)))) rfl) rfl) rfl))
noncomputable def penc_l3f {R:Type} (lf n:Nat) (self:Bool→Bool→LL→Int→Int→Int→Int→Int→LL→Option R) (points_z0 points_t1:Bool) (points2:LL) (basic3 n4 delta5 bias6 done7:Int) (l8:LL) (k0:LL→Option R):Option R:=cond (ltI done7 (↑(List.length points2):Int)) (penc_l1 lf lf points_z0 points_t1 points2 basic3 n4 delta5 bias6 done7 1114112 (↑(List.length points2):Int) 0 l8 (fun points_z'11 points_t'12 points'13 basic'14 n'15 delta'16 bias'17 done'18 m'19 l'20=>vl (wi64 (done'18+(1:Int))) fun n'23=>vl (wi64 ((wi64 (m'19-n'15))*n'23)) fun n'24=>penc_l2 lf lf points_z'11 points_t'12 points'13 basic'14 m'19 (wi64 (delta'16+n'24)) bias'17 done'18 (↑(List.length points'13):Int) 0 l'20 (fun points_z'33 points_t'34 points'35 basic'36 n'37 delta'38 bias'39 done'40 l'41=>vl (wi64 (delta'38+(1:Int))) fun n'42=>vl (wi64 (n'37+(1:Int))) fun n'43=>self points_z'33 points_t'34 points'35 basic'36 n'43 n'42 bias'39 done'40 l'41))) (k0 l8)
noncomputable def penc_l3 {R:Type} (lf n:Nat) (points_z0 points_t1:Bool) (points2:LL) (basic3 n4 delta5 bias6 done7:Int) (l8:LL) (k0:LL→Option R):Option R:=recN (α:=Bool→Bool→LL→Int→Int→Int→Int→Int→LL→Option R) (fun _ _ _ _ _ _ _ _ _=>none) (fun n self points_z0 points_t1 points2 basic3 n4 delta5 bias6 done7 l8=>penc_l3f lf n self points_z0 points_t1 points2 basic3 n4 delta5 bias6 done7 l8 k0) n points_z0 points_t1 points2 basic3 n4 delta5 bias6 done7 l8
theorem penc_l3_s {R:Type} (lf n:Nat) (points_z0 points_t1:Bool) (points2:LL) (basic3 n4 delta5 bias6 done7:Int) (l8:LL) (k0:LL→Option R):penc_l3 lf (n+1) points_z0 points_t1 points2 basic3 n4 delta5 bias6 done7 l8 k0=penc_l3f lf n (fun points_z0 points_t1 points2 basic3 n4 delta5 bias6 done7 l8=>penc_l3 lf n points_z0 points_t1 points2 basic3 n4 delta5 bias6 done7 l8 k0) points_z0 points_t1 points2 basic3 n4 delta5 bias6 done7 l8 k0:=rfl
theorem penc_l3_eq (n:Nat) (points_z0 points_t1:Bool) (points2:LL) (basic3 n4 delta5 bias6 done7:Int) (l8:LL):loopK 1 ((c_penc lf).keep 17) (bd (c_penc lf) cl yh (cd [1,1,1,1,1,1,1,0,1,0,0] b_penc)) n ⟨gp [(0,.s (.sl points_z0 points_t1 1 points2)),(3,.fl 0),(2,.s (.int .i64 basic3)),(0,.s (.int .i64 n4)),(0,.s (.int .i64 delta5)),(0,.s (.int .i64 bias6)),(0,.s (.int .i64 done7))] 95,[.arr true 5 1 l8],s⟩ k =
 penc_l3 lf n points_z0 points_t1 points2 basic3 n4 delta5 bias6 done7 l8 (fun l0=>k (.exit 2) ⟨gp [(4,.fl 0)] 102,[.arr true 5 1 l0],s⟩):=by
 induction n generalizing points_z0 points_t1 points2 basic3 n4 delta5 bias6 done7 l8 with
 | zero=>rfl
 | succ n ih=>rw [penc_l3_s];unfold penc_l3f;exact (Eq.trans (by kernel_rfl) (cond_congr ((penc_l1_eq lf cl yh s (blkK 4 (seqK (c_penc lf) cl yh (cd [1,1,1,1,1,1,1,0,1,0,0,1,0,0,1,1] b_penc) (blkK 3 (seqK (c_penc lf) cl yh (cd [1,1,1,1,1,1,1,0,1,0,0,1,1] b_penc) (lpK 1 ((c_penc lf).keep 17) (bd (c_penc lf) cl yh (cd [1,1,1,1,1,1,1,0,1,0,0] b_penc)) n k))))) lf points_z0 points_t1 points2 basic3 n4 delta5 bias6 done7 1114112 (↑(List.length points2):Int) 0 l8).trans (congr rfl (funext fun points_z'11=>(funext fun points_t'12=>(funext fun points'13=>(funext fun basic'14=>(funext fun n'15=>(funext fun delta'16=>(funext fun bias'17=>(funext fun done'18=>(funext fun m'19=>(funext fun l'20=>(Eq.trans (by kernel_rfl) (vl_congr fun n'23=>(vl_congr fun n'24=>((penc_l2_eq lf cl yh s (blkK 6 (seqK (c_penc lf) cl yh (cd [1,1,1,1,1,1,1,0,1,0,0,1,0,0,1,1,1,1,1] b_penc) (blkK 3 (seqK (c_penc lf) cl yh (cd [1,1,1,1,1,1,1,0,1,0,0,1,1] b_penc) (lpK 1 ((c_penc lf).keep 17) (bd (c_penc lf) cl yh (cd [1,1,1,1,1,1,1,0,1,0,0] b_penc)) n k))))) lf points_z'11 points_t'12 points'13 basic'14 m'19 (wi64 (delta'16+n'24)) bias'17 done'18 (↑(List.length points'13):Int) 0 l'20).trans (congr rfl (funext fun points_z'33=>(funext fun points_t'34=>(funext fun points'35=>(funext fun basic'36=>(funext fun n'37=>(funext fun delta'38=>(funext fun bias'39=>(funext fun done'40=>(funext fun l'41=>(Eq.trans (by kernel_rfl) (vl_congr fun n'42=>(vl_congr fun n'43=>(ih points_z'33 points_t'34 points'35 basic'36 n'43 n'42 bias'39 done'40 l'41)))))))))))))))))))))))))))))) rfl))
noncomputable def penc {R:Type} (lf:Nat) (p_z p_t:Bool) (p:LL) (k0:Unit→Option R) (k1:By→Int→LL→Option R):Option R:=cond (ltI (256:Int) (↑(List.length p):Int)) (k0 ()) (penc_l0 lf lf p_z p_t p (↑(List.length p):Int) 0 [] (fun l'2=>k1 ([]:List UInt8) 2 l'2) (fun points_z'3 points_t'4 points'5 l'6=>vl (↑(List.length l'6):Int) fun n'8=>cond (ltI (0:Int) n'8) (cond (roomy ((List.length l'6)+1)) (penc_l3 lf lf points_z'3 points_t'4 points'5 n'8 128 0 72 n'8 (l'6++[[(SV.int .u8 (45:Int))]]) (fun l'44=>cond (List.all l'44 isU8) (k1 (List.map elU8 l'44) 0 l'44) (none))) (none)) (penc_l3 lf lf points_z'3 points_t'4 points'5 n'8 128 0 72 n'8 l'6 (fun l'45=>cond (List.all l'45 isU8) (k1 (List.map elU8 l'45) 0 l'45) (none)))))
theorem penc_ev (d:Nat) (p_z p_t:Bool) (p:LL):evC (c_penc lf) (d+1) σ yh 98 [.s (.sl p_z p_t 1 p)] [] s=penc lf p_z p_t p (fun _=>some (.tup [.s (.str ([]:List UInt8)),.s (.int .i64 (3:Int))],[],s)) (fun r0 r1 l2=>some (.tup [.s (.str r0),.s (.int .i64 r1)],[.arr true 5 1 l2],s)):=by
 refine (evC_eq (fn:=Tryz.f98) (by kernel_rfl) (by kernel_rfl) (by kernel_rfl)).trans ?_
 generalize evC (c_penc lf) d=cl
 unfold penc;exact (Eq.trans (by kernel_rfl) (cond_congr rfl ((penc_l0_eq lf cl yh s (blkK 0 (seqK (c_penc lf) cl yh (cd [1,1,1,1] b_penc) (retK (c_penc lf) Tryz.f98))) lf p_z p_t p (↑(List.length p):Int) 0 []).trans (congr (congr rfl (funext fun l'2=>(by kernel_rfl))) (funext fun points_z'3=>(funext fun points_t'4=>(funext fun points'5=>(funext fun l'6=>(Eq.trans (by kernel_rfl) (vl_congr fun n'8=>(cond_congr (cond_congr ((penc_l3_eq lf cl yh s (blkK 2 (seqK (c_penc lf) cl yh (cd [1,1,1,1,1,1,1,1] b_penc) (retK (c_penc lf) Tryz.f98))) lf points_z'3 points_t'4 points'5 n'8 128 0 72 n'8 (l'6++[[(SV.int .u8 (45:Int))]])).trans (congr rfl (funext fun l'44=>(by kernel_rfl)))) rfl) ((penc_l3_eq lf cl yh s (blkK 2 (seqK (c_penc lf) cl yh (cd [1,1,1,1,1,1,1,1] b_penc) (retK (c_penc lf) Tryz.f98))) lf points_z'3 points_t'4 points'5 n'8 128 0 72 n'8 l'6).trans (congr rfl (funext fun l'45=>(by kernel_rfl)))))))))))))))
end
end Go.Proofs.YtokehocipgepnaaGreatDoor.E
namespace Go.Proofs.YtokehocipgepnaaGreatDoor.E
open Go Go.Proofs
set_option linter.unusedVariables false
set_option linter.unusedSimpArgs false
theorem thrI_nat (k b:Nat):thrI ((36*k:Nat):Int) (b:Int)=(thr k b:Int):=by
 unfold thrI thr
 omega
theorem pthr_spec {R:Type} {k0:Int→Option R} (b:Int):pthr LF b k0=k0 b:=rfl
theorem pnext_spec {R:Type} {k0:Int→Int→Int→Option R} (k b:Int) (h0:ltN k 1000000000000=true) (h1:ltN b 1000000=true):pnext LF k b k0=k0 (thrI k b) (Int.add k 36) b:=by
 obtain ⟨a0,a1⟩:=ltN_iff.1 h0
 obtain ⟨b0,b1⟩:=ltN_iff.1 h1
 unfold pnext
 have e1:wi64 (k+36)=k+36:=wi64_id (by omega) (by omega)
 have e2:wi64 (k+36-b)=k+36-b:=wi64_id (by omega) (by omega)
 simp only [vl,e1,e2]
 have:(if (26:Int)<(if (1:Int) > k+36-b then (1:Int) else k+36-b) then (26:Int) else (if (1:Int) > k+36-b then (1:Int) else k+36-b))=thrI k b:=by
  unfold thrI
  split<;>split<;>omega
 rw [this]
 rfl
theorem encNum_lt {q k b:Nat} (h:q<thr k b):encNum q k b=[dig36 q]:=by rw [encNum,dif_pos h]
theorem encNum_ge {q k b:Nat} (h:¬ q<thr k b):encNum q k b=dig36 (thr k b+(q-thr k b) % (36-thr k b))::encNum ((q-thr k b) / (36-thr k b)) (k+1) b:=by rw [encNum,dif_neg h]
theorem div_ten {x y m:Nat} (hy:10≤y) (h:x<10*m):x / y<m:=by
 have h1:x / y≤x / 10:=Nat.div_le_div_left hy (by omega)
 omega
theorem encNum_len (b:Nat):∀ (r q k:Nat),q<10 ^ r→(encNum q k b).length≤r+1:=by
 intro r
 induction r with
 | zero=>
  intro q k h
  have ht:=thr_range k b
  rw [encNum_lt (by simp at h;omega)]
  simp
 | succ r ih=>
  intro q k h
  have ht:=thr_range k b
  by_cases hq:q<thr k b
  ·rw [encNum_lt hq];simp
  ·rw [encNum_ge hq,List.length_cons]
   have:=ih ((q-thr k b) / (36-thr k b)) (k+1) (div_ten (by omega) (by rw [Nat.pow_succ] at h;omega))
   omega
theorem papp_loop (z:Bool) (b:Nat) (hb:b<1000000):∀ (r q k n:Nat) (l:LL),q<10 ^ r→q<1152921504606846976→k+r≤1000→r<n→l.length+r≤200000→
  ∃ (n2 n3:Int),∀ (R:Type) (k0:Bool→LL→Int→Int→Option R),papp_l0 LF n (q:Int) z l (b:Int) ((36*k:Nat):Int) k0=k0 z (l++(encNum q k b).map u8el) n2 n3:=by
 have fin:∀ (q k n:Nat) (l:LL),q<thr k b→k≤1000→l.length≤200000→∃ (n2 n3:Int),∀ (R:Type) (k0:Bool→LL→Int→Int→Option R),papp_l0 LF (n+1) (q:Int) z l (b:Int) ((36*k:Nat):Int) k0=k0 z (l++(encNum q k b).map u8el) n2 n3:=by
  intro q k n l hq hk hl
  have ht:=thr_range k b
  refine ⟨(b:Int),Int.add ((36*k:Nat):Int) 36,fun R k0=>?_⟩
  rw [papp_l0_s]
  unfold papp_l0f
  rw [ltN_t (by omega) (by omega),ltN_t (by omega) (by omega),thrI_nat,ltI_t (by omega),ltN_t (by omega) (by omega),encNum_lt hq]
  simp only [vl,cond_true,Int.toNat_natCast]
  rw [roomy_of (by omega)]
  rfl
 intro r
 induction r with
 | zero=>
  intro q k n l h _ hk hn hl
  have ht:=thr_range k b
  obtain ⟨n,rfl⟩:∃ m,n=m+1:=⟨n-1,by omega⟩
  exact fin q k n l (by simp at h;omega) (by omega) (by omega)
 | succ r ih=>
  intro q k n l h hq60 hk hn hl
  have ht:=thr_range k b
  obtain ⟨n,rfl⟩:∃ m,n=m+1:=⟨n-1,by omega⟩
  by_cases hq:q<thr k b
  ·exact fin q k n l hq (by omega) (by omega)
  ·have hd:(q-thr k b) / (36-thr k b)<10 ^ r:=div_ten (by omega) (by rw [Nat.pow_succ] at h;omega)
   have hd2:(q-thr k b) / (36-thr k b)≤q:=Nat.le_trans (Nat.div_le_self _ _) (by omega)
   have hm2:(q-thr k b) % (36-thr k b)<36-thr k b:=Nat.mod_lt _ (by omega)
   obtain ⟨n2,n3,e⟩:=ih ((q-thr k b) / (36-thr k b)) (k+1) n (l++[u8el (dig36 (thr k b+(q-thr k b) % (36-thr k b)))]) hd (by omega) (by omega) (by omega) (by rw [List.length_append,List.length_singleton];omega)
   refine ⟨n2,n3,fun R k0=>?_⟩
   rw [papp_l0_s]
   unfold papp_l0f
   have c1:wi64 ((q:Int)-(thr k b:Int))=((q-thr k b:Nat):Int):=by rw [wi64_id (by omega) (by omega)];omega
   have c2:wi64 ((36:Int)-(thr k b:Int))=((36-thr k b:Nat):Int):=by rw [wi64_id (by omega) (by omega)];omega
   have c3:Int.tmod ((q-thr k b:Nat):Int) ((36-thr k b:Nat):Int)=(((q-thr k b) % (36-thr k b):Nat):Int):=tmod_nat _ _
   have c4:Int.tdiv ((q-thr k b:Nat):Int) ((36-thr k b:Nat):Int)=(((q-thr k b) / (36-thr k b):Nat):Int):=tdiv_nat _ _
   have c7:((((36-thr k b:Nat):Int)) != 0)=true:=by rw [bne_iff_ne];omega
   rw [ltN_t (by omega) (by omega),ltN_t (by omega) (by omega),thrI_nat,ltI_f (by omega)]
   simp only [vl,c1,c2,c3,c4,c7,cond_true,cond_false]
   rw [encNum_ge hq]
   generalize hA:(q-thr k b) / (36-thr k b)=A at *
   generalize hB:(q-thr k b) % (36-thr k b)=B at *
   have c5:wi64 ((thr k b:Int)+(B:Int))=((thr k b+B:Nat):Int):=by rw [wi64_id (by omega) (by omega)];rfl
   have c6:wi64 (A:Int)=(A:Int):=wi64_id (by omega) (by omega)
   rw [c5,c6,ltN_t (by omega) (by omega),roomy_of (by omega),Int.toNat_natCast,show Int.add ((36*k:Nat):Int) 36=((36*(k+1):Nat):Int) from (by show ((36*k:Nat):Int)+36=_;omega)]
   refine Eq.trans (e R k0) ?_
   simp [List.append_assoc]
theorem papp_spec (q b:Int) (z:Bool) (l:LL) (h0:ltN q 1152921504606846976=true) (h1:ltN b 1000000=true) (h2:Nat.ble l.length 100000=true) :
  ∃ (n2 n3:Int),∀ (R:Type) (k0:Bool→LL→Int→Int→Option R),papp LF q b z l k0=k0 z (List.append l ((encNum q.toNat 0 b.toNat).map u8el)) n2 n3:=by
 obtain ⟨a0,a1⟩:=ltN_iff.1 h0
 obtain ⟨b0,b1⟩:=ltN_iff.1 h1
 obtain ⟨q,rfl⟩:=Int.eq_ofNat_of_zero_le a0
 obtain ⟨b,rfl⟩:=Int.eq_ofNat_of_zero_le b0
 have hl:=Nat.le_of_ble_eq_true h2
 have hLF:=LF_big
 obtain ⟨n2,n3,e⟩:=papp_loop z b (by omega) 19 q 0 LF l (by omega) (by omega) (by omega) (by omega) (by omega)
 exact ⟨n2,n3,fun R k0=>e R _⟩
def i64E (l:List Int):LL:=l.map fun x=>[SV.int .i64 x]
def natE (l:List Nat):LL:=l.map fun x:Nat=>[SV.int .i64 (x:Int)]
theorem natE_i64E (l:List Nat):i64E (l.map fun n:Nat=>(n:Int))=natE l:=by simp [i64E,natE,Function.comp_def]
theorem i64E_len (l:List Int):(i64E l).length=l.length:=by simp [i64E]
theorem natE_len (l:List Nat):(natE l).length=l.length:=by simp [natE]
theorem natE_app (a b:List Nat):natE (a++b)=natE a++natE b:=by simp [natE]
theorem okE_i64 {l:List Int} {i:Nat} (h:i<l.length):okE tI64 (i64E l) i 0=true:=by
 unfold okE i64E tI64
 simp [List.getD_eq_getElem?_getD,h,okS,SV.has]
theorem gE_i64 (l:List Int) (i:Nat) (h:i<l.length):gE (i64E l) i 0=l.getD i 0:=by
 unfold gE gC i64E
 simp [List.getD_eq_getElem?_getD,List.getElem?_eq_getElem h,SV.gI]
theorem okE_nat {l:List Nat} {i:Nat} (h:i<l.length):okE tI64 (natE l) i 0=true:=by
 rw [←natE_i64E];exact okE_i64 (by simpa using h)
theorem gE_nat (l:List Nat) (i:Nat) (h:i<l.length):gE (natE l) i 0=(l.getD i 0:Int):=by
 rw [←natE_i64E,gE_i64 _ _ (by simpa using h)]
 simp [List.getD_eq_getElem?_getD,h]
theorem i64_row {l:LL} (h:l.all isI64=true):∃ P:List Int,l=i64E P:=by
 induction l with
 | nil=>exact ⟨[],rfl⟩
 | cons x r ih=>
  simp only [List.all_cons,Bool.and_eq_true] at h
  obtain ⟨P,rfl⟩:=ih h.2
  have hx:=h.1
  unfold isI64 at hx
  split at hx
  ·rename_i n
   exact ⟨n::P,rfl⟩
  ·cases hx
theorem elI_i64E (P:List Int):(i64E P).map elI=P:=by
 unfold i64E
 rw [List.map_map]
 conv=>rhs;rw [←List.map_id P]
 apply List.map_congr_left
 intro x _
 simp [elI,SV.gI]
theorem drop_int (l:List Int) (i:Nat) (h:i<l.length):l.drop i=l.getD i 0::l.drop (i+1):=by
 rw [List.getD_eq_getElem?_getD,List.getElem?_eq_getElem h,Option.getD_some,List.getElem_cons_drop]
theorem drop_nat (l:List Nat) (i:Nat) (h:i<l.length):l.drop i=l.getD i 0::l.drop (i+1):=by
 rw [List.getD_eq_getElem?_getD,List.getElem?_eq_getElem h,Option.getD_some,List.getElem_cons_drop]
theorem adGo_le:∀ (r d k:Nat),d<456*35 ^ r→adGo d k≤k+36*r+36:=by
 intro r
 induction r with
 | zero=>
  intro d k h
  rw [adGo_small (by simp at h;omega)]
  have:36*d / (d+38)≤36:=by
   apply Nat.div_le_of_le_mul
   rw [Nat.add_mul];omega
  omega
 | succ r ih=>
  intro d k h
  by_cases hd:455<d
  ·rw [adGo_big hd]
   have h1:d / 35<456*35 ^ r:=by
    rw [Nat.pow_succ] at h
    omega
   have:=ih (d / 35) (k+36) h1
   omega
  ·rw [adGo_small hd]
   have:36*d / (d+38)≤36:=by
    apply Nat.div_le_of_le_mul
    rw [Nat.add_mul];omega
   omega
theorem adapt_le (d c:Nat) (f:Bool) (h:d<1152921504606846976):adapt d c f≤500:=by
 unfold adapt
 have hx:∀ x:Nat,x≤d→adGo (x+x / c) 0≤500:=by
  intro x hx
  have:=Nat.div_le_self x c
  have:=adGo_le 11 (x+x / c) 0 (by omega)
  omega
 cases f with
 | true=>exact hx _ (Nat.div_le_self _ _)
 | false=>exact hx _ (Nat.div_le_self _ _)
theorem encNum_20 {q k b:Nat} (h:q<1152921504606846976):(encNum q k b).length≤20:=encNum_len b 19 q k (by omega)
theorem penc_in (z t:Bool) (pts:List Nat) (basic m:Nat) (hm:m≤1114112) (hl:pts.length≤256):∀ (r i n:Nat) (s:EncS),i+r=pts.length→r<n→s.delta+r≤1000000000000→s.bias≤500→s.out.length+20*r≤90000→s.done+r≤1000→basic≤256→
  (∀ (R:Type) (k0:Bool→Bool→LL→Int→Int→Int→Int→Int→LL→Option R),penc_l2 LF n z t (natE pts) (basic:Int) (m:Int) (s.delta:Int) (s.bias:Int) (s.done:Int) (pts.length:Int) (i:Int) (s.out.map u8el) k0 =
   k0 z t (natE pts) (basic:Int) (m:Int) ((encIn m basic (pts.drop i) s).delta:Int) ((encIn m basic (pts.drop i) s).bias:Int) ((encIn m basic (pts.drop i) s).done:Int) ((encIn m basic (pts.drop i) s).out.map u8el))∧
  (encIn m basic (pts.drop i) s).bias≤500∧(encIn m basic (pts.drop i) s).out.length≤s.out.length+20*(pts.drop i).countP (· == m)∧(encIn m basic (pts.drop i) s).done=s.done+(pts.drop i).countP (· == m)∧
  (encIn m basic (pts.drop i) s).delta≤(if 0<(pts.drop i).countP (· == m) then r else s.delta+r):=by
 intro r
 induction r with
 | zero=>
  intro i n s hi hn h1 h2 h3 h4 hb
  obtain ⟨n,rfl⟩:∃ m,n=m+1:=⟨n-1,by omega⟩
  rw [List.drop_of_length_le (by omega)]
  refine ⟨fun R k0=>?_,h2,by simp [encIn],by simp [encIn],by simp [encIn]⟩
  rw [penc_l2_s]
  unfold penc_l2f
  rw [ltI_f (by omega)]
  rfl
 | succ r ih=>
  intro i n s hi hn h1 h2 h3 h4 hb
  obtain ⟨n,rfl⟩:∃ m,n=m+1:=⟨n-1,by omega⟩
  rw [drop_nat pts i (by omega)]
  have hg:=gE_nat pts i (by omega)
  have ok:=okE_nat (l:=pts) (i:=i) (by omega)
  generalize pts.getD i 0=p at *
  have e1:wi64 ((i:Int)+1)=((i+1:Nat):Int):=by rw [wi64_id (by omega) (by omega)];rfl
  have e2:wi64 ((s.delta:Int)+1)=((s.delta+1:Nat):Int):=by rw [wi64_id (by omega) (by omega)];rfl
  have e3:wi64 ((s.done:Int)+1)=((s.done+1:Nat):Int):=by rw [wi64_id (by omega) (by omega)];rfl
  by_cases hp:p<m
  ·have hne:(p==m)=false:=by rw [beq_eq_false_iff_ne];omega
   have hs:encIn m basic (p::pts.drop (i+1)) s=encIn m basic (pts.drop (i+1)) { s with delta:=s.delta+1 }:=by rw [encIn,if_pos hp]
   obtain ⟨q1,q2,q3,q4,q5⟩:=ih (i+1) n { s with delta:=s.delta+1 } (by omega) (by omega) (by simp only;omega) h2 (by simp only;omega) (by simp only;omega) hb
   rw [hs,List.countP_cons_of_neg (by rw [hne];simp)]
   refine ⟨fun R k0=>?_,q2,q3,q4,?_⟩
   ·rw [penc_l2_s]
    unfold penc_l2f
    rw [ltI_t (by omega),natE_len,inR_t (by omega) (by omega),Int.toNat_natCast,ok]
    simp only [cond_true,vl,hg,e1,e2]
    rw [ltI_t (by omega),cond_true]
    exact q1 R k0
   ·simp only at q5
    split at q5<;>split<;>omega
  ·by_cases hq:p=m
   ·subst hq
    have hn20:=encNum_20 (q:=s.delta) (k:=0) (b:=s.bias) (by omega)
    have had:=adapt_le s.delta (s.done+1) (s.done==basic) (by omega)
    have hs:encIn p basic (p::pts.drop (i+1)) s=encIn p basic (pts.drop (i+1)) { delta:=0,bias:=adapt s.delta (s.done+1) (s.done==basic),done:=s.done+1,out:=s.out++encNum s.delta 0 s.bias }:=by rw [encIn,if_neg hp,if_pos rfl]
    obtain ⟨q1,q2,q3,q4,q5⟩:=ih (i+1) n { delta:=0,bias:=adapt s.delta (s.done+1) (s.done==basic),done:=s.done+1,out:=s.out++encNum s.delta 0 s.bias } (by omega) (by omega) (by simp only;omega) had (by simp only [List.length_append];omega) (by simp only;omega) hb
    rw [hs,List.countP_cons_of_pos (by simp)]
    refine ⟨fun R k0=>?_,q2,?_,?_,?_⟩
    ·rw [penc_l2_s]
     unfold penc_l2f
     have hbeq:((s.done:Int)==(basic:Int))=(s.done==basic):=by
      rw [Bool.eq_iff_iff,beq_iff_eq,beq_iff_eq];omega
     rw [ltI_t (by omega),natE_len,inR_t (by omega) (by omega),Int.toNat_natCast,ok]
     simp only [cond_true,vl,hg,e1,e3]
     rw [ltI_f (by omega),cond_false,beq_self_eq_true,cond_true,ltN_t (by omega) (by omega),ltN_t (by omega) (by omega),List.length_map,Nat.ble_eq_true_of_le (show s.out.length≤100000 by omega),ltN_t (by omega) (by omega),ltI_t (by omega),hbeq]
     simp only [cond_true,Int.toNat_natCast]
     have hrow:List.append (s.out.map u8el) ((encNum s.delta 0 s.bias).map u8el)=(s.out++encNum s.delta 0 s.bias).map u8el:=by rw [List.map_append];rfl
     rw [hrow]
     exact q1 R k0
    ·simp only [List.length_append] at q3;omega
    ·simp only at q4;omega
    ·simp only at q5
     rw [if_pos (by omega)]
     split at q5<;>omega
   ·have hne:(p==m)=false:=by rw [beq_eq_false_iff_ne];omega
    have hs:encIn m basic (p::pts.drop (i+1)) s=encIn m basic (pts.drop (i+1)) s:=by rw [encIn,if_neg hp,if_neg hq]
    obtain ⟨q1,q2,q3,q4,q5⟩:=ih (i+1) n s (by omega) (by omega) (by omega) h2 (by omega) (by omega) hb
    rw [hs,List.countP_cons_of_neg (by rw [hne];simp)]
    refine ⟨fun R k0=>?_,q2,q3,q4,?_⟩
    ·rw [penc_l2_s]
     unfold penc_l2f
     rw [ltI_t (by omega),natE_len,inR_t (by omega) (by omega),Int.toNat_natCast,ok]
     simp only [cond_true,vl,hg,e1]
     rw [ltI_f (by omega),cond_false,show ((p:Int)==(m:Int))=false by rw [beq_eq_false_iff_ne];omega,cond_false]
     exact q1 R k0
    ·split at q5<;>split<;>omega
theorem penc_least {R:Type} {k0:Bool→Bool→LL→Int→Int→Int→Int→Int→Int→LL→Option R} (z t:Bool) (pts:List Nat) (hl:pts.length≤256) (n0:Nat) (basic delta bias done:Int) (l:LL):∀ (r i n m:Nat),i+r=pts.length→r<n→
  penc_l1 LF n z t (natE pts) basic (n0:Int) delta bias done (m:Int) (pts.length:Int) (i:Int) l k0=k0 z t (natE pts) basic (n0:Int) delta bias done ((leastP n0 (pts.drop i) m:Nat):Int) l:=by
 intro r
 induction r with
 | zero=>
  intro i n m hi hn
  obtain ⟨n,rfl⟩:∃ m,n=m+1:=⟨n-1,by omega⟩
  rw [penc_l1_s]
  unfold penc_l1f
  rw [ltI_f (by omega),List.drop_of_length_le (by omega)]
  rfl
 | succ r ih=>
  intro i n m hi hn
  obtain ⟨n,rfl⟩:∃ m,n=m+1:=⟨n-1,by omega⟩
  have hg:=gE_nat pts i (by omega)
  have ok:=okE_nat (l:=pts) (i:=i) (by omega)
  rw [penc_l1_s,drop_nat pts i (by omega)]
  unfold penc_l1f
  generalize pts.getD i 0=p at *
  have e1:wi64 ((i:Int)+1)=((i+1:Nat):Int):=by rw [wi64_id (by omega) (by omega)];rfl
  rw [ltI_t (by omega),natE_len,inR_t (by omega) (by omega),Int.toNat_natCast,ok]
  simp only [cond_true,vl,hg,e1,leastP]
  by_cases h:n0≤p
  ·rw [if_pos h,ltI_f (by omega),Bool.not_false,cond_true]
   have:(if (p:Int)<(m:Int) then (p:Int) else (m:Int))=((min m p:Nat):Int):=by split<;>omega
   rw [this]
   exact ih (i+1) n (min m p) (by omega) (by omega)
  ·rw [if_neg h,ltI_t (by omega),Bool.not_true,cond_false]
   exact ih (i+1) n m (by omega) (by omega)
theorem leastP_spec (n:Nat):∀ (l:List Nat) (m:Nat),(leastP n l m=m∨(leastP n l m∈l∧n≤leastP n l m))∧leastP n l m≤m∧∀ p∈l,n≤p→leastP n l m≤p
 | [],m=>⟨.inl rfl,Nat.le_refl _,fun p h=>by cases h⟩
 | q::r,m=>by
  obtain ⟨h1,h2,h3⟩:=leastP_spec n r (if n≤q then min m q else m)
  simp only [leastP]
  by_cases hq:n≤q
  ·rw [if_pos hq] at h1 h2 h3 ⊢
   refine ⟨?_,by omega,fun p hp hn=>?_⟩
   ·rcases h1 with h1 | ⟨h1,h1'⟩
    ·by_cases hm:m≤q
     ·left;omega
     ·right;exact ⟨by rw [h1,show min m q=q by omega];simp,by omega⟩
    ·right;exact ⟨List.mem_cons_of_mem _ h1,h1'⟩
   ·rcases List.mem_cons.1 hp with rfl | hp
    ·omega
    ·exact h3 p hp hn
  ·rw [if_neg hq] at h1 h2 h3 ⊢
   refine ⟨?_,h2,fun p hp hn=>?_⟩
   ·rcases h1 with h1 | ⟨h1,h1'⟩
    ·left;exact h1
    ·right;exact ⟨List.mem_cons_of_mem _ h1,h1'⟩
   ·rcases List.mem_cons.1 hp with rfl | hp
    ·omega
    ·exact h3 p hp hn
theorem cnt_step {n m:Nat} (hnm:n≤m):∀ l:List Nat,(∀ p∈l,n≤p→m≤p)→l.countP (fun p=>decide (p<m+1))=l.countP (fun p=>decide (p<n))+l.countP (· == m)
 | [],_=>rfl
 | p::l,h=>by
  have ih:=cnt_step hnm l (fun q hq=>h q (List.mem_cons_of_mem _ hq))
  have hp:=h p List.mem_cons_self
  simp only [List.countP_cons,ih]
  by_cases h1:p<n
  ·have:(p==m)=false:=by rw [beq_eq_false_iff_ne];omega
   rw [this]
   simp [h1,show p<m+1 by omega]
   omega
  ·by_cases h2:p=m
   ·subst h2
    simp [h1]
    omega
   ·have:(p==m)=false:=by rw [beq_eq_false_iff_ne];exact h2
    have:=hp (by omega)
    rw [‹(p==m)=false›]
    simp [h1,show ¬ p<m+1 by omega]
theorem cnt_lt {n:Nat} {l:List Nat} (h:l.countP (fun p=>decide (p<n))<l.length):∃ p∈l,n≤p:=by
 apply Classical.byContradiction
 intro hc
 have:l.countP (fun p=>decide (p<n))=l.length:=by
  rw [List.countP_eq_length]
  intro p hp
  apply decide_eq_true
  apply Classical.byContradiction
  intro h2
  exact hc ⟨p,hp,by omega⟩
 omega
theorem penc_out (z t:Bool) (pts:List Nat) (basic:Nat) (hl:pts.length≤256) (hb:basic≤256) (hall:∀ p∈pts,p≤1114111):∀ (f n n':Nat) (s:EncS),s.done=pts.countP (fun p=>decide (p<n))→pts.length≤s.done+f→f<n'→s.delta≤300→s.bias≤500→s.out.length+20*(pts.length-s.done)≤80000→n≤1114112→
  ∀ (R:Type) (k0:LL→Option R),penc_l3 LF n' z t (natE pts) (basic:Int) (n:Int) (s.delta:Int) (s.bias:Int) (s.done:Int) (s.out.map u8el) k0=k0 ((encOut pts basic f n s).out.map u8el):=by
 intro f
 have hLF:=LF_big
 induction f with
 | zero=>
  intro n n' s hd hf hn h1 h2 h3 h4 R k0
  obtain ⟨n',rfl⟩:∃ m,n'=m+1:=⟨n'-1,by omega⟩
  rw [penc_l3_s]
  unfold penc_l3f
  rw [natE_len,ltI_f (by omega)]
  rfl
 | succ f ih=>
  intro n n' s hd hf hn h1 h2 h3 h4 R k0
  obtain ⟨n',rfl⟩:∃ m,n'=m+1:=⟨n'-1,by omega⟩
  rw [penc_l3_s]
  unfold penc_l3f
  rw [natE_len]
  have hcl:pts.countP (fun p=>decide (p<n))≤pts.length:=List.countP_le_length
  by_cases hlt:s.done<pts.length
  ·obtain ⟨p0,hp0,hp1⟩:=cnt_lt (n:=n) (l:=pts) (by omega)
   obtain ⟨g1,g2,g3⟩:=leastP_spec n pts 1114112
   have g4:=g3 p0 hp0 hp1
   have g5:=hall p0 hp0
   have hmem:leastP n pts 1114112∈pts∧n≤leastP n pts 1114112:=by
    rcases g1 with g1 | g1
    ·omega
    ·exact g1
   have he:encOut pts basic (f+1) n s=encOut pts basic f (leastP n pts 1114112+1) { encIn (leastP n pts 1114112) basic pts { s with delta:=s.delta+(leastP n pts 1114112-n)*(s.done+1) } with delta:=(encIn (leastP n pts 1114112) basic pts { s with delta:=s.delta+(leastP n pts 1114112-n)*(s.done+1) }).delta+1 }:=by
    rw [encOut,if_pos hlt]
   rw [he,ltI_t (by omega),cond_true]
   have hleast:=fun (K:Bool→Bool→LL→Int→Int→Int→Int→Int→Int→LL→Option R)=>penc_least (k0:=K) z t pts hl n (basic:Int) (s.delta:Int) (s.bias:Int) (s.done:Int) (s.out.map u8el) pts.length 0 LF 1114112 (by omega) (by omega)
   rw [List.drop_zero] at hleast
   refine Eq.trans (hleast _) ?_
   generalize leastP n pts 1114112=m at *
   have hmul:(m-n)*(s.done+1)≤1114112*256:=Nat.mul_le_mul (by omega) (by omega)
   have e1:wi64 ((s.done:Int)+1)=((s.done+1:Nat):Int):=by rw [wi64_id (by omega) (by omega)];rfl
   have e2:wi64 ((m:Int)-(n:Int))=((m-n:Nat):Int):=by rw [wi64_id (by omega) (by omega)];omega
   have e3:wi64 (((m-n:Nat):Int)*((s.done+1:Nat):Int))=(((m-n)*(s.done+1):Nat):Int):=by
    rw [←Int.natCast_mul]
    exact wi64_id (by omega) (by omega)
   have e4:wi64 ((s.delta:Int)+(((m-n)*(s.done+1):Nat):Int))=((s.delta+(m-n)*(s.done+1):Nat):Int):=by
    rw [wi64_id (by omega) (by omega)];rfl
   simp only [vl,e1,e2,e3,e4]
   have hin:=penc_in z t pts basic m (by omega) hl pts.length 0 LF { s with delta:=s.delta+(m-n)*(s.done+1) } (by omega) (by omega) (by simp only;omega) h2 (by simp only;omega) (by simp only;omega) hb
   rw [List.drop_zero] at hin
   obtain ⟨q1,q2,q3,q4,q5⟩:=hin
   rw [natE_len]
   refine Eq.trans (q1 R _) ?_
   have hcnt:0<pts.countP (· == m):=List.countP_pos_iff.2 ⟨m,hmem.1,by simp⟩
   rw [if_pos hcnt] at q5
   have hstep:=cnt_step hmem.2 pts g3
   generalize encIn m basic pts { s with delta:=s.delta+(m-n)*(s.done+1) } = s' at *
   simp only at q3 q4
   have e5:wi64 ((s'.delta:Int)+1)=((s'.delta+1:Nat):Int):=by rw [wi64_id (by omega) (by omega)];rfl
   have e6:wi64 ((m:Int)+1)=((m+1:Nat):Int):=by rw [wi64_id (by omega) (by omega)];rfl
   have hcl2:pts.countP (fun p=>decide (p<m+1))≤pts.length:=List.countP_le_length
   simp only [e5,e6]
   exact ih (m+1) n' { s' with delta:=s'.delta+1 } (by simp only;omega) (by simp only;omega) (by omega) (by simp only;omega) q2 (by simp only;omega) (by omega) R k0
  ·rw [ltI_f (by omega)]
   rw [encOut,if_neg hlt]
   rfl
def basicI (l:List Int):By:=(l.filter fun x=>decide (x<128)).map fun x=>UInt8.ofNat x.toNat
theorem u8_row (x:Int) (h0:0≤x) (h:x<128):[SV.int .u8 (wu8 x)]=u8el (UInt8.ofNat x.toNat):=by
 unfold u8el
 have e:wu8 x=x:=by unfold wu8;exact Int.emod_eq_of_lt h0 (show x<256 by omega)
 rw [e]
 have:((UInt8.ofNat x.toNat).toNat:Int)=x:=by simp;omega
 rw [this]
theorem ptI_nonneg {x:Int} (h:ptI x=true):0≤x∧x≤1114111:=by
 cases x with
 | negSucc m=>cases h
 | ofNat m=>
  have:isPt m=true:=h
  unfold isPt at this
  simp only [Bool.and_eq_true,Nat.ble_eq] at this
  simp only [Int.ofNat_eq_natCast]
  omega
theorem penc_basic (z t:Bool) (P:List Int) (hl:P.length≤256):∀ (r i n:Nat) (out:By),i+r=P.length→r<n→out.length+r≤1000→
  ((P.drop i).all ptI=true→∀ (R:Type) (k0:LL→Option R) (k1:Bool→Bool→LL→LL→Option R),penc_l0 LF n z t (i64E P) (P.length:Int) (i:Int) (out.map u8el) k0 k1=k1 z t (i64E P) ((out++basicI (P.drop i)).map u8el))∧
  ((P.drop i).all ptI=false→∃ l,∀ (R:Type) (k0:LL→Option R) (k1:Bool→Bool→LL→LL→Option R),penc_l0 LF n z t (i64E P) (P.length:Int) (i:Int) (out.map u8el) k0 k1=k0 l):=by
 intro r
 induction r with
 | zero=>
  intro i n out hi hn ho
  obtain ⟨n,rfl⟩:∃ m,n=m+1:=⟨n-1,by omega⟩
  rw [List.drop_of_length_le (by omega)]
  refine ⟨fun _ R k0 k1=>?_,fun h=>(by cases h)⟩
  rw [penc_l0_s]
  unfold penc_l0f
  rw [ltI_f (by omega)]
  simp [basicI]
 | succ r ih=>
  intro i n out hi hn ho
  obtain ⟨n,rfl⟩:∃ m,n=m+1:=⟨n-1,by omega⟩
  have hg:=gE_i64 P i (by omega)
  have ok:=okE_i64 (l:=P) (i:=i) (by omega)
  rw [drop_int P i (by omega)]
  generalize P.getD i 0=x at *
  have e1:wi64 ((i:Int)+1)=((i+1:Nat):Int):=by rw [wi64_id (by omega) (by omega)];rfl
  cases hx:ptI x with
  | false=>
   refine ⟨fun h=>?_,fun _=>⟨out.map u8el,fun R k0 k1=>?_⟩⟩
   ·rw [List.all_cons,hx] at h;cases h
   ·rw [penc_l0_s]
    unfold penc_l0f
    rw [ltI_t (by omega),i64E_len,inR_t (by omega) (by omega),Int.toNat_natCast,ok]
    simp only [cond_true,vl,hg,hx,Bool.not_false]
  | true=>
   obtain ⟨p0,p1⟩:=ptI_nonneg hx
   rw [List.all_cons,hx,Bool.true_and]
   by_cases h128:x<128
   ·have hbs:basicI (x::P.drop (i+1))=UInt8.ofNat x.toNat::basicI (P.drop (i+1)):=by
     unfold basicI;rw [List.filter_cons_of_pos (by simpa using h128)];rfl
    have hrow:out.map u8el++[[SV.int .u8 (wu8 x)]]=(out++[UInt8.ofNat x.toNat]).map u8el:=by rw [u8_row x p0 h128];simp
    obtain ⟨q1,q2⟩:=ih (i+1) n (out++[UInt8.ofNat x.toNat]) (by omega) (by omega) (by simp;omega)
    have step:∀ (R:Type) (k0:LL→Option R) (k1:Bool→Bool→LL→LL→Option R),penc_l0 LF (n+1) z t (i64E P) (P.length:Int) (i:Int) (out.map u8el) k0 k1=penc_l0 LF n z t (i64E P) (P.length:Int) ((i+1:Nat):Int) ((out++[UInt8.ofNat x.toNat]).map u8el) k0 k1:=by
     intro R k0 k1
     rw [penc_l0_s]
     unfold penc_l0f
     rw [ltI_t (by omega),i64E_len,inR_t (by omega) (by omega),Int.toNat_natCast,ok]
     simp only [cond_true,vl,hg,hx,Bool.not_true,cond_false,e1]
     rw [ltI_t h128,List.length_map,roomy_of (by omega),hrow]
     rfl
    refine ⟨fun h R k0 k1=>?_,fun h=>?_⟩
    ·rw [step,q1 h,hbs];simp
    ·obtain ⟨l,e⟩:=q2 h
     exact ⟨l,fun R k0 k1=>by rw [step];exact e R k0 k1⟩
   ·have hbs:basicI (x::P.drop (i+1))=basicI (P.drop (i+1)):=by
     unfold basicI;rw [List.filter_cons_of_neg (by simpa using h128)]
    obtain ⟨q1,q2⟩:=ih (i+1) n out (by omega) (by omega) (by omega)
    have step:∀ (R:Type) (k0:LL→Option R) (k1:Bool→Bool→LL→LL→Option R),penc_l0 LF (n+1) z t (i64E P) (P.length:Int) (i:Int) (out.map u8el) k0 k1=penc_l0 LF n z t (i64E P) (P.length:Int) ((i+1:Nat):Int) (out.map u8el) k0 k1:=by
     intro R k0 k1
     rw [penc_l0_s]
     unfold penc_l0f
     rw [ltI_t (by omega),i64E_len,inR_t (by omega) (by omega),Int.toNat_natCast,ok]
     simp only [cond_true,vl,hg,hx,Bool.not_true,cond_false,e1]
     rw [ltI_f (by omega)]
     rfl
    refine ⟨fun h R k0 k1=>?_,fun h=>?_⟩
    ·rw [step,q1 h,hbs]
    ·obtain ⟨l,e⟩:=q2 h
     exact ⟨l,fun R k0 k1=>by rw [step];exact e R k0 k1⟩
theorem pts_nat {P:List Int} (h:P.all ptI=true):∃ pts:List Nat,P=pts.map (fun n:Nat=>(n:Int))∧pts.all isPt=true∧∀ p∈pts,p≤1114111:=by
 induction P with
 | nil=>exact ⟨[],rfl,rfl,by simp⟩
 | cons x P ih=>
  rw [List.all_cons,Bool.and_eq_true] at h
  obtain ⟨pts,rfl,h1,h2⟩:=ih h.2
  obtain ⟨p0,p1⟩:=ptI_nonneg h.1
  obtain ⟨m,rfl⟩:=Int.eq_ofNat_of_zero_le p0
  refine ⟨m::pts,rfl,?_,?_⟩
  ·rw [List.all_cons,h1,Bool.and_true];exact h.1
  ·intro p hp
   rcases List.mem_cons.1 hp with rfl | hp
   ·omega
   ·exact h2 p hp
theorem basicI_nat (pts:List Nat):basicI (pts.map fun n:Nat=>(n:Int))=basicB pts:=by
 unfold basicI basicB
 induction pts with
 | nil=>rfl
 | cons p r ih=>
  rw [List.map_cons]
  by_cases h:p<128
  ·rw [List.filter_cons_of_pos (by simp;omega),List.filter_cons_of_pos (by simpa using h),List.map_cons,List.map_cons,ih]
   rfl
  ·rw [List.filter_cons_of_neg (by simp;omega),List.filter_cons_of_neg (by simpa using h),ih]
theorem basicB_len (pts:List Nat):(basicB pts).length=pts.countP (fun p=>decide (p<128)):=by
 unfold basicB
 rw [List.length_map,List.countP_eq_length_filter]
theorem penc_cases (z t:Bool) (P:List Int):(encI P=([],3)∧∀ (R:Type) (k0:Unit→Option R) (k1:By→Int→LL→Option R),penc LF z t (i64E P) k0 k1=k0 ())∨
  (∃ l,∀ (R:Type) (k0:Unit→Option R) (k1:By→Int→LL→Option R),penc LF z t (i64E P) k0 k1=k1 (encI P).1 ((encI P).2:Nat) l):=by
 have hLF:=LF_big
 by_cases hl:256<P.length
 ·refine .inl ⟨by unfold encI;rw [if_pos hl],fun R k0 k1=>?_⟩
  unfold penc
  rw [i64E_len,ltI_t (by omega)]
  rfl
 ·right
  obtain ⟨q1,q2⟩:=penc_basic z t P (by omega) P.length 0 LF [] (by omega) (by omega) (by simp;omega)
  rw [List.drop_zero] at q1 q2
  cases ha:P.all ptI with
  | false=>
   obtain ⟨l,e⟩:=q2 ha
   refine ⟨l,fun R k0 k1=>?_⟩
   unfold penc
   rw [i64E_len,ltI_f (by omega),cond_false]
   refine Eq.trans (e R _ _) ?_
   unfold encI
   rw [if_neg hl,ha]
   rfl
  | true=>
   obtain ⟨pts,rfl,hp1,hp2⟩:=pts_nat ha
   rw [List.length_map] at hl
   have hen:encI (pts.map fun n:Nat=>(n:Int))=encP pts:=by
    unfold encI
    rw [List.length_map,if_neg hl,ha]
    simp [Function.comp_def]
   have hbl:=basicB_len pts
   have hbc:pts.countP (fun p=>decide (p<128))≤pts.length:=List.countP_le_length
   have main:∀ (o:By),o.length≤300→∀ (R:Type) (k0:LL→Option R),penc_l3 LF LF z t (natE pts) ((basicB pts).length:Int) 128 0 72 ((basicB pts).length:Int) (o.map u8el) k0=k0 ((encOut pts (basicB pts).length 256 128 { delta:=0,bias:=72,done:=(basicB pts).length,out:=o }).out.map u8el):=by
    intro o ho R k0
    exact penc_out z t pts (basicB pts).length (by omega) (by omega) hp2 256 128 LF { delta:=0,bias:=72,done:=(basicB pts).length,out:=o } hbl (by simp only;omega) (by omega) (by simp) (by simp) (by simp only;omega) (by omega) R k0
   have he2:encP pts=((encOut pts (basicB pts).length 256 128 { delta:=0,bias:=72,done:=(basicB pts).length,out:=if (basicB pts).isEmpty then [] else basicB pts++[45] }).out,0):=by
    unfold encP
    rw [if_neg hl,hp1]
    rfl
   refine ⟨(encP pts).1.map u8el,fun R k0 k1=>?_⟩
   unfold penc
   rw [i64E_len,List.length_map,ltI_f (by omega),cond_false,hen]
   have q1':=q1 ha R
   rw [List.length_map] at q1'
   refine Eq.trans (q1' _ _) ?_
   rw [List.nil_append,basicI_nat,natE_i64E]
   simp only [vl,List.length_map]
   by_cases hbe:basicB pts=[]
   ·rw [hbe,List.length_nil,ltI_f (by omega),cond_false]
    have mm:=main [] (by simp) R
    rw [hbe,List.length_nil] at mm
    rw [List.map_nil] at mm
    refine Eq.trans (mm _) ?_
    rw [hbe] at he2
    rw [he2]
    simp only [List.isEmpty_nil,if_true,List.length_nil]
    rw [all_isU8,map_elU8]
    rfl
   ·have hpos:0<(basicB pts).length:=List.length_pos_iff.2 hbe
    rw [ltI_t (by omega),cond_true,roomy_of (by omega),cond_true]
    have hrow:(basicB pts).map u8el++[[SV.int .u8 (45:Int)]]=(basicB pts++[45]).map u8el:=by rw [List.map_append];rfl
    rw [hrow]
    refine Eq.trans (main (basicB pts++[45]) (by simp;omega) R _) ?_
    rw [he2,if_neg (by simpa using hbe)]
    rw [all_isU8,map_elU8]
    rfl
theorem penc_sp (z t:Bool) (p:LL) (h0:p.all isI64=true):∃ r H,penc LF z t p (fun _=>rv (.tup [.s (.str []),.s (.int .i64 3)]) []) (fun r0 r1 l=>rv (.tup [.s (.str r0),.s (.int .i64 r1)]) [.arr true 5 1 l])=rv r H∧
  r.stab [0,0] H = .tup [.s (.str (encI (p.map elI)).1),.s (.int .i64 ((encI (p.map elI)).2:Nat))]:=by
 obtain ⟨P,rfl⟩:=i64_row h0
 rw [elI_i64E]
 rcases penc_cases z t P with ⟨h1,h2⟩ | ⟨l,h2⟩
 ·exact ⟨_,_,h2 _ _ _,by rw [h1];rfl⟩
 ·exact ⟨_,_,h2 _ _ _,rfl⟩
end Go.Proofs.YtokehocipgepnaaGreatDoor.E
namespace Go.Proofs.YtokehocipgepnaaGreatDoor.E
open Go Go.Proofs 
set_option linter.unusedVariables false
set_option maxRecDepth 100000
section
variable {σ R : Type} (lf : Nat) (cl : CallT) (yh : Yh σ) (s : σ) (k : Out → St σ → Option R)
noncomputable abbrev b_dnum:Code:=bodyOf Tryz.f196
noncomputable def c_dnum (lf:Nat):Cfg:=mkCfg lf [196] (lookK [(3,[0,1,0,0])]) [(175,X_pthr),(205,X_pval)] (lookK [(17,[2]),(16,[0,2,0,53]),(15,[0,2,0]),(14,[2]),(13,[0,2,0,1,45]),(12,[0,2,0,0,0]),(11,[2]),(10,[0,2,0,0,41]),(9,[0,2,0,0]),(8,[0,2,0,0]),(7,[2]),(6,[0,2,0,0,18]),(5,[0,2,0,0]),(4,[2]),(3,[0,2,0,11]),(2,[0,2,0]),(1,[0,2]),(0,[0])]) [205] (lookK [(0,[2]),(1,[0,2,0])]) (some [2]) [(195,X_pnext)] [] [195]
noncomputable def dnum_l0f {R:Type} (lf n:Nat) (self:Int→By→Int→Int→Int→Bool→Bool→LL→Int→Option R) (w0:Int) (s1:By) (n2 n3 n4:Int) (b5 z6:Bool) (l7:LL) (n8:Int) (k0:Int→By→Int→Int→Int→Bool→Bool→LL→Int→Option R):Option R:=cond (s1==([]:List UInt8)) (k0 4 s1 n2 n3 n4 b5 z6 l7 n8) (cond (inR (0:Int) (List.length s1)) (cond (inR (bAt s1 (0:Int)) 256) (vl (val36I (u8n (bAt s1 (0:Int)))) fun n'1=>cond (ltI n'1 (0:Int)) (k0 4 s1 n2 n3 n4 b5 z6 l7 n8) (cond (sub3 (1:Int) (↑(List.length s1):Int) (List.length s1)) (vl (cut s1 (1:Int) (↑(List.length s1):Int)) fun s'3=>vl (wi64 (n3+(wi64 (n'1*w0)))) fun n'5=>cond (ltI (1099511627776:Int) n'5) (k0 19 s'3 n2 n'5 n4 b5 z6 l7 n8) (cond (ltN n8 1000000000000) (cond (ltN n4 1000000) (cond (ltI n'1 (thrI n8 n4)) (k0 0 s'3 n2 n'5 n4 b5 z6 l7 (Int.add n8 (36:Int))) (vl (wi64 ((36:Int)-(thrI n8 n4))) fun n'6=>cond (ltI (1099511627776:Int) (wi64 (w0*n'6))) (k0 19 s'3 n2 n'5 n4 b5 z6 l7 (Int.add n8 (36:Int))) (self (wi64 (w0*n'6)) s'3 n2 n'5 n4 b5 z6 l7 (Int.add n8 (36:Int))))) (none)) (none))) (none))) (none)) (none))
noncomputable def dnum_l0 {R:Type} (lf n:Nat) (w0:Int) (s1:By) (n2 n3 n4:Int) (b5 z6:Bool) (l7:LL) (n8:Int) (k0:Int→By→Int→Int→Int→Bool→Bool→LL→Int→Option R):Option R:=recN (α:=Int→By→Int→Int→Int→Bool→Bool→LL→Int→Option R) (fun _ _ _ _ _ _ _ _ _=>none) (fun n self w0 s1 n2 n3 n4 b5 z6 l7 n8=>dnum_l0f lf n self w0 s1 n2 n3 n4 b5 z6 l7 n8 k0) n w0 s1 n2 n3 n4 b5 z6 l7 n8
theorem dnum_l0_s {R:Type} (lf n:Nat) (w0:Int) (s1:By) (n2 n3 n4:Int) (b5 z6:Bool) (l7:LL) (n8:Int) (k0:Int→By→Int→Int→Int→Bool→Bool→LL→Int→Option R):dnum_l0 lf (n+1) w0 s1 n2 n3 n4 b5 z6 l7 n8 k0=dnum_l0f lf n (fun w0 s1 n2 n3 n4 b5 z6 l7 n8=>dnum_l0 lf n w0 s1 n2 n3 n4 b5 z6 l7 n8 k0) w0 s1 n2 n3 n4 b5 z6 l7 n8 k0:=rfl
theorem dnum_l0_eq (n:Nat) (w0:Int) (s1:By) (n2 n3 n4:Int) (b5 z6:Bool) (l7:LL) (n8:Int):loopK 4 ((c_dnum lf).keep 3) (bd (c_dnum lf) cl yh (cd [1,1,1,0,0] b_dnum)) n ⟨gp [(0,.ptr 0 0 0),(2,.fnr (Fn.func 195) [] [.ptr 3 0 0,.ptr 2 0 0]),(0,.s (.int .i64 w0))] 54,[.box [.s (.str s1),.fl 1,.s (.int .i64 n2),.s (.int .i64 n3),.s (.int .i64 n4),.s (.bool b5)],.arr z6 3 1 l7,.box [.s (.int .i64 n4)],.box [.s (.int .i64 n8)]],s⟩ k =
 dnum_l0 lf n w0 s1 n2 n3 n4 b5 z6 l7 n8 (fun n0 s1 n2 n3 n4 b5 z6 l7 n8=>k .ret ⟨gp [(2,.s (.int .i64 n0))] 56,[.box [.s (.str s1),.fl 1,.s (.int .i64 n2),.s (.int .i64 n3),.s (.int .i64 n4),.s (.bool b5)],.arr z6 3 1 l7,.box [.s (.int .i64 n4)],.box [.s (.int .i64 n8)]],s⟩):=by
 induction n generalizing w0 s1 n2 n3 n4 b5 z6 l7 n8 with
 | zero=>rfl
 | succ n ih=>rw [dnum_l0_s];unfold dnum_l0f;exact (Eq.trans (by kernel_rfl) (cond_congr rfl (cond_congr (cond_congr (vl_congr fun n'1=>(cond_congr rfl (cond_congr (vl_congr fun s'3=>(vl_congr fun n'5=>(cond_congr rfl (cond_congr (cond_congr (cond_congr rfl (vl_congr fun n'6=>(cond_congr rfl (ih (wi64 (w0*n'6)) s'3 n2 n'5 n4 b5 z6 l7 (Int.add n8 (36:Int)))))) rfl) rfl)))) rfl))) rfl) rfl)))
noncomputable def dnum {R:Type} (lf:Nat) (rest:By) (n i b:Int) (st z:Bool) (l:LL) (k0:Int→By→Int→Int→Int→Bool→Bool→LL→Int→Option R):Option R:=dnum_l0 lf lf 1 rest n i b st z l 0 (fun n'7 s'8 n'9 n'10 n'11 b'12 z'13 l'14 n'15=>k0 n'7 s'8 n'9 n'10 n'11 b'12 z'13 l'14 n'15)
theorem dnum_ev (d:Nat) (rest:By) (n i b:Int) (st z:Bool) (l:LL):evC (c_dnum lf) (d+1) σ yh 196 [.ptr 0 0 0] [.box [.s (.str rest),.fl 1,.s (.int .i64 n),.s (.int .i64 i),.s (.int .i64 b),.s (.bool st)],.arr z 3 1 l] s=dnum lf rest n i b st z l (fun r0 s1 n2 n3 n4 b5 z6 l7 n8=>some (.s (.int .i64 r0),[.box [.s (.str s1),.fl 1,.s (.int .i64 n2),.s (.int .i64 n3),.s (.int .i64 n4),.s (.bool b5)],.arr z6 3 1 l7,.box [.s (.int .i64 n4)],.box [.s (.int .i64 n8)]],s)):=by
 refine (evC_eq (fn:=Tryz.f196) (by kernel_rfl) (by kernel_rfl) (by kernel_rfl)).trans ?_
 generalize evC (c_dnum lf) d=cl
 unfold dnum;exact (Eq.trans (by kernel_rfl) ((dnum_l0_eq lf cl yh s (blkK 0 (retK (c_dnum lf) Tryz.f196)) lf 1 rest n i b st z l 0).trans (congr rfl (funext fun n'7=>(funext fun s'8=>(funext fun n'9=>(funext fun n'10=>(funext fun n'11=>(funext fun b'12=>(funext fun z'13=>(funext fun l'14=>(funext fun n'15=>(by kernel_rfl)))))))))))))
noncomputable def c_dstep (lf:Nat):Cfg:=mkCfg lf [182] (lookK []) [(141,X_padapt),(139,X_ppoint)] (lookK [(16,[2]),(15,[]),(14,[0]),(13,[2]),(12,[0,67]),(11,[2]),(10,[0,4,60]),(9,[0,4]),(8,[0,4]),(7,[0,4]),(6,[0,4]),(5,[0,2,1]),(4,[2]),(3,[0,2,0,8]),(2,[0,2,0]),(1,[0,2]),(0,[0])]) [141,139] (lookK []) (some [2]) [(196,X_dnum),(197,X_sins)] [] [196,197]
noncomputable def dstep {R:Type} (lf:Nat) (rest:By) (n i b:Int) (st z:Bool) (l:LL) (k0:Int→By→Int→Int→Int→Bool→Bool→LL→Option R):Option R:=cond (small (List.length rest)) (cond (ltN b 1000000) (cond (ltN i 1099511627777) (cond ((numE b rest i) != (0:Int)) (k0 (numE b rest i) (numR b rest i) n (numI b rest i) b st z l) (vl (wi64 ((↑(List.length l):Int)+(1:Int))) fun n'1=>vl (wi64 ((numI b rest i)-i)) fun n'4=>cond (ltN n'4 1152921504606846976) (cond (ltN n'1 1000000) (cond (ltI (0:Int) n'1) (vl (↑(adapt (Int.toNat n'4) (Int.toNat n'1) (not st)):Int) fun n'5=>cond (n'1 != (0:Int)) (vl (wi64 (Int.tdiv (numI b rest i) n'1)) fun n'7=>cond (n'1 != (0:Int)) (vl (Int.tmod (numI b rest i) n'1) fun n'9=>cond (not (ptI (wi64 (n+n'7)))) (k0 2 (numR b rest i) (wi64 (n+n'7)) n'9 n'5 true z l) (cond (ltI (256:Int) n'1) (k0 3 (numR b rest i) (wi64 (n+n'7)) n'9 n'5 true z l) (cond (ltN n'9 (Nat.add (List.length l) 1)) (cond (Nat.ble (List.length l) 100000) (vl (insR l (Int.toNat n'9) (wi64 (n+n'7))) fun l'11=>k0 0 (numR b rest i) (wi64 (n+n'7)) (wi64 (n'9+(1:Int))) n'5 true z l'11) (none)) (none)))) (none)) (none)) (none)) (none)) (none))) (none)) (none)) (none)
theorem dstep_ev (d:Nat) (rest:By) (n i b:Int) (st z:Bool) (l:LL):evC (c_dstep lf) (d+1) σ yh 182 [.ptr 0 0 0] [.box [.s (.str rest),.fl 1,.s (.int .i64 n),.s (.int .i64 i),.s (.int .i64 b),.s (.bool st)],.arr z 3 1 l] s=dstep lf rest n i b st z l (fun r0 s1 n2 n3 n4 b5 z6 l7=>some (.s (.int .i64 r0),[.box [.s (.str s1),.fl 1,.s (.int .i64 n2),.s (.int .i64 n3),.s (.int .i64 n4),.s (.bool b5)],.arr z6 3 1 l7],s)):=by
 refine (evC_eq (fn:=Tryz.f182) (by kernel_rfl) (by kernel_rfl) (by kernel_rfl)).trans ?_
 generalize evC (c_dstep lf) d=cl
 unfold dstep;kernel_rfl
noncomputable abbrev b_pdec:Code:=bodyOf Tryz.f155
noncomputable def c_pdec (lf:Nat):Cfg:=mkCfg lf [155] (lookK [(20,[2,0,1]),(13,[0,1,0,1,0,22,0]),(4,[0,1,0,9,0])]) [(127,X_lastb)] (lookK [(24,[2,0]),(23,[2,0]),(22,[5,2,59]),(21,[5,2]),(20,[5,58]),(19,[2,0]),(18,[5,53]),(17,[5]),(16,[0,4,0,22,0]),(15,[0,4,0,22,0]),(14,[0,4,0,0,21,0]),(13,[0,4,0,22,0,0]),(12,[0,4,0,22,0]),(11,[0,4,0,21]),(10,[0,4,0]),(9,[0,4]),(8,[0,12,0]),(7,[2,0]),(6,[0,12,0,5]),(5,[0,3,8,0]),(4,[0,12,0,0]),(3,[0,12,0]),(2,[2,0]),(1,[0,10]),(0,[0])]) [127] (lookK [(4,[5]),(5,[5]),(2,[0,4,0]),(3,[0,4,0,22,0]),(0,[0]),(1,[0,12,0])]) (some [2,0]) [(182,X_dstep)] [] [182] (nt:=[(190,1,3,1)])
noncomputable def pdec_l0f {R:Type} (lf n:Nat) (self:By→Int→Int→Option R) (s0:By) (n1 n2:Int) (k0:Unit→Option R) (k1:By→Option R):Option R:=cond (ltI n2 n1) (cond (inR n2 (List.length s0)) (cond (not (ltI (bAt s0 n2) (128:Int))) (k0 ()) (self s0 n1 (wi64 (n2+(1:Int))))) (none)) (k1 s0)
noncomputable def pdec_l0 {R:Type} (lf n:Nat) (s0:By) (n1 n2:Int) (k0:Unit→Option R) (k1:By→Option R):Option R:=recN (α:=By→Int→Int→Option R) (fun _ _ _=>none) (fun n self s0 n1 n2=>pdec_l0f lf n self s0 n1 n2 k0 k1) n s0 n1 n2
theorem pdec_l0_s {R:Type} (lf n:Nat) (s0:By) (n1 n2:Int) (k0:Unit→Option R) (k1:By→Option R):pdec_l0 lf (n+1) s0 n1 n2 k0 k1=pdec_l0f lf n (fun s0 n1 n2=>pdec_l0 lf n s0 n1 n2 k0 k1) s0 n1 n2 k0 k1:=rfl
theorem pdec_l0_eq (n:Nat) (s0:By) (n1 n2:Int):loopK 0 ((c_pdec lf).keep 4) (bd (c_pdec lf) cl yh (cd [1,1,0,1,0,0] b_pdec)) n ⟨gp [(0,.s (.str s0)),(12,.s (.int .i64 n1)),(0,.s (.int .i64 n2))] 59,[],s⟩ k =
 pdec_l0 lf n s0 n1 n2 (fun _=>k .ret ⟨gp [(2,.fl 0),(0,.s (.int .i64 (4:Int)))] 70,[.arr true 3 1 []],s⟩) (fun s0=>k (.exit 0) ⟨gp [(0,.s (.str s0))] 73,[],s⟩):=by
 induction n generalizing s0 n1 n2 with
 | zero=>rfl
 | succ n ih=>rw [pdec_l0_s];unfold pdec_l0f;exact (Eq.trans (by kernel_rfl) (cond_congr (cond_congr (cond_congr rfl (ih s0 n1 (wi64 (n2+(1:Int))))) rfl) rfl))
noncomputable def pdec_l1f {R:Type} (lf n:Nat) (self:By→Int→Int→LL→Option R) (s0:By) (kk1 n2:Int) (l3:LL) (k0:By→Int→LL→Option R):Option R:=cond (ltI n2 kk1) (cond (inR n2 (List.length s0)) (cond (roomy ((List.length l3)+1)) (self s0 kk1 (wi64 (n2+(1:Int))) (l3++[[(SV.int .i64 (wi64 (bAt s0 n2)))]])) (none)) (none)) (k0 s0 kk1 l3)
noncomputable def pdec_l1 {R:Type} (lf n:Nat) (s0:By) (kk1 n2:Int) (l3:LL) (k0:By→Int→LL→Option R):Option R:=recN (α:=By→Int→Int→LL→Option R) (fun _ _ _ _=>none) (fun n self s0 kk1 n2 l3=>pdec_l1f lf n self s0 kk1 n2 l3 k0) n s0 kk1 n2 l3
theorem pdec_l1_s {R:Type} (lf n:Nat) (s0:By) (kk1 n2:Int) (l3:LL) (k0:By→Int→LL→Option R):pdec_l1 lf (n+1) s0 kk1 n2 l3 k0=pdec_l1f lf n (fun s0 kk1 n2 l3=>pdec_l1 lf n s0 kk1 n2 l3 k0) s0 kk1 n2 l3 k0:=rfl
theorem pdec_l1_eq (n:Nat) (s0:By) (kk1 n2:Int) (l3:LL):loopK 2 ((c_pdec lf).keep 13) (bd (c_pdec lf) cl yh (cd [1,1,1,1,0,1,1,0,0,1,0,0] b_pdec)) n ⟨gp [(0,.s (.str s0)),(4,.ptr 1 0 0),(0,.s (.int .i64 kk1)),(22,.s (.int .i64 kk1)),(0,.s (.int .i64 n2))] 43,[.arr true 3 1 l3,.box [.s (.str s0),.fl 0,.s (.int .i64 (128:Int)),.s (.int .i64 (0:Int)),.s (.int .i64 (72:Int)),.s (.bool false)]],s⟩ k =
 pdec_l1 lf n s0 kk1 n2 l3 (fun s0 kk1 l2=>k (.exit 2) ⟨gp [(0,.s (.str s0)),(4,.ptr 1 0 0),(0,.s (.int .i64 kk1))] 67,[.arr true 3 1 l2,.box [.s (.str s0),.fl 0,.s (.int .i64 (128:Int)),.s (.int .i64 (0:Int)),.s (.int .i64 (72:Int)),.s (.bool false)]],s⟩):=by
 induction n generalizing s0 kk1 n2 l3 with
 | zero=>rfl
 | succ n ih=>rw [pdec_l1_s];unfold pdec_l1f;exact (Eq.trans (by kernel_rfl) (cond_congr (cond_congr (cond_congr (ih s0 kk1 (wi64 (n2+(1:Int))) (l3++[[(SV.int .i64 (wi64 (bAt s0 n2)))]])) rfl) rfl) rfl))
noncomputable def pdec_l2f {R:Type} (lf n:Nat) (self:LL→By→Int→Int→Int→Bool→Option R) (l0:LL) (s1:By) (n2 n3 n4:Int) (b5:Bool) (k0:Int→LL→By→Int→Int→Int→Bool→Option R) (k1:LL→By→Int→Int→Int→Bool→Option R):Option R:=cond (not (s1==([]:List UInt8))) (cond (small (List.length s1)) (cond (ltN n4 1000000) (cond (ltN n3 1099511627777) (cond (ltN n2 1152921504606846976) (cond (Nat.ble (List.length l0) 100000) (vl ((dsStep (DS.mk s1 n2 n3 n4 b5 l0))).1 fun n'10=>vl (DS.l ((dsStep (DS.mk s1 n2 n3 n4 b5 l0))).2) fun l'11=>cond (n'10 != (0:Int)) (k0 n'10 l'11 (DS.rest ((dsStep (DS.mk s1 n2 n3 n4 b5 l0))).2) (DS.n ((dsStep (DS.mk s1 n2 n3 n4 b5 l0))).2) (DS.i ((dsStep (DS.mk s1 n2 n3 n4 b5 l0))).2) (DS.b ((dsStep (DS.mk s1 n2 n3 n4 b5 l0))).2) (DS.st ((dsStep (DS.mk s1 n2 n3 n4 b5 l0))).2)) (self l'11 (DS.rest ((dsStep (DS.mk s1 n2 n3 n4 b5 l0))).2) (DS.n ((dsStep (DS.mk s1 n2 n3 n4 b5 l0))).2) (DS.i ((dsStep (DS.mk s1 n2 n3 n4 b5 l0))).2) (DS.b ((dsStep (DS.mk s1 n2 n3 n4 b5 l0))).2) (DS.st ((dsStep (DS.mk s1 n2 n3 n4 b5 l0))).2))) (none)) (none)) (none)) (none)) (none)) (k1 l0 s1 n2 n3 n4 b5)
noncomputable def pdec_l2 {R:Type} (lf n:Nat) (l0:LL) (s1:By) (n2 n3 n4:Int) (b5:Bool) (k0:Int→LL→By→Int→Int→Int→Bool→Option R) (k1:LL→By→Int→Int→Int→Bool→Option R):Option R:=recN (α:=LL→By→Int→Int→Int→Bool→Option R) (fun _ _ _ _ _ _=>none) (fun n self l0 s1 n2 n3 n4 b5=>pdec_l2f lf n self l0 s1 n2 n3 n4 b5 k0 k1) n l0 s1 n2 n3 n4 b5
theorem pdec_l2_s {R:Type} (lf n:Nat) (l0:LL) (s1:By) (n2 n3 n4:Int) (b5:Bool) (k0:Int→LL→By→Int→Int→Int→Bool→Option R) (k1:LL→By→Int→Int→Int→Bool→Option R):pdec_l2 lf (n+1) l0 s1 n2 n3 n4 b5 k0 k1=pdec_l2f lf n (fun l0 s1 n2 n3 n4 b5=>pdec_l2 lf n l0 s1 n2 n3 n4 b5 k0 k1) l0 s1 n2 n3 n4 b5 k0 k1:=rfl
theorem pdec_l2_eq (n:Nat) (l0:LL) (s1:By) (n2 n3 n4:Int) (b5:Bool):loopK 2 ((c_pdec lf).keep 20) (bd (c_pdec lf) cl yh (cd [1,1,1,1,1,1,0,0,0] b_pdec)) n ⟨gp [(5,.ptr 1 0 0)] 68,[.arr true 3 1 l0,.box [.s (.str s1),.fl 0,.s (.int .i64 n2),.s (.int .i64 n3),.s (.int .i64 n4),.s (.bool b5)]],s⟩ k =
 pdec_l2 lf n l0 s1 n2 n3 n4 b5 (fun n0 l1 s2 n3 n4 n5 b6=>k .ret ⟨gp [(2,.fl 2),(0,.s (.int .i64 n0))] 70,[.arr true 3 1 l1,.box [.s (.str s2),.fl 0,.s (.int .i64 n3),.s (.int .i64 n4),.s (.int .i64 n5),.s (.bool b6)],.arr true 3 1 []],s⟩) (fun l0 s1 n2 n3 n4 b5=>k (.exit 4) ⟨gp [(5,.ptr 1 0 0)] 68,[.arr true 3 1 l0,.box [.s (.str s1),.fl 0,.s (.int .i64 n2),.s (.int .i64 n3),.s (.int .i64 n4),.s (.bool b5)]],s⟩):=by
 induction n generalizing l0 s1 n2 n3 n4 b5 with
 | zero=>rfl
 | succ n ih=>rw [pdec_l2_s];unfold pdec_l2f;exact (Eq.trans (by kernel_rfl) (cond_congr (cond_congr (cond_congr (cond_congr (cond_congr (cond_congr (vl_congr fun n'10=>(vl_congr fun l'11=>(cond_congr rfl (ih l'11 (DS.rest ((dsStep (DS.mk s1 n2 n3 n4 b5 l0))).2) (DS.n ((dsStep (DS.mk s1 n2 n3 n4 b5 l0))).2) (DS.i ((dsStep (DS.mk s1 n2 n3 n4 b5 l0))).2) (DS.b ((dsStep (DS.mk s1 n2 n3 n4 b5 l0))).2) (DS.st ((dsStep (DS.mk s1 n2 n3 n4 b5 l0))).2))))) rfl) rfl) rfl) rfl) rfl) rfl))
noncomputable def pdec {R:Type} (lf:Nat) (s0:By) (k0:Int→Option R) (k1:Int→LL→By→Int→Int→Int→Bool→Option R) (k2:LL→By→Int→Int→Int→Bool→Option R):Option R:=cond (ltI (1024:Int) (↑(List.length s0):Int)) (k0 3) (pdec_l0 lf lf s0 (↑(List.length s0):Int) 0 (fun _=>k0 4) (fun s'0=>cond (small (List.length s'0)) (vl (lastI (u8n (45:Int)) s'0) fun n'4=>cond (ltI (0:Int) n'4) (pdec_l1 lf lf s'0 n'4 0 [] (fun s'5 kk'6 l'7=>vl (wi64 (kk'6+(1:Int))) fun n'8=>cond (sub3 n'8 (↑(List.length s'5):Int) (List.length s'5)) (vl (cut s'5 n'8 (↑(List.length s'5):Int)) fun s'9=>cond (ltI (256:Int) (↑(List.length l'7):Int)) (k1 3 l'7 s'9 128 0 72 false) (pdec_l2 lf lf l'7 s'9 128 0 72 false (fun n'12 l'13 s'14 n'15 n'16 n'17 b'18=>k1 n'12 l'13 s'14 n'15 n'16 n'17 b'18) (fun l'19 s'20 n'21 n'22 n'23 b'24=>k2 l'19 s'20 n'21 n'22 n'23 b'24))) (none))) (pdec_l2 lf lf [] s'0 128 0 72 false (fun n'25 l'26 s'27 n'28 n'29 n'30 b'31=>k1 n'25 l'26 s'27 n'28 n'29 n'30 b'31) (fun l'32 s'33 n'34 n'35 n'36 b'37=>k2 l'32 s'33 n'34 n'35 n'36 b'37))) (none)))
theorem pdec_ev (d:Nat) (s0:By):evC (c_pdec lf) (d+1) σ yh 155 [.s (.str s0)] [] s=pdec lf s0 (fun r0=>some (.tup [.fl 0,.s (.int .i64 r0)],[.arr true 3 1 []],s)) (fun r0 l1 s2 n3 n4 n5 b6=>some (.tup [.fl 2,.s (.int .i64 r0)],[.arr true 3 1 l1,.box [.s (.str s2),.fl 0,.s (.int .i64 n3),.s (.int .i64 n4),.s (.int .i64 n5),.s (.bool b6)],.arr true 3 1 []],s)) (fun l0 s1 n2 n3 n4 b5=>some (.tup [.fl 0,.s (.int .i64 (0:Int))],[.arr true 3 1 l0,.box [.s (.str s1),.fl 0,.s (.int .i64 n2),.s (.int .i64 n3),.s (.int .i64 n4),.s (.bool b5)]],s)):=by
 refine (evC_eq (fn:=Tryz.f155) (by kernel_rfl) (by kernel_rfl) (by kernel_rfl)).trans ?_
 generalize evC (c_pdec lf) d=cl
 unfold pdec;exact (Eq.trans (by kernel_rfl) (cond_congr rfl ((pdec_l0_eq lf cl yh s (blkK 0 (seqK (c_pdec lf) cl yh (cd [1,1,1] b_pdec) (retK (c_pdec lf) Tryz.f155))) lf s0 (↑(List.length s0):Int) 0).trans (congr (congr rfl (funext fun _=>(by kernel_rfl))) (funext fun s'0=>(Eq.trans (by kernel_rfl) (cond_congr (vl_congr fun n'4=>(cond_congr ((pdec_l1_eq lf cl yh s (blkK 2 (seqK (c_pdec lf) cl yh (cd [1,1,1,1,0,1,1,0,1] b_pdec) (seqK (c_pdec lf) cl yh (cd [1,1,1,1,1] b_pdec) (retK (c_pdec lf) Tryz.f155)))) lf s'0 n'4 0 []).trans (congr rfl (funext fun s'5=>(funext fun kk'6=>(funext fun l'7=>(Eq.trans (by kernel_rfl) (vl_congr fun n'8=>(cond_congr (vl_congr fun s'9=>(cond_congr rfl ((pdec_l2_eq lf cl yh s (blkK 4 (seqK (c_pdec lf) cl yh (cd [1,1,1,1,1,1,1] b_pdec) (retK (c_pdec lf) Tryz.f155))) lf l'7 s'9 128 0 72 false).trans (congr (congr rfl (funext fun n'12=>(funext fun l'13=>(funext fun s'14=>(funext fun n'15=>(funext fun n'16=>(funext fun n'17=>(funext fun b'18=>(by kernel_rfl))))))))) (funext fun l'19=>(funext fun s'20=>(funext fun n'21=>(funext fun n'22=>(funext fun n'23=>(funext fun b'24=>(by kernel_rfl))))))))))) rfl)))))))) ((pdec_l2_eq lf cl yh s (blkK 4 (seqK (c_pdec lf) cl yh (cd [1,1,1,1,1,1,1] b_pdec) (retK (c_pdec lf) Tryz.f155))) lf [] s'0 128 0 72 false).trans (congr (congr rfl (funext fun n'25=>(funext fun l'26=>(funext fun s'27=>(funext fun n'28=>(funext fun n'29=>(funext fun n'30=>(funext fun b'31=>(by kernel_rfl))))))))) (funext fun l'32=>(funext fun s'33=>(funext fun n'34=>(funext fun n'35=>(funext fun n'36=>(funext fun b'37=>(by kernel_rfl))))))))))) rfl)))))))
noncomputable abbrev b_ilastb:Code:=bodyOf Tryz.f160
noncomputable def c_ilastb (lf:Nat):Cfg:=mkCfg lf [160] (lookK [(2,[0,0,2,0])]) [] (lookK [(6,[4]),(3,[0,0,3]),(5,[4]),(4,[0,0,3,11]),(2,[0,0,3,4]),(1,[0,0,3]),(0,[0,0])]) [] (lookK [(0,[]),(1,[0,0,3])]) (some [4]) [] [] []
noncomputable def ilastb_l0f {R:Type} (lf n:Nat) (self:By→Int→Int→Option R) (s0:By) (c1 i2:Int) (k0:Int→Option R) (k1:Unit→Option R):Option R:=cond (not (ltI i2 (0:Int))) (cond (inR i2 (List.length s0)) (cond ((bAt s0 i2)==c1) (k0 i2) (self s0 c1 (wi64 (i2-(1:Int))))) (none)) (k1 ())
noncomputable def ilastb_l0 {R:Type} (lf n:Nat) (s0:By) (c1 i2:Int) (k0:Int→Option R) (k1:Unit→Option R):Option R:=recN (α:=By→Int→Int→Option R) (fun _ _ _=>none) (fun n self s0 c1 i2=>ilastb_l0f lf n self s0 c1 i2 k0 k1) n s0 c1 i2
theorem ilastb_l0_s {R:Type} (lf n:Nat) (s0:By) (c1 i2:Int) (k0:Int→Option R) (k1:Unit→Option R):ilastb_l0 lf (n+1) s0 c1 i2 k0 k1=ilastb_l0f lf n (fun s0 c1 i2=>ilastb_l0 lf n s0 c1 i2 k0 k1) s0 c1 i2 k0 k1:=rfl
theorem ilastb_l0_eq (n:Nat) (s0:By) (c1 i2:Int):loopK 0 ((c_ilastb lf).keep 2) (bd (c_ilastb lf) cl yh (cd [1,0,1,0,0] b_ilastb)) n ⟨gp [(0,.s (.str s0)),(0,.s (.int .u8 c1)),(3,.s (.int .i64 i2))] 13,[],s⟩ k =
 ilastb_l0 lf n s0 c1 i2 (fun n0=>k .ret ⟨gp [(4,.s (.int .i64 n0))] 14,[],s⟩) (fun _=>k (.exit 0) ⟨gp [] 19,[],s⟩):=by
 induction n generalizing s0 c1 i2 with
 | zero=>rfl
 | succ n ih=>rw [ilastb_l0_s];unfold ilastb_l0f;exact (Eq.trans (by kernel_rfl) (cond_congr (cond_congr (cond_congr rfl (ih s0 c1 (wi64 (i2-(1:Int))))) rfl) rfl))
noncomputable def ilastb {R:Type} (lf:Nat) (s0:By) (c1:Int) (k0:Int→Option R):Option R:=vl (wi64 ((↑(List.length s0):Int)-(1:Int))) fun n'1=>ilastb_l0 lf lf s0 c1 n'1 (fun n'2=>k0 n'2) (fun _=>k0 (-1))
theorem ilastb_ev (d:Nat) (s0:By) (c1:Int):evC (c_ilastb lf) (d+1) σ yh 160 [.s (.str s0),.s (.int .u8 c1)] [] s=ilastb lf s0 c1 (fun r0=>some (.s (.int .i64 r0),[],s)):=by
 refine (evC_eq (fn:=Tryz.f160) (by kernel_rfl) (by kernel_rfl) (by kernel_rfl)).trans ?_
 generalize evC (c_ilastb lf) d=cl
 unfold ilastb;exact (Eq.trans (by kernel_rfl) (vl_congr fun n'1=>((ilastb_l0_eq lf cl yh s (blkK 0 (seqK (c_ilastb lf) cl yh (cd [1,1] b_ilastb) (retK (c_ilastb lf) Tryz.f160))) lf s0 c1 n'1).trans (congr (congr rfl (funext fun n'2=>(by kernel_rfl))) (funext fun _=>(by kernel_rfl))))))
noncomputable def c_lastb (lf:Nat):Cfg:=mkCfg lf [127] (lookK []) [(160,X_ilastb)] (lookK [(1,[4]),(0,[0,0])]) [160] (lookK []) (some [4]) [] [] []
noncomputable def lastb {R:Type} (lf:Nat) (s0:By) (c1:Int) (k0:Int→Option R):Option R:=cond (small (List.length s0)) (cond (inR c1 256) (k0 (lastI (u8n c1) s0)) (none)) (none)
theorem lastb_ev (d:Nat) (s0:By) (c1:Int):evC (c_lastb lf) (d+1) σ yh 127 [.s (.str s0),.s (.int .u8 c1)] [] s=lastb lf s0 c1 (fun r0=>some (.s (.int .i64 r0),[],s)):=by
 refine (evC_eq (fn:=Tryz.f127) (by kernel_rfl) (by kernel_rfl) (by kernel_rfl)).trans ?_
 generalize evC (c_lastb lf) d=cl
 unfold lastb;kernel_rfl
end
end Go.Proofs.YtokehocipgepnaaGreatDoor.E
namespace Go.Proofs.YtokehocipgepnaaGreatDoor.E
open Go Go.Proofs
set_option linter.unusedVariables false
set_option linter.unusedSimpArgs false
theorem val36I_range (c:UInt8):-1≤val36I c∧val36I c≤35:=by
 unfold val36I val36
 have:=c.toNat_lt
 split
 ·rename_i n h
  split at h
  ·simp only [Option.some.injEq] at h;omega
  ·split at h
   ·simp only [Option.some.injEq] at h;omega
   ·split at h
    ·simp only [Option.some.injEq] at h;omega
    ·cases h
 ·omega
theorem thrI_range (k b:Int):1≤thrI k b∧thrI k b≤26:=by unfold thrI;omega
theorem mul_range {x w:Int} (h0:0≤x) (h1:x≤35) (w0:0≤w) (w1:w≤1099511627776):0≤x*w∧x*w≤38482906972160:=by
 refine ⟨Int.mul_nonneg h0 w0,?_⟩
 have:=Int.mul_le_mul h1 w1 w0 (show (0:Int)≤35 by omega)
 omega
theorem dnGo_bd (b:Int):∀ (s:By) (i w k:Int),0≤i→0≤w→w≤1099511627776→(dnGo b s i w k).1=0→i≤(dnGo b s i w k).2.2∧(dnGo b s i w k).2.2≤1099511627776∧(dnGo b s i w k).2.1.length<s.length
 | [],i,w,k,_,_,_,h=>by simp [dnGo] at h
 | c::r,i,w,k,hi,hw,hw1,h=>by
  have hv:=val36I_range c
  have ht:=thrI_range k b
  unfold dnGo at h ⊢
  split at h
  ·simp at h
  ·rename_i h1
   rw [if_neg h1]
   have hm:=mul_range (by omega) hv.2 hw hw1
   split at h
   ·simp at h
   ·rename_i h2
    rw [if_neg h2]
    split at h
    ·rename_i h3
     rw [if_pos h3]
     refine ⟨by simp only;omega,by simp only;omega,by simp⟩
    ·rename_i h3
     rw [if_neg h3]
     split at h
     ·simp at h
     ·rename_i h4
      rw [if_neg h4]
      obtain ⟨q1,q2,q3⟩:=dnGo_bd b r (i+val36I c*w) (w*(36-thrI k b)) (k+36) (by omega) (Int.mul_nonneg hw (by omega)) (by omega) h
      exact ⟨by omega,q2,by rw [List.length_cons];omega⟩
theorem dnum_loop (n2:Int) (b:Int) (st z:Bool) (l:LL) (hb0:0≤b) (hb1:b<1000000):∀ (s:By) (n:Nat) (i w k:Int),s.length<n→s.length≤1000000000→0≤i→i≤1099511627776→0≤w→w≤1099511627776→0≤k→k+36*s.length≤100000000000→
  ∃ k',∀ (R:Type) (k0:Int→By→Int→Int→Int→Bool→Bool→LL→Int→Option R),dnum_l0 LF n w s n2 i b st z l k k0=k0 (dnGo b s i w k).1 (dnGo b s i w k).2.1 n2 (dnGo b s i w k).2.2 b st z l k':=by
 intro s
 induction s with
 | nil=>
  intro n i w k hn hs hi hi1 hw hw1 hk hk1
  obtain ⟨n,rfl⟩:∃ m,n=m+1:=⟨n-1,by omega⟩
  refine ⟨k,fun R k0=>?_⟩
  rw [dnum_l0_s]
  rfl
 | cons c r ih=>
  intro n i w k hn hs hi hi1 hw hw1 hk hk1
  obtain ⟨n,rfl⟩:∃ m,n=m+1:=⟨n-1,by omega⟩
  rw [List.length_cons] at hn hs hk1
  have hv:=val36I_range c
  have ht:=thrI_range k b
  have hu:u8n (bAt (c::r) 0)=c:=by unfold u8n bAt;simp
  have hin:inR (bAt (c::r) 0) 256=true:=by rw [bAt_zero];have:=c.toNat_lt;exact inR_t (by omega) (by simp;omega)
  have hcut:cut (c::r) 1 ((c::r).length:Int)=r:=by
   have:=cut_nat (c::r) 1 (c::r).length
   rw [show ((1:Nat):Int)=1 from rfl] at this
   rw [this,List.take_length]
   rfl
  have hne:((c::r)==([]:By))=false:=rfl
  have start:∀ (R:Type) (k0:Int→By→Int→Int→Int→Bool→Bool→LL→Int→Option R),dnum_l0 LF (n+1) w (c::r) n2 i b st z l k k0 =
    cond (ltI (val36I c) 0) (k0 4 (c::r) n2 i b st z l k)
     (vl (wi64 (i+(wi64 (val36I c*w)))) fun n'5=>cond (ltI 1099511627776 n'5) (k0 19 r n2 n'5 b st z l k)
      (cond (ltI (val36I c) (thrI k b)) (k0 0 r n2 n'5 b st z l (Int.add k 36))
       (vl (wi64 (36-(thrI k b))) fun n'6=>cond (ltI 1099511627776 (wi64 (w*n'6))) (k0 19 r n2 n'5 b st z l (Int.add k 36)) (dnum_l0 LF n (wi64 (w*n'6)) r n2 n'5 b st z l (Int.add k 36) k0)))):=by
   intro R k0
   rw [dnum_l0_s]
   unfold dnum_l0f
   rw [hne,hin,inR_t (by omega) (by rw [List.length_cons];omega),sub3_t (by omega) (by rw [List.length_cons];omega) (by omega),hcut,hu,ltN_t (by omega) (by omega),ltN_t (by omega) (by omega)]
   rfl
  unfold dnGo
  by_cases h1:val36I c<0
  ·rw [if_pos h1]
   refine ⟨k,fun R k0=>?_⟩
   rw [start,ltI_t h1]
   rfl
  ·rw [if_neg h1]
   have hm:=mul_range (by omega) hv.2 hw hw1
   have e1:wi64 (val36I c*w)=val36I c*w:=wi64_id (by omega) (by omega)
   have e2:wi64 (i+val36I c*w)=i+val36I c*w:=wi64_id (by omega) (by omega)
   by_cases h2:1099511627776<i+val36I c*w
   ·rw [if_pos h2]
    refine ⟨k,fun R k0=>?_⟩
    rw [start,ltI_f (by omega),e1,e2]
    simp only [vl,cond_false]
    rw [ltI_t h2]
    rfl
   ·rw [if_neg h2]
    by_cases h3:val36I c<thrI k b
    ·rw [if_pos h3]
     refine ⟨Int.add k 36,fun R k0=>?_⟩
     rw [start,ltI_f (by omega),e1,e2]
     simp only [vl,cond_false]
     rw [ltI_f (by omega),ltI_t h3]
     rfl
    ·rw [if_neg h3]
     have e3:wi64 (36-thrI k b)=36-thrI k b:=wi64_id (by omega) (by omega)
     have hm2:=mul_range (x:=36-thrI k b) (by omega) (by omega) hw hw1
     rw [Int.mul_comm] at hm2
     have e4:wi64 (w*(36-thrI k b))=w*(36-thrI k b):=wi64_id (by omega) (by omega)
     by_cases h4:1099511627776<w*(36-thrI k b)
     ·rw [if_pos h4]
      refine ⟨Int.add k 36,fun R k0=>?_⟩
      rw [start,ltI_f (by omega),e1,e2]
      simp only [vl,cond_false]
      rw [ltI_f (by omega),ltI_f (by omega),e3,e4,ltI_t h4]
      rfl
     ·rw [if_neg h4]
      obtain ⟨k',e⟩:=ih n (i+val36I c*w) (w*(36-thrI k b)) (k+36) (by omega) (by omega) (by omega) (by omega) (by omega) (by omega) (by omega) (by omega)
      refine ⟨k',fun R k0=>?_⟩
      rw [start,ltI_f (by omega),e1,e2]
      simp only [vl,cond_false]
      rw [ltI_f (by omega),ltI_f (by omega),e3,e4,ltI_f (by omega)]
      exact e R k0
theorem dnum_spec (rest:By) (n i b:Int) (st z:Bool) (l:LL) (h0:small rest.length=true) (h1:ltN b 1000000=true) (h2:ltN i 1099511627777=true) :
  ∃ k',∀ (R:Type) (k0:Int→By→Int→Int→Int→Bool→Bool→LL→Int→Option R),dnum LF rest n i b st z l k0=k0 (numE b rest i) (numR b rest i) n (numI b rest i) b st z l k':=by
 have hs:=maxL h0
 obtain ⟨b0,b1⟩:=ltN_iff.1 h1
 obtain ⟨i0,i1⟩:=ltN_iff.1 h2
 have hLF:=LF_big
 obtain ⟨k',e⟩:=dnum_loop n b st z l b0 (by omega) rest LF i 1 0 (by omega) (by omega) i0 (by omega) (by omega) (by omega) (by omega) (by omega)
 exact ⟨k',fun R k0=>e R _⟩
theorem dstep_spec {R:Type} {k0:Int→By→Int→Int→Int→Bool→Bool→LL→Option R} (rest:By) (n i b:Int) (st z:Bool) (l:LL) (h0:small rest.length=true) (h1:ltN b 1000000=true) (h2:ltN i 1099511627777=true) (h3:ltN n 1152921504606846976=true) (h4:Nat.ble l.length 100000=true) :
  dstep LF rest n i b st z l k0=k0 (dsStep ⟨rest,n,i,b,st,l⟩).1 (dsStep ⟨rest,n,i,b,st,l⟩).2.rest (dsStep ⟨rest,n,i,b,st,l⟩).2.n (dsStep ⟨rest,n,i,b,st,l⟩).2.i (dsStep ⟨rest,n,i,b,st,l⟩).2.b (dsStep ⟨rest,n,i,b,st,l⟩).2.st z (dsStep ⟨rest,n,i,b,st,l⟩).2.l:=by
 obtain ⟨i0,i1⟩:=ltN_iff.1 h2
 obtain ⟨n0,n1⟩:=ltN_iff.1 h3
 have hl:=Nat.le_of_ble_eq_true h4
 unfold dstep dsStep
 rw [h0,h1,h2]
 simp only [cond_true]
 by_cases he:numE b rest i=0
 ·rw [if_pos he,he]
  obtain ⟨q1,q2,q3⟩:=dnGo_bd b rest i 1 0 i0 (by omega) (by omega) he
  have q1':i≤numI b rest i:=q1
  have q2':numI b rest i≤1099511627776:=q2
  have e1:wi64 ((l.length:Int)+1)=(l.length:Int)+1:=wi64_id (by omega) (by omega)
  simp only [vl]
  rw [e1]
  generalize numI b rest i=x at *
  have hx0:0≤x:=by omega
  obtain ⟨X,rfl⟩:=Int.eq_ofNat_of_zero_le hx0
  have e2:wi64 ((X:Int)-i)=(X:Int)-i:=wi64_id (by omega) (by omega)
  have ec:((l.length:Int)+1)=((l.length+1:Nat):Int):=rfl
  have ed:Int.tdiv (X:Int) ((l.length+1:Nat):Int)=((X / (l.length+1):Nat):Int):=tdiv_nat _ _
  have em:Int.tmod (X:Int) ((l.length+1:Nat):Int)=((X % (l.length+1):Nat):Int):=tmod_nat _ _
  have hd:=Nat.div_le_self X (l.length+1)
  have hm:=Nat.mod_lt X (show 0<l.length+1 by omega)
  rw [e2,ec,ed,em]
  generalize hA:X / (l.length+1)=A at *
  generalize hB:X % (l.length+1)=B at *
  have e3:wi64 (A:Int)=(A:Int):=wi64_id (by omega) (by omega)
  have e4:wi64 (n+(A:Int))=n+(A:Int):=wi64_id (by omega) (by omega)
  have e5:wi64 ((B:Int)+1)=(B:Int)+1:=wi64_id (by omega) (by omega)
  have c0:((0:Int) != 0)=false:=rfl
  have c1:((((l.length+1:Nat):Int)) != 0)=true:=by rw [bne_iff_ne];omega
  rw [e3,e4,e5,c0,ltN_t (by omega) (by omega),ltN_t (by omega) (by omega),ltI_t (by omega),c1]
  simp only [cond_true,cond_false]
  cases hp:ptI (n+(A:Int)) with
  | false=>simp
  | true=>
   simp only [Bool.not_true,cond_false,if_true]
   by_cases h256:(256:Int)<((l.length+1:Nat):Int)
   ·rw [if_pos h256,ltI_t h256]
    rfl
   ·rw [if_neg h256,ltI_f (by omega),cond_false,ltN_t (by omega) (by show (B:Int)<((l.length+1:Nat):Int);omega),h4]
    rfl
 ·rw [if_neg he,show (numE b rest i != 0)=true from bne_iff_ne.2 he]
  rfl
theorem lastI_ge (c:UInt8):∀ l:By,-1≤lastI c l
 | []=>by simp [lastI]
 | b::r=>by
  have:=lastI_ge c r
  unfold lastI
  split
  ·split<;>omega
  ·omega
theorem lastI_snoc (c b:UInt8):∀ l:By,lastI c (l++[b])=if b=c then (l.length:Int) else lastI c l
 | []=>by
  by_cases h:b=c<;>simp [lastI,h]
 | a::l=>by
  have ih:=lastI_snoc c b l
  rw [List.cons_append,lastI,ih]
  by_cases h:b=c
  ·rw [if_pos h,if_pos h,if_neg (by omega)]
   simp
  ·rw [if_neg h,if_neg h]
   rfl
theorem ilastb_loop {R:Type} {k0:Int→Option R} {k1:Unit→Option R} (s:By) (c:UInt8) (hs:s.length≤1000000000):∀ (m n:Nat),m≤s.length→m<n→
  ilastb_l0 LF n s (c.toNat:Int) ((m:Int)-1) k0 k1=if lastI c (s.take m)<0 then k1 () else k0 (lastI c (s.take m)):=by
 intro m
 induction m with
 | zero=>
  intro n hm hn
  obtain ⟨n,rfl⟩:∃ m,n=m+1:=⟨n-1,by omega⟩
  rw [ilastb_l0_s]
  unfold ilastb_l0f
  rw [ltI_t (by omega)]
  rfl
 | succ m ih=>
  intro n hm hn
  obtain ⟨n,rfl⟩:∃ m,n=m+1:=⟨n-1,by omega⟩
  rw [ilastb_l0_s]
  unfold ilastb_l0f
  have e0:(((m+1:Nat):Int)-1)=(m:Int):=by omega
  have e1:wi64 ((m:Int)-1)=(m:Int)-1:=wi64_id (by omega) (by omega)
  have ht:s.take (m+1)=s.take m++[s.getD m 0]:=by
   rw [List.take_add_one,List.getD_eq_getElem?_getD,List.getElem?_eq_getElem (by omega)]
   rfl
  rw [e0,e1,ltI_f (by omega),inR_t (by omega) (by omega),bAt_nat,ht,lastI_snoc]
  simp only [Bool.not_false,cond_true]
  by_cases h:s.getD m 0=c
  ·rw [if_pos h,h,beq_self_eq_true,cond_true,List.length_take,Nat.min_eq_left (by omega),if_neg (by omega)]
  ·have hne:(((s.getD m 0).toNat:Int)==(c.toNat:Int))=false:=by
    rw [beq_eq_false_iff_ne]
    intro he
    exact h (UInt8.toNat.inj (Int.ofNat.inj he))
   rw [if_neg h,hne,cond_false]
   exact ih n (by omega) (by omega)
theorem u8n_back {c:Int} (h:inR c 256=true):c=((u8n c).toNat:Int):=by
 simp only [inR,Bool.and_eq_true,decide_eq_true_eq] at h
 unfold u8n
 simp
 omega
theorem ilastb_spec {R:Type} {k0:Int→Option R} (s:By) (c:Int) (h0:small s.length=true) (h1:inR c 256=true):ilastb LF s c k0=k0 (lastI (u8n c) s):=by
 have hs:=maxL h0
 have hLF:=LF_big
 have hc:=u8n_back h1
 generalize u8n c=d at *
 subst hc
 unfold ilastb
 have e1:wi64 ((s.length:Int)-1)=(s.length:Int)-1:=wi64_id (by omega) (by omega)
 simp only [vl]
 rw [e1]
 refine Eq.trans (ilastb_loop s d (by omega) s.length LF (by omega) (by omega)) ?_
 rw [List.take_length]
 have:=lastI_ge d s
 by_cases h:lastI d s<0
 ·rw [if_pos h,show lastI d s = -1 by omega]
 ·rw [if_neg h]
theorem lastb_spec {R:Type} {k0:Int→Option R} (s:By) (c:Int) (h0:small s.length=true) (h1:inR c 256=true):lastb LF s c k0=k0 (lastI (u8n c) s):=by
 unfold lastb
 rw [h0,h1]
 rfl
theorem lastDash_eq:∀ s:By,(45∈s→lastI 45 s=(lastDash s:Int))∧(45∉s→lastI 45 s = -1∧lastDash s=0)
 | []=>⟨fun h=>(by cases h),fun _=>⟨rfl,rfl⟩⟩
 | b::r=>by
  obtain ⟨h1,h2⟩:=lastDash_eq r
  unfold lastI lastDash
  by_cases hr:45∈r
  ·have:=h1 hr
   rw [if_pos hr,if_neg (by omega),this]
   exact ⟨fun _=>by simp,fun h=>absurd (List.mem_cons_of_mem _ hr) h⟩
  ·obtain ⟨q1,q2⟩:=h2 hr
   rw [if_neg hr,if_pos (by omega)]
   refine ⟨fun h=>?_,fun h=>?_⟩
   ·rcases List.mem_cons.1 h with h | h
    ·rw [if_pos h.symm];rfl
    ·exact absurd h hr
   ·rw [if_neg (fun hb=>h (by rw [hb];exact List.mem_cons_self))]
    exact ⟨rfl,rfl⟩
theorem val36I_none {c:UInt8} (h:val36 c=none):val36I c = -1:=by unfold val36I;rw [h]
theorem val36I_some {c:UInt8} {x:Nat} (h:val36 c=some x):val36I c=x:=by unfold val36I;rw [h]
theorem dnGo_nat (b:Nat):∀ (s:By) (i w k:Nat),dnGo (b:Int) s (i:Int) (w:Int) ((36*k:Nat):Int)=((((decNum b s i w k).2.2:Nat):Int),(dnGo (b:Int) s (i:Int) (w:Int) ((36*k:Nat):Int)).2)∧
  ((decNum b s i w k).2.2=0→(dnGo (b:Int) s (i:Int) (w:Int) ((36*k:Nat):Int)).2=((decNum b s i w k).2.1,((decNum b s i w k).1:Int)))
 | [],i,w,k=>⟨rfl,fun h=>by simp [decNum] at h⟩
 | c::r,i,w,k=>by
  unfold dnGo decNum
  cases hv:val36 c with
  | none=>
   rw [val36I_none hv,if_pos (by omega)]
   exact ⟨rfl,fun h=>by simp at h⟩
  | some x=>
   rw [val36I_some hv,if_neg (by omega),thrI_nat]
   have e1:(i:Int)+(x:Int)*(w:Int)=((i+x*w:Nat):Int):=by push_cast;rfl
   have ht:=thr_range k b
   have e2:(w:Int)*(36-(thr k b:Int))=((w*(36-thr k b):Nat):Int):=by
    rw [show (36:Int)-(thr k b:Int)=((36-thr k b:Nat):Int) by omega];push_cast;rfl
   have e3:((36*k:Nat):Int)+36=((36*(k+1):Nat):Int):=by omega
   have hsat:satB=1099511627776:=by decide
   rw [e1,e2,e3,hsat]
   simp only
   generalize i+x*w=I
   generalize w*(36-thr k b)=W
   by_cases h2:1099511627776<I
   ·rw [if_pos (by omega),if_pos h2]
    exact ⟨rfl,fun h=>by simp at h⟩
   ·rw [if_neg (by omega),if_neg h2]
    by_cases h3:x<thr k b
    ·rw [if_pos (by omega),if_pos h3]
     exact ⟨rfl,fun _=>rfl⟩
    ·rw [if_neg (by omega),if_neg h3]
     by_cases h4:1099511627776<W
     ·rw [if_pos (by omega),if_pos h4]
      exact ⟨rfl,fun h=>by simp at h⟩
     ·rw [if_neg (by omega),if_neg h4]
      exact dnGo_nat b r I W (k+1)
theorem insR_nat (l:List Nat) (i n:Nat):insR (natE l) i (n:Int)=natE (insAt l i n):=by
 unfold insR insAt natE
 rw [List.map_append,List.map_take,List.map_cons,List.map_drop]
theorem num_nat (b:Nat) (s:By) (i:Nat):numE (b:Int) s (i:Int)=((decNum b s i 1 0).2.2:Int)∧((decNum b s i 1 0).2.2=0→numR (b:Int) s (i:Int)=(decNum b s i 1 0).2.1∧numI (b:Int) s (i:Int)=((decNum b s i 1 0).1:Int)):=by
 obtain ⟨h1,h2⟩:=dnGo_nat b s i 1 0
 have e:dnGo (b:Int) s (i:Int) 1 0=dnGo (b:Int) s (i:Int) ((1:Nat):Int) ((36*0:Nat):Int):=rfl
 unfold numE numR numI
 rw [e]
 refine ⟨by rw [h1],fun h=>?_⟩
 have:=h2 h
 rw [this]
 exact ⟨rfl,rfl⟩
theorem ds_ok (s:By) (pts:List Nat) (n i b:Nat) (st:Bool) (h:(decNum b s i 1 0).2.2=0) (hi:i≤(decNum b s i 1 0).1) (hp:isPt (n+(decNum b s i 1 0).1 / (pts.length+1))=true) (hc:¬ 256<pts.length+1) :
  dsStep ⟨s,(n:Int),(i:Int),(b:Int),st,natE pts⟩=(0,⟨(decNum b s i 1 0).2.1,((n+(decNum b s i 1 0).1 / (pts.length+1):Nat):Int),(((decNum b s i 1 0).1 % (pts.length+1)+1:Nat):Int),((adapt ((decNum b s i 1 0).1-i) (pts.length+1) (!st):Nat):Int),true,natE (insAt pts ((decNum b s i 1 0).1 % (pts.length+1)) (n+(decNum b s i 1 0).1 / (pts.length+1)))⟩):=by
 obtain ⟨h1,h2⟩:=num_nat b s i
 obtain ⟨h3,h4⟩:=h2 h
 unfold dsStep
 simp only
 rw [h1,h,if_pos (show ((0:Nat):Int)=0 from rfl),h3,h4,natE_len]
 generalize (decNum b s i 1 0).1=X at *
 have ec:((pts.length:Int)+1)=((pts.length+1:Nat):Int):=rfl
 have ed:Int.tdiv (X:Int) ((pts.length+1:Nat):Int)=((X / (pts.length+1):Nat):Int):=tdiv_nat _ _
 have em:Int.tmod (X:Int) ((pts.length+1:Nat):Int)=((X % (pts.length+1):Nat):Int):=tmod_nat _ _
 have en:(n:Int)+((X / (pts.length+1):Nat):Int)=((n+X / (pts.length+1):Nat):Int):=rfl
 rw [ec,ed,em,en,ptI_nat,hp,if_pos rfl,if_neg (by omega),Int.toNat_natCast,insR_nat,Int.toNat_natCast,show ((X:Int)-(i:Int)).toNat=X-i by omega]
 rfl
theorem ds_err (s:By) (pts:List Nat) (n i b:Nat) (st:Bool):((decNum b s i 1 0).2.2≠0→(dsStep ⟨s,(n:Int),(i:Int),(b:Int),st,natE pts⟩).1=((decNum b s i 1 0).2.2:Int))∧
  ((decNum b s i 1 0).2.2=0→isPt (n+(decNum b s i 1 0).1 / (pts.length+1))=false→(dsStep ⟨s,(n:Int),(i:Int),(b:Int),st,natE pts⟩).1=2)∧
  ((decNum b s i 1 0).2.2=0→isPt (n+(decNum b s i 1 0).1 / (pts.length+1))=true→256<pts.length+1→(dsStep ⟨s,(n:Int),(i:Int),(b:Int),st,natE pts⟩).1=3):=by
 obtain ⟨h1,h2⟩:=num_nat b s i
 have ec:(((natE pts).length:Int)+1)=((pts.length+1:Nat):Int):=by rw [natE_len];rfl
 have ed:∀ X:Nat,Int.tdiv (X:Int) ((pts.length+1:Nat):Int)=((X / (pts.length+1):Nat):Int):=fun X=>tdiv_nat _ _
 have en:∀ A:Nat,(n:Int)+(A:Int)=((n+A:Nat):Int):=fun A=>rfl
 refine ⟨fun h=>?_,fun h hp=>?_,fun h hp hc=>?_⟩
 ·unfold dsStep
  simp only
  rw [h1,if_neg (by omega)]
 ·obtain ⟨h3,h4⟩:=h2 h
  unfold dsStep
  simp only
  rw [h1,h,if_pos (show ((0:Nat):Int)=0 from rfl),h4,ec,ed,en,ptI_nat,hp,if_neg (by simp)]
 ·obtain ⟨h3,h4⟩:=h2 h
  unfold dsStep
  simp only
  rw [h1,h,if_pos (show ((0:Nat):Int)=0 from rfl),h4,ec,ed,en,ptI_nat,hp,if_pos rfl,if_pos (by omega)]
theorem decGoP_nil (pts:List Nat) (n i b:Nat) (f:Bool):decGoP [] pts n i b f=(pts,0):=by rw [decGoP];rfl
theorem decGoP_err {s:By} (hs:s≠[]) (pts:List Nat) (n i b:Nat) (f:Bool) (h:(decNum b s i 1 0).2.2≠0):decGoP s pts n i b f=([],(decNum b s i 1 0).2.2):=by
 rw [decGoP,dif_neg hs]
 simp only
 rw [dif_neg h]
theorem decGoP_step {s:By} (hs:s≠[]) (pts:List Nat) (n i b:Nat) (f:Bool) (h:(decNum b s i 1 0).2.2=0):decGoP s pts n i b f =
  if isPt (n+(decNum b s i 1 0).1 / (pts.length+1)) then (if 256<pts.length+1 then ([],3) else decGoP (decNum b s i 1 0).2.1 (insAt pts ((decNum b s i 1 0).1 % (pts.length+1)) (n+(decNum b s i 1 0).1 / (pts.length+1))) (n+(decNum b s i 1 0).1 / (pts.length+1)) ((decNum b s i 1 0).1 % (pts.length+1)+1) (adapt ((decNum b s i 1 0).1-i) (pts.length+1) f) false) else ([],2):=by
 rw [decGoP,dif_neg hs]
 simp only
 rw [dif_pos h]
theorem insAt_len (l:List Nat) (i n:Nat):(insAt l i n).length=l.length+1:=by
 unfold insAt
 rw [List.length_append,List.length_cons,List.length_take,List.length_drop]
 omega
theorem pdec_loop:∀ (r:Nat) (s:By) (pts:List Nat) (n i b f:Nat) (st:Bool),s.length≤r→r<f→s.length≤1000000→pts.length≤256→n≤1114111→i≤1000→b≤500→
  ((decGoP s pts n i b (!st)).2=0→∃ s' n' i' b' st',∀ (R:Type) (k0:Int→LL→By→Int→Int→Int→Bool→Option R) (k1:LL→By→Int→Int→Int→Bool→Option R),pdec_l2 LF f (natE pts) s (n:Int) (i:Int) (b:Int) st k0 k1=k1 (natE (decGoP s pts n i b (!st)).1) s' n' i' b' st')∧
  ((decGoP s pts n i b (!st)).2≠0→(decGoP s pts n i b (!st)).1=[]∧∃ l s' n' i' b' st',∀ (R:Type) (k0:Int→LL→By→Int→Int→Int→Bool→Option R) (k1:LL→By→Int→Int→Int→Bool→Option R),pdec_l2 LF f (natE pts) s (n:Int) (i:Int) (b:Int) st k0 k1=k0 ((decGoP s pts n i b (!st)).2:Nat) l s' n' i' b' st'):=by
 intro r
 induction r with
 | zero=>
  intro s pts n i b f st h hf _ _ _ _ _
  obtain ⟨f,rfl⟩:∃ m,f=m+1:=⟨f-1,by omega⟩
  have hs:s=[]:=List.length_eq_zero_iff.1 (by omega)
  subst hs
  rw [decGoP_nil]
  refine ⟨fun _=>⟨[],n,i,b,st,fun R k0 k1=>?_⟩,fun h=>absurd rfl h⟩
  rw [pdec_l2_s]
  rfl
 | succ r ih=>
  intro s pts n i b f st h hf h1 h2 h3 h4 h5
  obtain ⟨f,rfl⟩:∃ m,f=m+1:=⟨f-1,by omega⟩
  by_cases hs:s=[]
  ·subst hs
   rw [decGoP_nil]
   refine ⟨fun _=>⟨[],n,i,b,st,fun R k0 k1=>?_⟩,fun h=>absurd rfl h⟩
   rw [pdec_l2_s]
   rfl
  ·have start:∀ (R:Type) (k0:Int→LL→By→Int→Int→Int→Bool→Option R) (k1:LL→By→Int→Int→Int→Bool→Option R),pdec_l2 LF (f+1) (natE pts) s (n:Int) (i:Int) (b:Int) st k0 k1 =
     cond ((dsStep ⟨s,n,i,b,st,natE pts⟩).1 != 0) (k0 (dsStep ⟨s,n,i,b,st,natE pts⟩).1 (dsStep ⟨s,n,i,b,st,natE pts⟩).2.l (dsStep ⟨s,n,i,b,st,natE pts⟩).2.rest (dsStep ⟨s,n,i,b,st,natE pts⟩).2.n (dsStep ⟨s,n,i,b,st,natE pts⟩).2.i (dsStep ⟨s,n,i,b,st,natE pts⟩).2.b (dsStep ⟨s,n,i,b,st,natE pts⟩).2.st)
      (pdec_l2 LF f (dsStep ⟨s,n,i,b,st,natE pts⟩).2.l (dsStep ⟨s,n,i,b,st,natE pts⟩).2.rest (dsStep ⟨s,n,i,b,st,natE pts⟩).2.n (dsStep ⟨s,n,i,b,st,natE pts⟩).2.i (dsStep ⟨s,n,i,b,st,natE pts⟩).2.b (dsStep ⟨s,n,i,b,st,natE pts⟩).2.st k0 k1):=by
    intro R k0 k1
    rw [pdec_l2_s]
    unfold pdec_l2f
    rw [show (s==([]:By))=false from beq_eq_false_iff_ne.2 hs,small_t (by omega),ltN_t (by omega) (by omega),ltN_t (by omega) (by omega),ltN_t (by omega) (by omega),natE_len,Nat.ble_eq_true_of_le (show pts.length≤100000 by omega)]
    rfl
   obtain ⟨d1,d2,d3⟩:=ds_err s pts n i b st
   have hok:=ds_ok s pts n i b st
   generalize dsStep ⟨s,n,i,b,st,natE pts⟩=D at *
   by_cases he:(decNum b s i 1 0).2.2=0
   ·rw [decGoP_step hs pts n i b (!st) he]
    obtain ⟨m1,m2⟩:=num_nat b s i
    obtain ⟨m3,m4⟩:=m2 he
    have hE:numE (b:Int) s (i:Int)=0:=by rw [m1,he];rfl
    obtain ⟨q1,q2,q3⟩:=dnGo_bd b s i 1 0 (by omega) (by omega) (by omega) hE
    have q1':(i:Int)≤numI (b:Int) s (i:Int):=q1
    have q2':numI (b:Int) s (i:Int)≤1099511627776:=q2
    have q3':(numR (b:Int) s (i:Int)).length<s.length:=q3
    rw [m4] at q1' q2'
    rw [m3] at q3'
    cases hp:isPt (n+(decNum b s i 1 0).1 / (pts.length+1)) with
    | false=>
     rw [if_neg (by simp)]
     refine ⟨fun h=>by simp at h,fun _=>⟨rfl,D.2.l,D.2.rest,D.2.n,D.2.i,D.2.b,D.2.st,fun R k0 k1=>?_⟩⟩
     ·rw [start,d2 he hp]
      rfl
    | true=>
     rw [if_pos rfl]
     by_cases hc:256<pts.length+1
     ·rw [if_pos hc]
      refine ⟨fun h=>by simp at h,fun _=>⟨rfl,D.2.l,D.2.rest,D.2.n,D.2.i,D.2.b,D.2.st,fun R k0 k1=>?_⟩⟩
      rw [start,d3 he hp hc]
      rfl
     ·rw [if_neg hc]
      have hok:=hok he (by omega) hp hc
      have hn':n+(decNum b s i 1 0).1 / (pts.length+1)≤1114111:=by
       unfold isPt at hp
       simp only [Bool.and_eq_true,Nat.ble_eq] at hp
       exact hp.1
      have hmod:=Nat.mod_lt (decNum b s i 1 0).1 (show 0<pts.length+1 by omega)
      have had:=adapt_le ((decNum b s i 1 0).1-i) (pts.length+1) (!st) (by omega)
      have:=ih (decNum b s i 1 0).2.1 (insAt pts ((decNum b s i 1 0).1 % (pts.length+1)) (n+(decNum b s i 1 0).1 / (pts.length+1))) (n+(decNum b s i 1 0).1 / (pts.length+1)) ((decNum b s i 1 0).1 % (pts.length+1)+1) (adapt ((decNum b s i 1 0).1-i) (pts.length+1) (!st)) f true (by omega) (by omega) (by omega) (by rw [insAt_len];omega) hn' (by omega) had
      obtain ⟨p1,p2⟩:=this
      refine ⟨fun h=>?_,fun h=>?_⟩
      ·obtain ⟨s',n',i',b',st',e⟩:=p1 h
       refine ⟨s',n',i',b',st',fun R k0 k1=>?_⟩
       rw [start,hok]
       exact e R k0 k1
      ·obtain ⟨pe,l,s',n',i',b',st',e⟩:=p2 h
       refine ⟨pe,l,s',n',i',b',st',fun R k0 k1=>?_⟩
       rw [start,hok]
       exact e R k0 k1
   ·rw [decGoP_err hs pts n i b (!st) he]
    refine ⟨fun h=>absurd h he,fun _=>⟨rfl,D.2.l,D.2.rest,D.2.n,D.2.i,D.2.b,D.2.st,fun R k0 k1=>?_⟩⟩
    rw [start,d1 he,show (((decNum b s i 1 0).2.2:Int) != 0)=true by rw [bne_iff_ne];omega]
    rfl
theorem natR_natE (l:List Nat):natR l=natE l:=rfl
theorem pdec_ascii {R:Type} {k0:Unit→Option R} {k1:By→Option R} (s:By) (hs:s.length≤1000000):∀ (r i n:Nat),i+r=s.length→r<n→
  pdec_l0 LF n s (s.length:Int) (i:Int) k0 k1=if (s.drop i).any (fun b=>Nat.ble 128 b.toNat) then k0 () else k1 s:=by
 intro r
 induction r with
 | zero=>
  intro i n hi hn
  obtain ⟨n,rfl⟩:∃ m,n=m+1:=⟨n-1,by omega⟩
  rw [pdec_l0_s]
  unfold pdec_l0f
  rw [ltI_f (by omega),List.drop_of_length_le (by omega)]
  rfl
 | succ r ih=>
  intro i n hi hn
  obtain ⟨n,rfl⟩:∃ m,n=m+1:=⟨n-1,by omega⟩
  rw [pdec_l0_s]
  unfold pdec_l0f
  have e1:wi64 ((i:Int)+1)=((i+1:Nat):Int):=by rw [wi64_id (by omega) (by omega)];rfl
  rw [ltI_t (by omega),inR_t (by omega) (by omega),bAt_nat,drop_cons s i (by omega),e1,List.any_cons]
  simp only [cond_true]
  generalize s.getD i 0=b
  by_cases h:128≤b.toNat
  ·rw [ltI_f (by omega),Nat.ble_eq_true_of_le h]
   rfl
  ·have:Nat.ble 128 b.toNat=false:=by rw [Bool.eq_false_iff,ne_eq,Nat.ble_eq];exact h
   rw [ltI_t (by omega),this,Bool.false_or]
   exact ih (i+1) n (by omega) (by omega)
theorem pdec_copy {R:Type} {k0:By→Int→LL→Option R} (s:By) (hs:s.length≤1000000) (k:Nat) (hk:k≤s.length):∀ (r i n:Nat) (l:List Nat),i+r=k→r<n→l.length=i→
  pdec_l1 LF n s (k:Int) (i:Int) (natE l) k0=k0 s (k:Int) (natE (l++((s.take k).drop i).map (·.toNat))):=by
 intro r
 induction r with
 | zero=>
  intro i n l hi hn hl
  obtain ⟨n,rfl⟩:∃ m,n=m+1:=⟨n-1,by omega⟩
  rw [pdec_l1_s]
  unfold pdec_l1f
  rw [ltI_f (by omega),List.drop_of_length_le (by rw [List.length_take];omega)]
  simp
 | succ r ih=>
  intro i n l hi hn hl
  obtain ⟨n,rfl⟩:∃ m,n=m+1:=⟨n-1,by omega⟩
  rw [pdec_l1_s]
  unfold pdec_l1f
  have e1:wi64 ((i:Int)+1)=((i+1:Nat):Int):=by rw [wi64_id (by omega) (by omega)];rfl
  have hd:(s.take k).drop i=s.getD i 0::(s.take k).drop (i+1):=by
   rw [drop_cons (s.take k) i (by rw [List.length_take];omega)]
   congr 1
   rw [List.getD_eq_getElem?_getD,List.getD_eq_getElem?_getD,List.getElem?_take_of_lt (by omega)]
  rw [ltI_t (by omega),inR_t (by omega) (by omega),bAt_nat,hd,natE_len,roomy_of (by omega),e1]
  simp only [cond_true]
  generalize s.getD i 0=b
  have hb:=b.toNat_lt
  have e2:wi64 (b.toNat:Int)=(b.toNat:Int):=wi64_id (by omega) (by omega)
  have hrow:natE l++[[SV.int .i64 (wi64 (b.toNat:Int))]]=natE (l++[b.toNat]):=by rw [e2,natE_app];rfl
  rw [hrow,ih (i+1) n _ (by omega) (by omega) (by simp;omega)]
  simp
theorem lastDash_lt:∀ s:By,lastDash s≤s.length-1
 | []=>by simp [lastDash]
 | b::r=>by
  have:=lastDash_lt r
  unfold lastDash
  split
  ·rename_i h
   have:0<r.length:=List.length_pos_of_mem h
   rw [List.length_cons];omega
  ·omega
theorem pdec_cases (s:By) (h0:small s.length=true):(∃ e,decP s=([],e)∧∀ (R:Type) (k0:Int→Option R) (k1:Int→LL→By→Int→Int→Int→Bool→Option R) (k2:LL→By→Int→Int→Int→Bool→Option R),pdec LF s k0 k1 k2=k0 (e:Nat))∨
  (∃ e l s' n' i' b' st',decP s=([],e)∧∀ (R:Type) (k0:Int→Option R) (k1:Int→LL→By→Int→Int→Int→Bool→Option R) (k2:LL→By→Int→Int→Int→Bool→Option R),pdec LF s k0 k1 k2=k1 (e:Nat) l s' n' i' b' st')∨
  ((decP s).2=0∧∃ s' n' i' b' st',∀ (R:Type) (k0:Int→Option R) (k1:Int→LL→By→Int→Int→Int→Bool→Option R) (k2:LL→By→Int→Int→Int→Bool→Option R),pdec LF s k0 k1 k2=k2 (natE (decP s).1) s' n' i' b' st'):=by
 have hLF:=LF_big
 unfold decP
 by_cases hl:1024<s.length
 ·rw [if_pos hl]
  refine .inl ⟨3,rfl,fun R k0 k1 k2=>?_⟩
  unfold pdec
  rw [ltI_t (by omega)]
  rfl
 ·rw [if_neg hl]
  have asc:=fun (R:Type) (K0:Unit→Option R) (K1:By→Option R)=>pdec_ascii (k0:=K0) (k1:=K1) s (by omega) s.length 0 LF (by omega) (by omega)
  rw [List.drop_zero] at asc
  cases ha:s.any (fun b=>Nat.ble 128 b.toNat) with
  | true=>
   rw [if_pos rfl]
   refine .inl ⟨4,rfl,fun R k0 k1 k2=>?_⟩
   unfold pdec
   rw [ltI_f (by omega),cond_false]
   refine Eq.trans (asc R _ _) ?_
   rw [ha,if_pos rfl]
   rfl
  | false=>
   rw [if_neg (by simp)]
   obtain ⟨d1,d2⟩:=lastDash_eq s
   have hlt:=lastDash_lt s
   have key:∀ (pts:List Nat) (t:By),pts.length≤256→t.length≤1024→(∀ (R:Type) (k0:Int→Option R) (k1:Int→LL→By→Int→Int→Int→Bool→Option R) (k2:LL→By→Int→Int→Int→Bool→Option R),pdec LF s k0 k1 k2=pdec_l2 LF LF (natE pts) t 128 0 72 false k1 k2)→
     (∃ e l s' n' i' b' st',decGoP t pts 128 0 72 true=([],e)∧∀ (R:Type) (k0:Int→Option R) (k1:Int→LL→By→Int→Int→Int→Bool→Option R) (k2:LL→By→Int→Int→Int→Bool→Option R),pdec LF s k0 k1 k2=k1 (e:Nat) l s' n' i' b' st')∨
     ((decGoP t pts 128 0 72 true).2=0∧∃ s' n' i' b' st',∀ (R:Type) (k0:Int→Option R) (k1:Int→LL→By→Int→Int→Int→Bool→Option R) (k2:LL→By→Int→Int→Int→Bool→Option R),pdec LF s k0 k1 k2=k2 (natE (decGoP t pts 128 0 72 true).1) s' n' i' b' st'):=by
    intro pts t hp ht he
    obtain ⟨p1,p2⟩:=pdec_loop t.length t pts 128 0 72 LF false (Nat.le_refl _) (by omega) (by omega) hp (by omega) (by omega) (by omega)
    rw [Bool.not_false] at p1 p2
    by_cases hz:(decGoP t pts 128 0 72 true).2=0
    ·obtain ⟨s',n',i',b',st',e⟩:=p1 hz
     exact .inr ⟨hz,s',n',i',b',st',fun R k0 k1 k2=>by rw [he];exact e R k1 k2⟩
    ·obtain ⟨pe,l,s',n',i',b',st',e⟩:=p2 hz
     exact .inl ⟨_,l,s',n',i',b',st',Prod.ext pe rfl,fun R k0 k1 k2=>by rw [he];exact e R k1 k2⟩
   have hu:u8n 45=45:=rfl
   have top:∀ (R:Type) (k0:Int→Option R) (k1:Int→LL→By→Int→Int→Int→Bool→Option R) (k2:LL→By→Int→Int→Int→Bool→Option R),pdec LF s k0 k1 k2 =
     cond (ltI 0 (lastI 45 s)) (pdec_l1 LF LF s (lastI 45 s) 0 [] (fun s'5 k'6 l'7=>cond (sub3 (wi64 (k'6+1)) (s'5.length:Int) s'5.length)
      (vl (cut s'5 (wi64 (k'6+1)) (s'5.length:Int)) fun s'8=>cond (ltI 256 (l'7.length:Int)) (k1 3 l'7 s'8 128 0 72 false) (pdec_l2 LF LF l'7 s'8 128 0 72 false k1 k2)) none))
      (pdec_l2 LF LF [] s 128 0 72 false k1 k2):=by
    intro R k0 k1 k2
    unfold pdec
    rw [ltI_f (by omega),cond_false]
    refine Eq.trans (asc R _ _) ?_
    rw [ha,if_neg (by simp),h0,hu]
    rfl
   by_cases hd:0<lastDash s
   ·have hmem:45∈s:=by
     apply Classical.byContradiction
     intro h
     have:=(d2 h).2
     omega
    have hI:=d1 hmem
    generalize lastDash s=m at *
    have hcopy:=fun (R:Type) (K:By→Int→LL→Option R)=>pdec_copy (k0:=K) s (by omega) m (by omega) m 0 LF [] (by omega) (by omega) rfl
    rw [List.drop_zero] at hcopy
    have e1:wi64 ((m:Int)+1)=((m+1:Nat):Int):=by rw [wi64_id (by omega) (by omega)];rfl
    have hlen:((s.take m).map (·.toNat)).length=m:=by rw [List.length_map,List.length_take];omega
    have top2:∀ (R:Type) (k0:Int→Option R) (k1:Int→LL→By→Int→Int→Int→Bool→Option R) (k2:LL→By→Int→Int→Int→Bool→Option R),pdec LF s k0 k1 k2 =
      cond (ltI 256 (m:Int)) (k1 3 (natE ((s.take m).map (·.toNat))) (s.drop (m+1)) 128 0 72 false) (pdec_l2 LF LF (natE ((s.take m).map (·.toNat))) (s.drop (m+1)) 128 0 72 false k1 k2):=by
     intro R k0 k1 k2
     rw [top,hI,ltI_t (by omega),cond_true]
     refine Eq.trans (hcopy R _) ?_
     rw [e1,sub3_t (by omega) (by omega) (by omega),cut_nat,List.take_length,List.nil_append,natE_len,hlen]
     rfl
    by_cases h256:256<m
    ·rw [if_pos h256]
     refine .inr (.inl ⟨3,natE ((s.take m).map (·.toNat)),s.drop (m+1),128,0,72,false,rfl,fun R k0 k1 k2=>?_⟩)
     rw [top2,ltI_t (by omega)]
     rfl
    ·rw [if_neg h256,if_neg (show ¬ m=0 by omega)]
     exact .inr (key _ (s.drop (m+1)) (by rw [hlen];omega) (by rw [List.length_drop];omega) (fun R k0 k1 k2=>by rw [top2,ltI_f (by omega)];rfl))
   ·have hz:lastDash s=0:=by omega
    have hI:¬ 0<lastI 45 s:=by
     by_cases hm:45∈s
     ·rw [d1 hm,hz];omega
     ·rw [(d2 hm).1];omega
    rw [hz,if_neg (by omega),if_pos rfl]
    refine .inr (key [] s (by simp) (by omega) (fun R k0 k1 k2=>?_))
    rw [top,ltI_f (by omega)]
    rfl
theorem natE_isEmpty (l:List Nat):(natE l).isEmpty=l.isEmpty:=by cases l<;>rfl
theorem pdec_sp (s:By) (h0:small s.length=true):∃ r H,pdec LF s (fun r0=>rv (.tup [.fl 0,.s (.int .i64 r0)]) [.arr true 3 1 []]) (fun r0 l1 s2 n3 n4 n5 b6=>rv (.tup [.fl 2,.s (.int .i64 r0)]) [.arr true 3 1 l1,.box [.s (.str s2),.fl 0,.s (.int .i64 n3),.s (.int .i64 n4),.s (.int .i64 n5),.s (.bool b6)],.arr true 3 1 []]) (fun l0 s1 n2 n3 n4 b5=>rv (.tup [.fl 0,.s (.int .i64 (0:Int))]) [.arr true 3 1 l0,.box [.s (.str s1),.fl 0,.s (.int .i64 n2),.s (.int .i64 n3),.s (.int .i64 n4),.s (.bool b5)]])=rv r H∧
  r.stab [1,0] H = .tup [.s (.sl (decP s).1.isEmpty (decP s).1.isEmpty 1 (natR (decP s).1)),.s (.int .i64 ((decP s).2:Nat))]:=by
 rcases pdec_cases s h0 with ⟨e,h1,h2⟩ | ⟨e,l,s',n',i',b',st',h1,h2⟩ | ⟨h1,s',n',i',b',st',h2⟩
 ·refine ⟨_,_,h2 _ _ _ _,?_⟩
  rw [h1]
  rfl
 ·refine ⟨_,_,h2 _ _ _ _,?_⟩
  rw [h1]
  rfl
 ·refine ⟨_,_,h2 _ _ _ _,?_⟩
  rw [h1,natR_natE]
  simp [PV.stab,fixC,fix1,PV.snap,snapL,natE_isEmpty]
end Go.Proofs.YtokehocipgepnaaGreatDoor.E
namespace Go.Proofs.YtokehocipgepnaaGreatDoor.E
open Go
set_option linter.unusedVariables false
theorem join_cons2 (x y:By) (r:List By) (p:By):Lib.join (x::y::r) p=x++(p++Lib.join (y::r) p):=by
 simp [Lib.join,List.intercalate]
theorem lower_len (s:By):(lower s).length=s.length:=List.length_map _
theorem lower_getD (s:By) (i:Nat):(lower s).getD i 0=lowB (s.getD i 0):=by
 unfold lower
 simp only [List.getD_eq_getElem?_getD,List.getElem?_map]
 cases s[i]?<;>rfl
theorem lower_nil {s:By}:lower s=[]↔s=[]:=by unfold lower;simp
theorem lower_drop (s:By) (i:Nat):(lower s).drop i=lower (s.drop i):=by unfold lower;rw [List.map_drop]
theorem lblByte_iff (b:UInt8):lblByte b=true↔(97≤b.toNat∧b.toNat≤122)∨(48≤b.toNat∧b.toNat≤57)∨b=45∨b=95:=by
 simp [lblByte,or_assoc]
structure VL (s:By):Prop where
 ne:s≠[]
 le:s.length≤63
 byt:∀ b∈s,lblByte b=true
theorem validL_VL {s:By} (h:validL s=true):VL s:=by
 unfold validL at h
 simp only [Bool.and_eq_true,Bool.not_eq_true',List.all_eq_true] at h
 obtain ⟨⟨⟨⟨⟨h1,h2⟩,h3⟩,h4⟩,h5⟩,h6⟩:=h
 refine ⟨by intro e;subst e;simp at h1,Nat.le_of_ble_eq_true h2,fun b hb=>h5 b hb⟩
def sh (n:Nat) (i:Int):Int:=if i = -1 then -1 else i+n
theorem v6_len (a:List Nat) (h8:a.length=8) (h:∀ x∈a,x<65536):(v6Fmt a).length≤90:=by
 unfold v6Fmt
 split
 ·have:=joinH_len a h
  omega
 ·have h1:=joinH_len (a.take (zGo a 0 0 0).1) (fun x hx=>h x (List.mem_of_mem_take hx))
  have h2:=joinH_len (a.drop ((zGo a 0 0 0).1+(zGo a 0 0 0).2)) (fun x hx=>h x (List.mem_of_mem_drop hx))
  simp only [List.length_take,List.length_drop,List.length_append,List.length_cons] at *
  omega
theorem toAsc_ok {s:By} (h:(toAsc s).2=0):validL (toAsc s).1=true:=by
 unfold toAsc at h ⊢
 cases hp:ptsB s with
 | none=>rw [hp] at h;simp at h
 | some p=>
  rw [hp] at h
  simp only at h ⊢
  split at h
  ·simp at h
  ·rename_i h1
   rw [if_neg h1]
   split at h
   ·rename_i h2
    rw [if_pos h2]
    cases hq:ptsB (lower s) with
    | none=>rw [hq] at h;simp at h
    | some q=>
     rw [hq] at h
     simp only at h ⊢
     split at h
     ·rename_i h3
      rw [if_pos h3]
      split at h
      ·rename_i h4
       rw [if_pos h4]
       exact h4
      ·simp at h
     ·simp at h
   ·rename_i h2
    rw [if_neg h2]
    split at h
    ·rename_i h3
     rw [if_pos h3]
     exact h3
    ·simp at h
theorem asciis_ok:∀ l:List By,(asciis l).2=0→(∀ x∈(asciis l).1,validL x=true)∧(asciis l).1.length=l.length
 | [],_=>⟨by simp [asciis],rfl⟩
 | x::r,h=>by
  unfold asciis at h ⊢
  by_cases hx:(toAsc x).2=0
  ·rw [if_pos hx] at h ⊢
   obtain ⟨h1,h2⟩:=asciis_ok r h
   refine ⟨fun y hy=>?_,by simp [h2]⟩
   rcases List.mem_cons.1 hy with rfl | hy
   ·exact toAsc_ok hx
   ·exact h1 y hy
  ·rw [if_neg hx] at h
   exact absurd h hx
theorem ptsGo_valid:∀ (f:Nat) (l:By),Lib.validGoD f l=(ptsGo f l).isSome
 | 0,_=>rfl
 | f+1,l=>by
  unfold Lib.validGoD ptsGo
  split
  ·rfl
  ·split
   ·rfl
   ·rw [ptsGo_valid f,Option.isSome_map]
theorem validD_pts (l:By):Lib.validD l=(ptsB l).isSome:=ptsGo_valid _ l
theorem ptsGo_fuel:∀ (n m:Nat) (l:By),l.length≤n→l.length≤m→ptsGo n l=ptsGo m l
 | 0,m,l,hn,_=>by
  have:l=[]:=List.length_eq_zero_iff.1 (by omega)
  subst this;cases m<;>simp [ptsGo]
 | n+1,0,l,_,hm=>by
  have:l=[]:=List.length_eq_zero_iff.1 (by omega)
  subst this;simp [ptsGo]
 | n+1,m+1,l,hn,hm=>by
  unfold ptsGo
  split
  ·rfl
  ·rename_i hne
   have hw:=Lib.decodeL_width l
   have hl:0<l.length:=List.length_pos_iff.2 hne
   rw [ptsGo_fuel n m (l.drop (Lib.decodeL l).2) (by rw [List.length_drop];omega) (by rw [List.length_drop];omega)]
theorem ptsB_step (l:By) (hne:l≠[]):ptsB l=if (Lib.decodeL l).1=65533∧(Lib.decodeL l).2=1 then none else (ptsB (l.drop (Lib.decodeL l).2)).map ((Lib.decodeL l).1::·):=by
 have hl:0<l.length:=List.length_pos_iff.2 hne
 have hw:=Lib.decodeL_width l
 obtain ⟨n,hn⟩:∃ n,l.length=n+1:=⟨l.length-1,by omega⟩
 unfold ptsB
 rw [hn]
 conv=>lhs;unfold ptsGo
 rw [if_neg hne,ptsGo_fuel n (l.drop (Lib.decodeL l).2).length _ (by rw [List.length_drop];omega) (Nat.le_refl _)]
theorem runes_pts:∀ (f:Nat) (s:ByteArray) (pos:Nat) (p:List Nat),pos≤s.size→ptsGo f (s.data.toList.drop pos)=some p→s.size-pos≤f→Lib.runeCountFrom s f pos=p.length
 | 0,s,pos,p,hp,h,hf=>by
  simp only [ptsGo,Option.some.injEq] at h
  subst h;rfl
 | f+1,s,pos,p,hp,h,hf=>by
  have hsz:s.data.toList.length=s.size:=by rw [Array.length_toList];rfl
  unfold ptsGo at h
  rw [Lib.decodeL_drop] at h
  by_cases hps:pos<s.size
  ·rw [if_neg (by rw [←List.length_eq_zero_iff,List.length_drop];omega)] at h
   split at h
   ·cases h
   ·cases hq:ptsGo f (List.drop (Utf8.decode s pos).2 (List.drop pos s.data.toList)) with
    | none=>rw [hq] at h;cases h
    | some q=>
     rw [hq] at h
     simp only [Option.map_some,Option.some.injEq] at h
     subst h
     have hw:=Lib.decode_width_pos s pos hps
     have hwl:pos+(Utf8.decode s pos).2≤s.size:=by
      have:=Lib.decodeL_le (s.data.toList.drop pos) (by rw [ne_eq,←List.length_eq_zero_iff,List.length_drop];omega)
      rw [Lib.decodeL_drop,List.length_drop] at this
      omega
     rw [List.drop_drop] at hq
     unfold Lib.runeCountFrom
     rw [if_pos hps,runes_pts f s _ q hwl hq (by omega)]
     simp;omega
  ·rw [if_pos (by rw [←List.length_eq_zero_iff,List.length_drop];omega)] at h
   simp only [Option.some.injEq] at h
   subst h
   rw [Lib.runeCountFrom_end s _ _ hps];rfl
theorem runeCountL_pts {l:By} {p:List Nat} (h:ptsB l=some p):Lib.runeCountL l=p.length:=by
 unfold Lib.runeCountL Lib.runeCount
 have hs:(ByteArray.mk l.toArray).size=l.length:=by simp [ByteArray.size]
 refine runes_pts _ _ 0 p (Nat.zero_le _) ?_ (by omega)
 rw [hs,List.drop_zero]
 simpa [ptsB] using h
open Lib in theorem dec2 (n b0 b1 b2 b3:Nat) (hb:194≤b0∧b0<224) (h1:b1<256):decodeN n b0 b1 b2 b3=if 2≤n∧128≤b1∧b1≤191 then ((b0-192)*64+b1-128,2) else (65533,1):=by
 unfold decodeN
 rw [if_neg (by omega)]
 by_cases hc:2≤n∧128≤b1∧b1≤191
 ·rw [if_pos hc,if_pos (by omega),if_pos (by omega)]
  exact Prod.ext (by show b0 % 32*64+b1 % 64=(b0-192)*64+b1-128;omega) rfl
 ·rw [if_neg hc,if_neg (by omega),if_neg (by omega),if_neg (by omega)]
open Lib in theorem dec3 (n b0 b1 b2 b3:Nat) (hb:224≤b0∧b0<240) (h1:b1<256) (h2:b2<256):decodeN n b0 b1 b2 b3=if 3≤n∧(128≤b1∧b1≤191)∧(128≤b2∧b2≤191) then
  (if 2048≤((b0-224)*64+b1-128)*64+b2-128∧isPt (((b0-224)*64+b1-128)*64+b2-128)=true then (((b0-224)*64+b1-128)*64+b2-128,3) else (65533,1)) else (65533,1):=by
 unfold decodeN
 rw [if_neg (by omega),if_neg (by omega)]
 by_cases hc:3≤n∧(128≤b1∧b1≤191)∧(128≤b2∧b2≤191)
 ·rw [if_pos hc,if_pos (by omega)]
  have e:b0 % 16*4096+b1 % 64*64+b2 % 64=((b0-224)*64+b1-128)*64+b2-128:=by omega
  rw [e]
  generalize ((b0-224)*64+b1-128)*64+b2-128=v
  congr 1
  simp only [isPt,Bool.and_eq_true,Bool.or_eq_true,Nat.ble_eq,Nat.blt_eq]
  apply propext;omega
 ·rw [if_neg hc,if_neg (by omega),if_neg (by omega)]
open Lib in theorem dec4 (n b0 b1 b2 b3:Nat) (hb:240≤b0∧b0<245) (h1:b1<256) (h2:b2<256) (h3:b3<256):decodeN n b0 b1 b2 b3=if 4≤n∧(128≤b1∧b1≤191)∧(128≤b2∧b2≤191)∧(128≤b3∧b3≤191) then
  (if 65536≤(((b0-240)*64+b1-128)*64+b2-128)*64+b3-128∧isPt ((((b0-240)*64+b1-128)*64+b2-128)*64+b3-128)=true then ((((b0-240)*64+b1-128)*64+b2-128)*64+b3-128,4) else (65533,1)) else (65533,1):=by
 unfold decodeN
 rw [if_neg (by omega),if_neg (by omega),if_neg (by omega)]
 by_cases hc:4≤n∧(128≤b1∧b1≤191)∧(128≤b2∧b2≤191)∧(128≤b3∧b3≤191)
 ·rw [if_pos hc,if_pos (by omega)]
  have e:b0 % 8*262144+b1 % 64*4096+b2 % 64*64+b3 % 64=(((b0-240)*64+b1-128)*64+b2-128)*64+b3-128:=by omega
  rw [e]
  generalize (((b0-240)*64+b1-128)*64+b2-128)*64+b3-128=v
  congr 1
  simp only [isPt,Bool.and_eq_true,Bool.or_eq_true,Nat.ble_eq,Nat.blt_eq]
  apply propext;omega
 ·rw [if_neg hc,if_neg (by omega)]
end Go.Proofs.YtokehocipgepnaaGreatDoor.E
namespace Go.Proofs.YtokehocipgepnaaGreatDoor.E
open Go Go.Proofs
set_option linter.unusedVariables false
set_option linter.unusedSimpArgs false
theorem encI_nat (l:List Nat):encI (l.map fun n:Nat=>(n:Int))=encP l:=by
 have h1:(l.map fun n:Nat=>(n:Int)).all ptI=l.all isPt:=by
  rw [List.all_map]
  congr 1
 have h2:(l.map fun n:Nat=>(n:Int)).map Int.toNat=l:=by
  rw [List.map_map]
  exact (List.map_congr_left fun a _=>by simp).trans (List.map_id l)
 unfold encI
 rw [List.length_map,h1,h2]
 by_cases h:256<l.length
 ·rw [if_pos h];unfold encP;rw [if_pos h]
 ·rw [if_neg h]
  cases hp:l.all isPt with
  | true=>rw [if_pos rfl]
  | false=>
   rw [if_neg (by simp)]
   unfold encP
   rw [if_neg h,hp]
   rfl
theorem elI_natE (l:List Nat):(natE l).map elI=l.map fun n:Nat=>(n:Int):=by
 unfold natE
 rw [List.map_map]
 exact List.map_congr_left fun a _=>rfl
theorem all_isI64_nat (l:List Nat):(natE l).all isI64=true:=by
 unfold natE
 rw [List.all_map,List.all_eq_true]
 intro x _
 rfl
theorem lprop_loop {R:Type} {k0:Unit→Option R} {k1:By→Bool→LL→Bool→Option R} (s:By) (z:Bool) (p:List Nat) (hp:p.length≤1000000000):∀ (r i n:Nat) (b:Bool),i+r=p.length→r<n→
  lprop_l0 LF n s z (natE p) b (p.length:Int) (i:Int) k0 k1=if (p.drop i).any (fun p=>Nat.ble 65 p&&Nat.ble p 90) then k0 () else k1 s z (natE p) (b && !((p.drop i).any fun p=>Nat.ble 128 p)):=by
 intro r
 induction r with
 | zero=>
  intro i n b hi hn
  obtain ⟨n,rfl⟩:∃ m,n=m+1:=⟨n-1,by omega⟩
  rw [lprop_l0_s]
  unfold lprop_l0f
  rw [ltI_f (by omega),List.drop_of_length_le (by omega)]
  simp
 | succ r ih=>
  intro i n b hi hn
  obtain ⟨n,rfl⟩:∃ m,n=m+1:=⟨n-1,by omega⟩
  rw [lprop_l0_s]
  unfold lprop_l0f
  have e1:wi64 ((i:Int)+1)=((i+1:Nat):Int):=by rw [wi64_id (by omega) (by omega)];rfl
  have hd:p.drop i=p.getD i 0::p.drop (i+1):=by
   rw [List.getD_eq_getElem?_getD,List.getElem?_eq_getElem (by omega),Option.getD_some,List.getElem_cons_drop]
  rw [ltI_t (by omega),natE_len,inR_t (by omega) (by omega),Int.toNat_natCast,okE_nat (by omega),gE_nat _ _ (by omega),hd,List.any_cons,List.any_cons,e1]
  simp only [cond_true,vl]
  generalize p.getD i 0=q
  have go:∀ c:Bool,lprop_l0 LF n s z (natE p) c (p.length:Int) ((i+1:Nat):Int) k0 k1=_:=fun c=>ih (i+1) n c (by omega) (by omega)
  by_cases h1:q<65
  ·rw [ltI_t (by omega),show Nat.ble 65 q=false by rw [Bool.eq_false_iff,ne_eq,Nat.ble_eq];omega]
   have h2:Nat.ble 128 q=false:=by rw [Bool.eq_false_iff,ne_eq,Nat.ble_eq];omega
   rw [show ltI (q:Int) (128:Int)=true from ltI_t (by omega),h2]
   simp only [Bool.not_true,cond_false,Bool.false_and,Bool.false_or]
   cases b<;>simp only [cond_true,cond_false]<;>rw [go]
  ·rw [ltI_f (by omega),show Nat.ble 65 q=true by rw [Nat.ble_eq];omega]
   simp only [Bool.not_false,cond_true,Bool.true_and]
   by_cases h2:90<q
   ·rw [ltI_t (by omega),show Nat.ble q 90=false by rw [Bool.eq_false_iff,ne_eq,Nat.ble_eq];omega]
    simp only [Bool.not_true,cond_false,Bool.false_or]
    by_cases h3:q<128
    ·rw [show ltI (q:Int) (128:Int)=true from ltI_t (by omega),show Nat.ble 128 q=false by rw [Bool.eq_false_iff,ne_eq,Nat.ble_eq];omega]
     cases b<;>simp only [cond_true,cond_false,Bool.false_or]<;>rw [go]
    ·rw [show ltI (q:Int) (128:Int)=false from ltI_f (by omega),show Nat.ble 128 q=true by rw [Nat.ble_eq];omega]
     cases b<;>simp only [cond_true,cond_false,Bool.true_or,Bool.not_true,Bool.and_false]<;>rw [go]<;>simp
   ·rw [ltI_f (by omega),show Nat.ble q 90=true by rw [Nat.ble_eq];omega]
    simp
theorem decGoP_len:∀ (m:Nat) (s:By) (pts:List Nat) (n i b:Nat) (f:Bool),s.length≤m→pts.length≤256→(decGoP s pts n i b f).1.length≤256:=by
 intro m
 induction m with
 | zero=>
  intro s pts n i b f hs hp
  obtain rfl:=List.length_eq_zero_iff.1 (Nat.le_zero.1 hs)
  rw [decGoP_nil]
  exact hp
 | succ m ih=>
  intro s pts n i b f hs hp
  by_cases h:s=[]
  ·subst h
   rw [decGoP_nil]
   exact hp
  ·by_cases hq:(decNum b s i 1 0).2.2=0
   ·rw [decGoP_step h _ _ _ _ _ hq]
    have hlt:=decNum_lt b s i 1 0 hq
    split
    ·split
     ·exact Nat.zero_le _
     ·rename_i h2
      exact ih _ _ _ _ _ _ (by omega) (by rw [insAt_len];omega)
    ·exact Nat.zero_le _
   ·rw [decGoP_err h _ _ _ _ _ hq]
    exact Nat.zero_le _
theorem decP_len (s:By):(decP s).1.length≤256:=by
 unfold decP
 split
 ·exact Nat.zero_le _
 ·split
  ·exact Nat.zero_le _
  ·split
   ·exact Nat.zero_le _
   ·rename_i h
    exact decGoP_len _ _ _ _ _ _ _ (Nat.le_refl _) (by rw [List.length_map,List.length_take];omega)
theorem lprop_spec {R:Type} {k0:Bool→Option R} (s:By) (h0:small s.length=true):lprop LF s k0=k0 (properB s):=by
 have hLF:=LF_big
 unfold lprop properB
 rw [h0,cond_true]
 by_cases h:(decP s).2=0
 ·have e:(((decP s).2:Int) != (0:Int))=false:=by rw [h];rfl
  rw [e,cond_false,natR_natE,natE_len,h]
  have hl:=decP_len s
  refine Eq.trans (lprop_loop s _ (decP s).1 (by omega) (decP s).1.length 0 LF true (by omega) (by omega)) ?_
  rw [List.drop_zero]
  cases h1:(decP s).1.any (fun p=>Nat.ble 65 p&&Nat.ble p 90) with
  | true=>simp
  | false=>
   rw [if_neg (by simp),all_isI64_nat,elI_natE,encI_nat]
   simp only [cond_true,vl,Bool.true_and,Bool.not_false]
   cases h2:(decP s).1.any (fun p=>Nat.ble 128 p) with
   | false=>simp
   | true=>
    simp only [Bool.not_true,Bool.not_false,cond_true,Bool.and_true,beq_self_eq_true,Bool.true_and]
    by_cases h3:(encP (decP s).1).2=0
    ·rw [h3];simp
    ·have:(((encP (decP s).1).2:Int)==(0:Int))=false:=by simpa using h3
     have h3':((encP (decP s).1).2==0)=false:=by simpa using h3
     rw [this,h3']
     rfl
 ·have e:(((decP s).2:Int) != (0:Int))=true:=by simpa using h
  have h':((decP s).2==0)=false:=by simpa using h
  rw [e,cond_true,h']
  rfl
theorem lval_loop {R:Type} {k0:Unit→Option R} {k1:By→Option R} (s:By) (hs:s.length≤1000000000):∀ (r i n:Nat),i+r=s.length→r<n→
  lval_l0 LF n s (s.length:Int) (i:Int) k0 k1=if (s.drop i).all lblByte then k1 s else k0 ():=by
 intro r
 induction r with
 | zero=>
  intro i n hi hn
  obtain ⟨n,rfl⟩:∃ m,n=m+1:=⟨n-1,by omega⟩
  rw [lval_l0_s]
  unfold lval_l0f
  rw [ltI_f (by omega),List.drop_of_length_le (by omega)]
  rfl
 | succ r ih=>
  intro i n hi hn
  obtain ⟨n,rfl⟩:∃ m,n=m+1:=⟨n-1,by omega⟩
  rw [lval_l0_s]
  unfold lval_l0f
  have e1:wi64 ((i:Int)+1)=((i+1:Nat):Int):=by rw [wi64_id (by omega) (by omega)];rfl
  rw [ltI_t (by omega),inR_t (by omega) (by omega),bAt_nat,drop_cons s i (by omega),e1,List.all_cons]
  simp only [cond_true]
  rw [ih (i+1) n (by omega) (by omega)]
  generalize s.getD i 0=b
  have hb:=lblByte_iff b
  have q1:((b.toNat:Int) != 45) = !(b==45):=congrArg _ (u8_eqn b 45 (by omega))
  have q2:((b.toNat:Int) != 95) = !(b==95):=congrArg _ (u8_eqn b 95 (by omega))
  rw [q1,q2]
  have t:∀ {x:Bool},lblByte b=x→(if (lblByte b&&(s.drop (i+1)).all lblByte)=true then k1 s else k0 ())=if (x&&(s.drop (i+1)).all lblByte)=true then k1 s else k0 ():=fun h=>by rw [h]
  cases hl:lblByte b with
  | true=>
   rw [hb] at hl
   simp only [Bool.true_and]
   by_cases h1:b=45
   ·subst h1
    simp (disch:=decide) [ltI]
   ·by_cases h2:b=95
    ·subst h2
     simp (disch:=decide) [ltI]
    ·rcases hl with hl | hl | hl | hl
     ·rw [show ltI (b.toNat:Int) 97=false from ltI_f (by omega),show ltI (122:Int) b.toNat=false from ltI_f (by omega)];rfl
     ·rw [show ltI (b.toNat:Int) 97=true from ltI_t (by omega),show ltI (b.toNat:Int) 48=false from ltI_f (by omega),show ltI (57:Int) b.toNat=false from ltI_f (by omega)];rfl
     ·exact absurd hl h1
     ·exact absurd hl h2
  | false=>
   have hn:¬ ((97≤b.toNat∧b.toNat≤122)∨(48≤b.toNat∧b.toNat≤57)∨b=45∨b=95):=fun h=>by rw [hb.2 h] at hl;cases hl
   have n1:(b==45)=false:=by simpa using fun h=>hn (.inr (.inr (.inl h)))
   have n2:(b==95)=false:=by simpa using fun h=>hn (.inr (.inr (.inr h)))
   rw [n1,n2]
   simp only [Bool.not_false,cond_true,Bool.false_and,Bool.false_eq_true,if_false]
   by_cases h1:b.toNat<48
   ·rw [show ltI (b.toNat:Int) 97=true from ltI_t (by omega),show ltI (b.toNat:Int) 48=true from ltI_t (by omega)];rfl
   ·by_cases h2:b.toNat<97
    ·rw [show ltI (b.toNat:Int) 97=true from ltI_t (by omega),show ltI (b.toNat:Int) 48=false from ltI_f (by omega),show ltI (57:Int) b.toNat=true from ltI_t (by omega)];rfl
    ·rw [show ltI (b.toNat:Int) 97=false from ltI_f (by omega),show ltI (122:Int) b.toNat=true from ltI_t (by omega),show ltI (b.toNat:Int) 48=false from ltI_f (by omega),show ltI (57:Int) b.toNat=true from ltI_t (by omega)];rfl
theorem lval_spec {R:Type} {k0:Bool→Option R} (s:By) (h0:small s.length=true):lval LF s k0=k0 (validL s):=by
 have hs:=maxL h0
 have hLF:=LF_big
 unfold lval validL
 by_cases h1:s=[]
 ·subst h1
  rw [ltI_t (by simp)]
  rfl
 ·have hl:0<s.length:=List.length_pos_iff.2 h1
  have he:s.isEmpty=false:=by simpa using h1
  rw [ltI_f (by omega),cond_false,he]
  by_cases h2:63<s.length
  ·rw [ltI_t (by omega),show Nat.ble s.length 63=false by rw [Bool.eq_false_iff,ne_eq,Nat.ble_eq];omega]
   rfl
  ·rw [ltI_f (by omega),cond_false,show Nat.ble s.length 63=true by rw [Nat.ble_eq];omega,inR_t (by omega) (by omega)]
   have q1:(bAt s 0==(45:Int))=(s.getD 0 0==45):=by rw [bAt_zero];exact u8_eqn _ 45 (by omega)
   have e1:wi64 ((s.length:Int)-1)=((s.length-1:Nat):Int):=by rw [wi64_id (by omega) (by omega)];omega
   rw [q1,e1]
   simp only [cond_true,vl]
   rw [inR_t (by omega) (by omega),bAt_nat,show ((((s.getD (s.length-1) 0).toNat:Nat):Int)==45)=(s.getD (s.length-1) 0==45) from u8_eqn _ 45 (by omega)]
   cases h3:(s.getD 0 0==45) with
   | true=>
    rw [show (s.getD 0 0 != 45)=false by unfold bne;rw [h3];rfl]
    simp
   | false=>
    rw [show (s.getD 0 0 != 45)=true by unfold bne;rw [h3];rfl]
    simp only [cond_true,cond_false]
    cases h4:(s.getD (s.length-1) 0==45) with
    | true=>
     rw [show (s.getD (s.length-1) 0 != 45)=false by unfold bne;rw [h4];rfl]
     simp
    | false=>
     rw [show (s.getD (s.length-1) 0 != 45)=true by unfold bne;rw [h4];rfl]
     simp only [cond_false]
     refine Eq.trans (lval_loop s hs s.length 0 LF (by omega) (by omega)) ?_
     rw [List.drop_zero]
     cases h5:s.all lblByte with
     | false=>simp
     | true=>
      rw [if_pos rfl,h0,cond_true]
      simp only [Bool.not_false,Bool.true_and,Bool.and_true]
      show cond (!(xnB.isPrefixOf s)) _ _=_
      cases h6:xnB.isPrefixOf s with
      | false=>rfl
      | true=>
       have hc:cutp s xnB=s.drop 4:=by unfold cutp;rw [h6];rfl
       show cond (small (cutp s xnB).length) (k0 (properB (cutp s xnB))) none=_
       rw [hc,small_t (by rw [List.length_drop];omega)]
       rfl
theorem encOut_len (pts:List Nat) (basic:Nat) (hl:pts.length≤256) (hb:basic≤256) (hall:∀ p∈pts,p≤1114111):∀ (f n:Nat) (s:EncS),s.done=pts.countP (fun p=>decide (p<n))→s.delta≤300→s.bias≤500→s.out.length+20*(pts.length-s.done)≤80000→n≤1114112→
  (encOut pts basic f n s).out.length≤80000:=by
 intro f
 have hLF:=LF_big
 induction f with
 | zero=>intro n s hd h1 h2 h3 h4;unfold encOut;omega
 | succ f ih=>
  intro n s hd h1 h2 h3 h4
  have hcl:pts.countP (fun p=>decide (p<n))≤pts.length:=List.countP_le_length
  by_cases hlt:s.done<pts.length
  ·obtain ⟨p0,hp0,hp1⟩:=cnt_lt (n:=n) (l:=pts) (by omega)
   obtain ⟨g1,g2,g3⟩:=leastP_spec n pts 1114112
   have g4:=g3 p0 hp0 hp1
   have g5:=hall p0 hp0
   have hmem:leastP n pts 1114112∈pts∧n≤leastP n pts 1114112:=by
    rcases g1 with g1 | g1
    ·omega
    ·exact g1
   have he:encOut pts basic (f+1) n s=encOut pts basic f (leastP n pts 1114112+1) { encIn (leastP n pts 1114112) basic pts { s with delta:=s.delta+(leastP n pts 1114112-n)*(s.done+1) } with delta:=(encIn (leastP n pts 1114112) basic pts { s with delta:=s.delta+(leastP n pts 1114112-n)*(s.done+1) }).delta+1 }:=by
    rw [encOut,if_pos hlt]
   rw [he]
   generalize leastP n pts 1114112=m at *
   have hmul:(m-n)*(s.done+1)≤1114112*256:=Nat.mul_le_mul (by omega) (by omega)
   have hin:=penc_in false false pts basic m (by omega) hl pts.length 0 LF { s with delta:=s.delta+(m-n)*(s.done+1) } (by omega) (by omega) (by simp only;omega) h2 (by simp only;omega) (by simp only;omega) hb
   rw [List.drop_zero] at hin
   obtain ⟨_,q2,q3,q4,q5⟩:=hin
   have hcnt:0<pts.countP (· == m):=List.countP_pos_iff.2 ⟨m,hmem.1,by simp⟩
   rw [if_pos hcnt] at q5
   have hstep:=cnt_step hmem.2 pts g3
   generalize encIn m basic pts { s with delta:=s.delta+(m-n)*(s.done+1) } = s' at *
   simp only at q3 q4
   have hcl2:pts.countP (fun p=>decide (p<m+1))≤pts.length:=List.countP_le_length
   exact ih (m+1) { s' with delta:=s'.delta+1 } (by simp only;omega) (by simp only;omega) q2 (by simp only;omega) (by omega)
  ·rw [encOut,if_neg hlt];omega
theorem encP_len (p:List Nat):(encP p).1.length≤80000:=by
 unfold encP
 split
 ·exact Nat.zero_le _
 ·rename_i h
  split
  ·exact Nat.zero_le _
  ·rename_i h2
   have hp:∀ q∈p,q≤1114111:=fun q hq=>by
    have h2:p.all isPt=true:=by simpa using h2
    have:=List.all_eq_true.1 h2 q hq
    simp only [isPt,Bool.and_eq_true,Nat.ble_eq] at this
    exact this.1
   have hbl:=basicB_len p
   have hbc:p.countP (fun q=>decide (q<128))≤p.length:=List.countP_le_length
   refine encOut_len p _ (by omega) (by omega) hp 256 128 _ hbl (by simp) (by simp) ?_ (by omega)
   simp only
   split
   ·simp;omega
   ·simp;omega
theorem lowB_hi {b:UInt8} (h:128≤b.toNat):lowB b=b:=by
 rcases lowB_cases b with ⟨_,e⟩ | ⟨_,e⟩ | ⟨_,h2,_⟩
 ·exact e
 ·exact e
 ·omega
theorem lowB_lo {b:UInt8} (h:b.toNat<128):(lowB b).toNat<128:=by
 rcases lowB_cases b with ⟨_,e⟩ | ⟨_,e⟩ | ⟨_,h2,e⟩
 ·rw [e];exact h
 ·rw [e];exact h
 ·omega
theorem decN_lowB (n:Nat) (b0 b1 b2 b3:UInt8) (h:128≤b0.toNat):Lib.decodeN n b0.toNat (lowB b1).toNat (lowB b2).toNat (lowB b3).toNat=Lib.decodeN n b0.toNat b1.toNat b2.toNat b3.toNat:=by
 have k1:∀ b:UInt8,b.toNat / 64=2→lowB b=b:=fun b hb=>lowB_hi (by omega)
 have k2:∀ b:UInt8,¬ b.toNat / 64=2→¬ (lowB b).toNat / 64=2:=fun b hb h=>by
  by_cases h2:128≤b.toNat
  ·rw [lowB_hi h2] at h;exact hb h
  ·have:=lowB_lo (b:=b) (by omega)
   omega
 unfold Lib.decodeN
 by_cases c1:b1.toNat / 64=2
 ·rw [k1 b1 c1]
  by_cases c2:b2.toNat / 64=2
  ·rw [k1 b2 c2]
   by_cases c3:b3.toNat / 64=2
   ·rw [k1 b3 c3]
   ·have:=k2 b3 c3
    simp only [c3,this,and_false,if_false]
  ·have:=k2 b2 c2
   simp only [c2,this,and_false,false_and,if_false]
 ·have:=k2 b1 c1
  simp only [c1,this,and_false,false_and,if_false]
theorem dec_low (l:By) (hne:l≠[]):(Lib.decodeL (lower l)).2=(Lib.decodeL l).2∧(¬ ((Lib.decodeL l).1=65533∧(Lib.decodeL l).2=1)→¬ ((Lib.decodeL (lower l)).1=65533∧(Lib.decodeL (lower l)).2=1)):=by
 cases l with
 | nil=>exact absurd rfl hne
 | cons b t=>
  by_cases hb:b.toNat<128
  ·have e1:=Lib.decodeL_ascii b t hb
   have e2:Lib.decodeL (lower (b::t))=((lowB b).toNat,1):=Lib.decodeL_ascii (lowB b) (lower t) (lowB_lo hb)
   rw [e1,e2]
   refine ⟨rfl,fun _ h=>?_⟩
   have:=lowB_lo hb
   have h:=h.1
   simp only at h
   omega
  ·have e:Lib.decodeL (lower (b::t))=Lib.decodeL (b::t):=by
    rw [Lib.decodeL_N,Lib.decodeL_N,lower_len,lower_getD,lower_getD,lower_getD,lower_getD]
    have e0:lowB ((b::t).getD 0 0)=b:=lowB_hi (b:=b) (show 128≤b.toNat by omega)
    rw [e0]
    exact decN_lowB (b::t).length b ((b::t).getD 1 0) ((b::t).getD 2 0) ((b::t).getD 3 0) (show 128≤b.toNat by omega)
   rw [e]
   exact ⟨rfl,fun h=>h⟩
theorem ptsGo_low:∀ (f:Nat) (l:By),(ptsGo f l).isSome=true→(ptsGo f (lower l)).isSome=true
 | 0,_,_=>rfl
 | f+1,l,h=>by
  unfold ptsGo at h ⊢
  by_cases hl:l=[]
  ·subst hl;rfl
  ·rw [if_neg hl] at h
   rw [if_neg (by rw [lower_nil];exact hl)]
   obtain ⟨d1,d2⟩:=dec_low l hl
   split at h
   ·cases h
   ·rename_i hv
    rw [if_neg (d2 hv),Option.isSome_map,d1,lower_drop]
    rw [Option.isSome_map] at h
    exact ptsGo_low f _ h
theorem ptsB_low {l:By} (h:(ptsB l).isSome=true):(ptsB (lower l)).isSome=true:=by
 unfold ptsB at h ⊢
 rw [lower_len]
 exact ptsGo_low _ _ h
theorem lasc_loop (t:By) (ht:t.length≤1000000000):∀ (f pos:Nat) (P q:List Nat) (n:Nat),pos≤t.length→t.length-pos≤f→f<n→P.length≤pos→ptsGo f (t.drop pos)=some q→
  ∃ m,∀ (R:Type) (k0:LL→By→Nat→Option R),lasc_l0 LF n (natE P) t pos k0=k0 (natE (P++q)) t m:=by
 intro f
 induction f with
 | zero=>
  intro pos P q n h1 h2 h3 h4 h5
  obtain ⟨n,rfl⟩:∃ m,n=m+1:=⟨n-1,by omega⟩
  simp only [ptsGo,Option.some.injEq] at h5
  subst h5
  refine ⟨pos,fun R k0=>?_⟩
  rw [lasc_l0_s]
  unfold lasc_l0f
  rw [decide_eq_false (by omega),cond_false,List.append_nil]
 | succ f ih=>
  intro pos P q n h1 h2 h3 h4 h5
  obtain ⟨n,rfl⟩:∃ m,n=m+1:=⟨n-1,by omega⟩
  by_cases hp:pos<t.length
  ·have hne:t.drop pos≠[]:=by rw [ne_eq,←List.length_eq_zero_iff,List.length_drop];omega
   have hd:=Lib.decodeL_drop ⟨t.toArray⟩ pos
   have hd':Utf8.decode ⟨List.toArray t⟩ pos=Lib.decodeL (t.drop pos):=by rw [←hd]
   unfold ptsGo at h5
   rw [if_neg hne] at h5
   split at h5
   ·cases h5
   ·have hw:=Lib.decodeL_width (t.drop pos)
    have hle:=Lib.decodeL_le (t.drop pos) hne
    have hr:=Lib.decodeL_rune (t.drop pos)
    rw [List.length_drop] at hle
    rw [List.drop_drop] at h5
    generalize Lib.decodeL (t.drop pos)=dd at *
    obtain ⟨c,wd⟩:=dd
    simp only at *
    cases hq:ptsGo f (t.drop (pos+wd)) with
    | none=>rw [hq] at h5;cases h5
    | some q'=>
     rw [hq] at h5
     simp only [Option.map_some,Option.some.injEq] at h5
     subst h5
     obtain ⟨m,e⟩:=ih (pos+wd) (P++[c]) q' n (by omega) (by omega) (by omega) (by simp;omega) hq
     refine ⟨m,fun R k0=>?_⟩
     rw [lasc_l0_s]
     unfold lasc_l0f
     rw [decide_eq_true hp,cond_true,hd',natE_len,roomy_of (by omega)]
     simp only [vl,cond_true]
     have e1:wi64 (c:Int)=(c:Int):=wi64_id (by omega) (by omega)
     have hrow:natE P++[[SV.int .i64 (wi64 (c:Int))]]=natE (P++[c]):=by rw [e1,natE_app];rfl
     rw [hrow,e,List.append_assoc]
     rfl
  ·have hnil:t.drop pos=[]:=by rw [←List.length_eq_zero_iff,List.length_drop];omega
   unfold ptsGo at h5
   rw [hnil,if_pos rfl] at h5
   simp only [Option.some.injEq] at h5
   subst h5
   refine ⟨pos,fun R k0=>?_⟩
   rw [lasc_l0_s]
   unfold lasc_l0f
   rw [decide_eq_false hp,cond_false,List.append_nil]
theorem lasc_cases (s:By) (h0:small s.length=true):(∀ (R:Type) (k0:By→Int→Option R) (k1:By→Int→LL→By→Nat→Option R),lasc LF s k0 k1=k0 (toAsc s).1 ((toAsc s).2:Nat))∨
  (∃ l t m,∀ (R:Type) (k0:By→Int→Option R) (k1:By→Int→LL→By→Nat→Option R),lasc LF s k0 k1=k1 (toAsc s).1 ((toAsc s).2:Nat) l t m):=by
 have hs:=maxL h0
 have hLF:=LF_big
 unfold toAsc
 cases hp:ptsB s with
 | none=>
  refine .inl fun R k0 k1=>?_
  unfold lasc
  rw [h0,hp]
  rfl
 | some p=>
  have hrc:=runeCountL_pts hp
  have top:∀ (R:Type) (k0:By→Int→Option R) (k1:By→Int→LL→By→Nat→Option R),lasc LF s k0 k1=cond (ltI 256 (p.length:Int)) (k0 [] 3) (cond (ltI (p.length:Int) (s.length:Int)) (lasc_l0 LF LF [] (lower s) 0 (fun l'5 s'6 m'7=>cond (List.all l'5 isI64)
      (cond (((encI (List.map elI l'5)).2:Int) != (0:Int))
       (k1 ([]:List UInt8) 14 l'5 s'6 m'7)
       (cond (catOk 4 (List.length ((encI (List.map elI l'5))).1))
        (cond (small (List.length (xnB++((encI (List.map elI l'5))).1)))
         (cond (not (validL (xnB++((encI (List.map elI l'5))).1)))
         (k1 ([]:List UInt8) 14 l'5 s'6 m'7)
         (k1 (xnB++((encI (List.map elI l'5))).1) 0 l'5 s'6 m'7))
         (none))
        (none)))
      (none)))
     (cond (small (List.length (lower s)))
      (cond (not (validL (lower s)))
      (k0 ([]:List UInt8) 14)
      (k0 (lower s) 0))
      (none))):=by
   intro R k0 k1
   unfold lasc
   rw [h0,hp,hrc]
   rfl
  simp only
  by_cases h1:256<p.length
  ·rw [if_pos h1]
   refine .inl fun R k0 k1=>?_
   rw [top,ltI_t (by omega)]
   rfl
  ·rw [if_neg h1]
   by_cases h2:p.length<s.length
   ·rw [if_pos h2]
    have hlow:=ptsB_low (l:=s) (by rw [hp];rfl)
    cases hq:ptsB (lower s) with
    | none=>rw [hq] at hlow;cases hlow
    | some q=>
     have hll:=lower_len s
     obtain ⟨m,e⟩:=lasc_loop (lower s) (by omega) (lower s).length 0 [] q LF (by omega) (by omega) (by omega) (by simp) (by rw [List.drop_zero];exact hq)
     refine .inr ⟨natE q,lower s,m,fun R k0 k1=>?_⟩
     rw [top,ltI_f (by omega),cond_false,ltI_t (by omega),cond_true]
     refine Eq.trans (e R _) ?_
     have hel:=encP_len q
     rw [List.nil_append,all_isI64_nat,elI_natE,encI_nat,cond_true,catOk_t (by omega),cond_true,small_t (by rw [List.length_append];simp only [xnB,List.length_cons,List.length_nil];omega),cond_true]
     simp only
     by_cases h3:(encP q).2=0
     ·rw [h3,if_pos rfl]
      cases h4:validL (xnB++(encP q).1) with
      | true=>rfl
      | false=>rfl
     ·rw [if_neg h3]
      have:(((encP q).2:Int) != (0:Int))=true:=by simpa using h3
      rw [this]
      rfl
   ·rw [if_neg h2]
    refine .inl fun R k0 k1=>?_
    rw [top,ltI_f (by omega),cond_false,ltI_f (by omega),cond_false,small_t (by rw [lower_len];exact hs),cond_true]
    cases validL (lower s)<;>rfl
theorem lasc_sp (s:By) (h0:small s.length=true):∃ r H,lasc LF s (fun r0 r1=>rv (.tup [.s (.str r0),.s (.int .i64 r1)]) []) (fun r0 r1 l2 s3 m4=>rv (.tup [.s (.str r0),.s (.int .i64 r1)]) [.arr true 3 1 l2,.iter s3 m4])=rv r H∧
  r.stab [0,0] H = .tup [.s (.str (toAsc s).1),.s (.int .i64 ((toAsc s).2:Nat))]:=by
 rcases lasc_cases s h0 with h | ⟨l,t,m,h⟩
 ·exact ⟨_,_,h _ _ _,rfl⟩
 ·exact ⟨_,_,h _ _ _,rfl⟩
end Go.Proofs.YtokehocipgepnaaGreatDoor.E
