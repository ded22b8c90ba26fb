
import Derived.Test.YtjkeeocnekggfaaGreatPXB
set_option linter.unusedVariables false
set_option linter.unusedSimpArgs false
set_option maxRecDepth 4000
set_option maxHeartbeats 4000000
namespace Go.Proofs.YtjkeeocnekggfaaGreat.Av
def J1:SC->Bool
 | .c x=>x.one
 |_=>true
theorem vo: ∀ {x:SC},J1 x=true->x.den.one=true
 | .c x,h=>h
 | .row ..,_=>rfl
 | .elt ..,_=>rfl
 | .pel ..,_=>rfl
 | .tipr ..,_=>rfl
 | .ownr ..,_=>rfl
def qU:List SC->Bool
 |[]=>true
 |x::l=>match J1 x with
  |true=>qU l
  |false=>false
theorem ug: ∀ {l:List SC},qU l=true->(aU l).all aa.one=true
 |[],_=>rfl
 |x::l,h=>by
  unfold qU at h;split at h
  ·rename_i h1
   simp only[aU,List.map_cons,List.all_cons,Bool.and_eq_true];exact ⟨vo h1,ug h⟩
  ·cases h
def xo {α:Type 1}:List α->Nat->Bool
 |[],0=>true
 |_::l,n+1=>xo l n
 |_,_=>false
theorem nl {α:Type 1}: ∀ {l:List α} {n:Nat},xo l n=true->l.length=n
 |[],0,_=>rfl
 |_::l,n+1,h=>by simp[nl (l:=l) h]
 |[],_+1,h=>by cases h
 |_::_,0,h=>by cases h
def Mf {β:Type 1}:List SC->(List ag->Option β)->Option β
 |[],k=>k []
 |x::l,k=>match x with
  | .c (.f .nils)=>Mf l fun r=>k (.row [] 0::r)
  | .c (.f y)=>Mf l fun r=>k (y::r)
  | .c (.bg true _ cs n)=>Mf l fun r=>k (.row cs n::r)
  | .row z F V d l'=>Mf l fun r=>k (.row (l'.flatMap F) l'.length::r)
  | .tipr z F V M d l'=>Mf l fun r=>k (.row (l'.flatMap F) l'.length::r)
  | .elt z F V d l' i j=>Mf l fun r=>k (.ip (l'.flatMap F) (i.toNat*z+j)::r)
  |_=>none
theorem oU {β:Type 1} {r:β}: ∀ {l:List SC} {k:List ag->Option β},Mf l k=some r-> ∃ fs,jX (aU l)=some fs/\k fs=some r
 |[],k,h=>⟨[],rfl,h⟩
 |x::l,k,h=>by
  unfold Mf at h;split at h
  ·obtain ⟨fs,h1,h2⟩:=oU h
   refine ⟨_,?_,h2⟩;simp only[aU,List.map_cons,jX,SC.den,aa.fz] at*
   rw[h1]
  ·rename_i y hne
   obtain ⟨fs,h1,h2⟩:=oU h;refine ⟨_,?_,h2⟩;have e:aa.fz (.f y)=some y:=by
    cases y with
    |nils=>exact (hne rfl).elim
    |_=>rfl
   simp only[aU,List.map_cons,jX,SC.den,e] at*;rw[h1]
  ·obtain ⟨fs,h1,h2⟩:=oU h
   refine ⟨_,?_,h2⟩;simp only[aU,List.map_cons,jX,SC.den,aa.fz] at*
   rw[h1]
  ·obtain ⟨fs,h1,h2⟩:=oU h
   refine ⟨_,?_,h2⟩;simp only[aU,List.map_cons,jX,SC.den,aa.fz] at*
   rw[h1]
  ·obtain ⟨fs,h1,h2⟩:=oU h
   refine ⟨_,?_,h2⟩;simp only[aU,List.map_cons,jX,SC.den,aa.fz] at*
   rw[h1]
  ·obtain ⟨fs,h1,h2⟩:=oU h
   refine ⟨_,?_,h2⟩;simp only[aU,List.map_cons,jX,SC.den,aa.fz] at*
   rw[h1]
  ·cases h
def Li {β:Type 1}:List SC->(List ag->Option β)->Option β
 |[],k=>k []
 |x::l,k=>match x with
  | .c (.f y)=>Li l fun r=>k (y::r)
  | .row z F V d l'=>Li l fun r=>k (.row (l'.flatMap F) l'.length::r)
  |_=>none
theorem m9 {β:Type 1} {r:β}: ∀ {l:List SC} {k:List ag->Option β},Li l k=some r-> ∃ fs,aU l=fs.map aa.f/\k fs=some r
 |[],k,h=>⟨[],rfl,h⟩
 |x::l,k,h=>by
  unfold Li at h;split at h
  ·obtain ⟨fs,h1,h2⟩:=m9 h
   exact ⟨_,by simp only[aU,List.map_cons,SC.den] at*;rw[h1],h2⟩
  ·obtain ⟨fs,h1,h2⟩:=m9 h
   exact ⟨_,by simp only[aU,List.map_cons,SC.den] at*;rw[h1],h2⟩
  ·cases h
def jl:List ag->Nat->List ag->List ag
 |cs,_,[]=>cs
 |cs,o,x::xs=>jl (cs.set o x) (o+1) xs
theorem Kt: ∀ (xs cs:List ag) (o:Nat),(jl cs o xs).length=cs.length
 |[],_,_=>rfl
 |x::xs,cs,o=>by rw[jl,Kt xs,List.length_set]
theorem lE: ∀ (xs cs:List ag) (o:Nat),setAt (cs.map aa.f) o (xs.map aa.f)=(jl cs o xs).map aa.f
 |[],_,_=>rfl
 |x::xs,cs,o=>by
  simp only[List.map_cons,setAt,jl];rw[← lE xs,List.map_set]
theorem Ca (A:List ag): ∀ (xs B:List ag) (o:Nat),jl (A++B) (A.length+o) xs=A++jl B o xs
 |[],B,o=>rfl
 |x::xs,B,o=>by
  simp only[jl];rw[List.set_append_right _ _ (by omega),Nat.add_sub_cancel_left];exact Ca A xs (B.set o x) (o+1)
theorem xP (B:List ag): ∀ (xs A:List ag) (o:Nat),o+xs.length<=A.length->jl (A++B) o xs=jl A o xs++B
 |[],A,o,_=>rfl
 |x::xs,A,o,h=>by
  simp only[List.length_cons] at h;simp only[jl];rw[List.set_append_left _ _ (by omega),xP B xs _ (o+1) (by rw[List.length_set];omega)]
theorem pT {α:Type} {z:Nat} {F:α->List ag} (hF: ∀ x,(F x).length=z) (x':α): ∀ (l:List α) (i k:Nat) (a:α) (fs:List ag),l[i]? =some a->k+fs.length<=z->F x'=jl (F a) k fs->jl (l.flatMap F) (i*z+k) fs=(l.set i x').flatMap F
 |[],i,k,a,fs,h,_,_=>by simp at h
 |x::l,0,k,a,fs,h,hk,e=>by
  have:x=a:=by simpa using h
  subst this;simp only[List.flatMap_cons,Nat.zero_mul,Nat.zero_add,List.set_cons_zero];rw[xP _ _ _ _ (by rw[hF];exact hk),e]
 |x::l,i+1,k,a,fs,h,hk,e=>by
  simp only[List.flatMap_cons,List.set_cons_succ];rw[show (i+1)*z+k=(F x).length+(i*z+k) by rw[hF,Nat.succ_mul];omega,Ca];rw[pT hF x' l i k a fs (by simpa using h) hk e]
theorem rJ {m:List aa}: ∀ (ds l:List aa) (o:Nat),o+ds.length<=l.length->setAt (l++m) o ds=setAt l o ds++m
 |[],_,_,_=>rfl
 |d::ds,l,o,h=>by
  simp only[List.length_cons] at h;rw[setAt,setAt,List.set_append_left _ _ (by omega),rJ ds _ _ (by rw[List.length_set];omega)]
section
variable {P:Program} {ops:Array Oper} {s:St} {d:Option Tmp} {ty:TypeId} {pos:String} {af:Array Edge} {T:Tb} {r:SR} {H:SH}
def qV:SV:= .c (.c .any)
def zS (T:Tb) (H:SH) (t:Nat) (v:SV) (y:Operand) (u:SV):Option SR:=
  match iD T.sz t with
  |some (_,n)=>match v with
   | .c (.c (.ptr b off))=>match nth H b with
     |some (some (.cells cs))=>match JU cs with
       |false=>none
       |true=>match u with
        | .c (.c (.bg false _ _ _))=>none
        | .c (.c (.mp _ _))=>none
        | .c (.ownr z F V M e l)=>match y with
          | .tmp w=>match Nat.beq n 1 with
            |true=>gr cs off (.ownr z F V M e l) fun cs'=>gr H b (some (.cells cs')) fun H'=>some ⟨qV,some (w,.v (.c (.c (.f (.row [] l.length))))),some H',.Qh b,True⟩
            |false=>none
          |_=>none
        | .c (.c (.bg true z gs m))=>match y with
          | .tmp w=>match Nat.beq n 1 with
            |true=>gr cs off (.c (.bg true z gs m)) fun cs'=>gr H b (some (.cells cs')) fun H'=>some ⟨qV,some (w,.v (.c (.c (.f (.row gs m))))),some H',.Qh b,True⟩
            |false=>none
          |_=>none
        | .c (.tipr z F V M e l)=>match y with
          | .tmp w=>match Nat.beq n 1 with
            |true=>gr cs off (.tipr z F V M e l) fun cs'=>gr H b (some (.cells cs')) fun H'=>some ⟨qV,some (w,.v (.c (.row z F V e l))),some H',.Qh b,True⟩
            |false=>none
          |_=>none
        | .c x=>match Nat.beq n 1,J1 x with
          |true,true=>gr cs off x fun cs'=>gr H b (some (.cells cs')) fun H'=>some ⟨qV,none,some H',.st b,True⟩
          |_,_=>none
        | .agg ds=>match xo ds n,qU ds,Nat.ble 1 n with
          |true,true,true=>Cd cs off ds fun cs'=>gr H b (some (.cells cs')) fun H'=>some ⟨qV,none,some H',.st b,True⟩
          |_,_,_=>none
        | .cC _=>none
     |_=>none
   | .c (.pel b z i k)=>match nth H b with
     |some (some (.bF z' F V M e l))=>match Nat.beq z z' with
      |true=>match u with
       | .c (.c (.bg false _ _ _))=>none
       | .c (.c (.mp _ _))=>none
       | .c (.ownr ..)=>none
       | .c (.c (.bg true _ _ _))=>none
       | .c (.tipr ..)=>none
       | .c x=>match Nat.beq n 1 with
         |true=>Li [x] fun fs=>match M (jl (F (l.getD i.toNat e)) k fs) with
          |some x'=>gr H b (some (.bF z' F V M e (l.set i.toNat x'))) fun H'=>some ⟨qV,none,some H',.st b,(0<=i/\i<l.length)/\k<z/\wL z' F V/\F x'=jl (F (l.getD i.toNat e)) k fs⟩
          |none=>none
         |false=>none
       | .agg ds=>match xo ds n with
         |true=>Li ds fun fs=>match M (jl (F (l.getD i.toNat e)) k fs) with
          |some x'=>gr H b (some (.bF z' F V M e (l.set i.toNat x'))) fun H'=>some ⟨qV,none,some H',.st b,(0<=i/\i<l.length)/\k+fs.length<=z/\wL z' F V/\F x'=jl (F (l.getD i.toNat e)) k fs⟩
          |none=>none
         |false=>none
       | .cC _=>none
      |false=>none
     |some (some (.elo z' F V M e l m))=>match Nat.beq z z' with
      |true=>match u with
       | .c (.c (.bg false _ _ _))=>none
       | .c (.c (.mp _ _))=>none
       | .c (.ownr ..)=>none
       | .c (.c (.bg true _ _ _))=>none
       | .c (.tipr ..)=>none
       | .c x=>match Nat.beq n 1 with
         |true=>Li [x] fun fs=>match M (jl (F (l.getD i.toNat e)) k fs) with
          |some x'=>gr H b (some (.elo z' F V M e (l.set i.toNat x') m)) fun H'=>some ⟨qV,none,some H',.st b,(0<=i/\i<l.length)/\k<z/\wL z' F V/\F x'=jl (F (l.getD i.toNat e)) k fs⟩
          |none=>none
         |false=>none
       | .agg ds=>match xo ds n with
         |true=>Li ds fun fs=>match M (jl (F (l.getD i.toNat e)) k fs) with
          |some x'=>gr H b (some (.elo z' F V M e (l.set i.toNat x') m)) fun H'=>some ⟨qV,none,some H',.st b,(0<=i/\i<l.length)/\k+fs.length<=z/\wL z' F V/\F x'=jl (F (l.getD i.toNat e)) k fs⟩
          |none=>none
         |false=>none
       | .cC _=>none
      |false=>none
     |some (some (.rws z' F V M e l h))=>match z with
      |1=>match k with
       |0=>match u with
        | .c (.ownr z2 F2 V2 M2 e2 l2)=>match y with
          | .tmp w=>match Nat.beq n 1 with
            |true=>match h with
             |none=>gr H b (some (.rws z' F V M e l (some (i,.ownr z2 F2 V2 M2 e2 l2)))) fun H'=>some ⟨qV,some (w,.v (.c (.c (.f (.row [] l2.length))))),some H',.Qh b,0<=i/\i<l.length⟩
             |some (j,x)=>match aF x with
              |true=>gr H b (some (.rws z' F V M e l (some (i,.ownr z2 F2 V2 M2 e2 l2)))) fun H'=>some ⟨qV,some (w,.v (.c (.c (.f (.row [] l2.length))))),some H',.Qh b,(0<=i/\i<l.length)/\i=j⟩
              |false=>none
            |false=>none
          |_=>none
        |_=>none
       |_=>none
      |_=>none
     |_=>none
   |_=>none
  |none=>none
theorem uB {ds:List SC} (h:qU ds=true):(SV.agg ds).den.cells=some (aU ds):=by
 show (if (aU ds).all aa.one then some (aU ds) else none)=_;rw[ug h];rfl
theorem C6 {x:SC} (h:J1 x=true):(SV.c x).den.cells=some [x.den]:=by
 show (if x.den.one then some [x.den] else none)=_;rw[vo h];rfl
theorem Nz (fs:List ag):(fs.map aa.f).all aa.one=true:=by
 simp only[List.all_map,List.all_eq_true];intro x _;rfl
theorem Eh (O:T.Ok P) (hH:s.H=aR H) {t:Nat} {x y:Operand} {v u:SV} (hx:s.ev x=v.den) (hy:s.ev y=u.den) (h:zS T H t v y u=some r):mD P ops ⟨none,.store t x y,ty,pos,af,none⟩ s r:=by
 intro rest R hp hk;unfold zS at h
 split at h
 ·rename_i q n hsz
  have ht:=O.FT hsz;split at h
  ·rename_i b off
   split at h
   ·rename_i cs hb
    have hb':s.H[b]? =some (some (aU cs)):=by rw[hH];exact dz hb
    split at h
    ·cases h
    rename_i hnm;have hnm:=nv hnm;split at h
    ·cases h
    ·cases h
    ·rename_i α z F V M e l
     split at h
     ·rename_i w
      split at h
      ·rename_i hn
       have hn:=Nat.eq_of_beq_eq_true hn;subst hn;obtain ⟨h1,h2⟩:=b9 h;obtain ⟨h3,h4⟩:=b9 h2;injection h4 with h4;subst h4
       refine iI ht hx hb' hy (by rw[eR];simpa using h1) hnm ?_ hk;rw[gz,hH];simp[SB.den,aU,List.map_set,SC.den]
      ·cases h
     ·cases h
    ·rename_i z gs m
     split at h
     ·rename_i w
      split at h
      ·rename_i hn
       have hn:=Nat.eq_of_beq_eq_true hn;subst hn;obtain ⟨h1,h2⟩:=b9 h;obtain ⟨h3,h4⟩:=b9 h2;injection h4 with h4;subst h4
       refine iI ht hx hb' hy (by rw[eR];simpa using h1) hnm ?_ hk;rw[gz,hH];simp[SB.den,aU,List.map_set,SC.den]
      ·cases h
     ·cases h
    ·rename_i α z F V M e l
     split at h
     ·rename_i w
      split at h
      ·rename_i hn
       have hn:=Nat.eq_of_beq_eq_true hn;subst hn;obtain ⟨h1,h2⟩:=b9 h;obtain ⟨h3,h4⟩:=b9 h2;injection h4 with h4;subst h4
       refine iI ht hx hb' hy (by rw[eR];simpa using h1) hnm ?_ hk;rw[gz,hH];simp[SB.den,aU,List.map_set,SC.den]
      ·cases h
     ·cases h
    ·rename_i x' hn0 hn4 hn3 hne hne2
     split at h
     ·rename_i hn ho
      have hn:=Nat.eq_of_beq_eq_true hn;subst hn;obtain ⟨h1,h2⟩:=b9 h;obtain ⟨h3,h4⟩:=b9 h2;injection h4 with h4;subst h4
      refine nP ht hx hb' hy (ra (lq (fun z gs m e=>hn0 z gs m (by rw[e])) (fun q es e=>hn4 q es (by rw[e])) (fun α z F V M d l e=>hn3 α z F V M d l (by rw[e])) (fun z gs m e=>hne z gs m (by rw[e])) (fun α z F V M d l e=>hne2 α z F V M d l (by rw[e])))) (C6 ho) ⟨rfl,by rw[eR];exact h1,hnm⟩ ?_ hk;rw[gz,hH];simp[SB.den,aU,List.map_set,setAt]
     ·cases h
    ·rename_i ds
     split at h
     ·rename_i hn ho hn1
      have hn1:=Nat.le_of_ble_eq_true hn1;have hn:=nl hn;have hl:=rK h;obtain ⟨cs',h1,h2⟩:=vN h (by rcases hl with h|h;exact .inr h;exact .inl h);obtain ⟨h3,h4⟩:=b9 h2;injection h4 with h4;subst h4
      by_cases hz:off+n<=cs.length
      ·refine nP ht hx hb' hy rfl (uB ho) ⟨by rw[eR];exact hn,by rw[eR];exact hz,hnm⟩ ?_ hk
       rw[gz,hH];simp only[SB.den,h1]
      ·exfalso
       rcases hl with rfl|hl
       ·simp at hn
        omega
       ·omega
     ·cases h
    ·cases h
   ·cases h
  ·rename_i b z i k
   split at h
   ·rename_i α z' F V M e l hb
    have hb':s.H[b]? =some (some ((l.flatMap F).map aa.f)):=by rw[hH];exact dz hb
    split at h
    ·rename_i hz
     have hz:=Nat.eq_of_beq_eq_true hz;subst hz;split at h
     ·cases h
     ·cases h
     ·cases h
     ·cases h
     ·cases h
     ·rename_i x' hn0 hn4 hn3 hne hne2
      split at h
      ·rename_i hn
       have hn:=Nat.eq_of_beq_eq_true hn;subst hn;obtain ⟨fs,h1,h2⟩:=m9 h;split at h2
       ·rename_i a ha
        obtain ⟨h3,h4⟩:=b9 h2;injection h4 with h4;subst h4;obtain ⟨h0,hkz,hV,hF⟩:=hp;have hfs:fs.length=1:=by have:=congrArg List.length h1;simpa[aU] using this.symm
        have hlen:=fJ F z (fun x=>(hV x).1) l i.toNat _ (gf (d:=e) h0.1 h0.2);have e1:[x'.den]=fs.map aa.f:=h1;have ho:x'.den.one=true:=by
         cases fs with
         |nil=>simp at hfs
         |cons f fs=>simp only[List.map_cons,List.cons.injEq] at e1;rw[e1.1];rfl
        refine nP ht hx hb' hy (ra (lq (fun z gs m e=>hn0 z gs m (by rw[e])) (fun q es e=>hn4 q es (by rw[e])) (fun α z F V M d l e=>hn3 α z F V M d l (by rw[e])) (fun z gs m e=>hne z gs m (by rw[e])) (fun α z F V M d l e=>hne2 α z F V M d l (by rw[e])))) (ds:=fs.map aa.f) ?_ ⟨by simpa using hfs,by rw[List.length_map];omega,zr _⟩ ?_ hk
        ·show (if x'.den.one then some [x'.den] else none)=_
         rw[ho,e1];rfl
        ·rw[gz,hH,lE,pT (fun x=>(hV x).1) a l i.toNat k _ fs (gf h0.1 h0.2) (by omega) hF]
         rfl
       ·cases h2
      ·cases h
     ·rename_i ds
      split at h
      ·rename_i hn
       have hn:=nl hn;obtain ⟨fs,h1,h2⟩:=m9 h;split at h2
       ·rename_i a ha
        obtain ⟨h3,h4⟩:=b9 h2;injection h4 with h4;subst h4;obtain ⟨h0,hkz,hV,hF⟩:=hp;have hfs:fs.length=n:=by have:=congrArg List.length h1;rw[eR,List.length_map] at this;omega
        have hlen:=fJ F z (fun x=>(hV x).1) l i.toNat _ (gf (d:=e) h0.1 h0.2);refine nP ht hx hb' hy rfl (ds:=fs.map aa.f) ?_ ⟨by simpa using hfs,by rw[List.length_map];omega,zr _⟩ ?_ hk
        ·show (if (aU ds).all aa.one then some (aU ds) else none)=_
         rw[h1,Nz];rfl
        ·rw[gz,hH,lE,pT (fun x=>(hV x).1) a l i.toNat k _ fs (gf h0.1 h0.2) (by omega) hF]
         rfl
       ·cases h2
      ·cases h
     ·cases h
    ·cases h
   ·rename_i α z' F V M e l m hb
    have hb':s.H[b]? =some (some ((l.flatMap F).map aa.f++List.replicate m .any)):=by rw[hH];exact dz hb
    split at h
    ·rename_i hz
     have hz:=Nat.eq_of_beq_eq_true hz;subst hz;split at h
     ·cases h
     ·cases h
     ·cases h
     ·cases h
     ·cases h
     ·rename_i x' hn0 hn4 hn3 hne hne2
      split at h
      ·rename_i hn
       have hn:=Nat.eq_of_beq_eq_true hn;subst hn;obtain ⟨fs,h1,h2⟩:=m9 h;split at h2
       ·rename_i a ha
        obtain ⟨h3,h4⟩:=b9 h2;injection h4 with h4;subst h4;obtain ⟨h0,hkz,hV,hF⟩:=hp;have hfs:fs.length=1:=by have:=congrArg List.length h1;simpa[aU] using this.symm
        have hlen:=fJ F z (fun x=>(hV x).1) l i.toNat _ (gf (d:=e) h0.1 h0.2);have e1:[x'.den]=fs.map aa.f:=h1;have ho:x'.den.one=true:=by
         cases fs with
         |nil=>simp at hfs
         |cons f fs=>simp only[List.map_cons,List.cons.injEq] at e1;rw[e1.1];rfl
        refine nP ht hx hb' hy (ra (lq (fun z gs m e=>hn0 z gs m (by rw[e])) (fun q es e=>hn4 q es (by rw[e])) (fun α z F V M d l e=>hn3 α z F V M d l (by rw[e])) (fun z gs m e=>hne z gs m (by rw[e])) (fun α z F V M d l e=>hne2 α z F V M d l (by rw[e])))) (ds:=fs.map aa.f) ?_ ⟨by simpa using hfs,by rw[List.length_append,List.length_map];omega,ji _ _⟩ ?_ hk
        ·show (if x'.den.one then some [x'.den] else none)=_
         rw[ho,e1];rfl
        ·rw[gz,hH,rJ _ _ _ (by rw[List.length_map,List.length_map];omega),lE,pT (fun x=>(hV x).1) a l i.toNat k _ fs (gf h0.1 h0.2) (by omega) hF]
         rfl
       ·cases h2
      ·cases h
     ·rename_i ds
      split at h
      ·rename_i hn
       have hn:=nl hn;obtain ⟨fs,h1,h2⟩:=m9 h;split at h2
       ·rename_i a ha
        obtain ⟨h3,h4⟩:=b9 h2;injection h4 with h4;subst h4;obtain ⟨h0,hkz,hV,hF⟩:=hp;have hfs:fs.length=n:=by have:=congrArg List.length h1;rw[eR,List.length_map] at this;omega
        have hlen:=fJ F z (fun x=>(hV x).1) l i.toNat _ (gf (d:=e) h0.1 h0.2);refine nP ht hx hb' hy rfl (ds:=fs.map aa.f) ?_ ⟨by simpa using hfs,by rw[List.length_append,List.length_map];omega,ji _ _⟩ ?_ hk
        ·show (if (aU ds).all aa.one then some (aU ds) else none)=_
         rw[h1,Nz];rfl
        ·rw[gz,hH,rJ _ _ _ (by rw[List.length_map,List.length_map];omega),lE,pT (fun x=>(hV x).1) a l i.toNat k _ fs (gf h0.1 h0.2) (by omega) hF]
         rfl
       ·cases h2
      ·cases h
     ·cases h
    ·cases h
   ·rename_i α z' F V M e l h' hb
    have hb':s.H[b]? =some (some (fY z' F l h')):=by rw[hH];exact dz hb
    split at h
    ·split at h
     ·split at h
      ·split at h
       ·split at h
        ·rename_i hn
         have hn:=Nat.eq_of_beq_eq_true hn;subst hn;have e1:i.toNat*1+0=i.toNat:=by omega
         split at h
         ·obtain ⟨h3,h4⟩:=b9 h
          injection h4 with h4;subst h4;refine iI ht hx hb' hy (by rw[B5,e1];simp only[Nat.blt_eq];omega) (rG fun _ _ e=>by cases e) ?_ hk;rw[gz,hH,e1];rfl
         ·split at h
          ·rename_i hnm
           obtain ⟨h3,h4⟩:=b9 h;injection h4 with h4;subst h4;obtain ⟨h0,rfl⟩:=hp;refine iI ht hx hb' hy (by rw[B5,e1];simp only[Nat.blt_eq];omega) (rG fun _ _ e=>by cases e;exact hnm) ?_ hk;rw[gz,hH,e1];congr 1;exact xL (x:= .ownr _ _ _ _ _ _)
          ·cases h
        ·cases h
       ·cases h
      ·cases h
     ·cases h
    ·cases h
   ·cases h
  ·cases h
 ·cases h
end
section
variable {P:Program} {ops:Array Oper} {s:St} {d:Option Tmp} {ty:TypeId} {pos:String} {af:Array Edge} {T:Tb} {r:SR} {H:SH}
def PR (T:Tb) (H:SH) (t:Nat) (v i:SV):Option SR:=
 match iD T.es t with
 |some z=>match i with
  | .c (.c (.f (.v (.int k n))))=>match v with
   | .c (.row z' F V e l)=>match Nat.beq z z' with
    |true=>some ⟨.c (.elt z' F V e l n 0),none,none,.q0,0<=n/\n<l.length⟩
    |false=>none
   | .c (.tipr z' F V M e l)=>match Nat.beq z z' with
    |true=>some ⟨.c (.elt z' F V e l n 0),none,none,.q0,0<=n/\n<l.length⟩
    |false=>none
   | .c (.c (.f (.row cs len)))=>some ⟨.c (.c (.ip cs (n.toNat*z))),none,none,.q0,0<=n/\n<len⟩
   | .c (.c (.bg true z' cs len))=>some ⟨.c (.c (.ip cs (n.toNat*z))),none,none,.q0,0<=n/\n<len⟩
   | .c (.c (.arr b off len cap))=>match nth H b with
    |some (some (.bF z' F V M e l))=>match Nat.beq z z',Nat.beq off 0 with
     |true,true=>some ⟨.c (.pel b z' n 0),none,none,.q0,0<=n/\n<len⟩
     |_,_=>none
    |some (some (.elo z' F V M e l m))=>match Nat.beq z z',Nat.beq off 0 with
     |true,true=>some ⟨.c (.pel b z' n 0),none,none,.q0,0<=n/\n<len⟩
     |_,_=>none
    |some (some (.rws _ _ _ _ _ _ _))=>match Nat.beq z 1,Nat.beq off 0 with
     |true,true=>some ⟨.c (.pel b 1 n 0),none,none,.q0,0<=n/\n<len⟩
     |_,_=>none
    |_=>some ⟨.c (.c (.ptr b (off+n.toNat*z))),none,none,.q0,0<=n/\n<len⟩
   |_=>none
  |_=>none
 |none=>none
theorem M9 (O:T.Ok P) {t:Nat} {x i:Operand} {v u:SV} (hx:s.ev x=v.den) (hi:s.ev i=u.den) (h:PR T H t v u=some r):mD P ops ⟨d,.indexAddr t x i,ty,pos,af,none⟩ s r:=by
 intro rest R hp hk;unfold PR at h
 split at h
 ·rename_i z hz
  have hz:=O.oD hz;split at h
  ·rename_i k n
   split at h
   ·split at h
    ·rename_i hb
     have hb:=Nat.eq_of_beq_eq_true hb;subst hb;injection h with h;subst h
     exact pD hz hx rfl hi hp.1 hp.2 rfl hk
    ·cases h
   ·split at h
    ·rename_i hb
     have hb:=Nat.eq_of_beq_eq_true hb;subst hb;injection h with h;subst h
     exact pD hz hx rfl hi hp.1 hp.2 rfl hk
    ·cases h
   ·injection h with h;subst h
    exact pD hz hx rfl hi hp.1 hp.2 rfl hk
   ·injection h with h;subst h
    exact pD hz hx rfl hi hp.1 hp.2 rfl hk
   ·split at h
    ·split at h
     ·rename_i hb hb2
      have hb:=Nat.eq_of_beq_eq_true hb;have hb2:=Nat.eq_of_beq_eq_true hb2;subst hb;subst hb2;injection h with h;subst h
      exact pC hz hx hi hp.1 hp.2 (by omega) hk
     ·cases h
    ·split at h
     ·rename_i hb hb2
      have hb:=Nat.eq_of_beq_eq_true hb;have hb2:=Nat.eq_of_beq_eq_true hb2;subst hb;subst hb2;injection h with h;subst h
      exact pC hz hx hi hp.1 hp.2 (by omega) hk
     ·cases h
    ·split at h
     ·rename_i hb hb2
      have hb:=Nat.eq_of_beq_eq_true hb;have hb2:=Nat.eq_of_beq_eq_true hb2;subst hb;subst hb2;injection h with h;subst h
      exact pC hz hx hi hp.1 hp.2 (by omega) hk
     ·cases h
    ·injection h with h;subst h
     exact pC hz hx hi hp.1 hp.2 rfl hk
   ·cases h
  ·cases h
 ·cases h
def zP (T:Tb) (t f:Nat) (v:SV):Option SR:=
 match iD T.fa t with
 |some l=>match ou l f with
  |some (off,q)=>match v with
   | .agg cs=>match q with
    |some (false,_)=>match nth cs off with
     |some y=>some ⟨.c y,none,none,.q0,True⟩
     |none=>none
    |some (true,n)=>C9 cs off n fun ds=>some ⟨.agg ds,none,none,.q0,True⟩
    |none=>none
   |_=>none
  |none=>none
 |none=>none
theorem D7 (O:T.Ok P) {t f:Nat} {x:Operand} {v:SV} (hx:s.ev x=v.den) (h:zP T t f v=some r):mD P ops ⟨d,.field t x f,ty,pos,af,none⟩ s r:=by
 intro rest R hp hk;unfold zP at h
 split at h
 ·rename_i l hl
  split at h
  ·rename_i off q hq
   rw[gT] at hq;have hf:=O.Q5 hl hq;split at h
   ·rename_i cs
    split at h
    ·split at h
     ·rename_i y hy
      injection h with h;subst h;refine Eu hf hx (r:= .c y.den) ?_ hk;unfold rS;simp only[gU hy]
     ·cases h
    ·obtain ⟨h1,h2⟩:=nX h
     injection h2 with h2;subst h2;refine Eu hf hx (r:= .agg _) ?_ hk;unfold rS;simp only;rw[if_pos (by rw[eR];exact h1),tj]
    ·cases h
   ·cases h
  ·cases h
 ·cases h
def KC (i:Nat) (v:SV):Option SR:=
 match v with
 | .cC ts=>match nth ts i with
  |some (.c x)=>some ⟨.c x,none,none,.q0,True⟩
  |some (.agg l)=>some ⟨.agg l,none,none,.q0,True⟩
  |none=>none
 |_=>none
theorem KD {x:Operand} {i:Nat} {v:SV} (hx:s.ev x=v.den) (h:KC i v=some r):mD P ops ⟨d,.extract x i,ty,pos,af,none⟩ s r:=by
 intro rest R hp hk;unfold KC at h
 split at h
 ·rename_i ts
  split at h
  ·rename_i y hy
   rw[gV] at hy;injection h with h;subst h;exact wH (y:= .c y.den) hx (by rw[List.getElem?_map,hy];rfl) hk
  ·rename_i y hy
   rw[gV] at hy;injection h with h;subst h;exact wH (y:= .agg (aU y)) hx (by rw[List.getElem?_map,hy];rfl) hk
  ·cases h
 ·cases h
def RR:IntKind->IntKind->Bool
 | .i8,.i8=>true
 | .i16,.i16=>true
 | .i32,.i32=>true
 | .i64,.i64=>true
 | .u8,.u8=>true
 | .u16,.u16=>true
 | .u32,.u32=>true
 | .u64,.u64=>true
 |_,_=>false
theorem Di: ∀ {k j:IntKind},RR k j=true->k=j:=by
 intro k j h;cases k<;>cases j<;>first|rfl|cases h
def Bg:IntKind->Bool
 | .i64=>true
 |_=>false
theorem pZ: ∀ {k:IntKind},Bg k=true->k= .i64:=by
 intro k h;cases k<;>first|rfl|cases h
def FN (op:BinOp) (k:IntKind) (a b:Int):Option SR:=
 match op with
 | .eql=>some ⟨bV (decide (a=b)),none,none,.q0,True⟩
 | .neq=>some ⟨bV (!decide (a=b)),none,none,.q0,True⟩
 | .lss=>some ⟨bV (decide (a<b)),none,none,.q0,True⟩
 | .leq=>some ⟨bV (decide (a<=b)),none,none,.q0,True⟩
 | .gtr=>some ⟨bV (decide (b<a)),none,none,.q0,True⟩
 | .geq=>some ⟨bV (decide (b<=a)),none,none,.q0,True⟩
 | .add=>match Bg k with
  |true=>some ⟨iV .i64 (a+b),none,none,.q0,-9223372036854775808<=a+b/\a+b<=9223372036854775807⟩
  |false=>some ⟨iV k (k.wrap (a+b)),none,none,.q0,True⟩
 | .sub=>match Bg k with
  |true=>some ⟨iV .i64 (a-b),none,none,.q0,-9223372036854775808<=a-b/\a-b<=9223372036854775807⟩
  |false=>some ⟨iV k (k.wrap (a-b)),none,none,.q0,True⟩
 | .mul=>match Bg k with
  |true=>some ⟨iV .i64 (a*b),none,none,.q0,-9223372036854775808<=a*b/\a*b<=9223372036854775807⟩
  |false=>some ⟨iV k (k.wrap (a*b)),none,none,.q0,True⟩
 | .quo=>match Bg k with
  |true=>some ⟨iV .i64 (a / b),none,none,.q0,0<=a/\0<b/\a<=9223372036854775807⟩
  |false=>some ⟨iV k (k.wrap (a.tdiv b)),none,none,.q0,b≠0⟩
 | .rem=>match Bg k with
  |true=>some ⟨iV .i64 (a%b),none,none,.q0,0<=a/\0<b⟩
  |false=>some ⟨iV k (a.tmod b),none,none,.q0,b≠0⟩
 | .and=>some ⟨iV k (k.wrap ((BitVec.ofInt k.bits a&&& BitVec.ofInt k.bits b).toNat)),none,none,.q0,True⟩
 | .or=>some ⟨iV k (k.wrap ((BitVec.ofInt k.bits a|||BitVec.ofInt k.bits b).toNat)),none,none,.q0,True⟩
 | .xor=>some ⟨iV k (k.wrap ((BitVec.ofInt k.bits a^^^BitVec.ofInt k.bits b).toNat)),none,none,.q0,True⟩
 |_=>none
theorem Cf {op:BinOp} {t u:TypeId} {x y:Operand} {k:IntKind} {a b:Int} (hx:s.ev x= .c (.f (.v (.int k a)))) (hy:s.ev y= .c (.f (.v (.int k b)))) (h:FN op k a b=some r):mD P ops ⟨d,.binOp op t x y u,ty,pos,af,none⟩ s r:=by
 intro rest R hp hk;unfold FN at h
 split at h
 iterate 6
  ·injection h with h;subst h
   exact jw hx hy rfl hk
 iterate 3
  ·split at h
   ·rename_i hi
    have hi:=pZ hi;subst hi;injection h with h;subst h
    first|exact Qn hx hy hp.1 hp.2 hk|exact Qw hx hy hp.1 hp.2 hk|exact Qr hx hy hp.1 hp.2 hk
   ·injection h with h;subst h
    exact jw hx hy rfl hk
 ·split at h
  ·rename_i hi
   have hi:=pZ hi;subst hi;injection h with h;subst h
   exact Qs hx hy hp.1 hp.2.1 hp.2.2 hk
  ·injection h with h;subst h
   exact jw hx hy (by simp only[A9];rw[if_neg hp]) hk
 ·split at h
  ·rename_i hi
   have hi:=pZ hi;subst hi;injection h with h;subst h
   exact Qt hx hy hp.1 hp.2 hk
  ·injection h with h;subst h
   exact jw hx hy (by simp only[A9];rw[if_neg hp]) hk
 iterate 3
  ·injection h with h;subst h
   exact Oe hx hy rfl hk
 ·cases h
def N1 (op:BinOp) (a b:ByteArray):Option SR:=
 match op with
 | .add=>some ⟨sV (a++b),none,none,.q0,a.size+b.size<=9223372036854775807⟩
 | .eql=>some ⟨bV (a.toList==b.toList),none,none,.q0,True⟩
 | .neq=>some ⟨bV (!(a.toList==b.toList)),none,none,.q0,True⟩
 | .lss=>some ⟨bV (Op.bytesLess a.toList b.toList),none,none,.q0,True⟩
 |_=>none
def Ad:List EK->List SC->List SC->Option Bool
 |[],[],[]=>some true
 | .i::ks,.c (.f (.v (.int .i64 a)))::vs,.c (.f (.v (.int .i64 b)))::us=>match Ad ks vs us with
  |some r=>some (decide (a=b)&&r)
  |none=>none
 | .s::ks,.c (.f (.v (.string a)))::vs,.c (.f (.v (.string b)))::us=>match Ad ks vs us with
  |some r=>some ((a.toList==b.toList)&&r)
  |none=>none
 | .b::ks,.c (.f (.v (.bool a)))::vs,.c (.f (.v (.bool b)))::us=>match Ad ks vs us with
  |some r=>some ((a==b)&&r)
  |none=>none
 |_,_,_=>none
theorem OO: ∀ {ks:List EK} {vs us:List SC} {r:Bool},Ad ks vs us=some r-> ∃ v u,qF (aU vs)=some v/\qF (aU us)=some u/\eS ks v u=some r:=by
 intro ks vs us
 fun_induction Ad ks vs us with
 |case1=>
  intro r h;exact ⟨[],[],rfl,rfl,h⟩
 |case2 ks a vs b us r hr ih=>
  intro r' h;injection h with h;subst h
  obtain ⟨v,u,h1,h2,h3⟩:=ih hr;refine ⟨.int .i64 a::v,.int .i64 b::u,?_,?_,by simp only[eS,h3]⟩
  ·simp only[aU,List.map_cons,qF,SC.den,aa.gp,ag.gp] at*;rw[h1]
  ·simp only[aU,List.map_cons,qF,SC.den,aa.gp,ag.gp] at*;rw[h2]
 |case3=>intro r h;cases h
 |case4 ks a vs b us r hr ih=>
  intro r' h;injection h with h;subst h
  obtain ⟨v,u,h1,h2,h3⟩:=ih hr;refine ⟨.string a::v,.string b::u,?_,?_,by simp only[eS,h3]⟩
  ·simp only[aU,List.map_cons,qF,SC.den,aa.gp,ag.gp] at*;rw[h1]
  ·simp only[aU,List.map_cons,qF,SC.den,aa.gp,ag.gp] at*;rw[h2]
 |case5=>intro r h;cases h
 |case6 ks a vs b us r hr ih=>
  intro r' h;injection h with h;subst h
  obtain ⟨v,u,h1,h2,h3⟩:=ih hr;refine ⟨.bool a::v,.bool b::u,?_,?_,by simp only[eS,h3]⟩
  ·simp only[aU,List.map_cons,qF,SC.den,aa.gp,ag.gp] at*;rw[h1]
  ·simp only[aU,List.map_cons,qF,SC.den,aa.gp,ag.gp] at*;rw[h2]
 |case7=>intro r h;cases h
 |case8=>intro r h;cases h
def Kx (T:Tb) (op:BinOp) (t:Nat) (v u:SV):Option SR:=
 match v with
 | .c (.c (.f (.v (.int k a))))=>match u with
  | .c (.c (.f (.v (.int j b))))=>match op with
   | .shl=>some ⟨iV k (k.wrap (a*2^(min b.toNat k.bits))),none,none,.q0,0<=b⟩
   | .shr=>some ⟨iV k (a.fdiv (2^(min b.toNat k.bits))),none,none,.q0,0<=b⟩
   | .quo=>match T.qt with
    |true=>match RR k j with
     |true=>some ⟨iV k (k.wrap (a.tdiv b)),none,none,.q0,b≠0⟩
     |false=>none
    |false=>match RR k j with
     |true=>FN .quo k a b
     |false=>none
   |op=>match RR k j with
    |true=>FN op k a b
    |false=>none
  |_=>none
 | .c (.c (.f (.v (.string a))))=>match u with
  | .c (.c (.f (.v (.string b))))=>N1 op a b
  |_=>none
 | .agg vs=>match u with
  | .agg us=>match iD T.eq t with
   |some ks=>match Ad ks vs us with
    |some r=>match op with
     | .eql=>some ⟨bV r,none,none,.q0,True⟩
     | .neq=>some ⟨bV (!r),none,none,.q0,True⟩
     |_=>none
    |none=>none
   |none=>none
  |_=>none
 |_=>none
theorem Ky (O:T.Ok P) {op:BinOp} {t w:TypeId} {x y:Operand} {v u:SV} (hx:s.ev x=v.den) (hy:s.ev y=u.den) (h:Kx T op t v u=some r):mD P ops ⟨d,.binOp op t x y w,ty,pos,af,none⟩ s r:=by
 intro rest R hp hk;unfold Kx at h
 split at h
 ·split at h
  ·split at h
   ·injection h with h;subst h
    exact Qu hx hy hp hk
   ·injection h with h;subst h
    exact Qv hx hy hp hk
   ·split at h
    ·split at h
     ·rename_i hj
      have hj:=Di hj;subst hj;injection h with h;subst h
      exact jw hx hy (by simp only[A9];rw[if_neg hp]) hk
     ·cases h
    ·split at h
     ·rename_i hj
      have hj:=Di hj;subst hj;exact Cf hx hy h rest R hp hk
     ·cases h
   ·split at h
    ·rename_i hj
     have hj:=Di hj;subst hj;exact Cf hx hy h rest R hp hk
    ·cases h
  ·cases h
 ·split at h
  ·unfold N1 at h
   split at h
   ·injection h with h;subst h
    exact Oh hx hy hp hk
   iterate 3
    ·injection h with h;subst h
     exact Il hx hy rfl hk
   ·cases h
  ·cases h
 ·split at h
  ·split at h
   ·rename_i ks hks
    split at h
    ·rename_i rr hr
     obtain ⟨vv,uu,h1,h2,h3⟩:=OO hr;obtain ⟨g1,g2⟩:=O.Q2 hks;split at h
     ·injection h with h;subst h
      exact Nw hx hy h1 h2 g1 (fun w=>(g2 _ _ _ h3 w).1) hk
     ·injection h with h;subst h
      exact Nw hx hy h1 h2 g1 (fun w=>(g2 _ _ _ h3 w).2) hk
     ·cases h
    ·cases h
   ·cases h
  ·cases h
 ·cases h
def PS (op:UnOp) (v:SV):Option SR:=
 match v with
 | .c (.c (.f (.v (.int k a))))=>match op with
  | .neg=>match Bg k with
   |true=>some ⟨iV .i64 (-a),none,none,.q0,-9223372036854775808<= -a/\ -a<=9223372036854775807⟩
   |false=>some ⟨iV k (k.wrap (0-a)),none,none,.q0,True⟩
  |_=>none
 | .c (.c (.f (.v (.bool b))))=>match op with
  | .not=>some ⟨bV (!b),none,none,.q0,True⟩
  |_=>none
 |_=>none
theorem Na {op:UnOp} {t:TypeId} {x:Operand} {v:SV} (hx:s.ev x=v.den) (h:PS op v=some r):mD P ops ⟨d,.unOp op t x,ty,pos,af,none⟩ s r:=by
 intro rest R hp hk;unfold PS at h
 split at h
 ·split at h
  ·split at h
   ·rename_i hi
    have hi:=pZ hi;subst hi;injection h with h;subst h
    refine Oi hx (v:= .int .i64 (-_)) ?_ hk;simp only[RV];rw[Int.zero_sub,wrap64 hp.1 hp.2]
   ·injection h with h;subst h
    exact Oi hx rfl hk
  ·cases h
 ·split at h
  ·injection h with h;subst h
   exact Oi hx rfl hk
  ·cases h
 ·cases h
def zQ (T:Tb) (t:Nat) (v i:SV):Option SR:=
 match v with
 | .c (.c (.f (.v (.string b))))=>match i with
  | .c (.c (.f (.v (.int k n))))=>match wu T.st t with
   |true=>some ⟨iV .u8 (b.data.getD n.toNat 0).toNat,none,none,.q0,0<=n/\n<b.size⟩
   |false=>none
  |_=>none
 |_=>none
theorem D8 (O:T.Ok P) {t:Nat} {x i:Operand} {v u:SV} (hx:s.ev x=v.den) (hi:s.ev i=u.den) (h:zQ T t v u=some r):mD P ops ⟨d,.index t x i,ty,pos,af,none⟩ s r:=by
 intro rest R hp hk;unfold zQ at h
 split at h
 ·split at h
  ·split at h
   ·rename_i ht
    injection h with h;subst h;exact yg (O.KU ht) hx hi hp.1 hp.2 hk
   ·cases h
  ·cases h
 ·cases h
def KG (T:Tb) (t:Nat) (v:SV):Option SR:=
 match v with
 | .c (.c (.f (.v (.string b))))=>match wu T.st t with
  |true=>some ⟨iV .i64 b.size,none,none,.q0,True⟩
  |false=>none
 | .c (.row z F V e l)=>match iD T.es t with
  |some _=>some ⟨iV .i64 l.length,none,none,.q0,True⟩
  |none=>none
 | .c (.tipr z F V M e l)=>match iD T.es t with
  |some _=>some ⟨iV .i64 l.length,none,none,.q0,True⟩
  |none=>none
 | .c (.c (.f (.row cs n)))=>match iD T.es t with
  |some _=>some ⟨iV .i64 n,none,none,.q0,True⟩
  |none=>none
 | .c (.c (.bg true z cs n))=>match iD T.es t with
  |some _=>some ⟨iV .i64 n,none,none,.q0,True⟩
  |none=>none
 | .c (.ownr z F V M e l)=>match iD T.es t with
  |some _=>some ⟨iV .i64 l.length,none,none,.q0,True⟩
  |none=>none
 | .c (.c (.arr b off n cap))=>match iD T.es t with
  |some _=>some ⟨iV .i64 n,none,none,.q0,True⟩
  |none=>none
 | .c (.c (.f .nils))=>match iD T.sl t with
  |some _=>some ⟨iV .i64 0,none,none,.q0,True⟩
  |none=>none
 |_=>none
theorem KH (O:T.Ok P) {t:Nat} {x:Operand} {v:SV} (hx:s.ev x=v.den) (h:KG T t v=some r):mD P ops ⟨d,.call { callee:= .builtin .len,args:= #[x],argTypes:= #[t] },ty,pos,af,none⟩ s r:=by
 intro rest R hp hk;unfold KG at h
 split at h
 ·split at h
  ·rename_i ht
   injection h with h;subst h;exact Ga (O.KU ht) hx hk
  ·cases h
 iterate 5
  ·split at h
   ·rename_i hz
    injection h with h;subst h;exact F9 (O.oD hz) hx rfl hk
   ·cases h
 ·split at h
  ·rename_i hz
   injection h with h;subst h;exact F7 (O.oD hz) hx hk
  ·cases h
 ·split at h
  ·rename_i hz
   injection h with h;subst h;exact F8 (O.Rs hz) hx hk
  ·cases h
 ·cases h
def HY (mx:Bool) (v u:SV):Option SR:=
 match v with
 | .c (.c (.f (.v (.int k a))))=>match u with
  | .c (.c (.f (.v (.int j b))))=>match mx with
   |true=>some ⟨iV k (max a b),none,none,.q0,True⟩
   |false=>some ⟨iV k (min a b),none,none,.q0,True⟩
  |_=>none
 |_=>none
theorem KI {t1 t2:TypeId} {x y:Operand} {v u:SV} (hx:s.ev x=v.den) (hy:s.ev y=u.den) (h:HY true v u=some r):mD P ops ⟨d,.call { callee:= .builtin .max,args:= #[x,y],argTypes:= #[t1,t2] },ty,pos,af,none⟩ s r:=by
 intro rest R hp hk;unfold HY at h
 split at h
 ·split at h
  ·injection h with h;subst h
   exact Qp hx hy hk
  ·cases h
 ·cases h
theorem KJ {t1 t2:TypeId} {x y:Operand} {v u:SV} (hx:s.ev x=v.den) (hy:s.ev y=u.den) (h:HY false v u=some r):mD P ops ⟨d,.call { callee:= .builtin .min,args:= #[x,y],argTypes:= #[t1,t2] },ty,pos,af,none⟩ s r:=by
 intro rest R hp hk;unfold HY at h
 split at h
 ·split at h
  ·injection h with h;subst h
   exact Qq hx hy hk
  ·cases h
 ·cases h
def Oc (m:Int):Prop:=0<=m/\m<256
def uw:List ag->(List UInt8->Prop->Option SR)->Option SR
 |[],k=>k [] True
 | .v (.int .u8 m)::r,k=>uw r fun l p=>k (UInt8.ofNat m.toNat::l) (Oc m/\p)
 |_,_=>none
theorem Gq: ∀ {cs:List ag} {k:List UInt8->Prop->Option SR},uw cs k=some r-> ∃ l p,k l p=some r/\l.length=cs.length/\(p->bytesOf cs=some l):=by
 intro cs
 induction cs with
 |nil=>intro k h;exact ⟨[],True,h,rfl,fun _=>rfl⟩
 |cons c cs ih=>
  intro k h;unfold uw at h
  split at h
  ·rename_i h0;cases h0
  ·rename_i m r' h0
   injection h0 with e1 e2;subst e1;subst e2;obtain ⟨l,p,h1,h2,h3⟩:=ih h;refine ⟨_,_,h1,by simp[h2],fun ⟨hm,hp⟩=> ?_⟩;unfold bytesOf;have e:((UInt8.ofNat m.toNat).toNat:Int)=m:=by
    obtain ⟨a,b⟩:=hm;rw[UInt8.toNat_ofNat'];omega
   rw[if_pos e,h3 hp]
  ·cases h
def D5 (T:Tb) (t u:Nat) (v:SV):Option SR:=
 match v with
 | .c (.c (.f (.v (.int k n))))=>match iD T.it t with
  |some _=>match iD T.it u with
   |some j=>match Bg j with
    |true=>some ⟨iV .i64 n,none,none,.q0,-9223372036854775808<=n/\n<=9223372036854775807⟩
    |false=>some ⟨iV j (j.wrap n),none,none,.q0,True⟩
   |none=>none
  |none=>none
 | .c (.c (.bg true _ cs n))=>match iD T.cb t with
  |some u'=>match Nat.beq u u' with
   |true=>uw cs fun l p=>some ⟨sV ⟨l.toArray⟩,none,none,.q0,p/\cs.length=n⟩
   |false=>none
  |none=>none
 | .c (.c (.f (.row cs n)))=>match iD T.cb t with
  |some u'=>match Nat.beq u u' with
   |true=>uw cs fun l p=>some ⟨sV ⟨l.toArray⟩,none,none,.q0,p/\cs.length=n⟩
   |false=>none
  |none=>none
 |_=>none
theorem HK (O:T.Ok P) {t u:Nat} {x:Operand} {v:SV} (hx:s.ev x=v.den) (h:D5 T t u v=some r):mD P ops ⟨d,.convert t u x,ty,pos,af,none⟩ s r:=by
 intro rest R hp hk;unfold D5 at h
 split at h
 ·split at h
  ·rename_i ht
   split at h
   ·rename_i j hu
    split at h
    ·rename_i hj
     have hj:=pZ hj;subst hj;injection h with h;subst h
     exact Ih (O.Fj ht) (O.Fj hu) hx hp.1 hp.2 hk
    ·injection h with h;subst h
     exact tU (O.Fj ht) (O.Fj hu) hx hk
   ·cases h
  ·cases h
 iterate 2
  ·split at h
   ·rename_i u' hu
    split at h
    ·rename_i hb
     have hb:=Nat.eq_of_beq_eq_true hb;subst hb;obtain ⟨l,p,h1,h2,h3⟩:=Gq h;injection h1 with h1;subst h1
     exact CF (O.QQ hu) hx rfl hp.2 (h3 hp.1) hk
    ·cases h
   ·cases h
 ·cases h
end
def EL {β:Type 1} (v:SV) (k:List SC->Option β):Option β:=
 match v with
 | .c x=>match J1 x with
  |true=>uG [x] k
  |false=>none
 | .agg ds=>match qU ds with
  |true=>k ds
  |false=>none
 | .cC _=>none
theorem L2 (x:aa) (h:x.one=true):x.aQ.one=true:=by
 cases x with
 |bg q=>cases q<;>rfl
 |_=>first|exact h|rfl|cases h
theorem AM {β:Type 1} {v:SV} {k:List SC->Option β} {r:β} (h:EL v k=some r): ∃ ds,v.den.aQ.cells=some (aU ds)/\k ds=some r:=by
 unfold EL at h;split at h
 ·rename_i x
  split at h
  ·rename_i h1
   obtain ⟨ds,h2,h3⟩:=jc h;refine ⟨ds,?_,h3⟩;have h4:=L2 _ (vo h1);show (if x.den.aQ.one then some [x.den.aQ] else none)=_
   rw[h4,h2];rfl
  ·cases h
 ·rename_i ds
  split at h
  ·rename_i h1
   exact ⟨ds,uB h1,h⟩
  ·cases h
 ·cases h
def Rl (p:Pl) (i:Nat):Option (Nat×Nat):=
 match p with
 | .fields l=>ou l i
 | .elems z=>some (i*z,z)
theorem MN (p:Pl) (i:Nat):Rl p i=p.at i:=by
 cases p with
 |fields l=>exact gT l i
 |elems z=>rfl
def AZ {β:Type 1} (ev:Operand->Option SV) (p:Pl):List SC->List (Nat×Operand)->(List SC->Option β)->Option β
 |cells,[],k=>k cells
 |cells,(i,x)::rest,k=>match Rl p i with
  |some (off,size)=>match ev x with
   |some v=>EL v fun ds=>match xo ds size with
    |true=>match Nat.ble 1 size with
     |true=>Cd cells off ds fun cs=>AZ ev p cs rest k
     |false=>none
    |false=>none
   |none=>none
  |none=>none
theorem uO {β:Type 1} {ev:Operand->Option SV} {p:Pl} {s:St} {r:β}: ∀ {parts:List (Nat×Operand)} {cells:List SC} {k:List SC->Option β},(∀ q∈parts,∀ v,ev q.2=some v->s.ev q.2=v.den)->AZ ev p cells parts k=some r->
  ∃ ps cs,fh s parts=some ps/\jA p (aU cells) ps=some (aU cs)/\k cs=some r
 |[],cells,k,_,h=>⟨[],cells,rfl,rfl,h⟩
 |(i,x)::rest,cells,k,hev,h=>by
  unfold AZ at h;split at h
  ·rename_i off size hpl
   rw[MN] at hpl;split at h
   ·rename_i v hv
    have hx:=hev (i,x) (by simp) v hv;obtain ⟨ds,h1,h2⟩:=AM h;split at h2
    ·rename_i hl
     have hl:=nl hl;split at h2
     ·rename_i h1s
      have h1s:=Nat.le_of_ble_eq_true h1s;have hln:=rK h2;obtain ⟨cs1,h3,h4⟩:=vN h2 (by rcases hln with h|h;exact .inr h;exact .inl h);obtain ⟨ps,cs,h5,h6,h7⟩:=uO (s:=s) (fun q hq=>hev q (by simp[hq])) h4;refine ⟨(i,aU ds)::ps,cs,?_,?_,h7⟩
      ·exact J6 hx h1 h5
      ·unfold jA
       rw[hpl];simp only;have hz:off+size<=(aU cells).length:=by
        rw[eR];rcases hln with rfl|hln
        ·simp at hl;omega
        ·omega
       rw[if_pos ⟨by rw[eR];exact hl,hz⟩,← h3];exact h6
     ·cases h2
    ·cases h2
   ·cases h
  ·cases h
def LQ:List SC->List SC->List SC
 |[],r=>r
 |x::l,r=>x::LQ l r
def Hi (zs:List SC):Nat->List SC->List SC
 |0,r=>r
 |n+1,r=>Hi zs n (LQ zs r)
theorem EC: ∀ l r:List SC,LQ l r=l++r
 |[],_=>rfl
 |x::l,r=>by simp[LQ,EC l r]
theorem BY (zs:List SC): ∀ (n:Nat) (r:List SC) (j:Nat),(Hi zs n r)[j]? =if j<n*zs.length then zs[j%zs.length]? else r[j-n*zs.length]?
 |0,r,j=>by simp[Hi]
 |n+1,r,j=>by
  rw[Hi,BY zs n,EC];by_cases h:j<n*zs.length
  ·rw[if_pos h,if_pos (by rw[Nat.succ_mul];omega)]
  ·rw[if_neg h]
   by_cases h2:j<(n+1)*zs.length
   ·rw[if_pos h2]
    rw[Nat.succ_mul] at h2;rw[List.getElem?_append_left (by omega)];congr 1;have e:j=(j-n*zs.length)+zs.length*n:=by rw[Nat.mul_comm zs.length n];omega
    have e2:j%zs.length=j-n*zs.length:=by
     have e3:(j-n*zs.length+zs.length*n)%zs.length=j-n*zs.length:=by rw[Nat.add_mul_mod_self_left];exact Nat.mod_eq_of_lt (by omega)
     rwa [← e] at e3
    rw[e2]
   ·rw[if_neg h2]
    rw[Nat.succ_mul] at h2;rw[List.getElem?_append_right (by omega),Nat.succ_mul];congr 1;omega
theorem Kh (zs:List SC) (n:Nat) (hz:zs≠[]):dc (aU zs) n=aU (Hi zs n []):=by
 rw[iQ];have h0:0<zs.length:=by cases zs with|nil=>exact absurd rfl hz|cons=>simp
 apply List.ext_getElem?;intro j;simp only[aU,List.getElem?_map,BY,List.length_map];by_cases h:j<n*zs.length
 ·rw[if_pos h,List.getElem?_range h]
  have hm:j%zs.length<zs.length:=Nat.mod_lt _ h0;simp[List.getElem?_eq_getElem hm,hm]
 ·rw[if_neg h,List.getElem?_eq_none (by simpa using Nat.le_of_not_lt h)]
  simp
structure oJ:Type 1 where
 α:Type
 z:Nat
 F:α->List ag
 V:α->List SC
 M:List ag->Option α
 d:α
structure oJ.Ok (e:oJ):Prop where
 len: ∀ x,(e.F x).length=e.z
 pos:0<e.z
theorem aK {α β:Type} (f:α->List β) (n:Nat) (h: ∀ x,(f x).length=n): ∀ l:List α,(l.flatMap f).length=l.length*n
 |[]=>by simp
 |x::l=>by simp only[List.flatMap_cons,List.length_append,h x,aK f n h l,List.length_cons,Nat.succ_mul];omega
theorem MV {α:Type} {z:Nat} {F:α->List ag} {d:α} (hF: ∀ x,(F x).length=z) (hz:0<z) (n:Nat):dc ((F d).map aa.f) n=((List.replicate n d).flatMap F).map aa.f:=by
 rw[iQ];apply List.ext_getElem?;intro j;simp only[List.length_map,hF,List.getElem?_map];by_cases h:j<n*z
 ·rw[List.getElem?_range h]
  have hj:(List.replicate n d)[j / z]? =some d:=by
   rw[List.getElem?_replicate,if_pos (Nat.div_lt_of_lt_mul (by rw[Nat.mul_comm];exact h))]
  have hm:j%z<z:=Nat.mod_lt _ hz;have:=na F z hF _ (j / z) (j%z) d hj hm;have e:j / z*z+j%z=j:=by rw[Nat.mul_comm];exact Nat.div_add_mod j z
  rw[e] at this;rw[this];have h2:j%z<(F d).length:=by rw[hF];exact hm
  simp[List.getElem?_eq_getElem h2,hF,hm]
 ·have hl:((List.replicate n d).flatMap F).length<=j:=by rw[aK F z hF,List.length_replicate];omega
  rw[List.getElem?_eq_none hl,List.getElem?_eq_none (by simpa using Nat.le_of_not_lt h)];rfl
theorem dG {α β:Type} (f:α->List β) (n:Nat) (h: ∀ x,(f x).length=n): ∀ (l:List α) (i:Nat),(l.flatMap f).drop (i*n)=(l.drop i).flatMap f
 |[],i=>by simp
 |x::l,0=>by simp
 |x::l,i+1=>by
  rw[show (i+1)*n=(f x).length+i*n by rw[h,Nat.succ_mul];omega,List.flatMap_cons,List.drop_append];simp only[Nat.add_sub_cancel_left,List.drop_succ_cons];rw[List.drop_of_length_le (by omega),List.nil_append];exact dG f n h l i
theorem cF {α β:Type} (f:α->List β) (n:Nat) (h: ∀ x,(f x).length=n): ∀ (l:List α) (i:Nat),(l.flatMap f).take (i*n)=(l.take i).flatMap f
 |[],i=>by simp
 |x::l,0=>by simp
 |x::l,i+1=>by
  rw[show (i+1)*n=(f x).length+i*n by rw[h,Nat.succ_mul];omega,List.flatMap_cons,List.take_append];simp only[Nat.add_sub_cancel_left,List.take_succ_cons,List.flatMap_cons];rw[List.take_of_length_le (by omega),cF f n h l i]
section
variable {P:Program} {ops:Array Oper} {s:St} {d:Option Tmp} {ty:TypeId} {pos:String} {af:Array Edge} {T:Tb} {r:SR} {H:SH} {ev:Operand->Option SV}
def zN (T:Tb) (ev:Operand->Option SV) (t:Nat) (parts:List (Nat×Operand)):Option SR:=
 match iD T.bi t with
 |some (zs,p)=>AZ ev p zs parts fun cs=>some ⟨.agg cs,none,none,.q0,True⟩
 |none=>none
theorem D4 (O:T.Ok P) {t:Nat} {parts:List (Nat×Operand)} (hev: ∀ q∈parts,∀ v,ev q.2=some v->s.ev q.2=v.den) (h:zN T ev t parts=some r):mD P ops ⟨d,.build t parts.toArray,ty,pos,af,none⟩ s r:=by
 intro rest R hp hk;unfold zN at h
 split at h
 ·rename_i zs p hb
  obtain ⟨ps,cs,h1,h2,h3⟩:=uO hev h;injection h3 with h3;subst h3;exact Lu (O.QN hb) h1 h2 hk
 ·cases h
def rL (T:Tb) (ev:Operand->Option SV) (t n:Nat) (parts:List (Nat×Operand)):Option SR:=
 match iD T.ms t with
 |some (sz,_,z::zs)=>match Nat.ble (n*sz) 16777216 with
  |true=>AZ ev (.elems sz) (Hi (z::zs) n []) parts fun cs=>Mf cs fun fs=>some ⟨.c (.c (.bg true sz fs n)),none,none,.q0,True⟩
  |false=>none
 |_=>none
theorem zO (O:T.Ok P) {t n:Nat} {parts:List (Nat×Operand)} (hev: ∀ q∈parts,∀ v,ev q.2=some v->s.ev q.2=v.den) (h:rL T ev t n parts=some r):mD P ops ⟨d,.buildSlice t n parts.toArray,ty,pos,af,none⟩ s r:=by
 intro rest R hp hk;unfold rL at h
 split at h
 ·rename_i sz by_ z zs hm
  split at h
  ·rename_i hle
   obtain ⟨ps,cs,h1,h2,h3⟩:=uO hev h;obtain ⟨fs,h4,h5⟩:=oU h3;injection h5 with h5;subst h5;refine yf (O.JS hm) h1 (Nat.le_of_ble_eq_true hle) ?_ h4 hk;rw[Kh _ _ (by simp)];exact h2
  ·cases h
 ·cases h
def Bq (P:Program):List (Nat×Nat×Bool×oJ)->Prop
 |[]=>True
 |p::l=>(tP P p.1 p.2.1 p.2.2.1 (p.2.2.2.F p.2.2.2.d)/\p.2.2.2.Ok)/\Bq P l
theorem vf {P:Program}: ∀ {l:List (Nat×Nat×Bool×oJ)},Bq P l-> ∀ p∈l,tP P p.1 p.2.1 p.2.2.1 (p.2.2.2.F p.2.2.2.d)/\p.2.2.2.Ok
 |[],_,p,hp=>by cases hp
 |q::l,h,p,hp=>by
  rcases List.mem_cons.1 hp with rfl|hp
  ·exact h.1
  ·exact vf h.2 p hp
structure El:Type 1 where
 sl:List (Nat×oJ)
 ar:List (Nat×Nat×oJ)
 mp:List (Nat×Nat×Bool×oJ):=[]
def Pu:List (Nat×oJ)->Prop
 |[]=>True
 |p::l=>p.2.Ok/\Pu l
theorem BB: ∀ {E:List (Nat×oJ)},Pu E-> ∀ p∈E,p.2.Ok
 |[],_,p,hp=>by cases hp
 |q::l,h,p,hp=>by
  rcases List.mem_cons.1 hp with rfl|hp
  ·exact h.1
  ·exact BB h.2 p hp
structure El.Ok (E:El) (P:Program):Prop where
 eq:(E.sl.map fun p=>(dM P p.1).map fun q=>(q.1,q.2.2))=E.sl.map fun p=>some (p.2.z,(p.2.F p.2.d).map aa.f)
 ok:Pu E.sl
 ar:(E.ar.map fun p=>(bl P p.1,pK P p.1,qI P p.1))=E.ar.map fun p=>(none,some (p.2.1,p.2.2.z),some (((List.replicate p.2.1 p.2.2.d).flatMap p.2.2.F).map aa.f))
 mp:Bq P E.mp
def ME:List Nat:=[0,1,2,3,4,5,6,7,8,9,10,11,12,13,14,15,16,17,18,19,20,21,22,23,24,25,26,27,28,29,30,31,32,33,34,35,36,37,38,39]
def D2:SH->List Nat->SB->(Nat->SH->Option SR)->Option SR
 |[],n::_,b,k=>k n [some b]
 |x::H,_::ns,b,k=>D2 H ns b fun m H'=>k m (x::H')
 |_,[],_,_=>none
def xW (H:SH) (b:SB) (k:Nat->SH->Option SR):Option SR:=D2 H ME b k
def Ed (E:El) (H:SH) (t:Nat) (bys:Option Nat) (l c:SV):Option SR:=
 match iD E.sl t with
 |some e=>match bys with
  |some by_=>match l with
   | .c (.c (.f (.v (.int k m))))=>match c with
    | .c (.c (.f (.v (.int j m'))))=>xW H (.bF e.z e.F e.V e.M e.d (List.replicate m.toNat e.d)) fun n H'=>some ⟨.c (.c (.arr n 0 m.toNat m.toNat)),none,some H',.Pm n,(0<=m/\m<=4611686018427387904/\(by_:Int)*m<=281474976710656)/\m=m'⟩
    |_=>none
   |_=>none
  |none=>none
 |none=>none
theorem xV {b:SB}: ∀ {H:SH} {ns:List Nat} {k:Nat->SH->Option SR},D2 H ns b k=some r-> ∃ n,ns[H.length]? =some n/\k n (H++[some b])=some r
 |[],[],k,h=>by cases h
 |[],n::ns,k,h=>⟨n,rfl,h⟩
 |x::H,[],k,h=>by cases h
 |x::H,m::ns,k,h=>by
  obtain ⟨n,h1,h2⟩:=xV (H:=H) (ns:=ns) h;exact ⟨n,by simpa using h1,h2⟩
theorem Bz: ∀ {i n:Nat},ME[i]? =some n->n=i:=by
 intro i n h;have hl:i<40:=(List.getElem?_eq_some_iff.1 h).1;have e:ME=List.range 40:=by decide
 rw[e,List.getElem?_range hl] at h;injection h with h;exact h.symm
theorem nI {b:SB} {k:Nat->SH->Option SR} (h:xW H b k=some r):k H.length (H++[some b])=some r:=by
 obtain ⟨n,h1,h2⟩:=xV h;rw[Bz h1] at h2;exact h2
theorem kP (H:SH) (b:SB):aR (H++[some b])=aR H++[some b.den]:=by simp[aR,mG]
theorem HZ (O:T.Ok P) {E:El} (hE:E.Ok P) (hH:s.H=aR H) {t:Nat} {l c:Operand} {v u:SV} (hl:s.ev l=v.den) (hc:s.ev c=u.den) (h:Ed E H t ((iD T.ms t).map fun q=>q.2.1) v u=some r):mD P ops ⟨d,.makeSlice t l c,ty,pos,af,none⟩ s r:=by
 intro rest R hp hk;unfold Ed at h
 split at h
 ·rename_i e he
  have hmem:=ee he;have h1:=fq hE.eq _ hmem;have h2:=BB hE.ok _ hmem;simp only at h1 h2
  split at h
  ·rename_i by_ hby
   obtain ⟨q,hq,hq2⟩:=Option.map_eq_some_iff.1 hby;obtain ⟨a,b',zs⟩:=q;simp only at hq2;subst hq2;have hm:=O.JS hq;rw[hm] at h1;simp only[Option.map_some,Option.some.injEq,Prod.mk.injEq] at h1;obtain ⟨e1,e2⟩:=h1;split at h
   ·split at h
    ·have h3:=nI h
     injection h3 with h3;subst h3;obtain ⟨⟨p1,p2,p3⟩,p4⟩:=hp;subst p4;rw[e2] at hm;refine Og hm hl hc p1 p2 p3 (by rw[hH,aI]) (MV h2.len h2.pos _) ?_ hk;rw[hH,kP];rfl
    ·cases h
   ·cases h
  ·cases h
 ·cases h
def zM (T:Tb) (E:El) (H:SH) (t:Nat):Option SR:=
 match iD E.ar t with
 |some (m,e)=>xW H (.bF e.z e.F e.V e.M e.d (List.replicate m e.d)) fun n H'=>some ⟨.c (.c (.ptr n 0)),none,some H',.Pm n,True⟩
 |none=>match iD T.ze t with
  |some zs=>xW H (.cells zs) fun n H'=>some ⟨.c (.c (.ptr n 0)),none,some H',.Pm n,True⟩
  |none=>none
theorem El.Ok.NA {E:El} (hE:E.Ok P) {t m:Nat} {e:oJ} (h:iD E.ar t=some (m,e)):bl P t=none/\pK P t=some (m,e.z)/\qI P t=some (((List.replicate m e.d).flatMap e.F).map aa.f):=by
 have h1:=fq hE.ar _ (ee h);simp only[Prod.mk.injEq] at h1
 exact h1
theorem D3 (O:T.Ok P) {E:El} (hE:E.Ok P) (hH:s.H=aR H) {t:Nat} (h:zM T E H t=some r):mD P ops ⟨d,.alloc t,ty,pos,af,none⟩ s r:=by
 intro rest R hp hk;unfold zM at h
 split at h
 ·rename_i m e he
  have h3:=nI h;injection h3 with h3;subst h3
  exact Es (hE.NA he).2.2 (by rw[hH,aI]) (by rw[hH,kP];rfl) hk
 ·split at h
  ·rename_i zs hz
   have h3:=nI h;injection h3 with h3;subst h3
   exact Es (O.RL hz) (by rw[hH,aI]) (by rw[hH,kP];rfl) hk
  ·cases h
theorem Ii {t:TypeId} {x i:Operand} {n:Int} {m z b off off':Nat} {k:IntKind} {rest:List Oper} {R:Rg} (hz:bl P t=none) (ha:pK P t=some (m,z)) (hx:s.ev x= .c (.ptr b off)) (hi:s.ev i= .c (.f (.v (.int k n)))) (h0:0<=n) (h1:n<m) (ho:off+n.toNat*z=off')
  (h:WR P ops rest (s.put d (.c (.ptr b off'))) (R.push .q0)):WR P ops (⟨d,.indexAddr t x i,ty,pos,af,none⟩::rest) s R:=by
 refine cz (au rfl) rfl ?_ (dh rfl rfl rfl) h;show dA P s t x i=_
 unfold dA;rw[hi];simp only[ad.ix];rw[if_pos h0,hz,ha,hx];simp only[ad.aQ,aa.aQ,if_pos h1,ho]
def KE (E:El) (H:SH) (t:Nat) (v i:SV):Option SR:=
 match iD E.ar t with
 |some (m,e)=>match i with
  | .c (.c (.f (.v (.int k n))))=>match v with
   | .c (.c (.ptr b off))=>match nth H b with
    |some (some (.bF z' F V M e' l))=>match Nat.beq e.z z',Nat.beq off 0 with
     |true,true=>some ⟨.c (.pel b z' n 0),none,none,.q0,0<=n/\n<m⟩
     |_,_=>none
    |_=>none
   |_=>none
  |_=>none
 |none=>none
theorem KF {E:El} (hE:E.Ok P) {t:Nat} {x i:Operand} {v u:SV} (hx:s.ev x=v.den) (hi:s.ev i=u.den) (h:KE E H t v u=some r):mD P ops ⟨d,.indexAddr t x i,ty,pos,af,none⟩ s r:=by
 intro rest R hp hk;unfold KE at h
 split at h
 ·rename_i m e he
  obtain ⟨h1,h2,_⟩:=hE.NA he;split at h
  ·split at h
   ·split at h
    ·split at h
     ·rename_i hb hb2
      have hb:=Nat.eq_of_beq_eq_true hb;have hb2:=Nat.eq_of_beq_eq_true hb2;subst hb2;injection h with h;subst h
      exact Ii h1 h2 hx hi hp.1 hp.2 (by rw[hb];omega) hk
     ·cases h
    ·cases h
   ·cases h
  ·cases h
 ·cases h
def Kz (H:SH) (v:SV):Option SR:=EL v fun ds=>xW H (.cells ds) fun n H'=>some ⟨.c (.c (.ptr n 0)),none,some H',.Pm n,True⟩
theorem KA (hH:s.H=aR H) {t:Nat} {x:Operand} {v:SV} (hx:s.ev x=v.den) (h:Kz H v=some r):mD P ops ⟨d,.box t x,ty,pos,af,none⟩ s r:=by
 intro rest R hp hk;unfold Kz at h
 obtain ⟨ds,h1,h2⟩:=AM h;have h3:=nI h2;injection h3 with h3;subst h3;exact Qo hx h1 (by rw[hH,aI]) (by rw[hH,kP];rfl) hk
def RP (ev:Operand->Option SV) (x:Option Operand) (k:Option Int->Option SR):Option SR:=
 match x with
 |none=>k none
 |some o=>match ev o with
  |some (.c (.c (.f (.v (.int _ n)))))=>k (some n)
  |_=>none
def qB (T:Tb) (ev:Operand->Option SV) (t:Nat) (v:SV) (lo hi:Option Operand):Option SR:=
 RP ev lo fun lo=>RP ev hi fun hi=>match v with
 | .c (.c (.f (.v (.string b))))=>match wu T.st t with
  |true=>match lo,hi with
   |none,none=>some ⟨sV (b.extract 0 b.size),none,none,.q0,True⟩
   |some l,none=>some ⟨sV (b.extract l.toNat b.size),none,none,.q0,0<=l/\l<=b.size⟩
   |none,some h=>some ⟨sV (b.extract 0 h.toNat),none,none,.q0,0<=h/\h<=b.size⟩
   |some l,some h=>some ⟨sV (b.extract l.toNat h.toNat),none,none,.q0,0<=l/\l<=h/\h<=b.size⟩
  |false=>none
 | .c (.row z F V e l)=>rows z F V e l (iD T.es t) lo hi
 | .c (.tipr z F V M e l)=>rows z F V e l (iD T.es t) lo hi
 | .c (.c (.arr b off n cap))=>match iD T.es t with
  |some z=>match lo,hi with
   |none,some h=>some ⟨.c (.c (.arr b off h.toNat cap)),none,none,.q0,0<=h/\h<=n/\n<=cap⟩
   |some a,none=>some ⟨.c (.c (.arr b (off+a.toNat*z) ((n:Int)-a).toNat (cap-a.toNat))),none,none,.q0,0<=a/\a<=n/\n<=cap/\a<cap⟩
   |_,_=>none
  |none=>none
 |_=>none
where rows {α:Type} (z:Nat) (F:α->List ag) (V:α->List SC) (e:α) (l:List α) (es:Option Nat) (lo hi:Option Int):Option SR:=
 match es with
 |some z'=>match Nat.beq z z' with
  |true=>match lo,hi with
   |none,none=>some ⟨.c (.row z F V e l),none,none,.q0,∀ x,(F x).length=z⟩
   |some a,none=>some ⟨.c (.row z F V e (l.drop a.toNat)),none,none,.q0,(0<=a/\a<=l.length)/\ ∀ x,(F x).length=z⟩
   |none,some b=>some ⟨.c (.row z F V e (l.take b.toNat)),none,none,.q0,(0<=b/\b<=l.length)/\ ∀ x,(F x).length=z⟩
   |some a,some b=>some ⟨.c (.row z F V e ((l.drop a.toNat).take (b-a).toNat)),none,none,.q0,(0<=a/\a<=b/\b<=l.length)/\ ∀ x,(F x).length=z⟩
  |false=>none
 |none=>none
theorem I2 {x:Option Operand} {k:Option Int->Option SR} (h:RP ev x k=some r) (hev: ∀ o,x=some o-> ∀ v,ev o=some v->s.ev o=v.den): ∃ n,k n=some r/\((x=none/\n=none)\/ ∃ m,n=some m/\ ∀ d,gj s x d=some m):=by
 unfold RP at h;split at h
 ·exact ⟨none,h,.inl ⟨rfl,rfl⟩⟩
 ·rename_i o
  split at h
  ·rename_i k' n hn
   refine ⟨some n,h,.inr ⟨n,rfl,fun d=> ?_⟩⟩;exact pM (hev o rfl _ hn)
  ·cases h
theorem xX (O:T.Ok P) {t:Nat} {x:Operand} {lo hi:Option Operand} {α:Type} {z:Nat} {F:α->List ag} {V:α->List SC} {e:α} {l:List α} {v:ad} (hx:s.ev x=v) (hv:v.aQ= .c (.f (.row (l.flatMap F) l.length))) {a b:Option Int}
  (ha:(lo=none/\a=none)\/ ∃ m,a=some m/\ ∀ d,gj s lo d=some m) (hb:(hi=none/\b=none)\/ ∃ m,b=some m/\ ∀ d,gj s hi d=some m) (h:qB.rows z F V e l (iD T.es t) a b=some r):mD P ops ⟨d,.slice t x lo hi none,ty,pos,af,none⟩ s r:=by
 intro rest R hp hk;unfold qB.rows at h
 split at h
 ·rename_i z' hz
  have hz:=O.oD hz;split at h
  ·rename_i hzz
   have hzz:=Nat.eq_of_beq_eq_true hzz;subst hzz;split at h
   ·injection h with h;subst h
    obtain ⟨rfl,_⟩:lo=none/\True:=by rcases ha with h|⟨m,h,_⟩;exact ⟨h.1,trivial⟩;cases h
    obtain ⟨rfl,_⟩:hi=none/\True:=by rcases hb with h|⟨m,h,_⟩;exact ⟨h.1,trivial⟩;cases h
    refine jZ hz hx hv rfl rfl (by omega) (by omega) (by omega) ?_ ?_ hk
    ·rw[show (0:Int).toNat=0 from rfl,Nat.zero_mul,List.drop_zero,Int.sub_zero,Int.toNat_natCast,cF F z hp,List.take_length]
    ·simp
   ·rename_i a'
    injection h with h;subst h;obtain ⟨⟨h0,h1⟩,hF⟩:=hp;obtain ⟨rfl,_⟩:hi=none/\True:=by rcases hb with h|⟨m,h,_⟩;exact ⟨h.1,trivial⟩;cases h
    have ha: ∀ d,gj s lo d=some a':=by rcases ha with ⟨_,h⟩|⟨m,h,h2⟩;cases h;injection h with h;subst h;exact h2
    refine jZ hz hx hv (ha 0) rfl h0 h1 (by omega) ?_ ?_ hk
    ·rw[dG F z hF,cF F z hF,List.take_of_length_le (by rw[List.length_drop];omega)]
    ·rw[List.length_drop];omega
   ·rename_i b'
    injection h with h;subst h;obtain ⟨⟨h0,h1⟩,hF⟩:=hp;obtain ⟨rfl,_⟩:lo=none/\True:=by rcases ha with h|⟨m,h,_⟩;exact ⟨h.1,trivial⟩;cases h
    have hb: ∀ d,gj s hi d=some b':=by rcases hb with ⟨_,h⟩|⟨m,h,h2⟩;cases h;injection h with h;subst h;exact h2
    refine jZ hz hx hv rfl (hb _) (by omega) h0 h1 ?_ ?_ hk
    ·rw[show (0:Int).toNat=0 from rfl,Nat.zero_mul,List.drop_zero,Int.sub_zero,cF F z hF]
    ·rw[List.length_take];omega
   ·rename_i a' b'
    injection h with h;subst h;obtain ⟨⟨h0,h1,h2⟩,hF⟩:=hp;have ha: ∀ d,gj s lo d=some a':=by rcases ha with ⟨_,h⟩|⟨m,h,h2⟩;cases h;injection h with h;subst h;exact h2
    have hb: ∀ d,gj s hi d=some b':=by rcases hb with ⟨_,h⟩|⟨m,h,h2⟩;cases h;injection h with h;subst h;exact h2
    refine jZ hz hx hv (ha 0) (hb _) h0 h1 h2 ?_ ?_ hk
    ·rw[dG F z hF,cF F z hF]
    ·rw[List.length_take,List.length_drop];omega
  ·cases h
 ·cases h
theorem Ak {t:TypeId} {x:Operand} {hi:Operand} {z b off n cap:Nat} {h':Int} (hz:bl P t=some z) (hx:s.ev x= .c (.arr b off n cap)) (hh:gj s (some hi) n=some h') (h0:0<=h') (h1:h'<=cap) {rest:List Oper} {R:Rg} (h:WR P ops rest (s.put d (.c (.arr b off h'.toNat cap))) (R.push .q0)):
  WR P ops (⟨d,.slice t x none (some hi) none,ty,pos,af,none⟩::rest) s R:=by
 refine cz (au rfl) rfl ?_ (dh rfl rfl rfl) h;show dK P s _ t x none (some hi) none=_
 unfold dK;rw[hz,hx];have e:(ad.c (aa.arr b off n cap)).aQ= .c (.arr b off n cap):=rfl;rw[e];simp only[hh];have h2:gj s none 0=some 0:=rfl;rw[h2];simp only;rw[if_pos ⟨by omega,h0,h1⟩];simp
theorem yk {t:TypeId} {x:Operand} {lo:Operand} {z b off n cap:Nat} {a:Int} (hz:bl P t=some z) (hx:s.ev x= .c (.arr b off n cap)) (hh:gj s (some lo) 0=some a) (h0:0<=a) (h1:a<=n) (h2:n<=cap) (h3:a<cap) {rest:List Oper} {R:Rg} (h:WR P ops rest (s.put d (.c (.arr b (off+a.toNat*z) ((n:Int)-a).toNat (cap-a.toNat)))) (R.push .q0)):
  WR P ops (⟨d,.slice t x (some lo) none none,ty,pos,af,none⟩::rest) s R:=by
 refine cz (au rfl) rfl ?_ (dh rfl rfl rfl) h;show dK P s _ t x (some lo) none none=_
 unfold dK;rw[hz,hx];have e:(ad.c (aa.arr b off n cap)).aQ= .c (.arr b off n cap):=rfl;rw[e];simp only[hh];have h4:gj s none (n:Int)=some (n:Int):=rfl;rw[h4];simp only;rw[if_pos ⟨h0,h1,by omega⟩,if_neg (by omega)]
theorem Eg (O:T.Ok P) {t:Nat} {x:Operand} {v:SV} {lo hi:Option Operand} (hx:s.ev x=v.den) (hlo: ∀ o,lo=some o-> ∀ v,ev o=some v->s.ev o=v.den) (hhi: ∀ o,hi=some o-> ∀ v,ev o=some v->s.ev o=v.den) (h:qB T ev t v lo hi=some r):mD P ops ⟨d,.slice t x lo hi none,ty,pos,af,none⟩ s r:=by
 unfold qB at h;obtain ⟨a,h',ha⟩:=I2 h hlo;clear h;obtain ⟨b,h,hb⟩:=I2 h' hhi;clear h';split at h
 ·rename_i b0
  intro rest R hp hk;split at h
  ·rename_i ht
   have ht:=O.KU ht;split at h
   ·injection h with h;subst h
    obtain ⟨rfl,_⟩:lo=none/\True:=by rcases ha with h|⟨m,h,_⟩;exact ⟨h.1,trivial⟩;cases h
    obtain ⟨rfl,_⟩:hi=none/\True:=by rcases hb with h|⟨m,h,_⟩;exact ⟨h.1,trivial⟩;cases h
    refine j0 ht hx rfl rfl (by omega) (by omega) (by omega) ?_;rw[Int.toNat_natCast];exact hk
   ·rename_i a'
    injection h with h;subst h;obtain ⟨rfl,_⟩:hi=none/\True:=by rcases hb with h|⟨m,h,_⟩;exact ⟨h.1,trivial⟩;cases h
    have ha: ∀ d,gj s lo d=some a':=by rcases ha with ⟨_,h⟩|⟨m,h,h2⟩;cases h;injection h with h;subst h;exact h2
    refine j0 ht hx (ha _) rfl hp.1 hp.2 (by omega) ?_;rw[Int.toNat_natCast];exact hk
   ·rename_i b'
    injection h with h;subst h;obtain ⟨rfl,_⟩:lo=none/\True:=by rcases ha with h|⟨m,h,_⟩;exact ⟨h.1,trivial⟩;cases h
    have hb: ∀ d,gj s hi d=some b':=by rcases hb with ⟨_,h⟩|⟨m,h,h2⟩;cases h;injection h with h;subst h;exact h2
    exact j0 ht hx rfl (hb _) (by omega) hp.1 hp.2 hk
   ·rename_i a' b'
    injection h with h;subst h;have ha: ∀ d,gj s lo d=some a':=by rcases ha with ⟨_,h⟩|⟨m,h,h2⟩;cases h;injection h with h;subst h;exact h2
    have hb: ∀ d,gj s hi d=some b':=by rcases hb with ⟨_,h⟩|⟨m,h,h2⟩;cases h;injection h with h;subst h;exact h2
    exact j0 ht hx (ha _) (hb _) hp.1 hp.2.1 hp.2.2 hk
  ·cases h
 ·exact xX O hx rfl ha hb h
 ·exact xX O hx rfl ha hb h
 ·intro rest R hp hk
  split at h
  ·rename_i z hz
   split at h
   ·rename_i b'
    injection h with h;subst h;obtain ⟨rfl,_⟩:lo=none/\True:=by rcases ha with h|⟨m,h,_⟩;exact ⟨h.1,trivial⟩;cases h
    have hb2: ∃ o,hi=some o:=by rcases hb with ⟨_,h⟩|⟨m,h,h2⟩;cases h;cases hi;exact absurd (h2 (m+1)) (by simp[gj];omega);exact ⟨_,rfl⟩
    obtain ⟨o,rfl⟩:=hb2;have hb: ∀ d,gj s (some o) d=some b':=by rcases hb with ⟨_,h⟩|⟨m,h,h2⟩;cases h;injection h with h;subst h;exact h2
    exact Ak (O.oD hz) hx (hb _) hp.1 (by obtain ⟨_,h2,h3⟩:=hp;omega) hk
   ·rename_i a'
    injection h with h;subst h;obtain ⟨rfl,_⟩:hi=none/\True:=by rcases hb with h|⟨m,h,_⟩;exact ⟨h.1,trivial⟩;cases h
    have ha2: ∃ o,lo=some o:=by rcases ha with ⟨_,h⟩|⟨m,h,h2⟩;cases h;cases lo;exact absurd (h2 (m+1)) (by simp[gj];omega);exact ⟨_,rfl⟩
    obtain ⟨o,rfl⟩:=ha2;have ha: ∀ d,gj s (some o) d=some a':=by rcases ha with ⟨_,h⟩|⟨m,h,h2⟩;cases h;injection h with h;subst h;exact h2
    exact yk (O.oD hz) hx (ha _) hp.1 hp.2.1 hp.2.2.1 hp.2.2.2 hk
   ·cases h
  ·cases h
 ·cases h
end
open Go.MapKept
theorem qM.map {w:World} {κ:Nat->BK} {ρ:Nat->Nat} {b:Nat} {q:Bool} {es:List (List Int×List ag)} (h:qM w κ ρ b [.mp q es]): ∃ en ck,w.heap[ρ b]? =some (.map en ck)/\qN w κ q es en:=by
 rcases h.obj with ⟨c,e,h1,h2,h3⟩|⟨q',es',en,ck,h1,h2,h3⟩
 ·exact (h3 0 (by simp) (by simp at h2;omega)).elim
 ·injection h1 with h1
  injection h1 with e1 e2;subst e1;subst e2;exact ⟨en,ck,h2,h3⟩
theorem Rel.Po {s:St} {a:Act} {w:World} {κ:Nat->BK} {ρ:Nat->Nat} (h:Rel s a w κ ρ) (q:Bool):
  Rel { s with H:=s.H++[some [.mp q []]] } a (w.alloc (.map #[] 0)) (dJ κ w.heap.size (.wr s.H.length)) (dJ ρ s.H.length w.heap.size):=by
 have m:=dU s.H.length w κ ρ (.map #[] 0) (.wr s.H.length) (dJ ρ s.H.length w.heap.size) (fun b hb=>aw _ _ (by omega));have hR:=h.mv m (fun _ h=>h);have hlen:(s.H++[some [aa.mp q []]]).length=s.H.length+1:=by simp
 refine ⟨hR.defers,hR.slot,hR.out,fun i=>ad.fT (by rw[hlen];omega) _ (hR.ok i),⟨fun b ds hb=> ?_,fun b ds hb=> ?_⟩⟩
 ·rcases Nat.lt_or_ge b s.H.length with hlt|hge
  ·have hb':s.H[b]? =some (some ds):=by rwa [List.getElem?_append_left hlt] at hb
   exact hR.heap.dk b ds hb'
  ·have hbe:b=s.H.length:=by
    rcases Nat.lt_or_ge b (s.H++[some [aa.mp q []]]).length with k|k
    ·rw[hlen] at k;omega
    ·rw[List.getElem?_eq_none k] at hb;cases hb
   subst hbe;rw[List.getElem?_append_right (Nat.le_refl _)] at hb;simp at hb;subst hb;exact ⟨by rw[aG,aG],.inr ⟨q,[],#[],0,rfl,by rw[aG,lP,if_pos rfl],rfl,fun i h=>by simp at h⟩⟩
 ·intro x hx
  rw[hlen];rcases Nat.lt_or_ge b s.H.length with hlt|hge
  ·have hb':s.H[b]? =some (some ds):=by rwa [List.getElem?_append_left hlt] at hb
   exact aa.fT (by omega) _ (h.heap.ok b ds hb' x hx)
  ·have hbe:b=s.H.length:=by
    rcases Nat.lt_or_ge b (s.H++[some [aa.mp q []]]).length with k|k
    ·rw[hlen] at k;omega
    ·rw[List.getElem?_eq_none k] at hb;cases hb
   subst hbe;rw[List.getElem?_append_right (Nat.le_refl _)] at hb;simp at hb;subst hb;rw[List.mem_singleton.1 hx];rfl
theorem G3 {n:Nat} {w:World} {κ:Nat->BK} {ρ:Nat->Nat} {g b:Nat} (hg:κ g= .wr b) (o:Obj):Mv (· =g) n w κ ρ { w with heap:=w.heap.setIfInBounds g o } κ ρ:=by
  refine ⟨rfl,rfl,rfl,by simp,fun _ _=>rfl,fun j _ hj=>⟨?_,rfl⟩,fun j p x hj hT hf=> ?_,fun _ _ _ _ h=>h,fun j m hT=> ?_⟩
  · show (w.heap.setIfInBounds g o)[j]? =_
    rw[Array.getElem?_setIfInBounds_ne (fun e=>hj e.symm)]
  · subst hT;rw[hg] at hf;simp[BK.fits] at hf
  · subst hT;rw[hg];intro e;cases e
section
variable {P:Program} {o:Oper} {s:St} {t:TypeId} {m k v:Operand} {c:Bool} {n:Nat} {q:Bool} {zs:List ag} {b:Nat} {es:List (List Int×List ag)} {ks:List Int}
theorem M7 (ho:o.op= .makeMap t none) (q:Bool):oy P o s (.c (.mh s.H.length)) { new:=some [.mp q []] } []:=by
 refine ⟨fun s' h1 h2 h3 a w κ ρ hR=> ?_,fun b cs e=>(by cases e),rfl⟩;have e:=h3 rfl;refine ⟨.map (some w.heap.size),_,_,_,.inl ?_,hR.Po q,fun d _=> ?_,?_,(dU s'.H.length w κ ρ (.map #[] 0) _ ρ (fun _ _=>rfl)).fr,fun b hb=>aw _ _ (by omega)⟩
 ·simp[execOp,ho,Instr.makeMap]
 ·show _=_
  rw[e,aG]
 ·rw[e]
  simp[ad.ok,aa.ok,St.nV,St.fD,St.mW,St.nu]
theorem uY {x:ad} {ks:List Int} (h:lY x=some ks):x.aQ=x:=by
 unfold lY at h;split at h
 ·rfl
 ·rfl
 ·cases h
theorem Rel.IW {a:Act} {w:World} {κ:Nat->BK} {ρ:Nat->Nat} (hR:Rel s a w κ ρ) {x:Operand} (h:s.ev x= .c (.mh b)):a.eval x= .map (some (ρ b)):=by
 have:=hR.ev (l:= .slot 0) x;rw[h] at this
 exact this
def u7 (q:Bool) (fs:List ag) (c is:Bool):ad:=bif c then .cC [zW q fs,.c (.f (.v (.bool is)))] else (zW q fs).Ry
theorem HG (ho:o.op= .lookup t m k c) (hT:tP P t n q zs) (hm:s.ev m= .c (.mh b)) (hb:s.H[b]? =some (some [.mp q es])) (hk:lY (s.ev k)=some ks) (hn:ks.length=n) (hok:Ll n es=true):oy P o s (u7 q ((ik es ks).getD zs) c (ik es ks).isSome) {} [b]:=by
 refine ⟨fun s' h1 h2 _ a w κ ρ hR=> ?_,fun b cs e=>(by cases e),rfl⟩;rw[h1 m (by rw[ho];simp[Op.operands])] at hm
 rw[h1 k (by rw[ho];simp[Op.operands])] at hk;rw[h2 b (by simp)] at hb;obtain ⟨en,ck,hg,hM⟩:=(hR.heap.dk b _ hb).map;have hkv:=hR.ev (l:= .slot 0) k;rw[uY hk] at hkv;have hkv:=uZ hk hkv;obtain ⟨x,hrun,hx⟩:=DA hT hg hM hok hn c;refine ⟨if c then .tuple #[x,.bool (ik es ks).isSome] else x,w,κ,ρ,.inl (by simp[execOp,ho,hR.IW hm,hkv,hrun]),hR,fun d _=> ?_,?_,Fr.refl _ _,fun _ _=>rfl⟩
 ·cases c with
  |true=>
   refine ⟨_,rfl,rfl,fun i hi hi'=> ?_⟩
   match i,hi,hi' with
   |0,_,_=>exact Cw hx
   |1,_,_=>exact ⟨rfl,cy.v _ rfl⟩
  |false=>exact Ni (Cw hx)
 ·cases c with
  |true=>
   simp only[u7,cond_true,ad.ok,List.all_cons,List.all_nil,FZ,Bool.true_and,Bool.and_true];rfl
  |false=>exact PZ (FZ _ _ _)
def valOf:Bool->ad->Option (List ag)
 |false,.c (.f x)=>some [x]
 |true,.agg cs=>fvs cs
 |_,_=>none
where fvs:List aa->Option (List ag)
 |[]=>some []
 | .f x::l=>match fvs l with
  |some r=>some (x::r)
  |none=>none
 |_=>none
theorem Ju: ∀ {l:List aa} {r:List ag},valOf.fvs l=some r->l=r.map aa.f
 |[],r,h=>by injection h with h;subst h;rfl
 |c::l,r,h=>by
  unfold valOf.fvs at h;split at h
  ·rename_i e;cases e
  ·rename_i x l' e
   injection e with e1 e2;subst e1;subst e2;split at h
   ·rename_i r' hr
    injection h with h;subst h;rw[List.map_cons,← Ju hr]
   ·cases h
  ·cases h
theorem H9 {w:World} {κ:Nat->BK} {ρ:Nat->Nat} {l:Loc} {x:ad} {vs:List ag} {y:Value} (h:valOf q x=some vs) (hr:bM w κ ρ l x y):lL w κ q vs y:=by
 unfold valOf at h;split at h
 ·injection h with h;subst h
  exact ⟨_,rfl,hr⟩
 ·have e:=Ju h
  subst e;obtain ⟨us,rfl,hs,hv⟩:=hr;refine ⟨us,rfl,by simpa using hs,fun i h1 h2=> ?_⟩;have:=(hv i (by simpa using h1) h2).2;rw[List.getElem_map] at this;exact this
 ·cases h
theorem Cr {vs0 vs:List ag} (h:ik es ks=some vs0):Nm es ks vs=es.map fun p=>if p.1==ks then (p.1,vs) else p:=by unfold Nm;rw[h]
theorem Cq {vs:List ag} (h:ik es ks=none):Nm es ks vs=es++[(ks,vs)]:=by unfold Nm;rw[h]
theorem xN {vs:List ag} (ho:o.op= .mapUpdate t m k v) (hT:tP P t n q zs) (hm:s.ev m= .c (.mh b)) (hb:s.H[b]? =some (some [.mp q es])) (hk:lY (s.ev k)=some ks) (hv:valOf q (s.ev v).aQ=some vs) (hn:ks.length=n) (hok:Ll n es=true):oy P o s (.c .any) { dk:=some (b,[.mp q (Nm es ks vs)]) } [b]:=by
 refine ⟨fun s' h1 h2 _ a w κ ρ hR=> ?_,fun b' cs e=>(by cases e;exact ⟨by simp,yc hb⟩),rfl⟩;rw[h1 m (by rw[ho];simp[Op.operands])] at hm
 rw[h1 k (by rw[ho];simp[Op.operands])] at hk;rw[h1 v (by rw[ho];simp[Op.operands])] at hv;rw[h2 b (by simp)] at hb;have hB:=hR.heap.dk b _ hb;obtain ⟨en,ck,hg,hM⟩:=hB.map;have hkv:=hR.ev (l:= .slot 0) k;rw[uY hk] at hkv;have hkv:=uZ hk hkv;have hvr:=H9 hv (hR.ev (l:= .slot 0) v);obtain ⟨kt,et,ht,K,_⟩:=hT.ty;have hc:=K.check w false ks hn;have hown:=hB.own;have key: ∀ (en':Array MapEntry) (ck':Nat),(Instr.mapUpdate t (a.eval m) (a.eval k) (a.eval v)).run P w= .ok () { w with heap:=w.heap.setIfInBounds (ρ b) (.map en' ck') }->qN w κ q (Nm es ks vs) en'->
   ∃ v' w' κ' ρ',Yields P o a w v' w'/\Rel (s'.nV { dk:=some (b,[.mp q (Nm es ks vs)]) }) a w' κ' ρ'/\(∀ d,o.dst=some d->bM w' κ' ρ' (.slot d) (.c .any) v')/\(ad.c .any).ok (s'.nV { dk:=some (b,[.mp q (Nm es ks vs)]) }).H.length=true/\Fr w κ w' κ'/\(∀ b,b<s'.H.length->ρ' b=ρ b):=by
  intro en' ck' hrun hM';have mv:=G3 (n:=s'.H.length) (w:=w) (ρ:=ρ) hown (.map en' ck');have hg':({ w with heap:=w.heap.setIfInBounds (ρ b) (.map en' ck') }:World).heap[ρ b]? =some (.map en' ck'):=by
   show (w.heap.setIfInBounds (ρ b) (.map en' ck'))[ρ b]? =_;rw[Array.getElem?_setIfInBounds_self_of_lt (jL hg)]
  refine ⟨undef,_,κ,ρ,.inr ⟨by simp[execOp,ho,hrun],rfl⟩,hR.rq hb mv ⟨hown,.inr ⟨q,_,en',ck',rfl,hg',hM'.1,fun i h1 h2=>⟨(hM'.2 i h1 h2).1,(hM'.2 i h1 h2).2.grow mv.grow⟩⟩⟩ (fun x hx=>by rw[List.mem_singleton.1 hx];rfl),fun _ _=>trivial,rfl,mv.fr,fun _ _=>rfl⟩
 rcases E5 K hM hok hn with ⟨vs0,l1,j,x,l2,l3,l4,l5,l6,l7⟩|⟨l1,l2⟩
 ·refine key (en.modify j fun e=>{ e with key:=eo ks,val:=a.eval v }) ck ?_ ?_
  ·have hst:=stays (P:=P) w ks
   rw[hR.IW hm,hkv];simp[Instr.mapUpdate,run_underlying ht,Go.MapKept.run_getObj_map hg,hc,l2,l3,l4,hst,Go.MapKept.run_setObj_map _ hg,Result.andThen]
  ·rw[Cr l1]
   refine ⟨by simp[hM.1],fun i h1 h2=> ?_⟩;have hi1:i<es.length:=by simpa using h1
   have hi2:i<en.size:=by simpa using h2
   rw[List.getElem_map,Array.getElem_modify];have hok2:=hok;unfold Ll at hok2;rw[Bool.and_eq_true] at hok2;by_cases e:j=i
   ·subst e
    rw[if_pos rfl];have:(es[j].1==ks)=true:=by rw[l7];exact beq_self_eq_true ks
    rw[if_pos this,l7];exact ⟨rfl,hvr⟩
   ·rw[if_neg e]
    have hne: ¬ (es[i].1==ks)=true:=by
     intro h;have h3:es[i].1=ks:=eq_of_beq h;have hnd:=of_decide_eq_true hok2.2;have h4:=List.pairwise_iff_getElem.1 hnd;have g1:(es.map Prod.fst)[i]'(by simpa using hi1)=ks:=by simpa using h3
     have g2:(es.map Prod.fst)[j]'(by simpa using l6)=ks:=by simpa using l7
     rcases Nat.lt_trichotomy i j with hlt|rfl|hlt
     ·exact h4 i j (by simpa using hi1) (by simpa using l6) hlt (g1.trans g2.symm)
     ·exact e rfl
     ·exact h4 j i (by simpa using l6) (by simpa using hi1) hlt (g2.trans g1.symm)
    rw[if_neg hne];exact hM.2 i hi1 hi2
 ·refine key (en.push { key:=eo ks,val:=a.eval v,born:=ck }) (ck+1) ?_ ?_
  ·rw[hR.IW hm,hkv]
   simp[Instr.mapUpdate,run_underlying ht,Go.MapKept.run_getObj_map hg,hc,l2,Go.MapKept.run_setObj_map _ hg,Result.andThen]
  ·rw[Cq l1]
   refine ⟨by simp[hM.1],fun i h1 h2=> ?_⟩;have hs:=hM.1;rcases Nat.lt_or_ge i es.length with hlt|hge
   ·rw[List.getElem_append_left hlt,Array.getElem_push_lt (by omega)]
    exact hM.2 i hlt (by omega)
   ·have:i=es.length:=by simp at h1;omega
    subst this;rw[List.getElem_append_right (Nat.le_refl _)];have e2:(en.push { key:=eo ks,val:=a.eval v,born:=ck:MapEntry })[es.length]'h2={ key:=eo ks,val:=a.eval v,born:=ck }:=by
     simp[← hs]
    rw[e2];refine ⟨?_,?_⟩
    ·simp
    ·simpa using hvr
end
end Go.Proofs.YtjkeeocnekggfaaGreat.Av
namespace Go.Proofs.YtjkeeocnekggfaaGreat.Av
def FA {β:Type} (n:Nat) (es:List (List Int×β)):Prop:=(∀ p∈es,p.1.length=n)/\(es.map Prod.fst).Nodup
def bP {β:Type} (es:List (List Int×β)) (ks:List Int):Option β:=(es.find? fun p=>p.1==ks).map Prod.snd
def Ct {β:Type} (es:List (List Int×β)) (ks:List Int) (x:β):List (List Int×β):=
 match bP es ks with
 |some _=>es.map fun p=>if p.1==ks then (p.1,x) else p
 |none=>es++[(ks,x)]
section
variable {β:Type} {n:Nat} {es:List (List Int×β)} {ks:List Int} {F:β->List ag}
theorem zt:FA n ([]:List (List Int×β)):=⟨by simp,by simp⟩
theorem JY (h:FA n es):Ll n (es.map fun p=>(p.1,F p.2))=true:=by
 unfold Ll;rw[Bool.and_eq_true];refine ⟨List.all_eq_true.2 fun p hp=> ?_,decide_eq_true ?_⟩
 ·obtain ⟨q,hq,rfl⟩:=List.mem_map.1 hp
  simpa using h.1 q hq
 ·rw[List.map_map]
  exact h.2
theorem tw: ∀ es:List (List Int×β),ik (es.map fun p=>(p.1,F p.2)) ks=(bP es ks).map F
 |[]=>rfl
 |p::es=>by
  have ih:=tw es;unfold ik bP at*
  rw[List.map_cons,List.find?_cons,List.find?_cons];cases h:p.1==ks with
  |true=>rfl
  |false=>exact ih
theorem N5 {x:β}:Nm (es.map fun p=>(p.1,F p.2)) ks (F x)=(Ct es ks x).map fun p=>(p.1,F p.2):=by
 unfold Ct;cases h:bP es ks with
 |none=>
  rw[Cq (by rw[tw,h];rfl)];simp
 |some y=>
  rw[Cr (vs0:=F y) (by rw[tw,h];rfl)];simp only[List.map_map];apply List.map_congr_left;intro p _;simp only[Function.comp_apply];split<;>rfl
theorem Dz (h:bP es ks=none): ∀ p∈es,p.1≠ks:=fun p hp e=>by
 unfold bP at h;have:=List.find?_eq_none.1 (Option.map_eq_none_iff.1 h) p hp;simp[e] at this
theorem vn {x:β} (h:FA n es) (hk:ks.length=n):FA n (Ct es ks x):=by
 unfold Ct;split
 ·refine ⟨fun p hp=> ?_,?_⟩
  ·obtain ⟨q,hq,rfl⟩:=List.mem_map.1 hp
   split<;>exact h.1 q hq
  ·rw[List.map_map]
   have:(Prod.fst ∘ fun p:List Int×β=>if p.1==ks then (p.1,x) else p)=Prod.fst:=by
    funext p;simp only[Function.comp_apply];split<;>rfl
   rw[this];exact h.2
 ·rename_i hl
  refine ⟨fun p hp=> ?_,?_⟩
  ·rcases List.mem_append.1 hp with hp|hp
   ·exact h.1 p hp
   ·rw[List.mem_singleton.1 hp];exact hk
  ·rw[List.map_append,List.nodup_append]
   refine ⟨h.2,by simp,fun a ha b hb=> ?_⟩;simp only[List.map_cons,List.map_nil,List.mem_singleton] at hb
   subst hb;obtain ⟨p,hp,rfl⟩:=List.mem_map.1 ha;exact Dz hl p hp
end
def Fi {β:Type 1}:List SC->(List Int->Option β)->Option β
 |[],k=>k []
 |x::l,k=>match x with
  | .c (.f (.v (.int .i64 n)))=>Fi l fun r=>k (n::r)
  |_=>none
theorem Bf {β:Type 1} {r:β}: ∀ {l:List SC} {k:List Int->Option β},Fi l k=some r-> ∃ ns,aU l=ns.map (fun n=>aa.f (.v (.int .i64 n)))/\k ns=some r
 |[],k,h=>⟨[],rfl,h⟩
 |x::l,k,h=>by
  unfold Fi at h;split at h
  ·obtain ⟨ns,h1,h2⟩:=Bf h
   refine ⟨_,?_,h2⟩;simp only[aU,List.map_cons] at*
   rw[h1];rfl
  ·cases h
def Mm {β:Type 1} (v:SV) (k:List Int->Option β):Option β:=
 match v with
 | .c (.c (.f (.v (.int .i64 n))))=>k [n]
 | .agg ds=>Fi ds fun l=>match l with
  |a::b::r=>k (a::b::r)
  |_=>none
 |_=>none
theorem uW: ∀ ns:List Int,ri (ns.map fun n=>aa.f (.v (.int .i64 n)))=some ns
 |[]=>rfl
 |n::ns=>by
  rw[List.map_cons];unfold ri;rw[uW ns]
theorem Fl {β:Type 1} {v:SV} {k:List Int->Option β} {r:β} (h:Mm v k=some r): ∃ ks,lY v.den=some ks/\k ks=some r:=by
 unfold Mm at h;split at h
 ·exact ⟨_,rfl,h⟩
 ·rename_i ds
  obtain ⟨ns,h1,h2⟩:=Bf h;split at h2
  ·rename_i a b r'
   refine ⟨_,?_,h2⟩;show lY (.agg (aU ds))=_
   unfold lY;rw[h1];simp only[uW]
  ·cases h2
 ·cases h
section
variable {P:Program} {ops:Array Oper} {s:St} {d:Option Tmp} {ty:TypeId} {pos:String} {af:Array Edge} {T:Tb} {r:SR} {H:SH}
theorem mD.Kq {o:Oper} {x:ad} {c:eJ} {fp:List Nat} (hg:o.guard=none) (hc:cf o=none) (hv:r.p->oy P o s x c fp) (hcl:jD s fp c=r.cl) (hs:(s.nV c).put o.dst x=r.dJ s o.dst):mD P ops o s r:=by
 intro rest R hp hk;exact mQ (au hg) hc (hv hp) hcl hs hk
def zR (E:List (Nat×Nat×Bool×oJ)) (H:SH) (t:Nat):Option SR:=
 match iD E t with
 |some (_,q,e)=>xW H (.mp q e.F e.V e.M e.d []) fun n H'=>some ⟨.c (.c (.mh n)),none,some H',⟨[],[],[],some n,false,false⟩,True⟩
 |none=>none
theorem Ee {E:List (Nat×Nat×Bool×oJ)} (hH:s.H=aR H) {t:Nat} (h:zR E H t=some r):mD P ops ⟨d,.makeMap t none,ty,pos,af,none⟩ s r:=by
 unfold zR at h;split at h
 ·rename_i n q e he
  have h3:=nI h;injection h3 with h3;subst h3
  refine mD.Kq rfl rfl (fun _=>M7 rfl q) ?_ ?_
  ·simp only[jD,eJ.wr,Option.isSome_some,if_true,hH,aI]
  ·simp only[St.nV,St.fD,St.mW,St.nu,SR.dJ,St.P8,St.HH,kP,hH,aI]
   rfl
 ·cases h
def JJ {β:Type} (q c:Bool) (V:β->List SC) (x:β) (is:Bool):Option SV:=
 match q with
 |true=>match c with
  |true=>some (.cC [.agg (V x),.c (.c (.f (.v (.bool is))))])
  |false=>some (.agg (V x))
 |false=>match V x with
  |[y]=>match c with
   |true=>some (.cC [.c y,.c (.c (.f (.v (.bool is))))])
   |false=>some (.c y)
  |_=>none
theorem JK {β:Type} {q c:Bool} {z:Nat} {F:β->List ag} {V:β->List SC} {x:β} {is:Bool} {v:SV} (hV:wL z F V) (h:JJ q c V x is=some v):u7 q (F x) c is=v.den:=by
 have hx:=(hV x).2;unfold JJ at h
 split at h
 ·split at h
  ·injection h with h;subst h
   simp only[u7,cond_true,zW,← hx];rfl
  ·injection h with h;subst h
   simp only[u7,cond_false,zW,bj.Ry,← hx];rfl
 ·split at h
  ·rename_i y hy
   rw[hy] at hx;have: ∃ f,F x=[f]/\y.den= .f f:=by
    cases hF:F x with
    |nil=>rw[hF] at hx;cases hx
    |cons f l=>
     rw[hF] at hx;simp only[aU,List.map_cons,List.map_nil,List.cons.injEq] at hx;have:l=[]:=by cases l with
      |nil=>rfl
      |cons=>cases hx.2
     subst this;exact ⟨f,rfl,hx.1⟩
   obtain ⟨f,hf,hyd⟩:=this;split at h
   ·injection h with h;subst h
    simp only[u7,cond_true,hf,zW];show _=ad.cC [bj.c y.den,_]
    rw[hyd];rfl
   ·injection h with h;subst h
    simp only[u7,cond_false,hf,zW,bj.Ry,SV.den,hyd]
  ·cases h
def Oy:Bool->Bool->Bool
 |true,true=>true
 |false,false=>true
 |_,_=>false
theorem EG {a b:Bool} (h:Oy a b=true):a=b:=by cases a<;>cases b<;>first|rfl|cases h
def Ec (E:List (Nat×Nat×Bool×oJ)) (H:SH) (t:Nat) (m k:SV) (c:Bool):Option SR:=
 match iD E t with
 |some (n,q,e)=>match m with
  | .c (.c (.mh b))=>match nth H b with
   |some (some (.mp q' F V M d es))=>match Oy q q' with
    |true=>Mm k fun ks=>match JJ q' c V ((bP es ks).getD d) (bP es ks).isSome with
     |some v=>some ⟨v,none,none,⟨[b],[],[],none,false,false⟩,(ks.length=n/\FA n es)/\(∃ z,wL z F V)/\e.F e.d=F d⟩
     |none=>none
    |false=>none
   |_=>none
  |_=>none
 |none=>none
theorem HX {E:List (Nat×Nat×Bool×oJ)} (hE:Bq P E) (hH:s.H=aR H) {t:Nat} {x y:Operand} {m k:SV} {c:Bool} (hx:s.ev x=m.den) (hy:s.ev y=k.den) (h:Ec E H t m k c=some r):mD P ops ⟨d,.lookup t x y c,ty,pos,af,none⟩ s r:=by
 unfold Ec at h;split at h
 ·rename_i n q e he
  obtain ⟨hT,hO⟩:=vf hE _ (ee he);simp only at hT hO;split at h
  ·rename_i b
   split at h
   ·rename_i β q' F V M d' es hb
    have hb':s.H[b]? =some (some [.mp q' (es.map fun p=>(p.1,F p.2))]):=by rw[hH];exact dz hb
    split at h
    ·rename_i hq
     have hq:=EG hq;subst hq;obtain ⟨ks,hk,h⟩:=Fl h;split at h
     ·rename_i v hv
      injection h with h;subst h;intro rest R hp hk';obtain ⟨⟨p1,p2⟩,⟨z,hV⟩,p3⟩:=hp;rw[p3] at hT;have e1:=JK hV hv;have hs:=HG (P:=P) (o:=⟨d,.lookup t x y c,ty,pos,af,none⟩) rfl hT hx hb' (by rw[hy];exact hk) p1 (JY p2);rw[tw] at hs;have e2:((bP es ks).map F).getD (F d')=F ((bP es ks).getD d'):=by cases bP es ks<;>rfl
      have e3:((bP es ks).map F).isSome=(bP es ks).isSome:=by cases bP es ks<;>rfl
      rw[e2,e3,e1] at hs;exact mQ (au rfl) rfl hs rfl rfl hk'
     ·cases h
    ·cases h
   ·cases h
  ·cases h
 ·cases h
def KM (E:List (Nat×Nat×Bool×oJ)) (H:SH) (t:Nat) (m k v:SV):Option SR:=
 match iD E t with
 |some (n,q,e)=>match m with
  | .c (.c (.mh b))=>match nth H b with
   |some (some (.mp q' F V M d es))=>match Oy q q' with
    |true=>Mm k fun ks=>match q' with
     |true=>match v with
      | .agg ds=>Li ds fun fs=>match M fs with
       |some x=>gr H b (some (.mp true F V M d (Ct es ks x))) fun H'=>some ⟨qV,none,some H',⟨[b],[],[b],none,false,false⟩,(ks.length=n/\FA n es)/\F x=fs⟩
       |none=>none
      |_=>none
     |false=>match v with
      | .c y=>match aF y with
       |true=>Li [y] fun fs=>match M fs with
        |some x=>gr H b (some (.mp false F V M d (Ct es ks x))) fun H'=>some ⟨qV,none,some H',⟨[b],[],[b],none,false,false⟩,(ks.length=n/\FA n es)/\F x=fs⟩
        |none=>none
       |false=>none
      |_=>none
    |false=>none
   |_=>none
  |_=>none
 |none=>none
theorem E8: ∀ fs:List ag,valOf.fvs (fs.map aa.f)=some fs
 |[]=>rfl
 |f::fs=>by
  rw[List.map_cons];unfold valOf.fvs;rw[E8 fs]
theorem KN {E:List (Nat×Nat×Bool×oJ)} (hE:Bq P E) (hH:s.H=aR H) {t:Nat} {x y z:Operand} {m k v:SV} (hx:s.ev x=m.den) (hy:s.ev y=k.den) (hz:s.ev z=v.den) (h:KM E H t m k v=some r):mD P ops ⟨none,.mapUpdate t x y z,ty,pos,af,none⟩ s r:=by
 unfold KM at h;split at h
 ·rename_i n q e he
  obtain ⟨hT,hO⟩:=vf hE _ (ee he);simp only at hT hO;split at h
  ·rename_i b
   split at h
   ·rename_i β q' F V M d' es hb
    have hb':s.H[b]? =some (some [.mp q' (es.map fun p=>(p.1,F p.2))]):=by rw[hH];exact dz hb
    split at h
    ·rename_i hq
     have hq:=EG hq;subst hq;obtain ⟨ks,hk,h'⟩:=Fl h;clear h;have h:=h';clear h';split at h
     ·split at h
      ·rename_i ds
       obtain ⟨fs,h1,h2⟩:=m9 h;split at h2
       ·rename_i a ha
        obtain ⟨h3,h4⟩:=b9 h2;injection h4 with h4;subst h4;intro rest R hp hk';obtain ⟨⟨p1,p2⟩,p3⟩:=hp;have hs:=xN (P:=P) (vs:=fs) (o:=⟨none,.mapUpdate t x y z,ty,pos,af,none⟩) rfl hT hx hb' (by rw[hy];exact hk) (by rw[hz];show valOf.fvs (aU ds)=_;rw[h1,E8]) p1 (JY p2);rw[← p3,N5] at hs;refine mQ (au rfl) rfl hs rfl ?_ hk';simp only[St.nV,St.fD,St.mW,St.nu,SR.dJ,St.P8,St.HH,gz,hH];rfl
       ·cases h2
      ·cases h
     ·split at h
      ·rename_i y'
       split at h
       ·obtain ⟨fs,h1,h2⟩:=m9 h
        split at h2
        ·rename_i a ha
         obtain ⟨h3,h4⟩:=b9 h2;injection h4 with h4;subst h4;intro rest R hp hk';obtain ⟨⟨p1,p2⟩,p3⟩:=hp;have e1:[y'.den]=fs.map aa.f:=h1;have hf: ∃ f,fs=[f]/\y'.den= .f f:=by
          cases fs with
          |nil=>cases e1
          |cons f l=>
           simp only[List.map_cons,List.cons.injEq] at e1;have:l=[]:=by cases l with
            |nil=>rfl
            |cons=>cases e1.2
           subst this;exact ⟨f,rfl,e1.1⟩
         obtain ⟨f,rfl,hyd⟩:=hf;have hs:=xN (P:=P) (vs:=[f]) (o:=⟨none,.mapUpdate t x y z,ty,pos,af,none⟩) rfl hT hx hb' (by rw[hy];exact hk) (by rw[hz];show valOf false (ad.c y'.den.aQ)=_;rw[hyd];rfl) p1 (JY p2);rw[← p3,N5] at hs;refine mQ (au rfl) rfl hs rfl ?_ hk';simp only[St.nV,St.fD,St.mW,St.nu,SR.dJ,St.P8,St.HH,gz,hH];rfl
        ·cases h2
       ·cases h
      ·cases h
    ·cases h
   ·cases h
  ·cases h
 ·cases h
end
section
variable {P:Program} {ops:Array Oper} {s:St} {d:Option Tmp} {ty:TypeId} {pos:String} {af:Array Edge} {T:Tb} {r:SR} {H:SH} {ev:Operand->Option SV}
def PT (sz:Nat) (u:SV) (k:Nat->List ag->Prop->Option SR):Option SR:=
 match u with
 | .c (.row z F V e l)=>match Nat.beq z sz with
  |true=>k l.length (l.flatMap F) (∀ x,(F x).length=z)
  |false=>none
 | .c (.tipr z F V M e l)=>match Nat.beq z sz with
  |true=>k l.length (l.flatMap F) (∀ x,(F x).length=z)
  |false=>none
 | .c (.c (.f (.row cs n)))=>k n cs (cs.length=n*sz)
 | .c (.c (.bg true _ cs n))=>k n cs (cs.length=n*sz)
 | .c (.c (.f .nils))=>k 0 [] True
 |_=>none
def QK {α:Type} (u:SV) (M:List ag->Option α):Option α:=
 match u with
 | .c (.c (.f (.row cs n)))=>match Nat.beq n 1 with
  |true=>M cs
  |false=>none
 | .c (.c (.bg true _ cs n))=>match Nat.beq n 1 with
  |true=>M cs
  |false=>none
 |_=>none
def FE (a b:List ag):Prop:=a=b
theorem zD {a b:List ag} (h:FE a b):FE a b:=h
def Kv (T:Tb) (t tx:Nat) (x:Operand) (v u:SV):Option SR:=
 match iD T.ms t with
 |some (sz,by_,_)=>match iD T.es tx with
  |some z=>match Nat.beq z sz with
   |true=>PT sz u fun n fs p=>match v with
    | .c (.ownr z' F V M e l)=>match x with
     | .tmp w=>match Nat.beq z' sz with
      |true=>match QK u M with
       |some y=>some ⟨.c (.ownr sz F V M e (l++[y])),some (w,.v (.c (.c (.f (.row [] l.length))))),none,⟨[],[],[],none,true,false⟩,(p/\n=1/\FE fs (F y))/\l.length+1<=4611686018427387904/\(l.length+1)*by_<=140737488355328⟩
       |none=>some ⟨.c (.c (.bg false sz (l.flatMap F++fs) (l.length+n))),some (w,.v (.c (.c (.f (.row [] l.length))))),none,⟨[],[],[],none,true,false⟩,p/\l.length+n<=4611686018427387904/\(l.length+n)*by_<=140737488355328⟩
      |false=>none
     |_=>none
    | .c (.c (.bg true z' cs len))=>match x with
     | .tmp w=>match Nat.beq z' sz with
      |true=>some ⟨.c (.c (.bg true sz (cs++fs) (len+n))),some (w,.v (.c (.c (.f (.row cs len))))),none,⟨[],[],[],none,true,false⟩,p/\len+n<=4611686018427387904/\(len+n)*by_<=140737488355328⟩
      |false=>none
     |_=>none
    | .c (.tipr z' F V M e l)=>match x with
     | .tmp w=>match Nat.beq z' sz with
      |true=>match QK u M with
       |some y=>some ⟨.c (.tipr sz F V M e (l++[y])),some (w,.v (.c (.row z' F V e l))),none,⟨[],[],[],none,true,false⟩,(p/\n=1/\FE fs (F y))/\l.length+1<=4611686018427387904/\(l.length+1)*by_<=140737488355328⟩
       |none=>some ⟨.c (.c (.bg true sz (l.flatMap F++fs) (l.length+n))),some (w,.v (.c (.row z' F V e l))),none,⟨[],[],[],none,true,false⟩,p/\l.length+n<=4611686018427387904/\(l.length+n)*by_<=140737488355328⟩
      |false=>none
     |_=>none
    | .c (.c (.f .nils))=>some ⟨.c (.c (.bg true sz fs n)),none,none,⟨[],[],[],none,false,false⟩,p/\n<=4611686018427387904/\n*by_<=140737488355328⟩
    |_=>none
   |false=>none
  |none=>none
 |none=>none
theorem Nc (O:T.Ok P) {sz tx:Nat} {u:SV} {y:Operand} {k:Nat->List ag->Prop->Option SR} (hy:s.ev y=u.den) (hz:bl P tx=some sz) (h:PT sz u k=some r):
  ∃ n fs p,k n fs p=some r/\gK (s.ev y).aQ=[]/\(p->bo P s sz tx y=some (n,fs)):=by
 unfold PT at h;split at h
 ·split at h
  ·rename_i hb
   have hb:=Nat.eq_of_beq_eq_true hb;subst hb;exact ⟨_,_,_,h,by rw[hy];rfl,fun hF=>qD hy rfl hz (aK _ _ hF _)⟩
  ·cases h
 ·split at h
  ·rename_i hb
   have hb:=Nat.eq_of_beq_eq_true hb;subst hb;exact ⟨_,_,_,h,by rw[hy];rfl,fun hF=>qD hy rfl hz (aK _ _ hF _)⟩
  ·cases h
 ·exact ⟨_,_,_,h,by rw[hy];rfl,fun hF=>qD hy rfl hz hF⟩
 ·exact ⟨_,_,_,h,by rw[hy];rfl,fun hF=>qD hy rfl hz hF⟩
 ·exact ⟨_,_,_,h,by rw[hy];rfl,fun _=>Nd hy hz⟩
 ·cases h
theorem Kw (O:T.Ok P) {t tx:Nat} {x y:Operand} {v u:SV} (hx:s.ev x=v.den) (hy:s.ev y=u.den) (h:Kv T t tx x v u=some r):mD P ops ⟨d,.call { callee:= .builtin .append,args:= #[x,y],argTypes:= #[t,tx] },ty,pos,af,none⟩ s r:=by
 intro rest R hp hk;unfold Kv at h
 split at h
 ·rename_i sz by_ zs hm
  have hm:=O.JS hm;split at h
  ·rename_i z hz
   have hz:=O.oD hz;split at h
   ·rename_i hb
    have hb:=Nat.eq_of_beq_eq_true hb;subst hb;obtain ⟨n,fs,p,h,harr,hsrc⟩:=Nc O hy hz h;split at h
    ·split at h
     ·split at h
      ·rename_i hb
       have hb:=Nat.eq_of_beq_eq_true hb;subst hb;split at h
       ·injection h with h;subst h
        obtain ⟨⟨p0,rfl,p1⟩,p2,p3⟩:=hp;have p1:fs=_:=p1;subst p1;refine gG hm hx (hsrc p0) harr p2 p3 ?_;have e: ∀ (α:Type) (F:α->List ag) (l:List α) (y:α),(l++[y]).flatMap F=l.flatMap F++F y:=fun α F l y=>by simp
        simp only[SR.dJ,SV.den,SC.den,e,List.length_append,List.length_cons,List.length_nil,Nat.zero_add] at hk;exact hk
       ·injection h with h;subst h
        exact gG hm hx (hsrc hp.1) harr hp.2.1 hp.2.2 hk
      ·cases h
     ·cases h
    ·split at h
     ·split at h
      ·rename_i hb
       have hb:=Nat.eq_of_beq_eq_true hb;subst hb;injection h with h;subst h
       exact gG hm hx (hsrc hp.1) harr hp.2.1 hp.2.2 hk
      ·cases h
     ·cases h
    ·split at h
     ·split at h
      ·rename_i hb
       have hb:=Nat.eq_of_beq_eq_true hb;subst hb;split at h
       ·injection h with h;subst h
        obtain ⟨⟨p0,rfl,p1⟩,p2,p3⟩:=hp;have p1:fs=_:=p1;subst p1;refine gG hm hx (hsrc p0) harr p2 p3 ?_;have e: ∀ (α:Type) (F:α->List ag) (l:List α) (y:α),(l++[y]).flatMap F=l.flatMap F++F y:=fun α F l y=>by simp
        simp only[SR.dJ,SV.den,SC.den,e,List.length_append,List.length_cons,List.length_nil,Nat.zero_add] at hk;exact hk
       ·injection h with h;subst h
        exact gG hm hx (hsrc hp.1) harr hp.2.1 hp.2.2 hk
      ·cases h
     ·cases h
    ·injection h with h;subst h
     exact ye hm hx (hsrc hp.1) harr hp.2.1 hp.2.2 hk
    ·cases h
   ·cases h
  ·cases h
 ·cases h
def jo {α:Type} (l:List α) (i:Nat) (new:List α):List α:=l.take i++new++l.drop (i+new.length)
theorem FK: ∀ (xs cs:List ag) (o:Nat),o+xs.length<=cs.length->jl cs o xs=cs.take o++xs++cs.drop (o+xs.length)
 |[],cs,o,h=>by simp[jl]
 |x::xs,cs,o,h=>by
  simp only[List.length_cons] at h;rw[jl,FK xs _ (o+1) (by rw[List.length_set];omega)];have h1:(cs.set o x).take (o+1)=cs.take o++[x]:=by
   rw[List.take_succ_eq_append_getElem (by rw[List.length_set];omega),List.take_set_of_le (Nat.le_refl _)];simp
  have h2:(cs.set o x).drop (o+1+xs.length)=cs.drop (o+1+xs.length):=List.drop_set_of_lt (by omega);rw[h1,h2];simp only[List.append_assoc,List.singleton_append,List.length_cons];rw[show o+1+xs.length=o+(xs.length+1) by omega]
theorem Ej {α:Type} {F:α->List ag} {z:Nat} (hF: ∀ x,(F x).length=z) (l new:List α) (i:Nat) (h:i+new.length<=l.length):setAt ((l.flatMap F).map aa.f) (i*z) ((new.flatMap F).map aa.f)=((jo l i new).flatMap F).map aa.f:=by
 have hl:(new.flatMap F).length=new.length*z:=aK F z hF new;have hl2:(l.flatMap F).length=l.length*z:=aK F z hF l;have h3:(i+new.length)*z<=l.length*z:=Nat.mul_le_mul_right _ h;rw[lE,FK _ _ _ (by rw[hl,hl2];rw[Nat.add_mul] at h3;exact h3)];unfold jo;rw[List.flatMap_append,List.flatMap_append,← cF F z hF,← dG F z hF,hl,Nat.add_mul]
def D6 (T:Tb) (H:SH) (t tx:Nat) (v u:SV):Option SR:=
 match iD T.es t with
 |some z=>match iD T.es tx with
  |some z2=>match Nat.beq z z2 with
   |true=>match v with
    | .c (.c (.arr b off len _))=>match nth H b with
     |some (some (.bF z' F V M e l))=>match Nat.beq z z' with
      |true=>match u with
       | .c (.c (.arr b2 off2 n2 _))=>match Nat.beq b b2 with
        |true=>gr H b (some (.bF z' F V M e (jo l (off / z) ((l.drop (off2 / z)).take (min n2 len))))) fun H'=>some ⟨.c (.c (.f (.v (.int .i64 (min n2 len:Nat))))),none,some H',⟨[b,b],[],[b],none,false,false⟩,(off%z=0/\off2%z=0)/\(off / z+len<=l.length/\off2 / z+n2<=l.length)/\(∀ x,(F x).length=z)/\ ∀ x,jX ((F x).map aa.f)=some (F x)⟩
        |false=>none
       | .c (.c (.f (.row cs n2)))=>match M cs with
        |some a=>gr H b (some (.bF z' F V M e (jo l (off / z) ([a].take (min n2 len))))) fun H'=>some ⟨.c (.c (.f (.v (.int .i64 (min n2 len:Nat))))),none,some H',⟨[b],[],[b],none,false,false⟩,(off%z=0/\n2=1)/\off / z+len<=l.length/\(∀ x,(F x).length=z)/\cs=F a⟩
        |none=>none
       |_=>none
      |false=>none
     |_=>none
    |_=>none
   |false=>none
  |none=>none
 |none=>none
theorem A6: ∀ (a b:List aa) (x y:List ag),jX a=some x->jX b=some y->jX (a++b)=some (x++y)
 |[],b,x,y,h1,h2=>by injection h1 with h1;subst h1;exact h2
 |c::a,b,x,y,h1,h2=>by
  unfold jX at h1;split at h1
  ·rename_i x0 xs e1 e2
   injection h1 with h1;subst h1;have:=A6 a b xs y e2 h2;simp only[List.cons_append,jX,e1,this]
  ·cases h1
theorem A7 {α:Type} {F:α->List ag} (hF: ∀ y,jX ((F y).map aa.f)=some (F y)): ∀ l:List α,jX ((l.flatMap F).map aa.f)=some (l.flatMap F)
 |[]=>rfl
 |x::l=>by
  rw[List.flatMap_cons,List.map_append];exact A6 _ _ _ _ (hF x) (A7 hF l)
theorem De {off z:Nat} (h:off%z=0):off / z*z=off:=Nat.div_mul_cancel (Nat.dvd_of_mod_eq_zero h)
theorem Jb {α:Type} {F:α->List ag} {z:Nat} (hF: ∀ x,(F x).length=z) (hfz: ∀ x,jX ((F x).map aa.f)=some (F x)) {tx:Nat} (hz:bl P tx=some z) {y:Operand} {b j n cap:Nat} (hy:s.ev y= .c (.arr b (j*z) n cap)) {l:List α} (hB:s.H[b]? =some (some ((l.flatMap F).map aa.f))) (h:j+n<=l.length):
  bo P s z tx y=some (n,((l.drop j).take n).flatMap F):=by
 have hL:=aK F z hF l;have k2:(j+n)*z<=l.length*z:=Nat.mul_le_mul_right _ h;rw[Nat.add_mul] at k2
 unfold bo;rw[hy];have e:(ad.c (aa.arr b (j*z) n cap)).aQ= .c (.arr b (j*z) n cap):=rfl;rw[e];dsimp only;rw[hz,hB];dsimp only;rw[if_pos ⟨rfl,by rw[List.length_map,hL];exact k2⟩,← List.map_drop,← List.map_take,dG F z hF,cF F z hF,A7 hfz]
theorem EP {α:Type} {F:α->List ag} {z:Nat} (hF: ∀ x,(F x).length=z) {t tx:Nat} (hz:bl P t=some z) {x y:Operand} {b i n len cap:Nat} (hx:s.ev x= .c (.arr b (i*z) len cap)) {l new:List α} (hB:s.H[b]? =some (some ((l.flatMap F).map aa.f))) (h:i+len<=l.length) (hs:bo P s z tx y=some (n,new.flatMap F)) (hn:new.length=n):
  oz P s t tx x y=some (.c (.f (.v (.int .i64 (min n len:Nat)))),{ dk:=some (b,((jo l i (new.take (min n len))).flatMap F).map aa.f) }):=by
 have hL:=aK F z hF l;have k1:(i+len)*z<=l.length*z:=Nat.mul_le_mul_right _ h;rw[Nat.add_mul] at k1
 unfold oz;rw[hz,hx];have e:(ad.c (aa.arr b (i*z) len cap)).aQ= .c (.arr b (i*z) len cap):=rfl;rw[e];dsimp only;rw[hs,hB];dsimp only;rw[if_pos ⟨by rw[List.length_map,hL];exact k1,zr _⟩,cF F z hF,Ej hF l (new.take (min n len)) i (by rw[List.length_take,hn];omega)]
theorem HU (O:T.Ok P) (hH:s.H=aR H) {t tx:Nat} {x y:Operand} {v u:SV} (hx:s.ev x=v.den) (hy:s.ev y=u.den) (h:D6 T H t tx v u=some r):mD P ops ⟨d,.call { callee:= .builtin .copy,args:= #[x,y],argTypes:= #[t,tx] },ty,pos,af,none⟩ s r:=by
 intro rest R hp hk;unfold D6 at h
 split at h
 ·rename_i z hz
  have hz:=O.oD hz;split at h
  ·rename_i z2 hz2
   have hz2:=O.oD hz2;split at h
   ·rename_i hb
    have hb:=Nat.eq_of_beq_eq_true hb;subst hb;split at h
    ·rename_i b off len cap
     split at h
     ·rename_i α z' F V M e0 l hB
      have hB':s.H[b]? =some (some ((l.flatMap F).map aa.f)):=by rw[hH];exact dz hB
      split at h
      ·rename_i hb
       have hb:=Nat.eq_of_beq_eq_true hb;subst hb;split at h
       ·rename_i b2 off2 n2 cap2
        split at h
        ·rename_i hb
         have hb:=Nat.eq_of_beq_eq_true hb;subst hb;obtain ⟨h1,h2⟩:=b9 h;injection h2 with h2;subst h2
         obtain ⟨⟨m1,m2⟩,⟨q1,q2⟩,hF,hfz⟩:=hp;have e1:=De m1;have e2:=De m2;have hx':s.ev x= .c (.arr b (off / z*z) len cap):=by rw[e1];exact hx
         have hy':s.ev y= .c (.arr b (off2 / z*z) n2 cap2):=by rw[e2];exact hy
         have hs:=Jb hF hfz hz2 hy' hB' q2;have hd:=EP (t:=t) hF hz hx' hB' q1 hs (by rw[List.length_take,List.length_drop];omega);rw[List.take_take,Nat.min_eq_left (Nat.min_le_left _ _)] at hd
         refine iY (au rfl) rfl hd ?_ ?_ hk
         ·simp only[gM,kW,s6,hx,hy,SV.den,SC.den,ad.aQ,aa.aQ,gK,List.cons_append,List.nil_append,eJ.wr,rj]
          rfl
         ·rw[SR.dJ]
          simp only[St.nV,St.fD,St.mW,St.nu,St.P8,St.HH,gz,SB.den,hH];rfl
        ·cases h
       ·rename_i cs n2
        split at h
        ·rename_i a ha
         obtain ⟨h1,h2⟩:=b9 h;injection h2 with h2;subst h2;obtain ⟨⟨m1,rfl⟩,q1,hF,rfl⟩:=hp;have e1:=De m1;have hx':s.ev x= .c (.arr b (off / z*z) len cap):=by rw[e1];exact hx
         have hs:bo P s z tx y=some (1,[a].flatMap F):=by
          rw[List.flatMap_cons,List.flatMap_nil,List.append_nil];exact qD hy rfl hz2 (by rw[hF,Nat.one_mul])
         have hd:=EP (t:=t) hF hz hx' hB' q1 hs rfl;refine iY (au rfl) rfl hd ?_ ?_ hk
         ·simp only[gM,kW,s6,hx,hy,SV.den,SC.den,ad.aQ,aa.aQ,gK,List.cons_append,List.nil_append,eJ.wr,rj]
          rfl
         ·rw[SR.dJ]
          simp only[St.nV,St.fD,St.mW,St.nu,St.P8,St.HH,gz,SB.den,hH];rfl
        ·cases h
       ·cases h
      ·cases h
     ·cases h
    ·cases h
   ·cases h
  ·cases h
 ·cases h
def rd:Op->List Operand
 | .move x| .assign x| .nilCheck x| .box _ x| .extract x _=>[x]
 | .fieldAddr _ x _| .field _ x _| .load _ x| .unOp _ _ x| .convert _ _ x=>[x]
 | .store _ x y| .indexAddr _ x y| .index _ x y| .binOp _ _ x y _| .makeSlice _ x y=>[x,y]
 | .build _ ps| .buildSlice _ _ ps=>ps.toList.map (·.2)
 | .slice _ x lo hi mx=>x::(lo.toList++hi.toList++mx.toList)
 | .call c=>c.args.toList
 | .lookup _ x y _=>[x,y]
 | .mapUpdate _ x y z=>[x,y,z]
 |_=>[]
def lF (ev:Operand->Option SV) (x:Operand) (k:SV->Option SR):Option SR:=
 match ev x with
 |some v=>k v
 |none=>none
def vO (T:Tb) (ev:Operand->Option SV) (t:Nat) (v:SV) (lo hi:Option Operand) (m:Operand):Option SR:=
 match lo with
 |some lo=>match hi with
  |some hi=>lF ev lo fun a=>lF ev hi fun b=>lF ev m fun c=>match a with
   | .c (.c (.f (.v (.int _ a))))=>match b with
    | .c (.c (.f (.v (.int _ b))))=>match c with
     | .c (.c (.f (.v (.int _ c))))=>match v with
      | .c (.row z F V e l)=>match iD T.es t with
       |some z'=>match Nat.beq z z' with
        |true=>some ⟨.c (.row z F V e ((l.drop a.toNat).take (b-a).toNat)),none,none,.q0,(0<=a/\a<=b/\b<=c/\c<=l.length)/\ ∀ x,(F x).length=z⟩
        |false=>none
       |none=>none
      |_=>none
     |_=>none
    |_=>none
   |_=>none
  |none=>none
 |none=>none
def KB (T:Tb) (H:SH) (ev:Operand->Option SV) (c:Call):Option SR:=
 match c.callee with
 | .builtin .len=>match c.args.toList with
  |[x]=>match c.argTypes.toList with
   |[t]=>lF ev x fun v=>KG T t v
   |_=>none
  |_=>none
 | .builtin .append=>match c.args.toList with
  |[x,y]=>match c.argTypes.toList with
   |[t,tx]=>lF ev x fun v=>lF ev y fun u=>Kv T t tx x v u
   |_=>none
  |_=>none
 | .builtin .copy=>match c.args.toList with
  |[x,y]=>match c.argTypes.toList with
   |[t,tx]=>lF ev x fun v=>lF ev y fun u=>D6 T H t tx v u
   |_=>none
  |_=>none
 | .builtin .max=>match c.args.toList with
  |[x,y]=>match c.argTypes.toList with
   |[_,_]=>lF ev x fun v=>lF ev y fun u=>HY true v u
   |_=>none
  |_=>none
 | .builtin .min=>match c.args.toList with
  |[x,y]=>match c.argTypes.toList with
   |[_,_]=>lF ev x fun v=>lF ev y fun u=>HY false v u
   |_=>none
  |_=>none
 |_=>none
def so (T:Tb) (E:El) (ops:Array Oper) (ev:Operand->Option SV) (H:SH) (o:Oper):Option SR:=
 match o.op with
 | .move x=>lF ev x fun v=>rM (el ops o) x v
 | .assign x=>lF ev x fun v=>rM true x v
 | .nilCheck x=>lF ev x fun v=>KK v
 | .fieldAddr t x f=>lF ev x fun v=>PO T t f v
 | .load t x=>lF ev x fun v=>D9 T (el ops o) H t v
 | .store t x y=>match o.dst with
  |none=>lF ev x fun v=>lF ev y fun u=>zS T H t v y u
  |some _=>none
 | .indexAddr t x i=>lF ev x fun v=>lF ev i fun u=>match iD T.es t with
  |some _=>PR T H t v u
  |none=>KE E H t v u
 | .index t x i=>lF ev x fun v=>lF ev i fun u=>zQ T t v u
 | .field t x f=>lF ev x fun v=>zP T t f v
 | .extract x i=>lF ev x fun v=>KC i v
 | .binOp op t x y _=>lF ev x fun v=>lF ev y fun u=>Kx T op t v u
 | .unOp op _ x=>lF ev x fun v=>PS op v
 | .build t ps=>zN T ev t ps.toList
 | .buildSlice t n ps=>rL T ev t n ps.toList
 | .makeSlice t l c=>lF ev l fun v=>lF ev c fun u=>Ed E H t ((iD T.ms t).map fun q=>q.2.1) v u
 | .slice t x lo hi mx=>match mx with
  |none=>lF ev x fun v=>qB T ev t v lo hi
  |some m=>lF ev x fun v=>vO T ev t v lo hi m
 | .convert t u x=>lF ev x fun v=>D5 T t u v
 | .alloc t=>zM T E H t
 | .box _ x=>lF ev x fun v=>Kz H v
 | .call c=>KB T H ev c
 | .makeMap t none=>zR E.mp H t
 | .lookup t x y c=>lF ev x fun m=>lF ev y fun k=>Ec E.mp H t m k c
 | .mapUpdate t x y z=>match o.dst with
  |none=>lF ev x fun m=>lF ev y fun k=>lF ev z fun v=>KM E.mp H t m k v
  |some _=>none
 |_=>none
theorem cc {x:Operand} {k:SV->Option SR} (h:lF ev x k=some r): ∃ v,ev x=some v/\k v=some r:=by
 unfold lF at h;split at h
 ·exact ⟨_,by assumption,h⟩
 ·cases h
theorem Cg (O:T.Ok P) {t:Nat} {x m:Operand} {v:SV} {lo hi:Option Operand} (hx:s.ev x=v.den) (hlo: ∀ o,lo=some o-> ∀ v,ev o=some v->s.ev o=v.den) (hhi: ∀ o,hi=some o-> ∀ v,ev o=some v->s.ev o=v.den) (hm: ∀ v,ev m=some v->s.ev m=v.den) (h:vO T ev t v lo hi m=some r):mD P ops ⟨d,.slice t x lo hi (some m),ty,pos,af,none⟩ s r:=by
 unfold vO at h;split at h
 ·split at h
  ·rename_i lo hi
   obtain ⟨a',ha1,h⟩:=cc h;obtain ⟨b',hb1,h⟩:=cc h;obtain ⟨c',hc1,h⟩:=cc h;split at h
   ·split at h
    ·split at h
     ·split at h
      ·split at h
       ·rename_i hz
        have hz:=O.oD hz;split at h
        ·rename_i hzz
         have hzz:=Nat.eq_of_beq_eq_true hzz;subst hzz;injection h with h;subst h
         intro rest R hp hk;obtain ⟨⟨h0,h1,h2,h3⟩,hF⟩:=hp;refine ym hz hx rfl (pM (hlo _ rfl _ ha1)) (pM (hhi _ rfl _ hb1)) (pM (hm _ hc1)) h0 h1 h2 h3 ?_ ?_ hk
         ·rw[dG _ _ hF,cF _ _ hF]
         ·rw[List.length_take,List.length_drop];omega
        ·cases h
       ·cases h
      ·cases h
     ·cases h
    ·cases h
   ·cases h
  ·cases h
 ·cases h
theorem Rt (O:T.Ok P) {E:El} (hE:E.Ok P) (hH:s.H=aR H) {o:Oper} (ho:o.guard=none) (hev: ∀ x∈rd o.op,∀ v,ev x=some v->s.ev x=v.den) (h:so T E ops ev H o=some r):mD P ops o s r:=by
 obtain ⟨d,op,ty,pos,af,g⟩:=o;simp only at ho;subst ho;unfold so at h;simp only at h hev;split at h
 ·obtain ⟨v,h1,h2⟩:=cc h;exact H3 (hev _ (by simp[rd]) v h1) h2
 ·obtain ⟨v,h1,h2⟩:=cc h;exact Ce (hev _ (by simp[rd]) v h1) h2
 ·obtain ⟨v,h1,h2⟩:=cc h;exact KL (hev _ (by simp[rd]) v h1) h2
 ·obtain ⟨v,h1,h2⟩:=cc h;exact M8 O (hev _ (by simp[rd]) v h1) h2
 ·obtain ⟨v,h1,h2⟩:=cc h;exact HV O hH (hev _ (by simp[rd]) v h1) h2
 ·split at h
  ·obtain ⟨v,h1,h2⟩:=cc h
   obtain ⟨u,h3,h4⟩:=cc h2;exact Eh O hH (hev _ (by simp[rd]) v h1) (hev _ (by simp[rd]) u h3) h4
  ·cases h
 ·obtain ⟨v,h1,h2⟩:=cc h
  obtain ⟨u,h3,h4⟩:=cc h2;split at h4
  ·exact M9 O (hev _ (by simp[rd]) v h1) (hev _ (by simp[rd]) u h3) h4
  ·exact KF hE (hev _ (by simp[rd]) v h1) (hev _ (by simp[rd]) u h3) h4
 ·obtain ⟨v,h1,h2⟩:=cc h
  obtain ⟨u,h3,h4⟩:=cc h2;exact D8 O (hev _ (by simp[rd]) v h1) (hev _ (by simp[rd]) u h3) h4
 ·obtain ⟨v,h1,h2⟩:=cc h;exact D7 O (hev _ (by simp[rd]) v h1) h2
 ·obtain ⟨v,h1,h2⟩:=cc h;exact KD (hev _ (by simp[rd]) v h1) h2
 ·obtain ⟨v,h1,h2⟩:=cc h
  obtain ⟨u,h3,h4⟩:=cc h2;exact Ky O (hev _ (by simp[rd]) v h1) (hev _ (by simp[rd]) u h3) h4
 ·obtain ⟨v,h1,h2⟩:=cc h;exact Na (hev _ (by simp[rd]) v h1) h2
 ·rename_i t ps
  have:ps=ps.toList.toArray:=by simp
  rw[this];exact D4 O (fun q hq=>hev q.2 (by simp only[rd,List.mem_map];exact ⟨q,hq,rfl⟩)) h
 ·rename_i t n ps
  have:ps=ps.toList.toArray:=by simp
  rw[this];exact zO O (fun q hq=>hev q.2 (by simp only[rd,List.mem_map];exact ⟨q,hq,rfl⟩)) h
 ·obtain ⟨v,h1,h2⟩:=cc h
  obtain ⟨u,h3,h4⟩:=cc h2;exact HZ O hE hH (hev _ (by simp[rd]) v h1) (hev _ (by simp[rd]) u h3) h4
 ·split at h
  ·obtain ⟨v,h1,h2⟩:=cc h
   exact Eg O (hev _ (by simp[rd]) v h1) (fun o ho=>hev o (by simp[rd,ho])) (fun o ho=>hev o (by simp[rd,ho])) h2
  ·obtain ⟨v,h1,h2⟩:=cc h
   exact Cg O (hev _ (by simp[rd]) v h1) (fun o ho=>hev o (by simp[rd,ho])) (fun o ho=>hev o (by simp[rd,ho])) (hev _ (by simp[rd])) h2
 ·obtain ⟨v,h1,h2⟩:=cc h;exact HK O (hev _ (by simp[rd]) v h1) h2
 ·exact D3 O hE hH h
 ·obtain ⟨v,h1,h2⟩:=cc h;exact KA hH (hev _ (by simp[rd]) v h1) h2
 ·rename_i c
  unfold KB at h;split at h
  ·rename_i hc
   split at h
   ·rename_i x hx
    split at h
    ·rename_i t ht
     obtain ⟨v,h1,h2⟩:=cc h;have hv:=hev x (by simp[rd,hx]) v h1;rw[iL c hc hx ht];exact KH O hv h2
    ·cases h
   ·cases h
  ·rename_i hc
   split at h
   ·rename_i x y hx
    split at h
    ·rename_i t tx ht
     obtain ⟨v,h1,h2⟩:=cc h;obtain ⟨u,h3,h4⟩:=cc h2;have hv:=hev x (by simp[rd,hx]) v h1;have hu:=hev y (by simp[rd,hx]) u h3;rw[iL c hc hx ht];exact Kw O hv hu h4
    ·cases h
   ·cases h
  ·rename_i hc
   split at h
   ·rename_i x y hx
    split at h
    ·rename_i t tx ht
     obtain ⟨v,h1,h2⟩:=cc h;obtain ⟨u,h3,h4⟩:=cc h2;have hv:=hev x (by simp[rd,hx]) v h1;have hu:=hev y (by simp[rd,hx]) u h3;rw[iL c hc hx ht];exact HU O hH hv hu h4
    ·cases h
   ·cases h
  ·rename_i hc
   split at h
   ·rename_i x y hx
    split at h
    ·rename_i t tx ht
     obtain ⟨v,h1,h2⟩:=cc h;obtain ⟨u,h3,h4⟩:=cc h2;have hv:=hev x (by simp[rd,hx]) v h1;have hu:=hev y (by simp[rd,hx]) u h3;rw[iL c hc hx ht];exact KI hv hu h4
    ·cases h
   ·cases h
  ·rename_i hc
   split at h
   ·rename_i x y hx
    split at h
    ·rename_i t tx ht
     obtain ⟨v,h1,h2⟩:=cc h;obtain ⟨u,h3,h4⟩:=cc h2;have hv:=hev x (by simp[rd,hx]) v h1;have hu:=hev y (by simp[rd,hx]) u h3;rw[iL c hc hx ht];exact KJ hv hu h4
    ·cases h
   ·cases h
  ·cases h
 ·exact Ee hH h
 ·obtain ⟨v,h1,h2⟩:=cc h
  obtain ⟨u,h3,h4⟩:=cc h2;exact HX hE.mp hH (hev _ (by simp[rd]) v h1) (hev _ (by simp[rd]) u h3) h4
 ·split at h
  ·obtain ⟨v,h1,h2⟩:=cc h
   obtain ⟨u,h3,h4⟩:=cc h2;obtain ⟨w,h5,h6⟩:=cc h4;exact KN hE.mp hH (hev _ (by simp[rd]) v h1) (hev _ (by simp[rd]) u h3) (hev _ (by simp[rd]) w h5) h6
  ·cases h
 ·cases h
end
section
variable {P:Program} {ops:Array Oper} {s:St} {T:Tb} {r:SR} {H:SH} {l:SL}
inductive ga:List Cl->List Cl->Prop
 |nil:ga [] []
 |same (c:Cl) {a b:List Cl} (h:ga a b):ga (c::a) (c::b)
 |drop (c:Cl) {a b:List Cl} (h:ga a b):ga (c::a) (.q0::b)
theorem ga.refl: ∀ a:List Cl,ga a a
 |[]=> .nil
 |c::a=> .same c (ga.refl a)
theorem ga.len {a b:List Cl} (h:ga a b):a.length=b.length:=by induction h<;>simp[*]
theorem ga.get {a b:List Cl} (h:ga a b): ∀ i,b.getD i .q0=a.getD i .q0\/b.getD i .q0= .q0:=by
 induction h with
 |nil=>intro i;exact .inl rfl
 |same c h ih=>
  intro i;cases i with
  |zero=>exact .inl rfl
  |succ i=>simpa using ih i
 |drop c h ih=>
  intro i;cases i with
  |zero=>exact .inr rfl
  |succ i=>simpa using ih i
theorem ga.snoc {a b:List Cl} (h:ga a b) {c d:Cl} (hc:d=c\/d= .q0):ga (a++[c]) (b++[d]):=by
 induction h with
 |nil=>
  rcases hc with rfl|rfl
  ·exact .same _ .nil
  ·exact .drop _ .nil
 |same x h ih=>exact .same x ih
 |drop x h ih=>exact .drop x ih
theorem ga.rev {a b:List Cl} (h:ga a b):ga a.reverse b.reverse:=by
 induction h with
 |nil=>exact .nil
 |same c h ih=>rw[List.reverse_cons,List.reverse_cons];exact ih.snoc (.inl rfl)
 |drop c h ih=>rw[List.reverse_cons,List.reverse_cons];exact ih.snoc (.inr rfl)
theorem me (m:List Nat):o7 m []=true:=by simp[o7]
theorem nT (n:Option Nat):below n []=true:=by cases n<;>simp[below]
theorem sa {c d:Cl} {x y:Oper} (h:iZ ops c d x y=true):iZ ops .q0 d x y=true:=by
 simp only[iZ,Bool.and_eq_true] at h⊢;obtain ⟨⟨⟨⟨⟨⟨⟨⟨⟨⟨⟨h1,h2⟩,h3⟩,h4⟩,h5⟩,h6⟩,h7⟩,h8⟩,h9⟩,h10⟩,h11⟩,h12⟩:=h;exact ⟨⟨⟨⟨⟨⟨⟨⟨⟨⟨⟨h1,rfl⟩,me _⟩,rfl⟩,rfl⟩,nT _⟩,rfl⟩,h8⟩,rfl⟩,by rw[me];simp⟩,rfl⟩,nT _⟩
theorem pS {c d:Cl} {x y:Oper} (h:iZ ops c d x y=true):iZ ops c .q0 x y=true:=by
 simp only[iZ,Bool.and_eq_true] at h⊢;obtain ⟨⟨⟨⟨⟨⟨⟨⟨⟨⟨⟨h1,h2⟩,h3⟩,h4⟩,h5⟩,h6⟩,h7⟩,h8⟩,h9⟩,h10⟩,h11⟩,h12⟩:=h;exact ⟨⟨⟨⟨⟨⟨⟨⟨⟨⟨⟨h1,me _⟩,rfl⟩,by simp⟩,nT _⟩,rfl⟩,h7⟩,rfl⟩,by rw[me];simp⟩,rfl⟩,nT _⟩,rfl⟩
theorem Jc {a b:List Cl} (h:ga a b) (hc:oB ops a=true):oB ops b=true:=by
 simp only[oB,Bool.and_eq_true,decide_eq_true_eq,List.all_eq_true,List.mem_range,Bool.or_eq_true] at hc⊢;obtain ⟨h1,h2⟩:=hc;refine ⟨by rw[← h.len];exact h1,fun j hj=>⟨(h2 j hj).1,fun i hi=> ?_⟩⟩;rcases (h2 j hj).2 i hi with k|k
 ·exact .inl k
 ·right
  rcases h.get i with ei|ei<;>rcases h.get j with ej|ej<;>rw[ei,ej]
  ·exact k
  ·exact pS k
  ·exact sa k
  ·exact sa (pS k)
theorem An {K:St->Prop}: ∀ (l:List Oper) (s:St) (a b:List Cl),ga a b->mP P ops l s a K->mP P ops l s b K
 |[],s,a,b,h,k=>⟨Jc h.rev k.1,k.2⟩
 |o::l,s,a,b,h,k=>mO (fun c s2 k=>An l s2 _ _ (.same c h) k) k
def NS:Rg->Bool
 | .seq .. =>false
 |_=>true
theorem QF {rest:List Oper} {R:Rg} {c:Cl} (hR:NS R=true) (h:WR P ops rest s (R.push c)):WR P ops rest s (R.push .q0):=by
 cases R with
 |seq K=>cases hR
 |plain K=>exact h
 |drawn acc K=>exact ⟨An rest s _ _ (.drop c (ga.refl _)) h.out⟩
def RS:Value->Option SV
 | .int k n=>some (.c (.c (.f (.v (.int k n)))))
 | .bool b=>some (.c (.c (.f (.v (.bool b)))))
 | .string b=>some (.c (.c (.f (.v (.string b)))))
 | .slice none 0 0=>some (.c (.c (.f .nils)))
 | .pointer none=>some (.c (.c (.f (.v (.pointer none)))))
 |_=>none
theorem EZ {v:Value} {x:SV} (h:RS v=some x):wa v=x.den:=by
 unfold RS at h;split at h<;>first|(cases h;done)|(injection h with h;subst h;rfl)
def m6 (l:SL):Operand->Option SV
 | .tmp t=>match lk l t with
  |some (.v x)=>some x
  |_=>none
 | .const v=>RS v
 |_=>none
theorem cm {x:Operand} {v:SV} (h:m6 l x=some v):(SS l H).ev x=v.den:=by
 unfold m6 at h;split at h
 ·split at h
  ·rename_i e
   injection h with h;subst h;exact ka e
  ·cases h
 ·exact EZ h
 ·cases h
def Jk (l:SL):Operand->Option SV
 | .tmp t=>match lk l t with
  |some (.v x)=>some x
  |some (.g _ x)=>some x
  |_=>none
 | .const v=>RS v
 |_=>none
def Lj {β:Type 1} (l:SL):List Operand->(Prop->Option β)->Option β
 |[],k=>k True
 |x::xs,k=>match x with
  | .tmp t=>match lk l t with
   |some (.g b _)=>Lj l xs fun p=>k (b=true/\p)
   |_=>Lj l xs k
  |_=>Lj l xs k
theorem nh {β:Type 1} {r:β}: ∀ {xs:List Operand} {k:Prop->Option β},Lj l xs k=some r-> ∃ p,k p=some r/\(p-> ∀ x∈xs,∀ v,Jk l x=some v->(SS l H).ev x=v.den)
 |[],k,h=>⟨True,h,fun _ x hx=>by cases hx⟩
 |x::xs,k,h=>by
  unfold Lj at h;split at h
  ·rename_i t
   split at h
   ·rename_i b y hy
    obtain ⟨p,h1,h2⟩:=nh h;refine ⟨_,h1,fun ⟨hb,hp⟩ z hz v hv=> ?_⟩;rcases List.mem_cons.1 hz with rfl|hz
    ·simp only[Jk,hy] at hv
     injection hv with hv;subst hv;rw[ka hy,hb];rfl
    ·exact h2 hp z hz v hv
   ·rename_i hne
    obtain ⟨p,h1,h2⟩:=nh h;refine ⟨_,h1,fun hp z hz v hv=> ?_⟩;rcases List.mem_cons.1 hz with rfl|hz
    ·unfold Jk at hv
     simp only at hv;split at hv
     ·rename_i hy
      injection hv with hv;subst hv;exact ka hy
     ·rename_i b y hy
      exact (hne b y hy).elim
     ·cases hv
    ·exact h2 hp z hz v hv
  ·rename_i hne
   obtain ⟨p,h1,h2⟩:=nh h;refine ⟨_,h1,fun hp z hz v hv=> ?_⟩;rcases List.mem_cons.1 hz with rfl|hz
   ·unfold Jk at hv
    split at hv
    ·rename_i t;exact (hne t rfl).elim
    ·exact EZ hv
    ·cases hv
   ·exact h2 hp z hz v hv
def Ef (l:SL) (c x y:Operand):Option SR:=
 match Jk l c with
 |some (.c (.c (.f (.v (.bool b)))))=>Lj l [c] fun pc=>Lj l [x] fun px=>Lj l [y] fun py=>match y with
  | .const (.bool false)=>match Jk l x with
   |some (.c (.c (.f (.v (.bool u)))))=>some ⟨bV (b&&u),none,none,.q0,pc/\(b=true->px)⟩
   |_=>none
  |_=>match x with
   | .const (.bool true)=>match Jk l y with
    |some (.c (.c (.f (.v (.bool u)))))=>some ⟨bV (b||u),none,none,.q0,pc/\(b=false->py)⟩
    |_=>none
   |_=>match Jk l x with
    |some (.c (.c (.f (.v (.bool u)))))=>match Jk l y with
     |some (.c (.c (.f (.v (.bool w)))))=>some ⟨bV (bif b then u else w),none,none,.q0,pc/\(b=true->px)/\(b=false->py)⟩
     |_=>none
    |_=>none
 |_=>none
theorem H4 {d:Option Tmp} {ty:TypeId} {pos:String} {af:Array Edge} {c x y:Operand} (h:Ef l c x y=some r):mD P ops ⟨d,.pick c x y,ty,pos,af,none⟩ (SS l H) r:=by
 intro rest R hp hk;unfold Ef at h
 split at h
 ·rename_i b hc
  obtain ⟨pc,h,hpc⟩:=nh (H:=H) h;obtain ⟨px,h,hpx⟩:=nh (H:=H) h;obtain ⟨py,h,hpy⟩:=nh (H:=H) h;split at h
  ·split at h
   ·rename_i u hu
    injection h with h;subst h;have hc':=hpc hp.1 c (by simp) _ hc;cases b with
    |true=>exact yj hc' rfl (hpx (hp.2 rfl) x (by simp) _ hu) rfl hk
    |false=>exact yh (v:= .c (.f (.v (.bool false)))) hc' rfl rfl rfl hk
   ·cases h
  ·split at h
   ·split at h
    ·rename_i u hu
     injection h with h;subst h;have hc':=hpc hp.1 c (by simp) _ hc;cases b with
     |true=>exact yj (v:= .c (.f (.v (.bool true)))) hc' rfl rfl rfl hk
     |false=>exact yh hc' rfl (hpy (hp.2 rfl) y (by simp) _ hu) rfl hk
    ·cases h
   ·split at h
    ·rename_i u hu
     split at h
     ·rename_i w hw
      injection h with h;subst h;have hc':=hpc hp.1 c (by simp) _ hc;cases b with
      |true=>exact yj hc' rfl (hpx (hp.2.1 rfl) x (by simp) _ hu) rfl hk
      |false=>exact yh hc' rfl (hpy (hp.2.2 rfl) y (by simp) _ hw) rfl hk
     ·cases h
    ·cases h
 ·cases h
structure SN:Type 1 where
 l:SL
 H:SH
 cl:Cl
 p:Prop
def Kq (T:Tb) (E:El) (ops:Array Oper) (ev:Operand->Option SV) (l:SL) (H:SH) (o:Oper):Option SR:=
 match o.op with
 | .pick c x y=>Ef l c x y
 |_=>so T E ops ev H o
def Cz (ops:List Oper) (l:SL) (j:Nat) (want:Bool):Option Bool:=
 match ou ops j with
 |some oj=>match oj.dst with
  |some d=>match lk l d with
   |some (.v (.c (.c (.f (.v (.bool b))))))=>match want with
    |true=>some b
    |false=>some (!b)
   |some (.g b0 (.c (.c (.f (.v (.bool b))))))=>match want with
    |true=>some (b0&&b)
    |false=>some (b0&& !b)
   |_=>none
  |none=>none
 |none=>none
def MM (d:Option Tmp) (dm:Option (Nat×SE)) (H:Option SH) (x:SE) (l0:SL) (H0:SH) (cl:Cl) (p:Prop):Option SN:=
 match d with
 |some d=>match dm with
  |some (t,e)=>match H with
   |some H=>some ⟨(d,x)::(t,e)::l0,H,cl,p⟩
   |none=>some ⟨(d,x)::(t,e)::l0,H0,cl,p⟩
  |none=>match H with
   |some H=>some ⟨(d,x)::l0,H,cl,p⟩
   |none=>some ⟨(d,x)::l0,H0,cl,p⟩
 |none=>match dm with
  |some (t,e)=>match H with
   |some H=>some ⟨(t,e)::l0,H,cl,p⟩
   |none=>some ⟨(t,e)::l0,H0,cl,p⟩
  |none=>match H with
   |some H=>some ⟨l0,H,cl,p⟩
   |none=>some ⟨l0,H0,cl,p⟩
def step (T:Tb) (E:El) (ops:Array Oper) (l:SL) (H:SH) (o:Oper):Option SN:=
 match o.guard with
 |none=>match Kq T E ops (m6 l) l H o with
  |some ⟨x,dm,H',cl,p⟩=>MM o.dst dm H' (.v x) l H cl p
  |none=>none
 |some (j,want)=>match Cz ops.toList l j want with
  |some g=>match Kq T E ops (Jk l) l H { o with guard:=none } with
   |some ⟨x,none,none,cl,p⟩=>Lj l (rd o.op) fun q=>MM o.dst none none (.g g x) l H cl (g=true->q/\p)
   |_=>none
  |none=>none
theorem zA {d:Option Tmp} {r:SR} {x:SE} {n:SN} (hx:x.den=r.x.den) {p:Prop} (h:MM d r.dm r.H x l H r.cl p=some n):n.cl=r.cl/\n.p=p/\SS n.l n.H=r.dJ (SS l H) d:=by
 obtain ⟨rx,dm,rH,cl,rp⟩:=r;unfold MM at h;simp only at hx h;have e2: ∀ (l0:SL) (H':SH),SS l0 H'=(SS l0 H).jm (aR H'):=fun l0 H'=>(eK l0 H H').symm
 have e3: ∀ (l0:SL) (H':SH) (d:Nat),SS ((d,x)::l0) H'=(SS l0 H').put (some d) rx.den:=fun l0 H' d=>by rw[← hx];rfl
 cases d with
 |none=>
  rcases dm with _|⟨t,e⟩
  ·cases rH with
   |none=>injection h with h;subst h;exact ⟨rfl,rfl,rfl⟩
   |some H'=>injection h with h;subst h;exact ⟨rfl,rfl,e2 l H'⟩
  ·cases rH with
   |none=>injection h with h;subst h;exact ⟨rfl,rfl,rfl⟩
   |some H'=>injection h with h;subst h;exact ⟨rfl,rfl,e2 _ H'⟩
 |some d=>
  rcases dm with _|⟨t,e⟩
  ·cases rH with
   |none=>injection h with h;subst h;exact ⟨rfl,rfl,e3 l H d⟩
   |some H'=>
    injection h with h;subst h;refine ⟨rfl,rfl,?_⟩;show SS ((d,x)::l) H'=((SS l H).jm (aR H')).put (some d) rx.den
    rw[eK];exact e3 l H' d
  ·cases rH with
   |none=>injection h with h;subst h;exact ⟨rfl,rfl,e3 _ H d⟩
   |some H'=>
    injection h with h;subst h;refine ⟨rfl,rfl,?_⟩;show SS ((d,x)::(t,e)::l) H'=((SS ((t,e)::l) H).jm (aR H')).put (some d) rx.den
    rw[eK];exact e3 _ H' d
theorem Kr (O:T.Ok P) {E:El} (hE:E.Ok P) {ev:Operand->Option SV} {o:Oper} (ho:o.guard=none) (hev: ∀ x∈rd o.op,∀ v,ev x=some v->(SS l H).ev x=v.den) (h:Kq T E ops ev l H o=some r):mD P ops o (SS l H) r:=by
 unfold Kq at h;split at h
 ·rename_i c x y hop
  obtain ⟨d,op,ty,pos,af,g⟩:=o;simp only at ho hop;subst ho;subst hop;exact H4 h
 ·exact Rt O hE (bY _ _) ho hev h
theorem mw (O:T.Ok P) {E:El} (hE:E.Ok P) {o:Oper} {n:SN} (h:step T E ops l H o=some n) {rest:List Oper} {R:Rg} (hR:o.guard=none\/NS R=true) (hp:n.p) (hk:WR P ops rest (SS n.l n.H) (R.push n.cl)):WR P ops (o::rest) (SS l H) R:=by
  unfold step at h;split at h
  · rename_i ho
    split at h
    · rename_i x dm H' cl p hs
      have hsnd:=Kr O hE ho (fun x _ v hv=>cm hv) hs;obtain ⟨h1,h2,h3⟩:=zA (r:=⟨x,dm,H',cl,p⟩) (x:= .v x) rfl h;rw[h2] at hp
      rw[h1,h3] at hk;exact hsnd rest R hp hk
    · cases h
  · rename_i j want ho
    split at h
    · rename_i g hg
      split at h
      · rename_i x cl p hs
        obtain ⟨q,h,hq⟩:=nh (H:=H) h;obtain ⟨d,op,ty,pos,af,gd⟩:=o;simp only at ho;subst ho;have hww: ∃ oj dj b,ops[j]? =some oj/\oj.dst=some dj/\(((SS l H).ev (.tmp dj)= .c (.f (.v (.bool b)))/\g=(b==want))\/((SS l H).ev (.tmp dj)= .c .und/\g=false)):=by
          unfold Cz at hg;split at hg
          · rename_i oj hoj
            rw[gT,Array.getElem?_toList] at hoj;split at hg
            · rename_i dj hdj
              refine ⟨oj,dj,?_⟩;split at hg
              · rename_i b hb
                refine ⟨b,hoj,hdj,.inl ⟨ka hb,?_⟩⟩;split at hg<;>injection hg with hg<;>subst hg<;>cases b<;>rfl
              · rename_i b0 b hb
                have:=ka (H:=H) hb;cases b0 with
                |true=>
                 refine ⟨b,hoj,hdj,.inl ⟨this,?_⟩⟩;split at hg<;>injection hg with hg<;>subst hg<;>cases b<;>rfl
                |false=>
                 refine ⟨b,hoj,hdj,.inr ⟨this,?_⟩⟩;split at hg<;>injection hg with hg<;>subst hg<;>rfl
              · cases hg
            · cases hg
          · cases hg
        obtain ⟨oj,dj,b,w1,w2,w3⟩:=hww;cases g with
        |true=>
         rcases w3 with ⟨w3,w4⟩|⟨_,w4⟩
         · refine Io (by show cK ops _ _=some true;rw[mz rfl w1 w2 w3,← w4]) ?_
           obtain ⟨h1,h2,h3⟩:=zA (r:=⟨x,none,none,cl,p⟩) (x:= .g true x) rfl h;rw[h2] at hp;obtain ⟨hq1,hp1⟩:=hp rfl;have hsnd:=Kr (ops:=ops) (o:=⟨d,op,ty,pos,af,none⟩) O hE rfl (hq hq1) hs;rw[h1,h3] at hk;exact hsnd rest R hp1 hk
         · cases w4
        |false=>
         have hw:cK ops (SS l H) ⟨d,op,ty,pos,af,some (j,want)⟩=some false:=by
            rcases w3 with ⟨w3,w4⟩|⟨w3,_⟩
            · rw[mz rfl w1 w2 w3,← w4]
            · exact x6 rfl w1 w2 w3
         refine Im hw ?_;obtain ⟨h1,h2,h3⟩:=zA (r:=⟨.c (.c .und),none,none,cl,p⟩) (x:= .g false x) rfl h;rw[h1,h3] at hk
         exact QF (by rcases hR with e|e;· cases e
                      · exact e) hk
      · cases h
    · cases h
structure SX:Type 1 where
 rest:List Oper
 l:SL
 H:SH
 R:Rg
 p:Prop
def Hw (T:Tb) (E:El) (ops:Array Oper):List Oper->SL->SH->Rg->Prop->Option SX
 |[],l,H,R,q=>some ⟨[],l,H,R,q⟩
 |o::os,l,H,R,q=>match step T E ops l H o with
  |some ⟨l',H',cl,p⟩=>match R with
   | .plain K=>Hw T E ops os l' H' (.plain K) (q/\p)
   | .drawn a K=>Hw T E ops os l' H' (.drawn (cl::a) K) (q/\p)
   | .seq a K=>some ⟨o::os,l,H,.seq a K,q⟩
  |none=>some ⟨o::os,l,H,R,q⟩
theorem tH (O:T.Ok P) {E:El} (hE:E.Ok P) {x:SX}: ∀ {rest:List Oper} {l:SL} {H:SH} {R:Rg} {q:Prop},Hw T E ops rest l H R q=some x->x.p->WR P ops x.rest (SS x.l x.H) x.R->q/\WR P ops rest (SS l H) R
 |[],l,H,R,q,h,hp,hk=>by
  injection h with h;subst h;exact ⟨hp,hk⟩
 |o::os,l,H,R,q,h,hp,hk=>by
  unfold Hw at h;split at h
  ·rename_i l' H' cl p hs
   split at h
   ·obtain ⟨⟨h1,h2⟩,h3⟩:=tH O hE h hp hk
    exact ⟨h1,mw O hE hs (.inr rfl) h2 h3⟩
   ·obtain ⟨⟨h1,h2⟩,h3⟩:=tH O hE h hp hk
    exact ⟨h1,mw O hE hs (.inr rfl) h2 h3⟩
   ·injection h with h;subst h
    exact ⟨hp,hk⟩
  ·injection h with h;subst h
   exact ⟨hp,hk⟩
def Ko (T:Tb) (E:El) (ops:Array Oper) (rest:List Oper) (l:SL) (H:SH) (R:Rg):Option SX:=
 match rest with
 |[]=>none
 |o::os=>match step T E ops l H o with
  |some ⟨l',H',cl,p⟩=>match R with
   | .plain K=>Hw T E ops os l' H' (.plain K) p
   | .drawn a K=>Hw T E ops os l' H' (.drawn (cl::a) K) p
   | .seq a K=>none
  |none=>none
theorem zI (O:T.Ok P) {E:El} (hE:E.Ok P) {rest:List Oper} {l:SL} {H:SH} {R:Rg} {rest':List Oper} {l':SL} {H':SH} {R':Rg} {p:Prop} (h:Ko T E ops rest l H R=some ⟨rest',l',H',R',p⟩) (hp:p) (hk:WR P ops rest' (SS l' H') R'):WR P ops rest (SS l H) R:=by
 unfold Ko at h;split at h
 ·cases h
 ·split at h
  ·rename_i hs
   split at h
   ·obtain ⟨h1,h2⟩:=tH O hE h hp hk
    exact mw O hE hs (.inr rfl) h1 h2
   ·obtain ⟨h1,h2⟩:=tH O hE h hp hk
    exact mw O hE hs (.inr rfl) h1 h2
   ·cases h
  ·cases h
end
def cd (P:Program) (f:FuncId) (args:List SV) (H:SH) (r:SV) (H':SH):Prop:=Ok P f (args.map SV.den) (aR H) r.den (aR H')
section
variable {P:Program} {ops:Array Oper} {D:Array Oper->St->(St->Prop)->Prop} {n0:Nat} {H:SH} {l:SL} {K:bI->St->Prop}
theorem aq {c:Operand} {a b:Code} {t:Bool} (hc:m6 l c=some (.c (.c (.f (.v (.bool t)))))) (h1:t=true->W P D n0 a (SS l H) K) (h2:t=false->W P D n0 b (SS l H) K):W P D n0 (.cond c a b) (SS l H) K:=
 Iu (cm hc) h1 h2
def TA:SC->SC
 | .c (.f .nils)=> .c (.f (.row [] 0))
 |x=>x
theorem MF: ∀ x:SC,(TA x).den=x.den.nz
 | .c x=>by
  cases x with
  |f y=>cases y<;>rfl
  |_=>rfl
 | .row .. =>rfl
 | .elt .. =>rfl
 | .pel .. =>rfl
 | .tipr .. =>rfl
 | .ownr .. =>rfl
def Ri:List SC->Option (List SC)
 |[]=>some []
 |x::l=>match Ri l with
  |some r=>match x with
   | .c (.f .nils)=>some (.c (.f (.row [] 0))::r)
   |x=>some (x::r)
  |none=>none
theorem DE: ∀ {l r:List SC},Ri l=some r->(aU l).map aa.nz=aU r
 |[],r,h=>by injection h with h;subst h;rfl
 |x::l,r,h=>by
  unfold Ri at h;split at h
  ·rename_i r' hr
   have:=DE hr;split at h
   ·injection h with h;subst h
    simp only[aU,List.map_cons] at*;rw[this];rfl
   ·rename_i hne
    injection h with h;subst h;simp only[aU,List.map_cons] at*;rw[this,← MF];congr 1;cases x with
    |c x=>
     cases x with
     |f y=>cases y<;>first|rfl|exact (hne rfl).elim
     |_=>rfl
    |_=>rfl
  ·cases h
def hS (v:SV):Option SV:=
 match v with
 | .c (.c (.mp _ _))=>none
 | .c (.c (.bg false _ _ n))=>some (.c (.c (.f (.row [] n))))
 | .c (.ownr _ _ _ _ _ l)=>some (.c (.c (.f (.row [] l.length))))
 | .c (.c (.bg true _ cs n))=>some (.c (.c (.f (.row cs n))))
 | .c (.tipr z F V M d l)=>some (.c (.row z F V d l))
 | .c (.c (.f .nils))=>some (.c (.c (.f (.row [] 0))))
 | .c x=>some (.c x)
 | .agg ds=>match Ri ds with
  |some r=>some (.agg r)
  |none=>none
 | .cC _=>none
theorem Dq {v u:SV} (h:hS v=some u):v.den.h=u.den:=by
 unfold hS at h;split at h
 ·cases h
 ·injection h with h;subst h;rfl
 ·injection h with h;subst h;rfl
 ·injection h with h;subst h;rfl
 ·injection h with h;subst h;rfl
 ·injection h with h;subst h;rfl
 ·rename_i x h4 h0 h5 h1 h2 h3
  injection h with h;subst h;cases x with
  |c x=>
   cases x with
   |f y=>cases y<;>first|rfl|exact (h3 rfl).elim
   |bg q z cs n=>
    cases q with
    |true=>exact (h1 z cs n rfl).elim
    |false=>exact (h0 z cs n rfl).elim
   |mp q es=>exact (h4 q es rfl).elim
   |_=>rfl
  |ownr z F V M d l=>exact (h5 _ z F V M d l rfl).elim
  |tipr z F V M d l=>exact (h2 _ z F V M d l rfl).elim
  |_=>rfl
 ·rename_i ds
  split at h
  ·rename_i r hr
   injection h with h;subst h;show ad.agg ((aU ds).map aa.nz)=_
   rw[DE hr];rfl
  ·cases h
 ·cases h
def uj (ev:Operand->Option SV):List Operand->Option (List SV)
 |[]=>some []
 |x::xs=>match ev x with
  |some v=>match hS v with
   |some u=>match uj ev xs with
    |some r=>some (u::r)
    |none=>none
   |none=>none
  |none=>none
theorem mU {s:St} {ev:Operand->Option SV}: ∀ {xs:List Operand} {vs:List SV},(∀ x∈xs,∀ v,ev x=some v->s.ev x=v.den)->uj ev xs=some vs->(xs.map fun x=>(s.ev x).h)=vs.map SV.den
 |[],vs,_,h=>by injection h with h;subst h;rfl
 |x::xs,vs,hev,h=>by
  unfold uj at h;split at h
  ·rename_i v hv
   split at h
   ·rename_i u hu
    split at h
    ·rename_i r hr
     injection h with h;subst h;simp only[List.map_cons];rw[hev x (by simp) v hv,Dq hu,mU (fun y hy=>hev y (by simp[hy])) hr]
    ·cases h
   ·cases h
  ·cases h
def Ps (n:Nat):SC->Bool
 | .c (.ptr b _)=>Nat.blt b n
 | .c (.arr b _ _ _)=>Nat.blt b n
 | .c (.mh b)=>Nat.blt b n
 | .pel b _ _ _=>Nat.blt b n
 |_=>true
theorem tA {n:Nat}: ∀ {x:SC},Ps n x=true->x.den.ok n=true
 | .c x,h=>by
  cases x<;>first|rfl|(simp only[Ps] at h;simp only[SC.den,aa.ok];simpa using h)
 | .row ..,_=>rfl
 | .elt ..,_=>rfl
 | .pel ..,h=>by simp only[Ps] at h;simp only[SC.den,aa.ok];simpa using h
 | .tipr ..,_=>rfl
 | .ownr ..,_=>rfl
def Qd (n:Nat):List SC->Bool
 |[]=>true
 |x::l=>match Ps n x with
  |true=>Qd n l
  |false=>false
theorem tC {n:Nat}: ∀ {l:List SC},Qd n l=true->(aU l).all (aa.ok n)=true
 |[],_=>rfl
 |x::l,h=>by
  unfold Qd at h;split at h
  ·rename_i h1
   simp only[aU,List.map_cons,List.all_cons,Bool.and_eq_true];exact ⟨tA h1,tC h⟩
  ·cases h
def Qe (n:Nat):List ST->Bool
 |[]=>true
 | .c x::l=>match Ps n x with
  |true=>Qe n l
  |false=>false
 | .agg ds::l=>match Qd n ds with
  |true=>Qe n l
  |false=>false
theorem zu {n:Nat}: ∀ {l:List ST},Qe n l=true->(l.map ST.den).all (bj.ok n)=true
 |[],_=>rfl
 | .c x::l,h=>by
  unfold Qe at h;split at h
  ·rename_i h1
   simp only[List.map_cons,List.all_cons,Bool.and_eq_true];exact ⟨tA h1,zu h⟩
  ·cases h
 | .agg ds::l,h=>by
  unfold Qe at h;split at h
  ·rename_i h1
   simp only[List.map_cons,List.all_cons,Bool.and_eq_true];exact ⟨tC h1,zu h⟩
  ·cases h
def Lm (n:Nat):SV->Bool
 | .c x=>Ps n x
 | .agg ds=>Qd n ds
 | .cC ts=>Qe n ts
theorem oa {n:Nat}: ∀ {v:SV},Lm n v=true->v.den.ok n=true
 | .c x,h=>tA h
 | .agg ds,h=>tC h
 | .cC ts,h=>zu h
def zv (n:Nat):List SV->Bool
 |[]=>true
 |v::l=>match Lm n v with
  |true=>zv n l
  |false=>false
theorem jO {n:Nat}: ∀ {l:List SV},zv n l=true->(l.map SV.den).all (ad.ok n)=true
 |[],_=>rfl
 |v::l,h=>by
  unfold zv at h;split at h
  ·rename_i h1
   simp only[List.map_cons,List.all_cons,Bool.and_eq_true];exact ⟨oa h1,jO h⟩
  ·cases h
def jN (n:Nat):SH->Bool
 |[]=>true
 |none::H=>jN n H
 |some (.cells cs)::H=>match Qd n cs with
  |true=>jN n H
  |false=>false
 |some (.bF ..)::H=>jN n H
 |some (.elo ..)::H=>jN n H
 |some (.mp ..)::H=>jN n H
 |some (.rws _ _ _ _ _ _ none)::H=>jN n H
 |some (.rws _ _ _ _ _ _ (some (_,x)))::H=>match Ps n x with
  |true=>jN n H
  |false=>false
theorem da {n:Nat}: ∀ {H:SH},jN n H=true->(aR H).all (okB n)=true
 |[],_=>rfl
 |none::H,h=>by
  simp only[aR,List.map_cons,List.all_cons,Bool.and_eq_true];exact ⟨rfl,da (H:=H) h⟩
 |some (.cells cs)::H,h=>by
  unfold jN at h;split at h
  ·rename_i h1
   simp only[aR,List.map_cons,List.all_cons,Bool.and_eq_true];exact ⟨tC h1,da (H:=H) h⟩
  ·cases h
 |some (.bF z F V M d l)::H,h=>by
  simp only[aR,List.map_cons,List.all_cons,Bool.and_eq_true];refine ⟨?_,da (H:=H) h⟩;simp only[mG,okB,SB.den,List.all_map,List.all_eq_true];intro x _;rfl
 |some (.elo z F V M d l m)::H,h=>by
  simp only[aR,List.map_cons,List.all_cons,Bool.and_eq_true];refine ⟨?_,da (H:=H) h⟩;simp only[mG,okB,SB.den,List.all_append,List.all_map,List.all_replicate,Bool.and_eq_true,List.all_eq_true];refine ⟨fun x _=>rfl,?_⟩;split<;>rfl
 |some (.mp q F V M d es)::H,h=>by
  simp only[aR,List.map_cons,List.all_cons,Bool.and_eq_true];exact ⟨rfl,da (H:=H) h⟩
 |some (.rws z F V M d l none)::H,h=>by
  simp only[aR,List.map_cons,List.all_cons,Bool.and_eq_true];refine ⟨?_,da (H:=H) h⟩;simp only[mG,okB,SB.den,fY,List.all_map,List.all_eq_true];intro x _;rfl
 |some (.rws z F V M d l (some (i,x)))::H,h=>by
  unfold jN at h;split at h
  ·rename_i h1
   simp only[aR,List.map_cons,List.all_cons,Bool.and_eq_true];refine ⟨?_,da (H:=H) h⟩;simp only[mG,okB,SB.den,fY,List.all_eq_true];intro y hy;rcases List.mem_or_eq_of_mem_set hy with hy|rfl
   ·obtain ⟨r,_,rfl⟩:=List.mem_map.1 hy
    rfl
   ·exact tA h1
  ·cases h
structure CP:Type 1 where
 f:FuncId
 vs:List SV
 l:SL
def NI (l:SL) (d:Option Tmp) (c:Call) (r:SV):Option CP:=
 match c.callee with
 | .value (.func f)=>match uj (m6 l) c.args.toList with
  |some vs=>match zv 0 vs with
   |true=>match d with
    |some d=>some ⟨f,vs,(d,.v r)::l⟩
    |none=>some ⟨f,vs,l⟩
   |false=>none
  |none=>none
 |_=>none
variable {rest:List Oper} {d:Option Tmp} {ty:TypeId} {pos:String} {af:Array Edge} {R:Rg}
theorem an {c:Call} {f:FuncId} {vs:List SV} {r:SV} {l':SL} (hO:cd P f vs [] r []) (hc:NI l d c r=some ⟨f,vs,l'⟩) (h:WR P ops rest (SS l' H) (R.push .q0)):WR P ops (⟨d,.call c,ty,pos,af,none⟩::rest) (SS l H) R:=by
 unfold NI at hc;split at hc
 ·rename_i f' hf
  split at hc
  ·rename_i vs' hvs
   split at hc
   ·rename_i hok
    have hcall:cf ⟨d,.call c,ty,pos,af,none⟩=some (f',c.args.toList):=by simp only[cf,hf]
    have ha:=mU (s:=SS l H) (fun x _ v hv=>cm hv) hvs;have e:f'=f/\vs'=vs/\SS l' H=(SS l H).put d r.den:=by
     split at hc<;>injection hc with hc<;>injection hc with e1 e2 e3<;>subst e1<;>subst e2<;>subst e3<;>exact ⟨rfl,rfl,rfl⟩
    obtain ⟨rfl,rfl,e3⟩:=e;refine Ik hcall ha (jO hok) hO ?_;rw[← e3];exact h
   ·cases hc
  ·cases hc
 ·cases hc
structure CG:Type 1 where
 f:FuncId
 vs:List SV
 l:SL
 g:Bool
 q:Prop
def NH (ops:List Oper) (l:SL) (d:Option Tmp) (c:Call) (gd:Nat×Bool) (r:SV):Option CG:=
 match c.callee with
 | .value (.func f)=>match uj (Jk l) c.args.toList with
  |some vs=>match zv 0 vs with
   |true=>match gd with
    |(j,want)=>match Cz ops l j want with
     |some g=>match d with
      |some d=>Lj l c.args.toList fun q=>some ⟨f,vs,(d,.g g r)::l,g,q⟩
      |none=>none
     |none=>none
   |false=>none
  |none=>none
 |_=>none
theorem La {j:Nat} {want g:Bool} (hg:Cz ops.toList l j want=some g): ∃ oj dj b,ops[j]? =some oj/\oj.dst=some dj/\(((SS l H).ev (.tmp dj)= .c (.f (.v (.bool b)))/\g=(b==want))\/((SS l H).ev (.tmp dj)= .c .und/\g=false)):=by
 unfold Cz at hg;split at hg
 ·rename_i oj hoj
  rw[gT,Array.getElem?_toList] at hoj;split at hg
  ·rename_i dj hdj
   refine ⟨oj,dj,?_⟩;split at hg
   ·rename_i b hb
    refine ⟨b,hoj,hdj,.inl ⟨ka hb,?_⟩⟩;split at hg<;>injection hg with hg<;>subst hg<;>cases b<;>rfl
   ·rename_i b0 b hb
    have:=ka (H:=H) hb;cases b0 with
    |true=>
     refine ⟨b,hoj,hdj,.inl ⟨this,?_⟩⟩;split at hg<;>injection hg with hg<;>subst hg<;>cases b<;>rfl
    |false=>
     refine ⟨b,hoj,hdj,.inr ⟨this,?_⟩⟩;split at hg<;>injection hg with hg<;>subst hg<;>rfl
   ·cases hg
  ·cases hg
 ·cases hg
theorem aX {c:Call} {f:FuncId} {vs:List SV} {r:SV} {l':SL} {gd:Nat×Bool} {g:Bool} {q:Prop} (hO:g=true->cd P f vs [] r []) (hc:NH ops.toList l d c gd r=some ⟨f,vs,l',g,q⟩) (hq:g=true->q) (h:WR P ops rest (SS l' H) (R.push .q0)):WR P ops (⟨d,.call c,ty,pos,af,some gd⟩::rest) (SS l H) R:=by
 unfold NH at hc;split at hc
 ·rename_i f' hf
  split at hc
  ·rename_i vs' hvs
   split at hc
   ·rename_i hok
    obtain ⟨j,want⟩:=gd;simp only at hc;split at hc
    ·rename_i g' hg
     split at hc
     ·rename_i dd
      obtain ⟨q',hc,hq'⟩:=nh (H:=H) hc;injection hc with hc;injection hc with e1 e2 e3 e4 e5;subst e1;subst e2;subst e3;subst e4;subst e5;obtain ⟨oj,dj,b,w1,w2,w3⟩:=La (H:=H) hg;cases g' with
      |true=>
       rcases w3 with ⟨w3,w4⟩|⟨_,w4⟩
       ·refine Io (by show cK ops _ _=some true;rw[mz rfl w1 w2 w3,← w4]) ?_
        have hcall:cf ⟨some dd,.call c,ty,pos,af,none⟩=some (f',c.args.toList):=by simp only[cf,hf]
        exact Ik hcall (mU (s:=SS l H) (hq' (hq rfl)) hvs) (jO hok) (hO rfl) h
       ·cases w4
      |false=>
       have hw:cK ops (SS l H) ⟨some dd,.call c,ty,pos,af,some (j,want)⟩=some false:=by
        rcases w3 with ⟨w3,w4⟩|⟨w3,_⟩
        ·rw[mz rfl w1 w2 w3,← w4]
        ·exact x6 rfl w1 w2 w3
       exact Im hw h
     ·cases hc
    ·cases hc
   ·cases hc
  ·cases hc
 ·cases hc
def lu:SH->List Nat->List Nat
 |_::H,_::ns=>lu H ns
 |[],ns=>ns
 |_::_,[]=>[]
def LP:List Nat->List Nat->List Nat
 |[],r=>r
 |b::l,r=>b::LP l r
def jn (H:SH) (bs:List Nat):List Nat:=LP bs (lu H ME)
theorem qj: ∀ (H:SH) (ns:List Nat) (i:Nat),(lu H ns)[i]? =ns[H.length+i]?
 |[],ns,i=>by simp[lu]
 |x::H,n::ns,i=>by
  simp only[lu,List.length_cons];rw[qj H ns i,show H.length+1+i=(H.length+i)+1 by omega,List.getElem?_cons_succ]
 |x::H,[],i=>by simp[lu]
theorem EB: ∀ l r:List Nat,LP l r=l++r
 |[],_=>rfl
 |b::l,r=>by simp[LP,EB l r]
theorem tJ {H:SH} {bs:List Nat} {b c:Nat} (h:ou (jn H bs) b=some c):sig H.length bs b=c:=by
 rw[gT,jn,EB] at h;unfold sig;rw[List.getD_eq_getElem?_getD];by_cases hb:b<bs.length
 ·rw[List.getElem?_append_left hb] at h
  rw[h];rfl
 ·rw[List.getElem?_append_right (by omega),qj] at h
  rw[List.getElem?_eq_none (by omega)];have:=Bz h;rw[this];rfl
def He (σ:List Nat):SC->Option SC
 | .c (.ptr b off)=>match ou σ b with
  |some c=>some (.c (.ptr c off))
  |none=>none
 | .c (.arr b off len cap)=>match ou σ b with
  |some c=>some (.c (.arr c off len cap))
  |none=>none
 | .c (.mh b)=>match ou σ b with
  |some c=>some (.c (.mh c))
  |none=>none
 | .pel b z i k=>match ou σ b with
  |some c=>some (.pel c z i k)
  |none=>none
 | .ownr z F V M d l=>some (.ownr z F V M d l)
 | .c x=>some (.c x)
 | .row z F V d l=>some (.row z F V d l)
 | .elt z F V d l i k=>some (.elt z F V d l i k)
 | .tipr z F V M d l=>some (.tipr z F V M d l)
theorem qu {H:SH} {bs:List Nat} {x y:SC} (h:He (jn H bs) x=some y):x.den.cW (sig H.length bs)=y.den:=by
 unfold He at h;split at h
 ·split at h
  ·rename_i hb;injection h with h;subst h;simp only[SC.den,aa.cW,tJ hb]
  ·cases h
 ·split at h
  ·rename_i hb;injection h with h;subst h;simp only[SC.den,aa.cW,tJ hb]
  ·cases h
 ·split at h
  ·rename_i hb;injection h with h;subst h;simp only[SC.den,aa.cW,tJ hb]
  ·cases h
 ·split at h
  ·rename_i hb;injection h with h;subst h;simp only[SC.den,aa.cW,tJ hb]
  ·cases h
 ·injection h with h;subst h;rfl
 ·rename_i x h1 h2 h3
  injection h with h;subst h;cases x with
  |ptr b off=>exact (h1 b off rfl).elim
  |arr b off len cap=>exact (h2 b off len cap rfl).elim
  |mh b=>exact (h3 b rfl).elim
  |_=>rfl
 ·injection h with h;subst h;rfl
 ·injection h with h;subst h;rfl
 ·injection h with h;subst h;rfl
def Hf (σ:List Nat):List SC->Option (List SC)
 |[]=>some []
 |x::l=>match He σ x with
  |some y=>match Hf σ l with
   |some r=>some (y::r)
   |none=>none
  |none=>none
theorem qv {G:SH} {bs:List Nat}: ∀ {l r:List SC},Hf (jn G bs) l=some r->(aU l).map (aa.cW (sig G.length bs))=aU r
 |[],r,h=>by injection h with h;subst h;rfl
 |x::l,r,h=>by
  unfold Hf at h;split at h
  ·rename_i y hy
   split at h
   ·rename_i r' hr
    injection h with h;subst h;simp only[aU,List.map_cons] at*;rw[qu hy];have:=qv hr;simp only[aU] at this;rw[this]
   ·cases h
  ·cases h
def Hg (σ:List Nat):List ST->Option (List ST)
 |[]=>some []
 | .c x::l=>match He σ x with
  |some y=>match Hg σ l with
   |some r=>some (.c y::r)
   |none=>none
  |none=>none
 | .agg ds::l=>match Hf σ ds with
  |some y=>match Hg σ l with
   |some r=>some (.agg y::r)
   |none=>none
  |none=>none
theorem vA {G:SH} {bs:List Nat}: ∀ {l r:List ST},Hg (jn G bs) l=some r->(l.map ST.den).map (bj.cW (sig G.length bs))=r.map ST.den
 |[],r,h=>by injection h with h;subst h;rfl
 | .c x::l,r,h=>by
  unfold Hg at h;split at h
  ·rename_i y hy
   split at h
   ·rename_i r' hr
    injection h with h;subst h;simp only[List.map_cons];rw[vA hr];show bj.c (x.den.cW _)::_=_
    rw[qu hy];rfl
   ·cases h
  ·cases h
 | .agg ds::l,r,h=>by
  unfold Hg at h;split at h
  ·rename_i y hy
   split at h
   ·rename_i r' hr
    injection h with h;subst h;simp only[List.map_cons];rw[vA hr];show bj.agg ((aU ds).map _)::_=_
    rw[qv hy];rfl
   ·cases h
  ·cases h
def BW (σ:List Nat):SV->Option SV
 | .c x=>match He σ x with
  |some y=>some (.c y)
  |none=>none
 | .agg ds=>match Hf σ ds with
  |some r=>some (.agg r)
  |none=>none
 | .cC ts=>match Hg σ ts with
  |some r=>some (.cC r)
  |none=>none
theorem ly {G:SH} {bs:List Nat} {x y:SV} (h:BW (jn G bs) x=some y):x.den.cW (sig G.length bs)=y.den:=by
 unfold BW at h;split at h
 ·split at h
  ·rename_i hy;injection h with h;subst h
   show ad.c _=_;rw[qu hy];rfl
  ·cases h
 ·split at h
  ·rename_i hy;injection h with h;subst h
   show ad.agg _=_;rw[qv hy];rfl
  ·cases h
 ·split at h
  ·rename_i hy;injection h with h;subst h
   show ad.cC _=_;rw[vA hy];rfl
  ·cases h
def xG (σ:List Nat):List SV->Option (List SV)
 |[]=>some []
 |x::l=>match BW σ x with
  |some y=>match xG σ l with
   |some r=>some (y::r)
   |none=>none
  |none=>none
theorem lz {G:SH} {bs:List Nat}: ∀ {l r:List SV},xG (jn G bs) l=some r->(l.map SV.den).map (ad.cW (sig G.length bs))=r.map SV.den
 |[],r,h=>by injection h with h;subst h;rfl
 |x::l,r,h=>by
  unfold xG at h;split at h
  ·rename_i y hy
   split at h
   ·rename_i r' hr
    injection h with h;subst h;simp only[List.map_cons];rw[ly hy,lz hr]
   ·cases h
  ·cases h
def fU (σ:List Nat):SH->Option SH
 |[]=>some []
 |none::H=>match fU σ H with
  |some r=>some (none::r)
  |none=>none
 |some (.cells cs)::H=>match Hf σ cs with
  |some ds=>match fU σ H with
   |some r=>some (some (.cells ds)::r)
   |none=>none
  |none=>none
 |some (.bF z F V M d l)::H=>match fU σ H with
  |some r=>some (some (.bF z F V M d l)::r)
  |none=>none
 |some (.elo z F V M d l m)::H=>match fU σ H with
  |some r=>some (some (.elo z F V M d l m)::r)
  |none=>none
 |some (.mp q F V M d es)::H=>match fU σ H with
  |some r=>some (some (.mp q F V M d es)::r)
  |none=>none
 |some (.rws z F V M d l none)::H=>match fU σ H with
  |some r=>some (some (.rws z F V M d l none)::r)
  |none=>none
 |some (.rws z F V M d l (some (i,x)))::H=>match He σ x with
  |some y=>match fU σ H with
   |some r=>some (some (.rws z F V M d l (some (i,y)))::r)
   |none=>none
  |none=>none
theorem dv {G:SH} {bs:List Nat}: ∀ {H r:SH},fU (jn G bs) H=some r->(aR H).map (cV (sig G.length bs))=aR r
 |[],r,h=>by injection h with h;subst h;rfl
 |none::H,r,h=>by
  unfold fU at h;split at h
  ·rename_i r' hr
   injection h with h;subst h;have:=dv hr;simp only[aR,List.map_cons] at*;rw[this];rfl
  ·cases h
 |some (.cells cs)::H,r,h=>by
  unfold fU at h;split at h
  ·rename_i ds hds
   split at h
   ·rename_i r' hr
    injection h with h;subst h;have:=dv hr;simp only[aR,List.map_cons] at*;rw[this];show some ((aU cs).map _)::_=_
    rw[qv hds];rfl
   ·cases h
  ·cases h
 |some (.bF z F V M d l)::H,r,h=>by
  unfold fU at h;split at h
  ·rename_i r' hr
   injection h with h;subst h;have:=dv hr;simp only[aR,List.map_cons] at*;rw[this];congr 1;simp only[mG,cV,SB.den,List.map_map];congr 1
  ·cases h
 |some (.elo z F V M d l m)::H,r,h=>by
  unfold fU at h;split at h
  ·rename_i r' hr
   injection h with h;subst h;have:=dv hr;simp only[aR,List.map_cons] at*;rw[this];congr 1;simp only[mG,cV,SB.den,List.map_append,List.map_map,List.map_replicate];congr 1
  ·cases h
 |some (.mp q F V M d es)::H,r,h=>by
  unfold fU at h;split at h
  ·rename_i r' hr
   injection h with h;subst h;have:=dv hr;simp only[aR,List.map_cons] at*;rw[this];rfl
  ·cases h
 |some (.rws z F V M d l none)::H,r,h=>by
  unfold fU at h;split at h
  ·rename_i r' hr
   injection h with h;subst h;have:=dv hr;simp only[aR,List.map_cons] at*;rw[this];congr 1;simp only[mG,cV,SB.den,fY,List.map_map];congr 1
  ·cases h
 |some (.rws z F V M d l (some (i,x)))::H,r,h=>by
  unfold fU at h;split at h
  ·rename_i y hy
   split at h
   ·rename_i r' hr
    injection h with h;subst h;have:=dv hr;simp only[aR,List.map_cons] at*;rw[this];congr 1;simp only[mG,cV,SB.den,fY,List.map_set,List.map_map,qu hy];congr 1
   ·cases h
  ·cases h
def xf (H:SH):List Nat->Option SH
 |[]=>some []
 |b::bs=>match nth H b with
  |some x=>match xf H bs with
   |some r=>some (x::r)
   |none=>none
  |none=>none
theorem n8 {H:SH}: ∀ {bs:List Nat} {r:SH},xf H bs=some r->(bs.map fun b=>(aR H).getD b none)=aR r/\ ∀ b∈bs,b<H.length
 |[],r,h=>by injection h with h;subst h;exact ⟨rfl,fun b hb=>by cases hb⟩
 |b::bs,r,h=>by
  unfold xf at h;split at h
  ·rename_i x hx
   split at h
   ·rename_i r' hr
    injection h with h;subst h;obtain ⟨h1,h2⟩:=n8 hr;rw[gV] at hx;simp only[List.map_cons,aR] at*;rw[h1];refine ⟨?_,fun c hc=> ?_⟩
    ·rw[List.getD_eq_getElem?_getD,List.getElem?_map,hx];rfl
    ·rcases List.mem_cons.1 hc with rfl|hc
     ·exact (List.getElem?_eq_some_iff.1 hx).1
     ·exact h2 c hc
   ·cases h
  ·cases h
def LO:SH->SH->(SH->Option SX)->Option SX
 |[],Cs,k=>k Cs
 |x::H,Cs,k=>LO H Cs fun r=>k (x::r)
def BL (H:SH) (bs:List Nat) (Cs:SH) (k:SH->Option SX):Option SX:=
 match bs with
 |[]=>LO H Cs k
 |b::bs=>match Cs with
  |c::Cs=>gr H b c fun H'=>BL H' bs Cs k
  |[]=>none
theorem EA {x:SX}: ∀ {H Cs:SH} {k:SH->Option SX},LO H Cs k=some x->k (H++Cs)=some x
 |[],Cs,k,h=>h
 |y::H,Cs,k,h=>by have:=EA (H:=H) h;simpa using this
theorem tF {x:SX}: ∀ {bs:List Nat} {H Cs:SH} {k:SH->Option SX},BL H bs Cs k=some x-> ∃ H',k H'=some x/\aR H'=bt (aR H) bs (aR Cs)
 |[],H,Cs,k,h=>by
  have h':LO H Cs k=some x:=by unfold BL at h;exact h
  exact ⟨_,EA h',by simp[aR,bt]⟩
 |b::bs,H,[],k,h=>by unfold BL at h;cases h
 |b::bs,H,c::Cs,k,h=>by
  unfold BL at h;obtain ⟨h1,h2⟩:=b9 h;obtain ⟨H',h3,h4⟩:=tF h2;refine ⟨H',h3,?_⟩;rw[h4];simp only[aR,List.map_cons,bt,List.map_set]
def ru:List Nat->Bool
 |[]=>true
 |b::l=>match wu l b with
  |true=>false
  |false=>ru l
theorem My {l:List Nat} {t:Nat} (h:t∈l):wu l t=true:=by
 induction l with
 |nil=>cases h
 |cons d l ih=>
  unfold wu;rcases List.mem_cons.1 h with rfl|h
  ·rw[Nat.beq_refl]
  ·split
   ·rfl
   ·exact ih h
theorem n9: ∀ {l:List Nat},ru l=true->l.Nodup
 |[],_=>List.nodup_nil
 |b::l,h=>by
  unfold ru at h;split at h
  ·cases h
  ·rename_i hb
   exact List.nodup_cons.2 ⟨fun hm=>(by rw[My hm] at hb;cases hb),n9 h⟩
theorem iq {c:Call} {f:FuncId} {vs ws:List SV} {Hs Hs' Gs Gs':SH} {r r':SV} {l':SL} {H':SH} (bs:List Nat) (hO:cd P f vs Hs r Hs')
  (hc:cf ⟨d,.call c,ty,pos,af,none⟩=some (f,c.args.toList)) (ha:uj (m6 l) c.args.toList=some ws) (hv:xG (jn H bs) vs=some ws) (hg:xf H bs=some Gs) (hr1:fU (jn H bs) Hs=some Gs) (hr2:fU (jn H bs) Hs'=some Gs') (hr3:BW (jn H bs) r=some r')
  (hn:ru bs=true) (h4:zv Hs.length vs=true) (h5:jN Hs.length Hs=true) (h6:jN Hs'.length Hs'=true) (hP:BL H bs Gs' (fun H'=>some ⟨[],[],H',.plain (fun _=>True),True⟩)=some ⟨[],[],H',.plain (fun _=>True),True⟩)
  (hl:(match d with|some d=>some ((d,SE.v r')::l)|none=>some l)=some l')
  (h:WR P ops rest (SS l' H') (R.push ⟨bs,[],bs,if Hs'.length=bs.length then none else some H.length,false,false⟩)):WR P ops (⟨d,.call c,ty,pos,af,none⟩::rest) (SS l H) R:=by
 obtain ⟨g1,g2⟩:=n8 hg;obtain ⟨H2,hP1,hP2⟩:=tF hP;injection hP1 with hP1;injection hP1 with _ _ hP1;subst hP1;have hlen: ∀ X:SH,(aR X).length=X.length:=aI;refine Of bs (H:=aR H) (n:=H.length) (Hs:=aR Hs) (Hs':=aR Hs') (args:=ws.map SV.den) (args':=vs.map SV.den) (r:=r.den) (r2:=r'.den) (H2:=aR H2) hc (mU (s:=SS l H) (fun x _ v hv=>cm hv) ha) (bY _ _) hO ?_ (hlen H) ?_ (n9 hn) ?_ (by rw[hlen];exact jO h4) (by rw[hlen];exact da h5) (by rw[hlen];exact da h6) (ly hr3) ?_ rfl ?_
 ·rw[hlen];exact lz hv
 ·rw[dv hr1];exact g1.symm
 ·rw[List.all_eq_true];intro b hb;simpa using g2 b hb
 ·rw[dv hr2];exact hP2.symm
 ·rw[eK,hlen]
  have:SS l' H2=(SS l H2).put d r'.den:=by
   split at hl<;>injection hl with hl<;>subst hl<;>rfl
  rw[← this];exact h
end
section
variable {P:Program} {T:Tb} {H:SH} {l:SL}
def il (x y:SC):Prop:=x.den=y.den
theorem il.refl (x:SC):il x x:=rfl
theorem il.int {k:IntKind} {a b:Int} (h:a=b):il (.c (.f (.v (.int k a)))) (.c (.f (.v (.int k b)))):=by subst h;rfl
theorem il.bool {a b:Bool} (h:a=b):il (.c (.f (.v (.bool a)))) (.c (.f (.v (.bool b)))):=by subst h;rfl
theorem il.str {a b:ByteArray} (h:a=b):il (.c (.f (.v (.string a)))) (.c (.f (.v (.string b)))):=by subst h;rfl
theorem il.arr {b off n n' m m':Nat} (h:n=n') (h2:m=m'):il (.c (.arr b off n m)) (.c (.arr b off n' m')):=by subst h;subst h2;rfl
theorem il.row {α:Type} {z n:Nat} {cs:List ag} {F:α->List ag} {V:α->List SC} {d:α} {l:List α} (h1:cs=l.flatMap F) (h2:n=l.length):il (.c (.f (.row cs n))) (.row z F V d l):=by subst h1;subst h2;rfl
theorem il.rows {α:Type} {z:Nat} {F:α->List ag} {V:α->List SC} {d:α} {l l':List α} (h:l=l'):il (.row z F V d l) (.row z F V d l'):=by subst h;rfl
theorem il.bg {α:Type} {z n:Nat} {cs:List ag} {F:α->List ag} {V:α->List SC} {M:List ag->Option α} {d:α} {l:List α} (h1:cs=l.flatMap F) (h2:n=l.length):il (.c (.bg true z cs n)) (.tipr z F V M d l):=by subst h1;subst h2;rfl
theorem il.own {α:Type} {z n:Nat} {cs:List ag} {F:α->List ag} {V:α->List SC} {M:List ag->Option α} {d:α} {l:List α} (h1:cs=l.flatMap F) (h2:n=l.length):il (.c (.bg false z cs n)) (.ownr z F V M d l):=by subst h1;subst h2;rfl
theorem il.Pz {α:Type} {z:Nat} {F:α->List ag} {V:α->List SC} {M M':List ag->Option α} {d:α} {l l':List α} (h:l=l'):il (.ownr z F V M d l) (.ownr z F V M' d l'):=by subst h;rfl
theorem il.PY {α:Type} {z:Nat} {F:α->List ag} {V:α->List SC} {M M':List ag->Option α} {d:α} {l l':List α} (h:l=l'):il (.tipr z F V M d l) (.tipr z F V M' d l'):=by subst h;rfl
theorem il.raw {cs cs':List ag} {n n':Nat} (h:cs=cs') (h2:n=n'):il (.c (.f (.row cs n))) (.c (.f (.row cs' n'))):=by subst h;subst h2;rfl
inductive qO:List SC->List SC->Prop
 |nil:qO [] []
 |cons {x y:SC} {l m:List SC} (h:il x y) (t:qO l m):qO (x::l) (y::m)
theorem qO.den {l m:List SC} (h:qO l m):aU l=aU m:=by
  induction h with
  |nil=>rfl
  |cons h t ih=>simp only[aU,List.map_cons] at*;rw[ih];exact congrArg (· ::_) h
inductive qR:List ST->List ST->Prop
 |nil:qR [] []
 |c {x y:SC} {l m:List ST} (h:il x y) (t:qR l m):qR (.c x::l) (.c y::m)
 |agg {x y:List SC} {l m:List ST} (h:qO x y) (t:qR l m):qR (.agg x::l) (.agg y::m)
theorem qR.den {l m:List ST} (h:qR l m):l.map ST.den=m.map ST.den:=by
 induction h with
 |nil=>rfl
 |c h t ih=>simp only[List.map_cons,ih];exact congrArg (fun x=>bj.c x::_) h
 |agg h t ih=>simp only[List.map_cons,ih];exact congrArg (fun x=>bj.agg x::_) h.den
theorem mB.c {x y:SC} (h:il x y):(SV.c x).den=(SV.c y).den:=congrArg ad.c h
theorem mB.agg {x y:List SC} (h:qO x y):(SV.agg x).den=(SV.agg y).den:=congrArg ad.agg h.den
theorem mB.cC {x y:List ST} (h:qR x y):(SV.cC x).den=(SV.cC y).den:=congrArg ad.cC h.den
inductive bu:SH->SH->Prop
 |nil (H:SH):bu H []
 |none {H G:SH} (t:bu H G):bu (Option.none::H) (Option.none::G)
 |cells {cs ds:List SC} {H G:SH} (h:qO cs ds) (t:bu H G):bu (some (.cells cs)::H) (some (.cells ds)::G)
 |bF {α:Type} {z:Nat} {F:α->List ag} {V:α->List SC} {M:List ag->Option α} {d:α} {l l':List α} {H G:SH} (h:l=l') (t:bu H G):bu (some (.bF z F V M d l)::H) (some (.bF z F V M d l')::G)
 |elo {α:Type} {z m:Nat} {F:α->List ag} {V:α->List SC} {M:List ag->Option α} {d:α} {l l':List α} {H G:SH} (h:l=l') (t:bu H G):bu (some (.elo z F V M d l m)::H) (some (.elo z F V M d l' m)::G)
 |mp {β:Type} {q:Bool} {F:β->List ag} {V:β->List SC} {M:List ag->Option β} {d:β} {es es':List (List Int×β)} {H G:SH} (h:es=es') (t:bu H G):bu (some (.mp q F V M d es)::H) (some (.mp q F V M d es')::G)
 |rws {α:Type} {z:Nat} {F:α->List ag} {V:α->List SC} {M:List ag->Option α} {d:α} {l l':List (List α)} {H G:SH} (h:l=l') (t:bu H G):bu (some (.rws z F V M d l none)::H) (some (.rws z F V M d l' none)::G)
theorem bu.den {H G:SH} (h:bu H G):aR (H.take G.length)=aR G:=by
 induction h with
 |nil H=>simp[aR]
 |none t ih=>simp only[aR,List.length_cons,List.take_succ_cons,List.map_cons] at*;rw[ih]
 |cells h t ih=>simp only[aR,List.length_cons,List.take_succ_cons,List.map_cons] at*;rw[ih];exact congrArg (fun x=>some x::_) h.den
 |bF h t ih=>subst h;simp only[aR,List.length_cons,List.take_succ_cons,List.map_cons] at*;rw[ih]
 |elo h t ih=>subst h;simp only[aR,List.length_cons,List.take_succ_cons,List.map_cons] at*;rw[ih]
 |mp h t ih=>subst h;simp only[aR,List.length_cons,List.take_succ_cons,List.map_cons] at*;rw[ih]
 |rws h t ih=>subst h;simp only[aR,List.length_cons,List.take_succ_cons,List.map_cons] at*;rw[ih]
def RX (v:SV):Option ST:=
 match v with
 | .c x=>some (.c x)
 | .agg ds=>some (.agg ds)
 | .cC _=>none
def R7 (cs:List SC) (off n:Nat):Option (List SC):=C9 cs off n some
def fD (cs:List SC):Option (List SC):=uG cs some
def wx (T:Tb) (l:SL) (H:SH):List ResultVar->Option (List ST)
  |[]=>some []
  | .tmp t::rs=>match m6 l (.tmp t) with
    |some v=>match hS v with
     |some u=>match RX u with
      |some y=>match wx T l H rs with
       |some ys=>some (y::ys)
       |none=>none
      |none=>none
     |none=>none
    |none=>none
  | .cell x t::rs=>match iD T.sz t with
    |some (q,n)=>match m6 l (.tmp x) with
     |some (.c (.c (.ptr b off)))=>match nth H b with
      |some (some (.cells cs))=>match q with
       |false=>match nth cs off with
        |some y=>match aF y with
             |false=>none
             |true=>match hS (.c y) with
              |some u=>match RX u with
               |some z=>match wx T l H rs with
                |some ys=>some (z::ys)
                |none=>none
               |none=>none
              |none=>none
        |none=>none
       |true=>match JU cs with
           |false=>none
           |true=>match R7 cs off n with
            |some ds=>match fD ds with
             |some es=>match Ri es with
              |some fs=>match wx T l H rs with
               |some ys=>some (.agg fs::ys)
               |none=>none
              |none=>none
             |none=>none
            |none=>none
      |_=>none
     |_=>none
    |none=>none
theorem Q7 {v u:SV} {y:ST} {w:ad} (hw:w=v.den) (h:hS v=some u) (hy:RX u=some y):(w.aQ.t).map bj.nz=some y.den:=by
 have h1:=Dq h;subst hw;unfold ad.h at h1
 unfold RX at hy;split at hy
 ·injection hy with hy;subst hy
  rename_i x;cases hd:v.den.aQ with
  |c z=>
   rw[hd] at h1;have h2:ad.c z.nz=ad.c x.den:=h1;injection h2 with h2;show some (bj.c z.nz)=_
   rw[h2];rfl
  |agg cs=>rw[hd] at h1;cases h1
  |cC ts=>rw[hd] at h1;cases h1
 ·injection hy with hy;subst hy
  rename_i ds;cases hd:v.den.aQ with
  |c z=>rw[hd] at h1;cases h1
  |agg cs=>
   rw[hd] at h1;have h2:ad.agg (cs.map aa.nz)=ad.agg (aU ds):=h1;injection h2 with h2;show some (bj.agg (cs.map aa.nz))=_
   rw[h2];rfl
  |cC ts=>rw[hd] at h1;cases h1
 ·cases hy
theorem qy (O:T.Ok P): ∀ {rs:List ResultVar} {ys:List ST},wx T l H rs=some ys->qx P (SS l H) rs=some (ys.map ST.den)
 |[],ys,h=>by injection h with h;subst h;rfl
 | .tmp t::rs,ys,h=>by
  unfold wx at h;split at h
  ·rename_i v hv
   split at h
   ·rename_i u hu
    split at h
    ·rename_i y hy
     split at h
     ·rename_i ys' hys
      injection h with h;subst h;have h1:=Q7 (cm (H:=H) hv) hu hy;have h2:=qy O hys;unfold qx;have h3:DW P (SS l H) (.tmp t)=some y.den:=h1;rw[h3,h2];rfl
     ·cases h
    ·cases h
   ·cases h
  ·cases h
 | .cell x t::rs,ys,h=>by
  unfold wx at h;split at h
  ·rename_i q n hsz
   have ht:=O.FT hsz;split at h
   ·rename_i b off hx
    have hx':=cm (H:=H) hx;split at h
    ·rename_i cs hb
     have hb':(SS l H).H[b]? =some (some (aU cs)):=by rw[bY];exact dz hb
     split at h
     ·split at h
      ·rename_i y hy
       split at h
       ·cases h
       rename_i hnm;split at h
       ·rename_i u hu
        split at h
        ·rename_i z hz
         split at h
         ·rename_i ys' hys
          injection h with h;subst h;have h1:=Q7 (v:= .c y) rfl hu hz;have h2:bj.nz (.c y.den.aQ)=z.den:=by
           have h3:some (bj.nz (.c y.den.aQ))=some z.den:=h1;injection h3
          exact Ht ht hx' hb' (gU hy) (rv hnm) h2 (qy O hys)
         ·cases h
        ·cases h
       ·cases h
      ·cases h
     ·split at h
      ·cases h
      rename_i hnm;split at h
      ·rename_i ds hds
       obtain ⟨h1,h2⟩:=nX hds;injection h2 with h2;subst h2;split at h
       ·rename_i es hes
        obtain ⟨es',h3,h4⟩:=jc hes;injection h4 with h4;subst h4;split at h
        ·rename_i fs hfs
         split at h
         ·rename_i ys' hys
          injection h with h;subst h;refine Hu (cs:=aU es') ht hx' hb' (by rw[eR];exact h1) (nv hnm) (by rw[tj,h3]) ?_ (qy O hys);show bj.agg ((aU es').map aa.nz)=_
          rw[DE hfs];rfl
         ·cases h
        ·cases h
       ·cases h
      ·cases h
    ·cases h
   ·cases h
  ·cases h
def ql:List ST->SV
 |[.c x]=> .c x
 |[.agg l]=> .agg l
 |l=> .cC l
theorem xy (ys:List ST):BE (ys.map ST.den)=(ql ys).den:=by
 cases ys with
 |nil=>rfl
 |cons y ys=>
  cases ys with
  |nil=>cases y<;>rfl
  |cons z ys=>cases y<;>rfl
theorem Ck (H:SH) (n:Nat):(aR H).take n=aR (H.take n):=by simp[aR]
theorem Ey (O:T.Ok P) {fn:Func} {r:SV} {H':SH} {e:bI} {rs:List ResultVar} {ys:List ST} (he:(match e with| .exit _=>False|_=>True)) (hr:fn.results.toList=rs) (hy:wx T l H rs=some ys) (hp:(ql ys).den=r.den) (hH:bu H H'):Nx P fn r.den (aR H') e (SS l H):=
 ⟨he,ys.map ST.den,by rw[hr];exact qy O hy,by rw[xy];exact hp,by rw[bY,aI,Ck];exact hH.den⟩
def Fy:List SC->Bool
 |[]=>true
 | .c (.arr ..)::_=>false
 |_::l=>Fy l
def P9 (H:SH):List ST->(List ST->Prop->Option SX)->Option SX
 |[],k=>k [] True
 | .c (.c (.arr b off len cap))::l,k=>match nth H b with
  |some (some (.bF z F V M d x))=>match Nat.beq off 0 with
   |true=>P9 H l fun r p=>k (.c (.row z F V d x)::r) (((len=cap/\x.length=len)/\ ∀ y,jX ((F y).map aa.f)=some (F y))/\p)
   |false=>none
  |_=>none
 | .c x::l,k=>P9 H l fun r p=>k (.c x::r) p
 | .agg ds::l,k=>match Fy ds with
  |true=>P9 H l fun r p=>k (.agg ds::r) p
  |false=>none
theorem Fc: ∀ (a b:List aa) (x y:List ag),jX a=some x->jX b=some y->jX (a++b)=some (x++y)
 |[],b,x,y,h1,h2=>by injection h1 with h1;subst h1;exact h2
 |c::a,b,x,y,h1,h2=>by
  unfold jX at h1;split at h1
  ·rename_i u us e1 e2
   injection h1 with h1;subst h1;show jX (c::(a++b))=_
   unfold jX;rw[e1,Fc a b us y e2 h2];rfl
  ·cases h1
theorem lV {α:Type} {F:α->List ag} (hF: ∀ y,jX ((F y).map aa.f)=some (F y)): ∀ l:List α,jX ((l.flatMap F).map aa.f)=some (l.flatMap F)
 |[]=>rfl
 |x::l=>by
  simp only[List.flatMap_cons,List.map_append];exact Fc _ _ _ _ (hF x) (lV hF l)
theorem Mg {H:HB} {b off len cap:Nat} {cells:List aa} {fs:List ag} (h1:H[b]? =some (some cells)) (h2:len=cap) (h3:jX (cells.drop off)=some fs):Ib H (.arr b off len cap)= .f (.row fs len):=by
 simp only[Ib,h1,if_pos h2,h3]
theorem xd {H:HB} {x:aa} (h: ∀ b off len cap,x= .arr b off len cap->False):Ib H x=x:=by
 cases x<;>first|rfl|exact (h _ _ _ _ rfl).elim
theorem Bw {H:HB}: ∀ {ds:List SC},Fy ds=true->(aU ds).map (Ib H)=aU ds
 |[],_=>rfl
 |x::l,h=>by
  unfold Fy at h;split at h
  ·rename_i h0;cases h0
  ·cases h
  ·rename_i x' l' hne h0
   injection h0 with e1 e2;subst e1;subst e2;have:=Bw (H:=H) h;simp only[aU,List.map_cons] at*;rw[this,xd];intro b off len cap e;cases x with
   |c y=>exact hne b off len cap (by rw[show y=_ from e])
   |_=>cases e
theorem zd {x:SX}: ∀ {ys:List ST} {k:List ST->Prop->Option SX},P9 H ys k=some x-> ∃ zs p,k zs p=some x/\(p->(ys.map ST.den).map (Sp (aR H))=zs.map ST.den)
 |[],k,h=>⟨[],True,h,fun _=>rfl⟩
 |y::ys,k,h=>by
  unfold P9 at h;split at h
  ·rename_i h0;cases h0
  ·rename_i b off len cap l' h0
   injection h0 with e1 e2;subst e1;subst e2;split at h
   ·rename_i z F V M d x' hb
    split at h
    ·rename_i hoff
     have hoff:=Nat.eq_of_beq_eq_true hoff;subst hoff;obtain ⟨zs,p,h1,h2⟩:=zd h;refine ⟨_,_,h1,fun ⟨⟨⟨hp1,hp2⟩,hp3⟩,hp4⟩=> ?_⟩;simp only[List.map_cons];rw[h2 hp4];congr 1;show bj.c (Ib (aR H) (.arr b 0 len cap))=_
     rw[Mg (dz hb) hp1 (by rw[List.drop_zero];exact lV hp3 x')];simp only[ST.den,SC.den,hp2]
    ·cases h
   ·cases h
  ·rename_i x' l' hne h0
   injection h0 with e1 e2;subst e1;subst e2;obtain ⟨zs,p,h1,h2⟩:=zd h;refine ⟨_,_,h1,fun hp=> ?_⟩;simp only[List.map_cons];rw[h2 hp];congr 1;show bj.c (Ib (aR H) x'.den)=_
   rw[xd]
   ·rfl
   ·intro b off len cap e
    cases x' with
    |c y=>exact hne b off len cap (by rw[show y=_ from e])
    |_=>cases e
  ·rename_i ds l' h0
   injection h0 with e1 e2;subst e1;subst e2;split at h
   ·rename_i hn
    obtain ⟨zs,p,h1,h2⟩:=zd h;refine ⟨_,_,h1,fun hp=> ?_⟩;simp only[List.map_cons];rw[h2 hp];congr 1;show bj.agg ((aU ds).map _)=_
    rw[Bw hn];rfl
   ·cases h
def RU (T:Tb) (l:SL) (H:SH) (rs:List ResultVar):Option SX:=
 match wx T l H rs with
 |some ys=>P9 H ys fun zs p=>some ⟨[],[(0,.v (ql zs))],[],.plain (fun _=>True),p⟩
 |none=>none
theorem IB (O:T.Ok P) {fn:Func} {r:SV} {e:bI} {rs:List ResultVar} {v:SV} {p:Prop} (he:(match e with| .exit _=>False|_=>True)) (hr:fn.results.toList=rs) (hy:RU T l H rs=some ⟨[],[(0,.v v)],[],.plain (fun _=>True),p⟩) (hq:p) (hp:v.den=r.den):CJ P fn r.den e (SS l H):=by
 unfold RU at hy;split at hy
 ·rename_i ys hys
  obtain ⟨zs,p',h1,h2⟩:=zd hy;injection h1 with h1;injection h1 with _ e1 _ _ e2;injection e1 with e1 _;injection e1 with _ e1;injection e1 with e1;subst e1;subst e2;refine ⟨he,ys.map ST.den,by rw[hr];exact qy O hys,?_⟩;rw[bY,h2 hq,xy];exact hp
 ·cases hy
def cu:Nat->List SV->SL
 |_,[]=>[]
 |i,x::l=>(i,.v x)::cu (i+1) l
theorem zL: ∀ (args:List SV) (i:Nat),St.of (aR H) (C0 i (args.map SV.den))=SS (cu i args) H
 |[],i=>rfl
 |x::l,i=>by
  show (St.of (aR H) (C0 (i+1) (l.map SV.den))).put (some i) x.den=_;rw[zL l (i+1)];rfl
def pY:SV->Bool
 | .c (.c (.bg ..))=>false
 | .c (.c (.mp ..))=>false
 | .c (.ownr ..)=>false
 | .c (.tipr ..)=>false
 |_=>true
theorem kT {v:SV} (h:pY v=true):Flat v.den=true:=by
 cases v with
 |c x=>cases x with
  |c y=>cases y<;>first|rfl|cases h
  |tipr=>cases h
  |ownr=>cases h
  |_=>rfl
 |agg l=>rfl
 |cC l=>rfl
theorem cn (hm:P.follows .mixedOrders=true) {f:FuncId} {fn:Func} {c:Code} {args:List SV} {H':SH} {r:SV} (hf:P.funcs[f]? =some fn) (hb:fn.body=some c) (hn:(fn.name== "runtime.NumGoroutine")=false) (hca:args.length<=fn.ntmps) (hcode:codeOk fn.ntmps c=true)
  (hflat:pY r=true) (hrok:Lm H'.length r=true) (hlen:H.length<=H'.length) (hHok:jN H'.length H'=true) {n0:Nat} (h0:H.length=n0) (h:W P (DR P) n0 c (SS (cu 0 args) H) (Nx P fn r.den (aR H'))):cd P f args H r H':=by
 subst h0;refine Rk hm hf hb hn (by simpa using hca) hcode (kT hflat) (by rw[aI];exact oa hrok) (by rw[aI,aI];exact hlen) (by rw[aI];exact da hHok) ?_;rw[aI,zL];exact h
theorem bT (hm:P.follows .mixedOrders=true) {f:FuncId} {fn:Func} {c:Code} {args:List SV} {r:SV} (hf:P.funcs[f]? =some fn) (hb:fn.body=some c) (hn:(fn.name== "runtime.NumGoroutine")=false) (hca:args.length<=fn.ntmps) (hcode:codeOk fn.ntmps c=true)
  (hflat:pY r=true) (hrok:Lm 0 r=true) (h:W P (DR P) 0 c (SS (cu 0 args) []) (CJ P fn r.den)):cd P f args [] r []:=by
 refine Pv hm hf hb hn (by simpa using hca) hcode (kT hflat) (oa hrok) ?_;have:=zL (H:=[]) args 0;rw[show (aR []:HB)=[] from rfl] at this
 rw[this];exact h
def aE (x y:SC):Prop:=aa.Le x.den y.den
theorem aE.refl (x:SC):aE x x:=aa.Le.refl _
theorem aE.any (x:SC) (h:aF x=true):aE x (.c .any):=aa.Le.any _ (rv h)
theorem aE.iE:aE (.c (.f .nils)) (.c (.f (.row [] 0))):=aa.Le.iE
theorem aE.al {α:Type} {z:Nat} {F:α->List ag} {V:α->List SC} {d:α}:aE (.c (.f .nils)) (.row z F V d []):=aa.Le.iE
theorem aE.gl {q:Bool} {z:Nat}:aE (.c (.f .nils)) (.c (.bg q z [] 0)):=aa.Le.gl q z
theorem aE.ah {α:Type} {z:Nat} {F:α->List ag} {V:α->List SC} {M:List ag->Option α} {d:α}:aE (.c (.f .nils)) (.tipr z F V M d []):=aa.Le.gl true z
theorem aE.ao {α:Type} {z:Nat} {F:α->List ag} {V:α->List SC} {M:List ag->Option α} {d:α}:aE (.c (.f .nils)) (.ownr z F V M d []):=aa.Le.gl false z
theorem aE.own {α:Type} {z n:Nat} {cs:List ag} {F:α->List ag} {V:α->List SC} {M:List ag->Option α} {d:α} {l:List α} (h1:cs=l.flatMap F) (h2:n=l.length):aE (.c (.bg false z cs n)) (.ownr z F V M d l):=by subst h1;subst h2;exact aa.Le.refl _
theorem aE.Pz {α:Type} {z:Nat} {F:α->List ag} {V:α->List SC} {M M':List ag->Option α} {d:α} {l l':List α} (h:l=l'):aE (.ownr z F V M d l) (.ownr z F V M' d l'):=by subst h;exact aa.Le.refl _
theorem aE.jj {α:Type} {z n:Nat} {F:α->List ag} {V:α->List SC} {M:List ag->Option α} {d:α} {l:List α} (h:l.length=n):aE (.ownr z F V M d l) (.c (.f (.row [] n))):=by subst h;exact aa.Le.jj _ _ _
theorem aE.bg {α:Type} {z n:Nat} {cs:List ag} {F:α->List ag} {V:α->List SC} {M:List ag->Option α} {d:α} {l:List α} (h1:cs=l.flatMap F) (h2:n=l.length):aE (.c (.bg true z cs n)) (.tipr z F V M d l):=by subst h1;subst h2;exact aa.Le.refl _
theorem aE.g9 {α:Type} {z z' n:Nat} {cs:List ag} {F:α->List ag} {V:α->List SC} {d:α} {l:List α} (h1:cs=l.flatMap F) (h2:n=l.length):aE (.c (.bg true z cs n)) (.row z' F V d l):=by subst h1;subst h2;exact aa.Le.g9 _ _ _
theorem aE.row {α:Type} {z n:Nat} {cs:List ag} {F:α->List ag} {V:α->List SC} {d:α} {l:List α} (h1:cs=l.flatMap F) (h2:n=l.length):aE (.c (.f (.row cs n))) (.row z F V d l):=by subst h1;subst h2;exact aa.Le.refl _
theorem aE.KZ {α:Type} {z z':Nat} {F:α->List ag} {V V':α->List SC} {M:List ag->Option α} {d d':α} {l l':List α} (h:l=l'):aE (.tipr z F V M d l) (.row z' F V' d' l'):=by subst h;exact aa.Le.g9 _ _ _
theorem aE.rows {α:Type} {z:Nat} {F:α->List ag} {V:α->List SC} {d:α} {l l':List α} (h:l=l'):aE (.row z F V d l) (.row z F V d l'):=by subst h;exact aa.Le.refl _
theorem aE.PY {α:Type} {z:Nat} {F:α->List ag} {V:α->List SC} {M M':List ag->Option α} {d:α} {l l':List α} (h:l=l'):aE (.tipr z F V M d l) (.tipr z F V M' d l'):=by subst h;exact aa.Le.refl _
theorem aE.int {k:IntKind} {a b:Int} (h:a=b):aE (.c (.f (.v (.int k a)))) (.c (.f (.v (.int k b)))):=by subst h;exact aa.Le.refl _
theorem aE.bool {a b:Bool} (h:a=b):aE (.c (.f (.v (.bool a)))) (.c (.f (.v (.bool b)))):=by subst h;exact aa.Le.refl _
theorem aE.str {a b:ByteArray} (h:a=b):aE (.c (.f (.v (.string a)))) (.c (.f (.v (.string b)))):=by subst h;exact aa.Le.refl _
theorem aE.arr {b off n n' m m':Nat} (h:n=n') (h2:m=m'):aE (.c (.arr b off n m)) (.c (.arr b off n' m')):=by subst h;subst h2;exact aa.Le.refl _
inductive cg:List SC->List SC->Prop
 |nil:cg [] []
 |cons {x y:SC} {l m:List SC} (h:aE x y) (t:cg l m):cg (x::l) (y::m)
theorem cg.den {l m:List SC} (h:cg l m):sQ (aU l) (aU m):=by
 induction h with
 |nil=>exact .nil
 |cons h t ih=>exact .cons h ih
inductive aN:SH->SH->Prop
 |nil (H:SH):aN H []
 |none {x:Option SB} {H G:SH} (t:aN H G):aN (x::H) (Option.none::G)
 |cells {cs ds:List SC} {H G:SH} (h:cg cs ds) (t:aN H G):aN (some (.cells cs)::H) (some (.cells ds)::G)
 |bF {α:Type} {z:Nat} {F:α->List ag} {V:α->List SC} {M:List ag->Option α} {d:α} {l l':List α} {H G:SH} (h:l=l') (t:aN H G):aN (some (.bF z F V M d l)::H) (some (.bF z F V M d l')::G)
 |elo {α:Type} {z m:Nat} {F:α->List ag} {V:α->List SC} {M:List ag->Option α} {d:α} {l l':List α} {H G:SH} (h:l=l') (t:aN H G):aN (some (.elo z F V M d l m)::H) (some (.elo z F V M d l' m)::G)
 |mp {β:Type} {q:Bool} {F:β->List ag} {V:β->List SC} {M:List ag->Option β} {d:β} {es es':List (List Int×β)} {H G:SH} (h:es=es') (t:aN H G):aN (some (.mp q F V M d es)::H) (some (.mp q F V M d es')::G)
 |rws {α:Type} {z:Nat} {F:α->List ag} {V:α->List SC} {M:List ag->Option α} {d:α} {l l':List (List α)} {H G:SH} (h:l=l') (t:aN H G):aN (some (.rws z F V M d l none)::H) (some (.rws z F V M d l' none)::G)
 |rwsS {α:Type} {z:Nat} {F:α->List ag} {V V2:α->List SC} {M M2:List ag->Option α} {d d2:α} {l l':List (List α)} {i:Int} {r:List α} {H G:SH} (h:l'=l.set i.toNat r) (t:aN H G):aN (some (.rws z F V M d l (some (i,.ownr z F V2 M2 d2 r)))::H) (some (.rws z F V M d l' none)::G)
 |rwsH {α:Type} {z:Nat} {F:α->List ag} {V:α->List SC} {M:List ag->Option α} {d:α} {l l':List (List α)} {i i':Int} {x x':SC} {H G:SH} (h:l=l') (hi:i=i') (hx:x.den=x'.den) (t:aN H G):aN (some (.rws z F V M d l (some (i,x)))::H) (some (.rws z F V M d l' (some (i',x')))::G)
 |nrws {α β:Type} {z:Nat} {F:α->List ag} {V:α->List SC} {M:List ag->Option α} {d:α} {F0:β->List ag} {V0:β->List SC} {M0:List ag->Option β} {d0:β} {l:List β} {l':List (List α)} {H G:SH} (h0: ∀ x,F0 x=[.nils]) (h:l'=List.replicate l.length []) (t:aN H G):aN (some (.bF 1 F0 V0 M0 d0 l)::H) (some (.rws z F V M d l' none)::G)
 |open_ {α:Type} {z:Nat} {F:α->List ag} {V:α->List SC} {M:List ag->Option α} {d:α} {cs:List SC} {l':List α} {H G:SH} (h:aU cs=(l'.flatMap F).map aa.f) (t:aN H G):aN (some (.cells cs)::H) (some (.bF z F V M d l')::G)
theorem Fm {α β:Type} {z:Nat} {F:α->List ag} {F0:β->List ag} (h0: ∀ x,F0 x=[.nils]): ∀ l:List β,sQ ((l.flatMap F0).map aa.f) (fY z F (List.replicate l.length []) none)
 |[]=> .nil
 |x::l=>by
  simp only[List.flatMap_cons,h0,List.cons_append,List.nil_append,List.map_cons,List.length_cons,List.replicate_succ,fY];refine .cons (.gl false z) ?_;have:=Fm (z:=z) (F:=F) h0 l;simp only[fY] at this;exact this
theorem aN.den {H G:SH} (h:aN H G):G.length<=H.length/\v7 ((aR H).take G.length) (aR G):=by
 induction h with
 |nil H=>exact ⟨Nat.zero_le _,by simp[aR];exact .nil⟩
 |none t ih=>exact ⟨by simp;exact ih.1,by simp only[aR,List.map_cons,List.length_cons,List.take_succ_cons] at*;exact .none ih.2⟩
 |cells h t ih=>exact ⟨by simp;exact ih.1,by simp only[aR,List.map_cons,List.length_cons,List.take_succ_cons] at*;exact .some h.den ih.2⟩
 |bF h t ih=>subst h;exact ⟨by simp;exact ih.1,by simp only[aR,List.map_cons,List.length_cons,List.take_succ_cons] at*;exact .some (sQ.refl _) ih.2⟩
 |elo h t ih=>subst h;exact ⟨by simp;exact ih.1,by simp only[aR,List.map_cons,List.length_cons,List.take_succ_cons] at*;exact .some (sQ.refl _) ih.2⟩
 |mp h t ih=>subst h;exact ⟨by simp;exact ih.1,by simp only[aR,List.map_cons,List.length_cons,List.take_succ_cons] at*;exact .some (sQ.refl _) ih.2⟩
 |rws h t ih=>subst h;exact ⟨by simp;exact ih.1,by simp only[aR,List.map_cons,List.length_cons,List.take_succ_cons] at*;exact .some (sQ.refl _) ih.2⟩
 |rwsS h t ih=>subst h;exact ⟨by simp;exact ih.1,by simp only[aR,List.map_cons,List.length_cons,List.take_succ_cons] at*;exact .some (by simp only[SB.den,fY,List.map_set,SC.den];exact sQ.refl _) ih.2⟩
 |rwsH h hi hx t ih=>subst h;subst hi;exact ⟨by simp;exact ih.1,by simp only[aR,List.map_cons,List.length_cons,List.take_succ_cons] at*;exact .some (by simp only[SB.den,fY,hx];exact sQ.refl _) ih.2⟩
 |nrws h0 h t ih=>subst h;exact ⟨by simp;exact ih.1,by simp only[aR,List.map_cons,List.length_cons,List.take_succ_cons] at*;exact .some (Fm h0 _) ih.2⟩
 |open_ h t ih=>exact ⟨by simp;exact ih.1,by simp only[aR,List.map_cons,List.length_cons,List.take_succ_cons] at*;exact .some (by rw[SB.den,h];exact sQ.refl _) ih.2⟩
def Lg (x y:SE):Prop:=F6 x.den y.den
theorem Lg.refl (x:SE):Lg x x:=F6.refl _
theorem Od {x y:aa} (h:aa.Le x y) (hne:y≠ .any):F6 (.c x) (.c y):=by
 cases h with
 |refl=>exact .refl _
 |any=>exact absurd rfl hne
 |iE=>exact .iE
 |gl q sz=>exact .gl q sz
 |g9 sz cs len=>exact .g9 sz cs len
 |jj sz cs len=>exact .jj sz cs len
def known:SC->Bool
 | .c .any=>false
 |_=>true
theorem Lg.c {x y:SC} (hk:known y=true) (h:aE x y):Lg (.v (.c x)) (.v (.c y)):=Od h (by
 cases y with
 |c y=>intro e;have:y= .any:=e;subst this;cases hk
 |_=>intro e;cases e)
def Ln (l:SL):SL->Prop
 |[]=>True
 |(d,x)::r=>(∃ e,lk l d=some e/\Lg e x)/\Ln l r
theorem Ln.den {l:SL}: ∀ {r:SL},Ln l r->x9 (SS l H) (Gy r)
 |[],_=>trivial
 |(d,x)::r,h=>⟨by obtain ⟨e,h1,h2⟩:=h.1;exact ⟨_,ka h1,h2⟩,Ln.den h.2⟩
def NU (n:Nat):SL->Bool
 |[]=>true
 |(_,.v x)::l=>match Lm n x with
  |true=>NU n l
  |false=>false
 |(_,.g _ x)::l=>match Lm n x with
  |true=>NU n l
  |false=>false
 |(_,.u)::l=>NU n l
theorem tB {n:Nat}: ∀ {l:SL},NU n l=true->((Gy l).all fun p=>p.2.ok n)=true
 |[],_=>rfl
 |(d,.v x)::l,h=>by
  unfold NU at h;split at h
  ·rename_i h1
   simp only[Gy,List.map_cons,List.all_cons,Bool.and_eq_true];exact ⟨oa h1,tB (l:=l) h⟩
  ·cases h
 |(d,.g b x)::l,h=>by
  unfold NU at h;split at h
  ·rename_i h1
   simp only[Gy,List.map_cons,List.all_cons,Bool.and_eq_true];refine ⟨?_,tB (l:=l) h⟩;cases b
   ·rfl
   ·exact oa h1
  ·cases h
 |(d,.u)::l,h=>by
  simp only[Gy,List.map_cons,List.all_cons,Bool.and_eq_true];exact ⟨rfl,tB (l:=l) h⟩
def vR:SH->Nat->Bool->SH
 |_,0,_=>[]
 |[],_,_=>[]
 |x::H,n+1,b=>x::vR H n b
theorem Ci: ∀ (H:SH) (n:Nat) (b:Bool),vR H n b=H.take n
 |_,0,_=>by simp[vR]
 |[],n+1,_=>by simp[vR]
 |x::H,n+1,b=>by simp[vR,Ci H n b]
theorem ak {n0:Nat} {l l':SL} {H H':SH} (h0:Nat.ble n0 H'.length=true) (hg:jN H'.length (vR H H'.length true)=true) (hl:NU H'.length l'=true) (hH:aN H H') (h:Ln l l'):di n0 (SS l H) (SS l' H'):=by
 obtain ⟨h1,h2⟩:=hH.den;refine Lb (bY l H) (by rw[aI];exact Nat.le_of_ble_eq_true h0) (by rw[aI,aI];exact h1) ?_ (by rw[aI];exact tB hl) (by rw[aI];exact h2) h.den;rw[aI,Ck,← Ci H H'.length true];exact da hg
end
section
variable {P:Program} {ops:Array Oper} {rest:List Oper} {d:Option Tmp} {ty:TypeId} {pos:String} {af:Array Edge} {R:Rg} {D:Array Oper->St->(St->Prop)->Prop} {n0:Nat} {H:SH} {l:SL} {K:bI->St->Prop} {s:St}
theorem aC {c:Call} (h:WR P ops (⟨d,.call c,ty,pos,af,none⟩::rest) s R):WR P ops (⟨d,.call c,ty,pos,af,none⟩::rest) s R:=h
theorem aZ {c:Call} {gd:Nat×Bool} (h:WR P ops (⟨d,.call c,ty,pos,af,some gd⟩::rest) s R):WR P ops (⟨d,.call c,ty,pos,af,some gd⟩::rest) s R:=h
theorem av {c:Operand} {a b:Code} (h:W P D n0 (.cond c a b) s K):W P D n0 (.cond c a b) s K:=h
theorem cH {b:Bool} (h:b=true):b=true:=h
theorem aL {α:Type} {z:Nat} {F:α->List ag} {V:α->List SC} (h:wL z F V):wL z F V:=h
theorem ab {p q:Prop} (h1:p) (h2:q):p/\q:=⟨h1,h2⟩
theorem db {a b:Nat} (h:a=b):a=b:=h
theorem ax {d:Nat} {e x:SE} {l r:SL} (h:lk l d=some e) (h1:Lg e x) (h2:Ln l r):Ln l ((d,x)::r):=⟨⟨e,h,h1⟩,h2⟩
end
theorem bq:(∀ (p:Prop) (i:Decidable p),(@decide p i=true)=p)/\(∀ (p:Prop) (i:Decidable p),(@decide p i=false)= ¬ p)/\(∀ a b:Bool,((a&&b)=true)=(a=true/\b=true))/\(∀ a b:Bool,((a||b)=true)=(a=true\/b=true))/\
  (∀ a b:Bool,((a&&b)=false)=(a=false\/b=false))/\(∀ a b:Bool,((a||b)=false)=(a=false/\b=false))/\(∀ a:Bool,((!a)=true)=(a=false))/\(∀ a:Bool,((!a)=false)=(a=true))/\(∀ p:Prop,(¬ ¬ p)=p)/\((true=true)=True)/\((false=true)=False)/\((true=false)=False)/\((false=false)=True)/\
  ((¬ True)=False)/\((¬ False)=True)/\(∀ p:Prop,(p/\True)=p)/\(∀ p:Prop,(True/\p)=p)/\(∀ p:Prop,(p/\False)=False)/\(∀ p:Prop,(False/\p)=False)/\(∀ p:Prop,(p\/True)=True)/\(∀ p:Prop,(True\/p)=True)/\(∀ p:Prop,(p\/False)=p)/\(∀ p:Prop,(False\/p)=p):=
 ⟨fun _ _=>by simp,fun _ _=>by simp,fun _ _=>by simp,fun _ _=>by simp,fun a b=>by cases a<;>cases b<;>simp,fun _ _=>by simp,fun _=>by simp,fun _=>by simp,fun _=>by simp,by simp,by simp,by simp,by simp,by simp,by simp,fun _=>by simp,fun _=>by simp,fun _=>by simp,fun _=>by simp,fun _=>by simp,fun _=>by simp,fun _=>by simp,fun _=>by simp⟩
def CI (t b:Bool) (q:Prop):Prop:=t=b->q
def R0 (ops:Array Oper) (a:List Cl):Prop:=oB ops a.reverse=true
theorem bh {ops:Array Oper} {a:List Cl} (h:oB ops a.reverse=true):R0 ops a:=h
section
variable {P:Program} {T:Tb} {E:El} {n0:Nat}
def Rg.K:Rg->St->Prop
 | .plain K=>K
 | .drawn _ K=>K
 | .seq _ _=>fun _=>True
def Tc (o:Oper):Bool:=
 match o.guard with
 |none=>true
 |some _=>false
theorem P4 {o:Oper} (h:Tc o=true):o.guard=none:=by
 unfold Tc at h;split at h
 ·assumption
 ·cases h
def vX (P:Program) (T:Tb) (E:El) (ops:Array Oper):List Oper->SL->SH->Rg->(SL->SH->Option Prop)->Option Prop
 |[],l,H,R,k=>match R with
  | .plain _=>k l H
  | .drawn a _=>match k l H with
   |some q=>some (R0 ops a/\q)
   |none=>none
  | .seq a K=>some (K a (SS l H))
 |o::os,l,H,R,k=>match step T E ops l H o with
  |some ⟨l',H',cl,p⟩=>match R with
   | .plain K=>match vX P T E ops os l' H' (.plain K) k with
    |some q=>some (p/\q)
    |none=>none
   | .drawn a K=>match vX P T E ops os l' H' (.drawn (cl::a) K) k with
    |some q=>some (p/\q)
    |none=>none
   | .seq a K=>match Tc o with
    |true=>match vX P T E ops os l' H' (.seq (cl::a) K) k with
     |some q=>some (p/\q)
     |none=>none
    |false=>none
  |none=>some (WR P ops (o::os) (SS l H) R)
theorem og (O:T.Ok P) (hE:E.Ok P) {ops:Array Oper} {q:Prop}: ∀ {rest:List Oper} {l:SL} {H:SH} {R:Rg} {k:SL->SH->Option Prop},vX P T E ops rest l H R k=some q->q->(∀ l H q,k l H=some q->q->R.K (SS l H))->WR P ops rest (SS l H) R
 |[],l,H,R,k,h,hq,hk=>by
  unfold vX at h;split at h
  ·exact fV (hk l H _ h hq)
  ·split at h
   ·rename_i q0 h0
    injection h with h;subst h;exact yq hq.1 (hk l H _ h0 hq.2)
   ·cases h
  ·injection h with h;subst h
   exact Lx hq
 |o::os,l,H,R,k,h,hq,hk=>by
  unfold vX at h;split at h
  ·rename_i l' H' cl p hs
   split at h
   ·split at h
    ·rename_i q0 h0
     injection h with h;subst h;exact mw O hE hs (.inr rfl) hq.1 (og O hE h0 hq.2 hk)
    ·cases h
   ·split at h
    ·rename_i q0 h0
     injection h with h;subst h;exact mw O hE hs (.inr rfl) hq.1 (og O hE h0 hq.2 hk)
    ·cases h
   ·split at h
    ·rename_i hg
     split at h
     ·rename_i q0 h0
      injection h with h;subst h;exact mw O hE hs (.inl (P4 hg)) hq.1 (og O hE h0 hq.2 fun _ _ _ _ _=>trivial)
     ·cases h
    ·cases h
  ·injection h with h;subst h
   exact hq
def Ti (k1:SL->SH->Option Prop) (kev:bI->SL->SH->Option Prop):bI->SL->SH->Option Prop
 | .normal,l,H=>k1 l H
 | .exit i,l,H=>kev (.exit i) l H
 | .ret,l,H=>kev .ret l H
def K9 (id:Nat) (kev:bI->SL->SH->Option Prop):bI->SL->SH->Option Prop
 | .normal,l,H=>kev .normal l H
 | .exit j,l,H=>match Nat.beq j id with
  |true=>kev .normal l H
  |false=>kev (.exit j) l H
 | .ret,l,H=>kev .ret l H
def Q8 (o:Oper):Bool:=
 match o.op with
 | .alloc .. =>true
 | .box .. =>true
 | .makeSlice .. =>true
 |_=>false
def NV:List Oper->Bool
 |[]=>false
 |o::l=>match Q8 o with
  |true=>true
  |false=>NV l
def K6:List Oper->Bool
 |[]=>false
 |o::l=>match Q8 o with
  |true=>NV l
  |false=>K6 l
def wC (P:Program) (T:Tb) (E:El) (n0:Nat):Code->SL->SH->(bI->St->Prop)->(bI->SL->SH->Option Prop)->Option Prop
 | .skip,l,H,K,kev=>kev .normal l H
 | .region _ ops false,l,H,K,kev=>vX P T E ops ops.toList l H (.plain (K .normal)) (kev .normal)
 | .region id ops true,l,H,K,kev=>match K6 ops.toList with
  |true=>some (W P (DR P) n0 (.region id ops true) (SS l H) K)
  |false=>vX P T E ops ops.toList l H (.drawn [] (K .normal)) (kev .normal)
 | .seq a b,l,H,K,kev=>wC P T E n0 a l H (wA P (DR P) n0 b K) (Ti (fun l H=>wC P T E n0 b l H K kev) kev)
 | .cond c a b,l,H,K,kev=>match m6 l c with
  |some (.c (.c (.f (.v (.bool t)))))=>match wC P T E n0 a l H K kev with
   |some qa=>match wC P T E n0 b l H K kev with
    |some qb=>some (CI t true qa/\CI t false qb)
    |none=>none
   |none=>none
  |_=>none
 | .block id c,l,H,K,kev=>wC P T E n0 c l H (lR id K) (K9 id kev)
 | .loop c,l,H,K,kev=>some (W P (DR P) n0 (.loop c) (SS l H) K)
 | .exit id,l,H,K,kev=>kev (.exit id) l H
 | .ret,l,H,K,kev=>kev .ret l H
 |_,_,_,_,_=>none
theorem x5 (O:T.Ok P) (hE:E.Ok P) {q:Prop}: ∀ (c:Code) {q:Prop} {l:SL} {H:SH} {K:bI->St->Prop} {kev:bI->SL->SH->Option Prop},wC P T E n0 c l H K kev=some q->q->(∀ e l H q,kev e l H=some q->q->K e (SS l H))->W P (DR P) n0 c (SS l H) K
 | .skip,q,l,H,K,kev,h,hq,hk=>On (hk _ _ _ _ h hq)
 | .region _ ⟨ops⟩ false,q,l,H,K,kev,h,hq,hk=>bC (bX (og O hE h hq (fun l H q h1 h2=>hk _ _ _ _ h1 h2)))
 | .region _ ⟨ops⟩ true,q,l,H,K,kev,h,hq,hk=>by
  unfold wC at h;split at h
  ·injection h with h;subst h
   exact hq
  ·exact CQ (tZ (og O hE h hq (fun l H q h1 h2=>hk _ _ _ _ h1 h2)))
 | .seq a b,q,l,H,K,kev,h,hq,hk=>ay (x5 O hE (q:=q) a h hq (fun e l H q h1 h2=>by
   cases e with
   |normal=>exact nG (x5 O hE (q:=q) b h1 h2 hk)
   |exit i=>exact rI (hk _ _ _ _ h1 h2)
   |ret=>exact Ks (hk _ _ _ _ h1 h2)))
 | .cond c a b,q,l,H,K,kev,h,hq,hk=>by
  unfold wC at h;split at h
  ·rename_i t ht
   split at h
   ·rename_i qa ha
    split at h
    ·rename_i qb hb
     injection h with h;subst h;exact aq ht (fun e=>x5 O hE (q:=qa) a ha (hq.1 e) hk) (fun e=>x5 O hE (q:=qb) b hb (hq.2 e) hk)
    ·cases h
   ·cases h
  ·cases h
 | .block id c,q,l,H,K,kev,h,hq,hk=>aD (x5 O hE (q:=q) c h hq (fun e l H q h1 h2=>by
   cases e with
   |normal=>exact AD (hk _ _ _ _ h1 h2)
   |exit j=>
    unfold K9 at h1;simp only at h1;split at h1
    ·rename_i hj
     exact kL (Nat.eq_of_beq_eq_true hj) (hk _ _ _ _ h1 h2)
    ·rename_i hj
     exact I1 (fun e=>by subst e;rw[Nat.beq_refl] at hj;cases hj) (hk _ _ _ _ h1 h2)
   |ret=>exact AE (hk _ _ _ _ h1 h2)))
 | .loop c,q,l,H,K,kev,h,hq,hk=>by
  unfold wC at h;injection h with h;subst h;exact hq
 | .exit id,q,l,H,K,kev,h,hq,hk=>ua (hk _ _ _ _ h hq)
 | .ret,q,l,H,K,kev,h,hq,hk=>QG (hk _ _ _ _ h hq)
 | .rangeFunc ..,q,l,H,K,kev,h,hq,hk=>by unfold wC at h;cases h
 | .scope ..,q,l,H,K,kev,h,hq,hk=>by unfold wC at h;cases h
 | .label ..,q,l,H,K,kev,h,hq,hk=>by unfold wC at h;cases h
 | .goto ..,q,l,H,K,kev,h,hq,hk=>by unfold wC at h;cases h
 | .refuse ..,q,l,H,K,kev,h,hq,hk=>by unfold wC at h;cases h
def leaf (K:bI->St->Prop) (e:bI) (l:SL) (H:SH):Option Prop:=some (K e (SS l H))
def JC (K:St->Prop) (l:SL) (H:SH):Option Prop:=some (K (SS l H))
def Fz:Code->Bool
 | .loop _=>false
 | .region _ ops true=>match K6 ops.toList with
  |true=>false
  |false=>true
 |_=>true
theorem RJ (O:T.Ok P) (hE:E.Ok P) {c:Code} {l:SL} {H:SH} {K:bI->St->Prop} {q:Prop} (hn:Fz c=true) (h:wC P T E n0 c l H K (leaf K)=some q) (hq:q):W P (DR P) n0 c (SS l H) K:=
 x5 O hE (q:=q) c h hq (fun e l H q h1 h2=>by injection h1 with h1;subst h1;exact h2)
def RW (ops:Array Oper) (T:Tb) (E:El) (l:SL) (H:SH):List Oper->Bool
 |[]=>true
 |o::_=>match step T E ops l H o with
  |some _=>true
  |none=>false
end
inductive aP:Prop->Prop->Prop where
 |sn {P:Program} {D:Array Oper->St->(St->Prop)->Prop} {n0:Nat} {b:Code} {K:bI->St->Prop} {s:St}:aP (wA P D n0 b K .normal s) (W P D n0 b s K)
 |sr {P:Program} {D:Array Oper->St->(St->Prop)->Prop} {n0:Nat} {b:Code} {K:bI->St->Prop} {s:St}:aP (wA P D n0 b K .ret s) (K .ret s)
 |se {P:Program} {D:Array Oper->St->(St->Prop)->Prop} {n0:Nat} {b:Code} {K:bI->St->Prop} {s:St} {i:Nat}:aP (wA P D n0 b K (.exit i) s) (K (.exit i) s)
 |bn {id:Nat} {K:bI->St->Prop} {s:St}:aP (lR id K .normal s) (K .normal s)
 |br {id:Nat} {K:bI->St->Prop} {s:St}:aP (lR id K .ret s) (K .ret s)
 |be {id:Nat} {K:bI->St->Prop} {s:St}:aP (lR id K (.exit id) s) (K .normal s)
 |le {n0:Nat} {α:Type} {st:α->St} {Inv:α->Prop} {μ:α->Nat} {x:α} {K:bI->St->Prop} {s:St} {i:Nat}:aP (wG n0 st Inv μ x K (.exit i) s) (K (.exit i) s)
 |lr {n0:Nat} {α:Type} {st:α->St} {Inv:α->Prop} {μ:α->Nat} {x:α} {K:bI->St->Prop} {s:St}:aP (wG n0 st Inv μ x K .ret s) (K .ret s)
 |xr {n0:Nat} {α β:Type} {st:α->St} {Inv:α->Prop} {μ:α->Nat} {x:α} {id:Nat} {stX:β->St} {InvX:β->Prop} {K:bI->St->Prop} {s:St}:aP (Nv n0 st Inv μ x id stX InvX K .ret s) (K .ret s)
 |pp {P:Program} {ops:Array Oper} {l:List Oper} {s:St} {c:Cl} {K:St->Prop}:aP (WR P ops l s ((Rg.plain K).push c)) (WR P ops l s (.plain K))
 |pd {P:Program} {ops:Array Oper} {l:List Oper} {s:St} {c:Cl} {a:List Cl} {K:St->Prop}:aP (WR P ops l s ((Rg.drawn a K).push c)) (WR P ops l s (.drawn (c::a) K))
 |ps {P:Program} {ops:Array Oper} {l:List Oper} {s:St} {c:Cl} {a:List Cl} {K:List Cl->St->Prop}:aP (WR P ops l s ((Rg.seq a K).push c)) (WR P ops l s (.seq (c::a) K))
 |kp {K:St->Prop} {s:St}:aP ((Rg.plain K).K s) (K s)
 |kd {a:List Cl} {K:St->Prop} {s:St}:aP ((Rg.drawn a K).K s) (K s)
theorem aP.o {A B:Prop} (h:aP A B) (b:B):A:=by
 cases h with
 |sn=>exact nG b
 |sr=>exact Ks b
 |se=>exact rI b
 |bn=>exact AD b
 |br=>exact AE b
 |be=>exact kL rfl b
 |le=>exact pw b
 |lr=>exact Lr b
 |xr=>exact Ls b
 |pp=>exact QD b
 |pd=>exact QC b
 |ps=>exact QE b
 |kp=>exact b
 |kd=>exact b
section
variable {P:Program} {D:Array Oper->St->(St->Prop)->Prop} {n0:Nat} {c:Code} {s:St} {K:bI->St->Prop} {t b:Bool} {q:Prop}
theorem Rn (h:W P D n0 c s K):W P D n0 c s K:=h
theorem bH (h:CI t b q):CI t b q:=h
end
def Th (P:Program) (T:Tb) (E:El) (ops:Array Oper) (rest:List Oper) (l:SL) (H:SH) (R:Rg):Option Prop:=
 match rest with
 |[]=>vX P T E ops [] l H R (JC R.K)
 |o::os=>match step T E ops l H o with
  |some _=>vX P T E ops (o::os) l H R (JC R.K)
  |none=>none
theorem P7 {P:Program} {T:Tb} {E:El} (O:T.Ok P) (hE:E.Ok P) {ops:Array Oper} {rest:List Oper} {l:SL} {H:SH} {R:Rg} {q:Prop} (h:Th P T E ops rest l H R=some q) (hq:q):WR P ops rest (SS l H) R:=by
 have h2:vX P T E ops rest l H R (JC R.K)=some q:=by
  unfold Th at h;split at h
  ·exact h
  ·split at h
   ·exact h
   ·cases h
 exact og O hE h2 hq (fun l H q h1 h2=>by injection h1 with h1;subst h1;exact h2)
def Tg (P:Program) (T:Tb) (E:El) (n0:Nat) (c:Code) (l:SL) (H:SH) (K:bI->St->Prop):Option Prop:=
 match Fz c with
 |true=>wC P T E n0 c l H K (leaf K)
 |false=>none
theorem P6 {P:Program} {T:Tb} {E:El} {n0:Nat} (O:T.Ok P) (hE:E.Ok P) {c:Code} {l:SL} {H:SH} {K:bI->St->Prop} {q:Prop} (h:Tg P T E n0 c l H K=some q) (hq:q):W P (DR P) n0 c (SS l H) K:=by
 unfold Tg at h;split at h
 ·rename_i hn;exact RJ O hE hn h hq
 ·cases h
def MW (T:Tb) (l:SL) (H:SH) (rs:List ResultVar) (e:bI):Option (List ST):=
 match e with
 | .exit _=>none
 |_=>wx T l H rs
theorem FF {T:Tb} {l:SL} {H:SH} {rs:List ResultVar} {e:bI} {ys:List ST} (h:MW T l H rs e=some ys):wx T l H rs=some ys/\(e= .normal\/e= .ret):=by
 cases e with
 |normal=>exact ⟨h,.inl rfl⟩
 |ret=>exact ⟨h,.inr rfl⟩
 |exit i=>cases h
def To (T:Tb) (l:SL) (H:SH) (rs:List ResultVar) (e:bI):Option SX:=
 match e with
 | .exit _=>none
 |_=>RU T l H rs
theorem Pb {T:Tb} {l:SL} {H:SH} {rs:List ResultVar} {e:bI} {x:SX} (h:To T l H rs e=some x):RU T l H rs=some x/\(e= .normal\/e= .ret):=by
 cases e with
 |normal=>exact ⟨h,.inl rfl⟩
 |ret=>exact ⟨h,.inr rfl⟩
 |exit i=>cases h
inductive Wk:Prop->Prop->Prop where
 |a0 {l:SL}:Wk (Ln l []) True
 |hn {H:SH}:Wk (aN H []) True
 |ho {x:Option SB} {H G:SH}:Wk (aN (x::H) (none::G)) (aN H G)
 |hc {cs ds:List SC} {H G:SH}:Wk (aN (some (.cells cs)::H) (some (.cells ds)::G)) (cg cs ds/\aN H G)
 |he {α:Type} {z:Nat} {F:α->List ag} {V:α->List SC} {M:List ag->Option α} {d:α} {l l':List α} {H G:SH}:Wk (aN (some (.bF z F V M d l)::H) (some (.bF z F V M d l')::G)) (l=l'/\aN H G)
 |heo {α:Type} {z m:Nat} {F:α->List ag} {V:α->List SC} {M:List ag->Option α} {d:α} {l l':List α} {H G:SH}:Wk (aN (some (.elo z F V M d l m)::H) (some (.elo z F V M d l' m)::G)) (l=l'/\aN H G)
 |hm {β:Type} {q:Bool} {F:β->List ag} {V:β->List SC} {M:List ag->Option β} {d:β} {es es':List (List Int×β)} {H G:SH}:Wk (aN (some (.mp q F V M d es)::H) (some (.mp q F V M d es')::G)) (es=es'/\aN H G)
 |hr {α:Type} {z:Nat} {F:α->List ag} {V:α->List SC} {M:List ag->Option α} {d:α} {l l':List (List α)} {H G:SH}:Wk (aN (some (.rws z F V M d l none)::H) (some (.rws z F V M d l' none)::G)) (l=l'/\aN H G)
 |hrs {α:Type} {z:Nat} {F:α->List ag} {V V2:α->List SC} {M M2:List ag->Option α} {d d2:α} {l l':List (List α)} {i:Int} {r:List α} {H G:SH}:Wk (aN (some (.rws z F V M d l (some (i,.ownr z F V2 M2 d2 r)))::H) (some (.rws z F V M d l' none)::G)) (l'=l.set i.toNat r/\aN H G)
 |sn:Wk (cg [] []) True
 |sc {x y:SC} {l m:List SC}:Wk (cg (x::l) (y::m)) (aE x y/\cg l m)
 |er {x:SE}:Wk (Lg x x) True
 |ec {x y:SC}:Wk (Lg (.v (.c x)) (.v (.c y))) (known y=true/\aE x y)
 |lr {x:SC}:Wk (aE x x) True
 |la {x:SC}:Wk (aE x (.c .any)) (aF x=true)
 |ln:Wk (aE (.c (.f .nils)) (.c (.f (.row [] 0)))) True
 |lns {α:Type} {z:Nat} {F:α->List ag} {V:α->List SC} {d:α}:Wk (aE (.c (.f .nils)) (.row z F V d [])) True
 |lnt {q:Bool} {z:Nat}:Wk (aE (.c (.f .nils)) (.c (.bg q z [] 0))) True
 |lno {α:Type} {z:Nat} {F:α->List ag} {V:α->List SC} {M:List ag->Option α} {d:α}:Wk (aE (.c (.f .nils)) (.ownr z F V M d [])) True
 |lo {α:Type} {z n:Nat} {cs:List ag} {F:α->List ag} {V:α->List SC} {M:List ag->Option α} {d:α} {l:List α}:Wk (aE (.c (.bg false z cs n)) (.ownr z F V M d l)) (cs=l.flatMap F/\n=l.length)
 |los {α:Type} {z:Nat} {F:α->List ag} {V:α->List SC} {M M':List ag->Option α} {d:α} {l l':List α}:Wk (aE (.ownr z F V M d l) (.ownr z F V M' d l')) (l=l')
 |lor {α:Type} {z n:Nat} {F:α->List ag} {V:α->List SC} {M:List ag->Option α} {d:α} {l:List α}:Wk (aE (.ownr z F V M d l) (.c (.f (.row [] n)))) (l.length=n)
 |lnts {α:Type} {z:Nat} {F:α->List ag} {V:α->List SC} {M:List ag->Option α} {d:α}:Wk (aE (.c (.f .nils)) (.tipr z F V M d [])) True
 |lt {α:Type} {z n:Nat} {cs:List ag} {F:α->List ag} {V:α->List SC} {M:List ag->Option α} {d:α} {l:List α}:Wk (aE (.c (.bg true z cs n)) (.tipr z F V M d l)) (cs=l.flatMap F/\n=l.length)
 |ltr {α:Type} {z z' n:Nat} {cs:List ag} {F:α->List ag} {V:α->List SC} {d:α} {l:List α}:Wk (aE (.c (.bg true z cs n)) (.row z' F V d l)) (cs=l.flatMap F/\n=l.length)
 |lrow {α:Type} {z n:Nat} {cs:List ag} {F:α->List ag} {V:α->List SC} {d:α} {l:List α}:Wk (aE (.c (.f (.row cs n))) (.row z F V d l)) (cs=l.flatMap F/\n=l.length)
 |ltro {α:Type} {z z':Nat} {F:α->List ag} {V V':α->List SC} {M:List ag->Option α} {d d':α} {l l':List α}:Wk (aE (.tipr z F V M d l) (.row z' F V' d' l')) (l=l')
 |lrows {α:Type} {z:Nat} {F:α->List ag} {V:α->List SC} {d:α} {l l':List α}:Wk (aE (.row z F V d l) (.row z F V d l')) (l=l')
 |ltips {α:Type} {z:Nat} {F:α->List ag} {V:α->List SC} {M M':List ag->Option α} {d:α} {l l':List α}:Wk (aE (.tipr z F V M d l) (.tipr z F V M' d l')) (l=l')
 |li {k:IntKind} {a b:Int}:Wk (aE (.c (.f (.v (.int k a)))) (.c (.f (.v (.int k b))))) (a=b)
 |lb {a b:Bool}:Wk (aE (.c (.f (.v (.bool a)))) (.c (.f (.v (.bool b))))) (a=b)
 |ls {a b:ByteArray}:Wk (aE (.c (.f (.v (.string a)))) (.c (.f (.v (.string b))))) (a=b)
 |larr {b off n n' m m':Nat}:Wk (aE (.c (.arr b off n m)) (.c (.arr b off n' m'))) (n=n'/\m=m')
 |tn {H:SH}:Wk (bu H []) True
 |tno {H G:SH}:Wk (bu (none::H) (none::G)) (bu H G)
 |tc {cs ds:List SC} {H G:SH}:Wk (bu (some (.cells cs)::H) (some (.cells ds)::G)) (qO cs ds/\bu H G)
 |te {α:Type} {z:Nat} {F:α->List ag} {V:α->List SC} {M:List ag->Option α} {d:α} {l l':List α} {H G:SH}:Wk (bu (some (.bF z F V M d l)::H) (some (.bF z F V M d l')::G)) (l=l'/\bu H G)
 |teo {α:Type} {z m:Nat} {F:α->List ag} {V:α->List SC} {M:List ag->Option α} {d:α} {l l':List α} {H G:SH}:Wk (bu (some (.elo z F V M d l m)::H) (some (.elo z F V M d l' m)::G)) (l=l'/\bu H G)
 |tm {β:Type} {q:Bool} {F:β->List ag} {V:β->List SC} {M:List ag->Option β} {d:β} {es es':List (List Int×β)} {H G:SH}:Wk (bu (some (.mp q F V M d es)::H) (some (.mp q F V M d es')::G)) (es=es'/\bu H G)
 |tr {α:Type} {z:Nat} {F:α->List ag} {V:α->List SC} {M:List ag->Option α} {d:α} {l l':List (List α)} {H G:SH}:Wk (bu (some (.rws z F V M d l none)::H) (some (.rws z F V M d l' none)::G)) (l=l'/\bu H G)
 |qn:Wk (qO [] []) True
 |qc {x y:SC} {l m:List SC}:Wk (qO (x::l) (y::m)) (il x y/\qO l m)
 |pn:Wk (qR [] []) True
 |pc {x y:SC} {l m:List ST}:Wk (qR (.c x::l) (.c y::m)) (il x y/\qR l m)
 |pa {x y:List SC} {l m:List ST}:Wk (qR (.agg x::l) (.agg y::m)) (qO x y/\qR l m)
 |cr {x:SC}:Wk (il x x) True
 |ci {k:IntKind} {a b:Int}:Wk (il (.c (.f (.v (.int k a)))) (.c (.f (.v (.int k b))))) (a=b)
 |cb {a b:Bool}:Wk (il (.c (.f (.v (.bool a)))) (.c (.f (.v (.bool b))))) (a=b)
 |cs {a b:ByteArray}:Wk (il (.c (.f (.v (.string a)))) (.c (.f (.v (.string b))))) (a=b)
 |crows {α:Type} {z:Nat} {F:α->List ag} {V:α->List SC} {d:α} {l l':List α}:Wk (il (.row z F V d l) (.row z F V d l')) (l=l')
 |crow {α:Type} {z n:Nat} {cs:List ag} {F:α->List ag} {V:α->List SC} {d:α} {l:List α}:Wk (il (.c (.f (.row cs n))) (.row z F V d l)) (cs=l.flatMap F/\n=l.length)
 |ctips {α:Type} {z:Nat} {F:α->List ag} {V:α->List SC} {M M':List ag->Option α} {d:α} {l l':List α}:Wk (il (.tipr z F V M d l) (.tipr z F V M' d l')) (l=l')
 |ctip {α:Type} {z n:Nat} {cs:List ag} {F:α->List ag} {V:α->List SC} {M:List ag->Option α} {d:α} {l:List α}:Wk (il (.c (.bg true z cs n)) (.tipr z F V M d l)) (cs=l.flatMap F/\n=l.length)
 |cown {α:Type} {z n:Nat} {cs:List ag} {F:α->List ag} {V:α->List SC} {M:List ag->Option α} {d:α} {l:List α}:Wk (il (.c (.bg false z cs n)) (.ownr z F V M d l)) (cs=l.flatMap F/\n=l.length)
 |cowns {α:Type} {z:Nat} {F:α->List ag} {V:α->List SC} {M M':List ag->Option α} {d:α} {l l':List α}:Wk (il (.ownr z F V M d l) (.ownr z F V M' d l')) (l=l')
 |craw {cs cs':List ag} {n n':Nat}:Wk (il (.c (.f (.row cs n))) (.c (.f (.row cs' n')))) (cs=cs'/\n=n')
 |carr {b off n n' m m':Nat}:Wk (il (.c (.arr b off n m)) (.c (.arr b off n' m'))) (n=n'/\m=m')
theorem Wk.o {A B:Prop} (h:Wk A B) (b:B):A:=by
 cases h with
 |a0=>trivial
 |hn=>exact .nil _
 |ho=>exact .none b
 |hc=>exact .cells b.1 b.2
 |he=>exact .bF b.1 b.2
 |heo=>exact .elo b.1 b.2
 |hm=>exact .mp b.1 b.2
 |hr=>exact .rws b.1 b.2
 |hrs=>exact .rwsS b.1 b.2
 |sn=>exact .nil
 |sc=>exact .cons b.1 b.2
 |er=>exact Lg.refl _
 |ec=>exact Lg.c b.1 b.2
 |lr=>exact aE.refl _
 |la=>exact aE.any _ b
 |ln=>exact aE.iE
 |lns=>exact aE.al
 |lnt=>exact aE.gl
 |lno=>exact aE.ao
 |lo=>exact aE.own b.1 b.2
 |los=>exact aE.Pz b
 |lor=>exact aE.jj b
 |lnts=>exact aE.ah
 |lt=>exact aE.bg b.1 b.2
 |ltr=>exact aE.g9 b.1 b.2
 |lrow=>exact aE.row b.1 b.2
 |ltro=>exact aE.KZ b
 |lrows=>exact aE.rows b
 |ltips=>exact aE.PY b
 |li=>exact aE.int b
 |lb=>exact aE.bool b
 |ls=>exact aE.str b
 |larr=>exact aE.arr b.1 b.2
 |tn=>exact .nil _
 |tno=>exact .none b
 |tc=>exact .cells b.1 b.2
 |te=>exact .bF b.1 b.2
 |teo=>exact .elo b.1 b.2
 |tm=>exact .mp b.1 b.2
 |tr=>exact .rws b.1 b.2
 |qn=>exact .nil
 |qc=>exact .cons b.1 b.2
 |pn=>exact .nil
 |pc=>exact .c b.1 b.2
 |pa=>exact .agg b.1 b.2
 |cr=>exact il.refl _
 |ci=>exact il.int b
 |cb=>exact il.bool b
 |cs=>exact il.str b
 |crows=>exact il.rows b
 |crow=>exact il.row b.1 b.2
 |ctips=>exact il.PY b
 |ctip=>exact il.bg b.1 b.2
 |cown=>exact il.own b.1 b.2
 |cowns=>exact il.Pz b
 |craw=>exact il.raw b.1 b.2
 |carr=>exact il.arr b.1 b.2
section
variable {P:Program} {ops:Array Oper} {s:St}
def J2 (ops:Array Oper) (l:List Nat):List Oper:=l.map fun i=>ops.toList.getD i default
def xC (os:List Oper):List Nat->Option (List Oper)
 |[]=>some []
 |i::l=>match ou os i with
  |some o=>match xC os l with
   |some r=>some (o::r)
   |none=>none
  |none=>none
theorem qm {os:List Oper}: ∀ {l:List Nat} {r:List Oper},xC os l=some r->r=J2 os.toArray l
 |[],r,h=>by injection h with h;subst h;rfl
 |i::l,r,h=>by
  unfold xC at h;split at h
  ·rename_i o ho
   split at h
   ·rename_i r' hr
    injection h with h;subst h;rw[qm hr];rw[gT] at ho;simp[J2,List.getD_eq_getElem?_getD,ho]
   ·cases h
  ·cases h
theorem nR {K:List Cl->St->Prop}: ∀ (l:List Nat) (s:St) (acc:List Cl),(∀ i∈l,i<ops.size)->Ev P ops (J2 ops l) s acc K-> ∃ (cl:List Cl) (s':St),cl.length=l.length/\K (cl.reverse++acc) s'/\CL P ops (l.zip cl) s s'
 |[],s,acc,_,h=>⟨[],s,rfl,h,rfl⟩
 |i::l,s,acc,hi,h=>by
  obtain ⟨c,s1,h1,h2⟩:=Is h;obtain ⟨cl,s',e1,e2,e3⟩:=nR l s1 (c::acc) (fun j hj=>hi j (List.mem_cons_of_mem _ hj)) h2;refine ⟨c::cl,s',by simp[e1],by simpa using e2,_,s1,?_,h1,e3⟩;have hlt:=hi i (List.mem_cons_self ..);show ops[i]? =some (ops.toList.getD i default)
  rw[List.getD_eq_getElem?_getD,Array.getElem?_toList,Array.getElem?_eq_getElem hlt];rfl
def vr (ops:Array Oper):List (Nat×Cl)->Bool
 |[]=>true
 |p::r=>r.all (rel ops p)&&vr ops r
theorem rA: ∀ {l:List (Nat×Cl)},vr ops l=true->l.Pairwise fun p q=>rel ops p q=true
 |[],_=> .nil
 |p::r,h=>by
  unfold vr at h;rw[Bool.and_eq_true] at h;exact .cons (List.all_eq_true.1 h.1) (rA h.2)
def P1 (ops:Array Oper) (pre:List Nat) (A B:Nat) (suf:List Nat) (cp c1 c2:List Cl):Bool:=
 match c1,c2 with
 |cA::cB::r1,cB'::cA'::r2=>vr ops (pre.zip cp++(B,cB)::suf.zip r1)&&vr ops (pre.zip cp++(A,cA')::suf.zip r2)&&(pre.zip cp).all (fun p=>rel ops p (A,cA))&&(pre.zip cp).all (fun p=>rel ops p (B,cB'))
 |_,_=>false
def KO (ops:Array Oper) (pre:List Nat) (A B:Nat) (suf:List Nat):Bool:=
 oQ ops&&(pre++A::B::suf).all (fun i=>decide (i<ops.size))&&(List.range ops.size).all (fun i=>(pre++A::B::suf).contains i)&&decide (pre++A::B::suf).Nodup&&suf.all (fun i=>Fx ops i A B)
def TB (b:Bool):Prop:=b=true
theorem Kc {b:Bool} (h:b=true):TB b:=h
def LB (n:Nat) (s:St):Prop:=n+1<s.H.length
def RK (K:St->Prop) (n:Nat) (s:St):Prop:=K (s.rn n)
theorem Ka {n:Nat} {s:St} (h:LB n s):LB n s:=h
theorem Kb {K:St->Prop} {n:Nat} {s:St} (h:RK K n s):RK K n s:=h
theorem iU {α β:Type _}: ∀ (l:List α) (m:List β),l.length=m.length->(l.zip m).map Prod.fst=l
 |[],_,_=>rfl
 |a::l,[],h=>by cases h
 |a::l,b::m,h=>by simp only[List.zip_cons_cons,List.map_cons,iU l m (by simpa using h)]
theorem Ao {n0:Nat} {id:Nat} {K:bI->St->Prop} (pre:List Nat) (A B:Nat) (suf:List Nat) (n:Nat) {l:SL} {H:SH} {os o1 o2 o3:List Oper} (hs:KO os.toArray pre A B suf=true) (hn:Nat.ble H.length n=true) (p1:xC os pre=some o1) (p2:xC os (A::B::suf)=some o2) (p3:xC os (B::A::suf)=some o3)
  (h:WR P os.toArray o1 (SS l H) (.seq [] fun cp sp=>WR P os.toArray o2 sp (.seq [] fun c1 sE=>K .normal sE/\WR P os.toArray o3 sp (.seq [] fun c2 sE2=>TB (P1 os.toArray pre A B suf cp.reverse c1.reverse c2.reverse)/\LB n sE2/\RK (K .normal) n sE2)))):W P (DR P) n0 (.region id os.toArray true) (SS l H) K:=by
 rw[qm p1,qm p2,qm p3] at h;refine .inr (.inl ?_);simp only[KO,Bool.and_eq_true,List.all_eq_true,decide_eq_true_eq] at hs;obtain ⟨⟨⟨⟨he,hm1⟩,hm2⟩,hnd⟩,hdep⟩:=hs;have i1: ∀ i∈pre,i<os.toArray.size:=fun i hi=>hm1 i (by simp[hi])
 have i2: ∀ i∈A::B::suf,i<os.toArray.size:=fun i hi=>hm1 i (by simp only[List.mem_append];exact .inr hi)
 have i3: ∀ i∈B::A::suf,i<os.toArray.size:=fun i hi=>i2 i (by simp only[List.mem_cons] at hi⊢;rcases hi with h|h|h<;>simp[h])
 obtain ⟨cp,sp,lp,kp,rp⟩:=nR pre _ [] i1 h.out;rw[List.append_nil] at kp;obtain ⟨c1,sE,l1,⟨kE,k1⟩,r1⟩:=nR (A::B::suf) _ [] i2 kp.out;obtain ⟨c2,sE2,l2,k2,r2⟩:=nR (B::A::suf) _ [] i3 k1.out;simp only[List.append_nil,List.reverse_reverse] at k2;obtain ⟨kt,kl,kr⟩:=k2;have kt:P1 os.toArray pre A B suf cp c1 c2=true:=kt
 match c1,c2,l1,l2,kt,r1,r2 with
 |cA::cB::q1,cB'::cA'::q2,l1,l2,kt,r1,r2=>
  simp only[P1,Bool.and_eq_true,List.all_eq_true] at kt;obtain ⟨⟨⟨t1,t2⟩,t3⟩,t4⟩:=kt;have lq1:suf.length=q1.length:=by simpa using l1.symm
  have lq2:suf.length=q2.length:=by simpa using l2.symm
  have eqm:(pre.zip cp++(A,cA)::(B,cB)::suf.zip q1).map Prod.fst=pre++A::B::suf:=by
   rw[List.map_append,List.map_cons,List.map_cons,iU _ _ lp.symm,iU _ _ lq1]
  refine ⟨pre.zip cp,(A,cA),(B,cB),(A,cA'),(B,cB'),suf.zip q1,suf.zip q2,sp,sE,sE2,n,⟨he,by rw[eqm];exact hnd,fun i=> ?_,rfl,rfl,by rw[iU _ _ lq1,iU _ _ lq2],rA t1,rA t2,t3,t4,fun q hq=> ?_⟩,rp,r1,r2,kE,kr,by rw[bY,aI];exact Nat.le_of_ble_eq_true hn,kl⟩
  ·rw[eqm]
   exact ⟨fun hi=>hm1 i hi,fun hi=>by have:=hm2 i (List.mem_range.2 hi);simpa using this⟩
  ·exact hdep q.1 (List.of_mem_zip hq).1
theorem Af {n:Nat} {l:SL} {H:SH} (h:Nat.blt (n+1) H.length=true):LB n (SS l H):=by
 show n+1<(SS l H).H.length;rw[bY,aI];exact Nat.le_of_ble_eq_true h
def Qj (n:Nat):List Nat:=List.range n++[n+1,n]
def Qi (n:Nat):SH:=List.replicate (n+2) none
theorem KW (n:Nat):sig (Qi n).length (Qj n)=tp n:=by
 funext b;unfold sig tp Qj Qi;rw[List.length_replicate,List.getD_eq_getElem?_getD];rcases Nat.lt_or_ge b n with h|h
 ·rw[List.getElem?_append_left (by simpa using h),List.getElem?_range h,if_neg (by omega),if_neg (by omega)]
  rfl
 ·rw[List.getElem?_append_right (by simpa using h),List.length_range]
  by_cases h1:b=n
  ·subst h1;simp
  ·by_cases h2:b=n+1
   ·subst h2
    rw[if_neg h1,if_pos rfl,Nat.add_sub_cancel_left];rfl
   ·rw[if_neg h1,if_neg h2,List.getElem?_eq_none (by simp;omega)]
    simp;omega
def zH (σ:List Nat):SL->Option SL
 |[]=>some []
 |(d,.v x)::l=>match BW σ x with
  |some y=>match zH σ l with
   |some r=>some ((d,.v y)::r)
   |none=>none
  |none=>none
 |(d,.g b x)::l=>match BW σ x with
  |some y=>match zH σ l with
   |some r=>some ((d,.g b y)::r)
   |none=>none
  |none=>none
 |(d,.u)::l=>match zH σ l with
  |some r=>some ((d,.u)::r)
  |none=>none
def Ru (n:Nat) (H:SH):Option SH:=
 match n,H with
 |0,a::b::H=>some (b::a::H)
 |n+1,x::H=>match Ru n H with
  |some r=>some (x::r)
  |none=>none
 |_,_=>none
theorem FD {n:Nat}: ∀ {l r:SL} {H H':SH},zH (jn (Qi n) (Qj n)) l=some r-> ∀ i,((SS l H).sl i).cW (tp n)=(SS r H').sl i
 |[],r,H,H',h,i=>by injection h with h;subst h;rfl
 |(d,e)::l,r,H,H',h,i=>by
  have go: ∀ {e':SE} {r':SL},e.den.cW (tp n)=e'.den->zH (jn (Qi n) (Qj n)) l=some r'->((SS ((d,e)::l) H).sl i).cW (tp n)=(SS ((d,e')::r') H').sl i:=fun {e' r'} h1 h2=>by
   have ih:=FD (H:=H) (H':=H') h2 i;by_cases hd:i=d
   ·subst hd
    rw[show (SS ((i,e)::l) H).sl i=e.den from aG _ _ _,show (SS ((i,e')::r') H').sl i=e'.den from aG _ _ _];exact h1
   ·rw[show (SS ((d,e)::l) H).sl i=(SS l H).sl i from aw _ _ hd,show (SS ((d,e')::r') H').sl i=(SS r' H').sl i from aw _ _ hd]
    exact ih
  cases e with
  |v x=>
   unfold zH at h;split at h
   ·rename_i y hy
    split at h
    ·rename_i r' hr
     injection h with h;subst h;refine go ?_ hr;have:=ly hy;rw[KW] at this;exact this
    ·cases h
   ·cases h
  |g b x=>
   unfold zH at h;split at h
   ·rename_i y hy
    split at h
    ·rename_i r' hr
     injection h with h;subst h;refine go ?_ hr;have:=ly hy;rw[KW] at this;cases b
     ·rfl
     ·exact this
    ·cases h
   ·cases h
  |u=>
   unfold zH at h;split at h
   ·rename_i r' hr
    injection h with h;subst h;exact go rfl hr
   ·cases h
theorem PU: ∀ {n:Nat} {H r:SH},Ru n H=some r->sL n (aR H)=aR r:=by
 intro n H r h;have key: ∀ (n:Nat) (H r:SH),Ru n H=some r->r.length=H.length/\ ∀ b,b<H.length->r[b]? =H[tp n b]? :=by
  intro n
  induction n with
  |zero=>
   intro H r h
   match H,h with
   |a::b::H,h=>
    injection h with h;subst h;refine ⟨rfl,fun i hi=> ?_⟩
    match i with
    |0=>rfl
    |1=>rfl
    |i+2=>
     have:tp 0 (i+2)=i+2:=by unfold tp;rw[if_neg (by omega),if_neg (by omega)]
     rw[this];rfl
  |succ n ih=>
   intro H r h
   match H,h with
   |x::H,h=>
    unfold Ru at h;split at h
    ·rename_i r' hr
     injection h with h;subst h;obtain ⟨k1,k2⟩:=ih H r' hr;refine ⟨by simp[k1],fun i hi=> ?_⟩
     match i with
     |0=>rfl
     |i+1=>
      have:tp (n+1) (i+1)=tp n i+1:=by unfold tp;(repeat' split)<;>omega
      rw[this,List.getElem?_cons_succ,List.getElem?_cons_succ];exact k2 i (by simpa using hi)
    ·cases h
 obtain ⟨k1,k2⟩:=key n H r h;apply List.ext_getElem?;intro b;unfold sL;rw[List.getElem?_map];rcases Nat.lt_or_ge b H.length with hb|hb
 ·rw[List.getElem?_range (by rw[aI];exact hb)]
  simp only[aR,Option.map_some,List.getElem?_map];rw[k2 b hb];cases hx:H[tp n b]? with
  |none=>
   exfalso;have:=k2 b hb;rw[hx,List.getElem?_eq_none_iff] at this
   omega
  |some y=>rfl
 ·rw[List.getElem?_eq_none (by rw[List.length_range,aI];exact hb),List.getElem?_eq_none (by rw[aI];omega)]
  rfl
def Tr (n:Nat) (l:SL) (H:SH):Option (SL×SH):=
 match zH (jn (Qi n) (Qj n)) l with
 |some l'=>match Ru n H with
  |some H1=>match fU (jn (Qi n) (Qj n)) H1 with
   |some H'=>some (l',H')
   |none=>none
  |none=>none
 |none=>none
theorem Ah {K:St->Prop} {n:Nat} {l l':SL} {H H':SH} (h:Tr n l H=some (l',H')) (k:K (SS l' H')):RK K n (SS l H):=by
 unfold Tr at h;split at h
 ·rename_i l1 h1
  split at h
  ·rename_i H1 h2
   split at h
   ·rename_i H2 h3
    injection h with h;injection h with e1 e2;subst e1;subst e2;have:(SS l H).rn n=SS l1 H2:=by
     have e:((SS l H).rn n).H=(SS l1 H2).H:=by
      show (sL n (SS l H).H).map (cV (tp n))=_;rw[bY,bY,PU h2];have:=dv h3;rw[KW] at this
      exact this
     have e2:((SS l H).rn n).sl=(SS l1 H2).sl:=funext fun i=>FD h1 i
     cases hx:(SS l H).rn n;cases hy:SS l1 H2;rw[hx,hy] at e e2;simp only at e e2;rw[e,e2]
    unfold RK;rw[this];exact k
   ·cases h
  ·cases h
 ·cases h
end
end Go.Proofs.YtjkeeocnekggfaaGreat.Av
namespace Go.Proofs.YtjkeeocnekggfaaGreat
def nn (c:Nat):Bool:=(decide (65<=c)&&decide (c<=90))||(decide (97<=c)&&decide (c<=122))
def yQ (c:Nat):Bool:=decide (48<=c)&&decide (c<=57)
def xv (c:Nat):Bool:=nn c||yQ c||c==95
def dr (s:ByteArray):Bool:=decide (1<=s.size)&&decide (s.size<=12)&&nn (s.data.toList.headD 0).toNat&&s.data.toList.all (fun c=>xv c.toNat)
theorem Mr {c:Nat} (h:nn c=true):xv c=true:=by unfold xv;rw[h];rfl
theorem A8 (s:ByteArray) (h:0<s.size):s.data.toList.headD 0=s[0]:=by
 obtain ⟨⟨l⟩⟩:=s;cases l with
 |nil=>simp[ByteArray.size] at h
 |cons a r=>rfl
theorem wT (s:ByteArray):s.data.toList.length=s.size:=rfl
theorem AF (s:ByteArray) (k:Nat) (h:k<s.size):s.data.toList[k]'h=s[k]:=rfl
theorem Br {s:ByteArray} (h0:0<s.size) (h1:s.size<=12) (h2:nn s[0].toNat=true) (h3:s.data.toList.all (fun c=>xv c.toNat)=true):dr s=true:=by
 unfold dr;rw[A8 s h0,h2,h3];simp;omega
theorem Bs {s:ByteArray} (k:Nat) (h:k<s.size) (h1:xv s[k].toNat=false):dr s=false:=by
 unfold dr;have:s.data.toList.all (fun c=>xv c.toNat)=false:=by
  rw[Bool.eq_false_iff];intro hall;have:=List.all_eq_true.1 hall s[k] (by rw[← AF s k h];exact List.getElem_mem _);rw[h1] at this;cases this
 rw[this];simp
theorem xt {s:ByteArray} (h0:0<s.size) (h2:nn s[0].toNat=false):dr s=false:=by
 unfold dr;rw[A8 s h0,h2];simp
theorem kf {s:ByteArray} (h:s.size<1\/12<s.size):dr s=false:=by
 unfold dr;rcases h with h|h
 ·rw[show decide (1<=s.size)=false from decide_eq_false (by omega)];simp
 ·rw[show decide (s.size<=12)=false from decide_eq_false (by omega)];simp
theorem uh (s:ByteArray) (k:Nat) (h:k<s.size) (p:UInt8->Bool):(s.data.toList.take (k+1)).all p=((s.data.toList.take k).all p&&p s[k]):=by
 rw[List.take_succ_eq_append_getElem (by exact h),List.all_append];simp[AF s k h]
def Ad (a b:ByteArray):Bool:=a.data==b.data
theorem pU (a b:ByteArray):Ad a b=true↔a=b:=by
 unfold Ad;rw[beq_iff_eq];exact ⟨fun h=>by cases a;cases b;cases h;rfl,fun h=>by rw[h]⟩
def lg (s:ByteArray) (l:List ByteArray):Bool:=l.any (Ad s)
theorem JN (s:ByteArray) (l:List ByteArray):lg s l=true↔s∈l:=by
 unfold lg;rw[List.any_eq_true];exact ⟨fun ⟨x,hx,h⟩=>by rw[(pU _ _).1 h];exact hx,fun h=>⟨s,h,(pU _ _).2 rfl⟩⟩
def bG (seen:List ByteArray) (s:ByteArray):Int:=if dr s=false then 3 else if lg s seen=true then 5 else 0
def aW (seen:List ByteArray):List ByteArray->Int
 |[]=>0
 |s::r=>if bG seen s=0 then aW (seen++[s]) r else bG seen s
structure eP where
 nm:ByteArray
 len:Int
 lim:Int
 grd:Int
 stn:Int
structure dF where
 a:Int
 ae:Int
 b:Int
 be:Int
 pt:Int
 ps:Int
structure bJ where
 sts:List ByteArray
 pts:List ByteArray
 secs:List eP
 lnks:List dF
def kD (nst:Nat) (s:eP):Bool:=decide (1<=s.len/\s.len<=400/\1000<=s.lim/\s.lim<=100000/\ -40<=s.grd/\s.grd<=40/\ -1<=s.stn/\s.stn<nst)
theorem mr {nst:Nat} {s:eP} (h:kD nst s=true):1<=s.len/\s.len<=400/\1000<=s.lim/\s.lim<=100000/\ -40<=s.grd/\s.grd<=40/\ -1<=s.stn/\s.stn<nst:=by simpa[kD] using h
def cx (nst:Nat) (seen:List ByteArray):List eP->Int
 |[]=>0
 |s::r=>if bG seen s.nm=0 then (if kD nst s=true then cx nst (seen++[s.nm]) r else 4) else bG seen s.nm
def eU (k:dF) (x:Int×Int):Bool:=decide ((k.a=x.1/\k.ae=x.2)\/(k.b=x.1/\k.be=x.2))
def gv (nsec npt:Nat) (k:dF):Bool:=decide (0<=k.a/\k.a<nsec/\0<=k.b/\k.b<nsec/\0<=k.ae/\k.ae<=1/\0<=k.be/\k.be<=1/\ -1<=k.pt/\k.pt<npt/\0<=k.ps/\k.ps<=1/\(k.pt≠ -1\/k.ps=0))
theorem gQ {nsec npt:Nat} {k:dF} (h:gv nsec npt k=true):0<=k.a/\k.a<nsec/\0<=k.b/\k.b<nsec/\0<=k.ae/\k.ae<=1/\0<=k.be/\k.be<=1/\ -1<=k.pt/\k.pt<npt/\0<=k.ps/\k.ps<=1/\(k.pt≠ -1\/k.ps=0):=by simpa[gv] using h
def qK (prev:List dF) (x:Int×Int):List dF:=prev.filter (fun k=>eU k x)
def pX (k:dF):List dF->Bool
 |[]=>true
 |[j]=>decide (k.pt≠ -1/\k.pt=j.pt/\k.ps≠j.ps)
 |_=>false
def cN (nsec npt:Nat) (prev:List dF) (k:dF):Int:=
 if gv nsec npt k=false then 4 else if (k.a,k.ae)=(k.b,k.be) then 1 else if prev.any (fun j=>eU j (k.a,k.ae)&&eU j (k.b,k.be)) then 5
 else if pX k (qK prev (k.a,k.ae))=false\/pX k (qK prev (k.b,k.be))=false then 11 else 0
def bm (nsec npt:Nat) (prev:List dF):List dF->Int
 |[]=>0
 |k::r=>if cN nsec npt prev k=0 then bm nsec npt (prev++[k]) r else cN nsec npt prev k
def ep (a b:Int):Int:=if a=0 then b else a
def bB (L:bJ):Int:=
 if 24<L.sts.length\/48<L.pts.length\/96<L.secs.length\/192<L.lnks.length then 7 else if L.secs.length=0 then 1
 else ep (aW [] L.sts) (ep (aW [] L.pts) (ep (cx L.sts.length [] L.secs) (bm L.secs.length L.pts.length [] L.lnks)))
end Go.Proofs.YtjkeeocnekggfaaGreat
namespace Go.Proofs.YtjkeeocnekggfaaGreat.Av
def fS (s:ByteArray):ag:= .v (.string s)
def fI (n:Int):ag:= .v (.int .i64 n)
def fB (b:Bool):ag:= .v (.bool b)
def sY (s:ByteArray):List ag:=[fS s]
def ez (n:Int):List ag:=[fI n]
def NK (b:Bool):List ag:=[fB b]
def uN (s:eP):List ag:=[fS s.nm,fI s.len,fI s.lim,fI s.grd,fI s.stn]
def wk (k:dF):List ag:=[fI k.a,fI k.ae,fI k.b,fI k.be,fI k.pt,fI k.ps]
abbrev xI (n:Int):SC:= .c (.f (.v (.int .i64 n)))
abbrev xS (s:ByteArray):SC:= .c (.f (.v (.string s)))
abbrev xB (b:Bool):SC:= .c (.f (.v (.bool b)))
def Ns (s:ByteArray):List SC:=[xS s]
def Cu (n:Int):List SC:=[xI n]
def N7 (b:Bool):List SC:=[xB b]
abbrev fN (l:List Int):SC:= .row 1 ez Cu 0 l
abbrev ed (l:List ByteArray):SC:= .row 1 sY Ns ⟨#[]⟩ l
def Nr (s:eP):List SC:=[xS s.nm,xI s.len,xI s.lim,xI s.grd,xI s.stn]
def tb (k:dF):List SC:=[xI k.a,xI k.ae,xI k.b,xI k.be,xI k.pt,xI k.ps]
def cD:eP:=⟨⟨#[]⟩,0,0,0,0⟩
def a9:dF:=⟨0,0,0,0,0,0⟩
abbrev mJ (l:List eP):SC:= .row 5 uN Nr cD l
abbrev kC (l:List dF):SC:= .row 6 wk tb a9 l
abbrev ph (l:List Int):SC:= .tipr 1 ez Cu (fun _=>none) 0 l
abbrev SU (l:List ByteArray):SC:= .tipr 1 sY Ns (fun _=>none) ⟨#[]⟩ l
abbrev SP (l:List eP):SC:= .tipr 5 uN Nr (fun _=>none) cD l
abbrev SM (l:List dF):SC:= .tipr 6 wk tb (fun _=>none) a9 l
abbrev pB (b:Nat):SC:= .c (.ptr b 0)
abbrev vI (n:Int):SV:= .c (xI n)
abbrev vS (s:ByteArray):SV:= .c (xS s)
abbrev vB (b:Bool):SV:= .c (xB b)
abbrev sI (d:Nat) (n:Int):Nat×SE:=(d,.v (.c (.c (.f (.v (.int .i64 n))))))
abbrev sS (d:Nat) (b:ByteArray):Nat×SE:=(d,.v (.c (.c (.f (.v (.string b))))))
abbrev sC (d:Nat) (x:SC):Nat×SE:=(d,.v (.c x))
def Rf:List ag->Option ByteArray
 |[.v (.string s)]=>some s
 |_=>none
def GZ:List ag->Option Int
 |[.v (.int .i64 n)]=>some n
 |_=>none
def NQ:List ag->Option Bool
 |[.v (.bool b)]=>some b
 |_=>none
def Re:List ag->Option eP
 |[.v (.string a),.v (.int .i64 b),.v (.int .i64 c),.v (.int .i64 d),.v (.int .i64 e)]=>some ⟨a,b,c,d,e⟩
 |_=>none
def Rc:List ag->Option dF
 |[.v (.int .i64 a),.v (.int .i64 b),.v (.int .i64 c),.v (.int .i64 d),.v (.int .i64 e),.v (.int .i64 f)]=>some ⟨a,b,c,d,e,f⟩
 |_=>none
abbrev Si:oJ:=⟨ByteArray,1,sY,Ns,Rf,⟨#[]⟩⟩
abbrev Df:oJ:=⟨Int,1,ez,Cu,GZ,0⟩
abbrev Jf:oJ:=⟨Bool,1,NK,N7,NQ,false⟩
abbrev Sf:oJ:=⟨eP,5,uN,Nr,Re,cD⟩
abbrev Sc:oJ:=⟨dF,6,wk,tb,Rc,a9⟩
structure bD where
 sec:Int
 dir:Int
structure rR where
 sec:Int
 dir:Int
 pt:Int
 ps:Int
structure CR where
 tx:ByteArray
 ln:Int
 co:Int
def zc (s:bD):List ag:=[fI s.sec,fI s.dir]
def P5 (s:bD):List SC:=[xI s.sec,xI s.dir]
def Sx:List ag->Option bD
 |[.v (.int .i64 a),.v (.int .i64 b)]=>some ⟨a,b⟩
 |_=>none
def uM (s:rR):List ag:=[fI s.sec,fI s.dir,fI s.pt,fI s.ps]
def Np (s:rR):List SC:=[xI s.sec,xI s.dir,xI s.pt,xI s.ps]
def Su:List ag->Option rR
 |[.v (.int .i64 a),.v (.int .i64 b),.v (.int .i64 c),.v (.int .i64 d)]=>some ⟨a,b,c,d⟩
 |_=>none
def xb (s:Int×Int):List ag:=[fI s.1,fI s.2]
def FY (s:Int×Int):List SC:=[xI s.1,xI s.2]
def NR:List ag->Option (Int×Int)
 |[.v (.int .i64 a),.v (.int .i64 b)]=>some ⟨a,b⟩
 |_=>none
def GD (s:CR):List ag:=[fS s.tx,fI s.ln,fI s.co]
def RI (s:CR):List SC:=[xS s.tx,xI s.ln,xI s.co]
def Sy:List ag->Option CR
 |[.v (.string a),.v (.int .i64 b),.v (.int .i64 c)]=>some ⟨a,b,c⟩
 |_=>none
abbrev mK (l:List bD):SC:= .row 2 zc P5 ⟨0,0⟩ l
abbrev PE (l:List rR):SC:= .row 4 uM Np ⟨0,0,0,0⟩ l
abbrev eI (l:List (Int×Int)):SC:= .row 2 xb FY (0,0) l
abbrev Ha (l:List CR):SC:= .row 3 GD RI ⟨⟨#[]⟩,0,0⟩ l
abbrev SQ (l:List bD):SC:= .tipr 2 zc P5 (fun _=>none) ⟨0,0⟩ l
abbrev Rv (l:List rR):SC:= .tipr 4 uM Np (fun _=>none) ⟨0,0,0,0⟩ l
abbrev FU (l:List (Int×Int)):SC:= .tipr 2 xb FY (fun _=>none) (0,0) l
abbrev Sh:oJ:=⟨bD,2,zc,P5,Sx,⟨0,0⟩⟩
abbrev Sb:oJ:=⟨rR,4,uM,Np,Su,⟨0,0,0,0⟩⟩
abbrev QU:oJ:=⟨Int×Int,2,xb,FY,NR,(0,0)⟩
abbrev Sj:oJ:=⟨CR,3,GD,RI,Sy,⟨⟨#[]⟩,0,0⟩⟩
def RT (w:List CR):List ag:=[.row (w.flatMap GD) w.length]
def Tf (w:List CR):List SC:=[Ha w]
abbrev Tq (l:List (List CR)):SC:= .row 1 RT Tf [] l
structure RO where
 sec:Int
 p:ag
 mn:Int
 nt:Int
def Sn (s:RO):List ag:=[fI s.sec,s.p,fI s.mn,fI s.nt]
def Te (s:RO):List SC:=[xI s.sec,.c (.f s.p),xI s.mn,xI s.nt]
def Sw:List ag->Option RO
 |[.v (.int .i64 a),p,.v (.int .i64 b),.v (.int .i64 c)]=>some ⟨a,p,b,c⟩
 |_=>none
abbrev Sg:oJ:=⟨RO,4,Sn,Te,Sw,⟨0,.nils,0,0⟩⟩
abbrev P3 (l:List ByteArray):SC:= .tipr 1 sY Ns Rf ⟨#[]⟩ l
abbrev Ta (l:List eP):SC:= .tipr 5 uN Nr Re cD l
abbrev S9 (l:List dF):SC:= .tipr 6 wk tb Rc a9 l
structure jV where
 st:List bD
 ov:Int
structure Iq where
 nm:ByteArray
 len:Int
 sp:Int
 ac:Int
 br:Int
def bK (L:bJ):SV:= .agg [ed L.sts,ed L.pts,mJ L.secs,kC L.lnks]
def Ss:bJ:=⟨[],[],[],[]⟩
end Go.Proofs.YtjkeeocnekggfaaGreat.Av
